/- The executor: operations, regions, code, calls. -/
import Derived.Test.YtpjikjhaljennaaSxQe
set_option linter.unusedVariables false
set_option linter.unusedSimpArgs false
namespace Go.Sx
open Classical

structure St where
  n : Nat
  env : List (Nat × SV)
  heap : List Ent

abbrev Trans := List SV → List Ent → (SV → List Ent → Prop) → Prop

/-- Positions that a value names lie below n. -/
def svlt (n : Nat) : SV → Bool
  | .ptr m _ _ => Nat.ble (m + 1) n
  | .slc m _ _ _ => Nat.ble (m + 1) n
  | .mp m => Nat.ble (m + 1) n
  | .val _ => true
  | .tt => true
  | .ff => true
  | .prop _ => true
  | .sl _ _ _ => true
  | _ => false

structure LoopAnn where
  X : Type
  /-- The shapes that the state may have at the loop's head, and what holds of x in each (against the x of the entry). -/
  shapes : List ((St → X → St) × (X → X → Prop))
  meas : X → Nat

def orSh {X : Type} : List ((St → X → St) × (X → X → Prop)) → ((St → X → St) → (X → X → Prop) → Prop) → Prop
  | [], _ => False
  | [(s, i)], f => f s i
  | (s, i) :: r, f => f s i ∨ orSh r f
def andSh {X : Type} : List ((St → X → St) × (X → X → Prop)) → ((St → X → St) → (X → X → Prop) → Prop) → Prop
  | [], _ => True
  | [(s, i)], f => f s i
  | (s, i) :: r, f => f s i ∧ andSh r f
theorem orSh_spec {X : Type} {f : (St → X → St) → (X → X → Prop) → Prop} : ∀ {l : List ((St → X → St) × (X → X → Prop))}, orSh l f → ∃ p ∈ l, f p.1 p.2
  | [], h => h.elim
  | [(s, i)], h => ⟨(s, i), by simp, h⟩
  | (s, i) :: q :: r, h => by
    rcases h with h | h
    · exact ⟨(s, i), by simp, h⟩
    · obtain ⟨p, h1, h2⟩ := orSh_spec h
      exact ⟨p, List.mem_cons_of_mem _ h1, h2⟩
theorem andSh_spec {X : Type} {f : (St → X → St) → (X → X → Prop) → Prop} : ∀ {l : List ((St → X → St) × (X → X → Prop))}, andSh l f → ∀ p ∈ l, f p.1 p.2
  | [], _ => by simp
  | [(s, i)], h => by intro p hp; cases List.mem_singleton.1 hp; exact h
  | (s, i) :: q :: r, h => by
    intro p hp
    rcases List.mem_cons.1 hp with rfl | hp
    · exact h.1
    · exact andSh_spec h.2 p hp

/-- These temporaries' values. -/
def keepE (env : List (Nat × SV)) : List Nat → List (Nat × SV)
  | [] => []
  | t :: r => (t, look env t) :: keepE env r

/-- The same state, seen otherwise: these positions are changed, these are new, these temporaries are seen so. -/
structure View where
  X : Type
  chg : X → List Ent → List (Nat × Ent)
  add : X → List Ent
  env : X → List (Nat × SV)
/-- What is foreseen of a temporary (its value, seen otherwise), or ahead of a region (key 1000000 + its number). -/
inductive Cast where
  | to (X : Type) (sv : X → SV)
  | view (l : List View)
structure FnAnn where
  casts : List (Nat × Cast)
  loops : List (Nat × LoopAnn)

def findC : List (Nat × Cast) → Nat → Option Cast
  | [], _ => none
  | (u, s) :: r, t => bif Nat.beq u t then some s else findC r t
def findLp : List (Nat × LoopAnn) → Nat → Option LoopAnn
  | [], _ => none
  | (u, s) :: r, t => bif Nat.beq u t then some s else findLp r t
def findA : List (Nat × FnAnn) → Nat → FnAnn
  | [], _ => ⟨[], []⟩
  | (u, s) :: r, t => bif Nat.beq u t then s else findA r t
def findT : List (Nat × Trans) → Nat → Option Trans
  | [], _ => none
  | (u, s) :: r, t => bif Nat.beq u t then some s else findT r t

noncomputable def castTo (h : List Ent) (s s' : SV) (A : Prop) : Prop := (∀ r, den (locs h ++ r) s' = den (locs h) s) ∧ A

noncomputable def putK (ca : List (Nat × Cast)) (dst : Option Nat) (s : SV) (σ : St) (K : St → Prop) : Prop :=
  match dst with
  | none => K σ
  | some d => bif Nat.ble (d + 1) σ.n then
      (match findC ca d with
       | some (.to X sv) => nt s fun s => ∃ x : X, castTo σ.heap s (sv x) (K ⟨σ.n, (d, sv x) :: σ.env, σ.heap⟩)
       | _ => K ⟨σ.n, (d, s) :: σ.env, σ.heap⟩) else False

/-- Where a run stands (the calls' places, the innermost first), and what is foreseen there of a condition. -/
abbrev Hints := List (List Nat × Nat × Bool)
def eqPath : List Nat → List Nat → Bool
  | [], [] => true
  | a :: r, b :: q => Nat.beq a b && eqPath r q
  | _, _ => false
def findH : Hints → List Nat → Nat → Option Bool
  | [], _, _ => none
  | (p, u, b) :: r, path, t => bif Nat.beq u t && eqPath p path then some b else findH r path t

/-- A condition that is open: decided as foreseen, or both ways. -/
def xboth (hint : Option Bool) (p : Prop) (yes no : Prop) : Prop :=
  match hint with
  | none => (p → yes) ∧ (¬ p → no)
  | some true => p ∧ yes
  | some false => ¬ p ∧ no

/-- A guard decides whether an operation is carried out; a guard that is open is decided both ways. -/
def xguard (hs : Hints) (path : List Nat) (g : Option (Option Nat × Bool)) (σ : St) (yes no : St → Prop) : Prop :=
  match g with
  | none => yes σ
  | some (none, _) => False
  | some (some t, want) =>
    match look σ.env t with
    | .tt => bif want then yes σ else no σ
    | .ff => bif want then no σ else yes σ
    | .prop p => xboth (findH hs path t) p (bif want then yes ⟨σ.n, (t, .tt) :: σ.env, σ.heap⟩ else no ⟨σ.n, (t, .tt) :: σ.env, σ.heap⟩) (bif want then no ⟨σ.n, (t, .ff) :: σ.env, σ.heap⟩ else yes ⟨σ.n, (t, .ff) :: σ.env, σ.heap⟩)
    | .val (.bool b) => xboth (findH hs path t) (b = true) (bif want then yes ⟨σ.n, (t, .tt) :: σ.env, σ.heap⟩ else no ⟨σ.n, (t, .tt) :: σ.env, σ.heap⟩) (bif want then no ⟨σ.n, (t, .ff) :: σ.env, σ.heap⟩ else yes ⟨σ.n, (t, .ff) :: σ.env, σ.heap⟩)
    | .val (.tuple _) => no σ
    | _ => False

def isQuiet (P : Program) : Op → Bool
  | .move _ | .assign _ | .pick _ _ _ | .load _ _ | .nilCheck _ | .binOp _ _ _ _ _ | .unOp _ _ _ | .slice _ _ _ _ _ | .fieldAddr _ _ _ | .field _ _ _ | .indexAddr _ _ _ | .lookup _ _ _ _ | .extract _ _
  | .index _ _ _ | .sliceToArrayPointer _ _ | .makeInterface _ _ | .makeFunc _ _ _ | .typeAssert _ _ _ _ | .build _ _ => true
  | .convert _ d _ => (match P.underlying d with | some (.slice _) => false | _ => true)
  | .call { callee := .builtin b, .. } => (match b with | .len => true | .cap => true | .min => true | .max => true | _ => false)
  | _ => false

/-- Operations that do not look at the heap at all. -/
def isInd : Op → Bool
  | .move _ | .assign _ | .nilCheck _ | .fieldAddr _ _ _ | .extract _ _ => true
  | _ => false

/-- The method of a dynamic type: its function, and whether it takes a pointer. -/
def findM (P : Program) (t : TypeId) (name : String) : Option (FuncId × Bool) :=
  match P.info? t with
  | none => none
  | some inf => match inf.methods.find? (fun m => m.name == name) with
    | some m => bif m.path.toList.isEmpty then m.func else none
    | none => none
/-- A method is called through an interface value whose dynamic type is known. -/
def xinv (P : Program) (h : List Ent) (t : TypeId) (v : SV) (name : String) (K : FuncId → SV → Prop) : Prop :=
  match findM P t name with
  | none => False
  | some (g, true) => (match P.underlying t with
    | some (.pointer _) => K g v
    | _ => False)
  | some (g, false) => (match P.underlying t with
    | some (.pointer e) => (match v with
      | .ptr n i j => xload P h n i j e fun s => K g s
      | _ => False)
    | some _ => K g v
    | none => False)

noncomputable def xl (P : Program) (call : FuncId → Trans) (h : List Ent) (e : Operand → SV) (op : Op) (K : SV → List Ent → Prop) : Prop :=
  match op with
  | .alloc t => xalloc P h t K
  | .box t x => xbox h t (e x) K
  | .buildSlice t len parts => xbuildSlice P h t len (mapP e parts.toList) K
  | .store t a v => xstore P h t (e a) (e v) K
  | .makeMap t r => xmakeMap P h t r.isNone K
  | .makeSlice t l c => xmakeSlice P h t (e l) (e c) K
  | .mapUpdate t m k v => xmapUpdate P h t (e m) (e k) (e v) K
  | .insert t m k v => xmapUpdate P h t (e m) (e k) (e v) K
  | .mapEntry t m k => xmapEntry P h t (e m) (e k) K
  | .entryStore _ m s v => xentryStore h (e m) (e s) (e v) K
  | .range t x => xrange P h t (e x) K
  | .next it isS => bif isS then False else xnext h (e it) K
  | .entry it => xentry h (e it) K
  | .convert s d x => (match P.underlying s with
    | some (.slice _) => xmark P h s d (e x) K
    | _ => xbytes P h s d (e x) K)
  | .call { callee := .builtin b, args := args, argTypes := ts } =>
    (match b, mapE e args.toList with
     | .append, [s, x] => (match ts.toList with
       | [t, tn] => (match P.underlying tn with
         | some (.int _) => xapp0 P h [t, tn] s x K
         | _ => xappend P h [t, tn] s x K)
       | l => xappend P h l s x K)
     | .copy, [d, s] => xcopy P h ts.toList d s K
     | .delete, [m, k] => (match ts.toList with | t :: _ => xdelete' P h t m k K | [] => False)
     | .clear, [x] => (match ts.toList with | t :: _ => xclear P h t x K | [] => False)
     | _, _ => False)
  | .call { callee := .value f, args := args, argTypes := ts } =>
    (match e f with
     | .fn g caps => bif noTop (mapE e args.toList) then (bif noBody P g then xoverlaps P h g ts.toList (mapE e args.toList ++ caps) K else call g (mapE e args.toList ++ caps) h K) else False
     | .bfn g first => bif noTop (mapE e args.toList) then (bif noBody P g then False else call g (first ++ mapE e args.toList) h K) else False
     | _ => False)
  | .call { callee := .invoke rc name, args := args, argTypes := ts } =>
    (match e rc with
     | .ifc t v => bif noTop (v :: mapE e args.toList) then xinv P h t v name fun g s => call g (s :: mapE e args.toList) h K else False
     | _ => False)
  | _ => False

def keyOf (o : Oper) : Nat := match o.dst with | some d => d + 1 | none => 0

def guardOf (ops : Array Oper) (o : Oper) : Option (Option Nat × Bool) :=
  match o.guard with
  | none => none
  | some (j, want) => some ((match ops.toList[j]? with | some x => x.dst | none => none), want)

section
variable (P : Program) (call : Nat → FuncId → Trans) (hs : Hints) (path : List Nat) (ca : List (Nat × Cast)) (ops : Array Oper)

/-- One operation. -/
noncomputable def xop (o : Oper) (σ : St) (K : St → Prop) : Prop :=
  xguard hs path (guardOf ops o) σ
    (fun σ => bif isQuiet P o.op then xq P σ.heap (ev σ.env) o.op fun s => putK ca o.dst s σ K
      else xl P (call (keyOf o)) σ.heap (ev σ.env) o.op fun s h' => putK ca o.dst s ⟨σ.n, σ.env, h'⟩ K)
    (fun σ => putK [] o.dst (.val (.tuple #[])) σ K)

/-- Operations in the order of the text. -/
noncomputable def xops : List Oper → St → (St → Prop) → Prop
  | [], σ, K => K σ
  | o :: r, σ, K => xop P call hs path ca ops o σ fun σ' => xops r σ' K

abbrev SPend := List (Nat × (List Ent → Prop))
def keepS (j : Nat) : SPend → SPend
  | [] => []
  | (i, rc) :: r => bif pre ops i j then keepS j r else (i, rc) :: keepS j r
def allS (h : List Ent) : SPend → Prop → Prop
  | [], A => A
  | (_, rc) :: r, A => rc h ∧ allS h r A

def firstQ : List Nat → Option Nat
  | [] => none
  | i :: r => match ops.toList[i]? with
    | some o => bif isQuiet P o.op then some i else firstQ r
    | none => firstQ r
def andL : List Nat → (Nat → Prop) → Prop
  | [], _ => True
  | [j], f => f j
  | j :: r, f => f j ∧ andL r f

/-- Operations in any order. -/
noncomputable def xany : Nat → SPend → Array Bool → St → (St → Prop) → Prop
  | 0, _, listed, σ, K => match Region.ready .any ops listed with
    | [] => K σ
    | _ => False
  | fuel + 1, pend, listed, σ, K => match Region.ready .any ops listed with
    | [] => K σ
    | rs => match firstQ P ops rs with
      | some i => (match ops.toList[i]? with
        | none => False
        | some o => bif Region.free .any ops listed i then
            xguard hs path (guardOf ops o) σ
              (fun σ => xq P σ.heap (ev σ.env) o.op fun s => putK ca o.dst s σ fun σ' =>
                xany fuel (bif isInd o.op then pend else (i, fun h' => xq P h' (ev σ.env) o.op fun s' => s' = s) :: pend) (listed.setIfInBounds i true) σ' K)
              (fun σ => putK [] o.dst (.val (.tuple #[])) σ fun σ' => xany fuel pend (listed.setIfInBounds i true) σ' K)
            else False)
      | none => andL rs fun j => (match ops.toList[j]? with
        | none => False
        | some o => xguard hs path (guardOf ops o) σ
              (fun σ => xl P (call (keyOf o)) σ.heap (ev σ.env) o.op fun s h' => allS h' (keepS ops j pend) (putK ca o.dst s ⟨σ.n, σ.env, h'⟩ fun σ' =>
                xany fuel (keepS ops j pend) (listed.setIfInBounds j true) σ' K))
              (fun σ => putK [] o.dst (.val (.tuple #[])) σ fun σ' => xany fuel (keepS ops j pend) (listed.setIfInBounds j true) σ' K))
end

end Go.Sx

/- Operations and regions: soundness. -/
set_option linter.unusedVariables false
set_option linter.unusedSimpArgs false
namespace Go.Sx
open Classical

/-- A call of `f` goes into its body. -/
def Enters (P : Program) (f : FuncId) : Prop := ∃ fn, P.funcs[f]? = some fn ∧ fn.body.isNone = false ∧ (fn.name == "runtime.NumGoroutine") = false

def CallAns (P : Program) (F : List (Nat × Blk)) (h : List Ent) (w : World) (K : SV → List Ent → Prop) (f : FuncId) (args : Array Value) : Prop :=
  Calls P f args w fun e w' => ∃ v s h', e = .returned v ∧ K s h' ∧ Ext h h' ∧ Ctx F h' w' ∧ Rest w w' ∧ s ≠ .top ∧ Std h' s v

def SoundT (P : Program) (f : FuncId) (T : Trans) : Prop :=
  ∀ (F : List (Nat × Blk)) (h : List Ent) (w : World) (args : List SV) (vs : List Value) (K : SV → List Ent → Prop),
    Ctx F h w → StdL h args vs → T args h K → Enters P f ∧ CallAns P F h w K f vs.toArray

section
variable {P : Program} {F : List (Nat × Blk)} {h : List Ent} {w : World} {K : SV → List Ent → Prop} {call : FuncId → Trans}

theorem run_callFunc {f : FuncId} {args : Array Value} (he : Enters P f) : (callFunc f args).run P w = .ok (.enter f args) w := by
  obtain ⟨fn, h1, h2, h3⟩ := he
  have h2' : fn.body ≠ none := by intro hn; rw [hn] at h2; cases h2
  have h3' : fn.name ≠ "runtime.NumGoroutine" := by intro hn; rw [hn] at h3; simp at h3
  simp [callFunc, h1, h2', h3']

theorem stdL_map {l : List SV} {vs : List Value} (hl : StdL h l vs) : ∀ r, l.map (den (locs h ++ r)) = vs := fun r => by rw [← denL_eq]; exact hl r
theorem stdL_append {l m : List SV} {vs us : List Value} (hl : StdL h l vs) (hm : StdL h m us) : StdL h (l ++ m) (vs ++ us) := fun r => by
  rw [denL_eq, List.map_append, stdL_map hl, stdL_map hm]

theorem noTop_cons {v : SV} {l : List SV} (h : noTop (v :: l) = true) : v ≠ .top ∧ noTop l = true := by
  cases v <;> first | exact ⟨by simp, h⟩ | exact absurd h (by simp [noTop])
theorem findM_spec {t : TypeId} {name : String} {g : FuncId} {b : Bool} (hf : findM P t name = some (g, b)) :
    ∃ inf m, P.info? t = some inf ∧ inf.methods.find? (fun m => m.name == name) = some m ∧ m.path.toList = [] ∧ m.func = some (g, b) := by
  unfold findM at hf
  split at hf
  · cases hf
  · rename_i inf hi
    split at hf
    · rename_i m hm
      cases hp : m.path.toList.isEmpty with
      | false => rw [hp] at hf; cases hf
      | true => rw [hp] at hf; exact ⟨inf, m, hi, hm, List.isEmpty_iff.1 hp, hf⟩
    · cases hf
theorem method_run {t : TypeId} {v : Value} {name : String} {g : FuncId} {b : Bool} {n : Nat} {r : Value} (hf : findM P t name = some (g, b))
    (hr : ∀ wr, (receiverAt t (.val v) b wr).run P w = .ok r w) : (method (n + 1) t v name).run P w = .ok (g, r) w := by
  obtain ⟨inf, m, h1, h2, h3, h4⟩ := findM_spec hf
  have ht : (typeInfo t).run P w = .ok inf w := by simp [typeInfo, h1]
  simp only [method, Sem.run_bind, ht, Result.andThen_ok, h2, h3, h4, follow, Sem.run_pure]
  rw [hr]
  rfl
theorem wrap_ptr (xt : TypeId) (a : Addr) (nm : String) : Builtin.ssaWrapNilChk_ #[xt] xt #[.pointer (some a), strVal "", strVal nm] = pure (.pointer (some a)) := rfl
theorem xinv_sound {t : TypeId} {v : SV} {u : Value} {name : String} {A : FuncId → SV → Prop} (c : Ctx F h w) (hv : Std h v u) (hnt : v ≠ .top) (hx : xinv P h t v name A) :
    ∃ g s r, A g s ∧ s ≠ .top ∧ Std h s r ∧ ∀ n, (method (n + 1) t u name).run P w = .ok (g, r) w := by
  unfold xinv at hx
  split at hx
  · exact hx.elim
  · rename_i g hf
    split at hx
    · rename_i e hu
      refine ⟨g, v, u, hx, hnt, hv, fun n => method_run hf fun wr => ?_⟩
      simp [receiverAt, run_underlying' hu, Place.get]
    · exact hx.elim
  · rename_i g hf
    split at hx
    · rename_i e hu
      split at hx
      · rename_i n i j
        obtain ⟨s, r, k1, k2, k3, k4⟩ := xload_sound c hx
        have hu0 := hv []
        simp only [den] at hu0
        refine ⟨g, s, r, k1, k2, k3, fun n => method_run hf fun wr => ?_⟩
        have k5 := k4 []
        rw [← hu0]
        cases wr with
        | none =>
          simp only [receiverAt, Sem.run_bind, run_underlying' hu, Result.andThen_ok, Place.get, Sem.run_pure, asAddr]
          exact k5
        | some nm =>
          simp only [receiverAt, Sem.run_bind, run_underlying' hu, Result.andThen_ok, Place.get, Sem.run_pure, wrap_ptr, asAddr]
          exact k5
      · exact hx.elim
    · rename_i d hu hd
      refine ⟨g, v, u, hx, hnt, hv, fun n => method_run hf fun wr => ?_⟩
      cases d <;> first | (simp [receiverAt, run_underlying' hd, Place.get]; done) | exact (hu _ rfl).elim
    · exact hx.elim

/-- The loud operations are sound. -/
theorem xl_sound (hcall : ∀ g, SoundT P g (call g)) (c : Ctx F h w) {e : Operand → SV} {rv : Operand → Value} (hrv : ∀ x, e x ≠ .top → Std h (e x) (rv x)) {o : Oper} (hx : xl P call h e o.op K) :
    Loud P F h w K (execOp rv o) ∨ ∃ f args, (execOp rv o).run P w = .ok (.enter f args) w ∧ CallAns P F h w K f args := by
  obtain ⟨dst, op, type, pos, after, guard⟩ := o
  simp only at hx
  unfold xl at hx
  split at hx
  · have q := xalloc_sound (P := P) c hx
    exact .inl q
  · have q := xbox_sound (P := P) c (hrv _) hx
    exact .inl q
  · rename_i t len parts
    have hp : PartsStd h (mapP e parts.toList) (parts.map fun (i, x) => (i, rv x)).toList := by
      have := partsStd_map hrv parts.toList
      simpa using this
    have q := xbuildSlice_sound (P := P) c hp hx
    exact .inl q
  · have q := xstore_sound (P := P) c (hrv _) (hrv _) hx
    exact .inl q
  · rename_i t r
    have hi : (r.map rv).isNone = r.isNone := by cases r <;> rfl
    have q := xmakeMap_sound (P := P) c (r := r.map rv) (by rw [hi]; exact hx)
    exact .inl q
  · have q := xmakeSlice_sound (P := P) c (hrv _) (hrv _) hx
    exact .inl q
  · have q := xmapUpdate_sound (P := P) c (hrv _) (hrv _) (hrv _) hx
    exact .inl q
  · have q := xmapUpdate_sound (P := P) c (hrv _) (hrv _) (hrv _) hx
    exact .inl q
  · have q := xmapEntry_sound (P := P) c (hrv _) (hrv _) hx
    exact .inl q
  · rename_i mt _ _ _
    have q := xentryStore_sound (P := P) (t := mt) c (hrv _) (hrv _) (hrv _) hx
    exact .inl q
  · have q := xrange_sound (P := P) c (hrv _) hx
    exact .inl q
  · rename_i it isS
    cases isS with
    | true => exact hx.elim
    | false =>
      have q := xnext_sound (P := P) (t := type) c (hrv _) hx
      exact .inl q
  · have q := xentry_sound (P := P) c (hrv _) hx
    exact .inl q
  · split at hx
    · have q := xmark_sound (P := P) c (hrv _) hx
      exact .inl q
    · have q := xbytes_sound (P := P) c (hrv _) hx
      exact .inl q
  · rename_i b args ts
    left
    have hargs := argsStd_map hrv args.toList
    have two : ∀ {s x : SV}, mapE e args.toList = [s, x] → (args.map rv)[0]? = some (rv (args.getD 0 default)) ∧ (args.map rv)[1]? = some (rv (args.getD 1 default)) ∧ (s ≠ .top → Std h s (rv (args.getD 0 default))) ∧ (x ≠ .top → Std h x (rv (args.getD 1 default))) := by
      intro s x hm
      rw [mapE_eq] at hm
      have hl : args.toList.length = 2 := by have := congrArg List.length hm; simpa using this
      match hq : args.toList, hl with
      | [p, q], _ =>
        rw [hq] at hm
        simp at hm
        have ea : args = #[p, q] := by rw [← Array.toArray_toList (xs := args), hq]
        subst ea
        obtain ⟨rfl, rfl⟩ := hm
        refine ⟨by simp, by simp, fun h0 => ?_, fun h0 => ?_⟩
        · simpa using hrv p h0
        · simpa using hrv q h0
    have oneA : ∀ {s : SV}, mapE e args.toList = [s] → (args.map rv)[0]? = some (rv (args.getD 0 default)) ∧ (s ≠ .top → Std h s (rv (args.getD 0 default))) := by
      intro s hm
      rw [mapE_eq] at hm
      have hl : args.toList.length = 1 := by have := congrArg List.length hm; simpa using this
      match hq : args.toList, hl with
      | [p], _ =>
        rw [hq] at hm
        simp at hm
        have ea : args = #[p] := by rw [← Array.toArray_toList (xs := args), hq]
        subst ea
        subst hm
        refine ⟨by simp, fun h0 => ?_⟩
        simpa using hrv p h0
    split at hx
    · rename_i s x h1
      obtain ⟨a1, a2, a3, a4⟩ := two h1
      split at hx
      · rename_i t tn hts
        split at hx
        · have hl : (args.map rv).toList = [rv (args.getD 0 default), rv (args.getD 1 default)] := by
            have hm := congrArg List.length h1
            rw [mapE_eq, List.length_map] at hm
            match hq : args.toList, hm with
            | [p, q], _ =>
              have ea : args = #[p, q] := by rw [← Array.toArray_toList (xs := args), hq]
              subst ea
              simp
          rw [← hts] at hx
          exact xapp0_sound (tt := type) c hl a3 a4 hx
        · rw [← hts] at hx
          exact xappend_sound (tt := type) c a1 a2 a3 a4 hx
      · exact xappend_sound (tt := type) c a1 a2 a3 a4 hx
    · rename_i d s h1
      obtain ⟨a1, a2, a3, a4⟩ := two h1
      exact xcopy_sound (tt := type) c a1 a2 a3 a4 hx
    · rename_i m k h1
      obtain ⟨a1, a2, a3, a4⟩ := two h1
      split at hx
      · rename_i t tr ht
        have ht0 : ts[0]? = some t := by rw [← Array.getElem?_toList, ht]; rfl
        exact xdelete'_sound (tt := type) c ht0 a1 a2 a3 a4 hx
      · exact hx.elim
    · rename_i x h1
      obtain ⟨a1, a3⟩ := oneA h1
      split at hx
      · rename_i t tr ht
        have ht0 : ts[0]? = some t := by rw [← Array.getElem?_toList, ht]; rfl
        exact xclear_sound (tt := type) c ht0 a1 a3 hx
      · exact hx.elim
    · exact hx.elim
  · rename_i f args ts
    split at hx
    · rename_i g caps hf
      have hfv := hrv f (by rw [hf]; simp)
      rw [hf] at hfv
      cases hn : noTop (mapE e args.toList) with
      | false => rw [hn] at hx; exact hx.elim
      | true =>
        rw [hn] at hx
        simp only [cond_true] at hx
        have hA := argsStd_all hrv hn
        have e1 : rv f = .func (.func g) #[] (denL (locs h) caps).toArray := by have := hfv []; rw [List.append_nil] at this; exact this.symm
        have hC : StdL h caps (denL (locs h) caps) := fun r => by
          have := hfv r
          rw [e1] at this
          simp only [den, Value.func.injEq] at this
          have := this.2.2
          exact congrArg Array.toList this
        cases hnb : noBody P g with
        | true =>
          rw [hnb] at hx
          left
          have hex : execOp rv ⟨dst, .call { callee := .value f, args := args, argTypes := ts }, type, pos, after, guard⟩ = (do let d ← resolve rv { callee := .value f, args := args, argTypes := ts } type; invoke d.target d.args) := rfl
          have hr : resolve rv { callee := .value f, args := args, argTypes := ts } type = pure { target := .fn (.func g) (denL (locs h) caps).toArray, args := #[] ++ args.map rv } := by
            simp only [resolve, e1, Deferred.ofValue]
          have hq := xoverlaps_sound (vs := (#[] ++ args.map rv) ++ (denL (locs h) caps).toArray) c (by simpa using stdL_append hA hC) hx
          rw [hex, hr]
          exact hq
        | false =>
        rw [hnb] at hx
        right
        obtain ⟨h1, h2⟩ := hcall g F h w _ _ K c (stdL_append hA hC) hx
        refine ⟨g, (args.toList.map rv ++ denL (locs h) caps).toArray, ?_, h2⟩
        have hr : resolve rv { callee := .value f, args := args, argTypes := ts } type = pure { target := .fn (.func g) (denL (locs h) caps).toArray, args := #[] ++ args.map rv } := by
          simp only [resolve, e1, Deferred.ofValue]
        have : (#[] ++ args.map rv) ++ (denL (locs h) caps).toArray = (args.toList.map rv ++ denL (locs h) caps).toArray := by
          apply Array.toList_inj.1
          simp
        have hex : execOp rv ⟨dst, .call { callee := .value f, args := args, argTypes := ts }, type, pos, after, guard⟩ = (do let d ← resolve rv { callee := .value f, args := args, argTypes := ts } type; invoke d.target d.args) := rfl
        rw [hex, hr]
        simp only [Sem.run_bind, Sem.run_pure, Result.andThen_ok, invoke, this]
        exact run_callFunc h1
    · rename_i g caps hf
      have hfv := hrv f (by rw [hf]; simp)
      rw [hf] at hfv
      cases hn : noTop (mapE e args.toList) with
      | false => rw [hn] at hx; exact hx.elim
      | true =>
        rw [hn] at hx
        simp only [cond_true] at hx
        have hA := argsStd_all hrv hn
        have e1 : rv f = .func (.func g) (denL (locs h) caps).toArray #[] := by have := hfv []; rw [List.append_nil] at this; exact this.symm
        have hC : StdL h caps (denL (locs h) caps) := fun r => by
          have := hfv r
          rw [e1] at this
          simp only [den, Value.func.injEq] at this
          have := this.2.1
          exact congrArg Array.toList this
        cases hnb : noBody P g with
        | true => rw [hnb] at hx; exact hx.elim
        | false =>
        rw [hnb] at hx
        right
        obtain ⟨h1, h2⟩ := hcall g F h w _ _ K c (stdL_append hC hA) hx
        refine ⟨g, (denL (locs h) caps ++ args.toList.map rv).toArray, ?_, h2⟩
        have hr : resolve rv { callee := .value f, args := args, argTypes := ts } type = pure { target := .fn (.func g) #[], args := (denL (locs h) caps).toArray ++ args.map rv } := by
          simp only [resolve, e1, Deferred.ofValue]
        have : ((denL (locs h) caps).toArray ++ args.map rv) ++ (#[] : Array Value) = (denL (locs h) caps ++ args.toList.map rv).toArray := by
          apply Array.toList_inj.1
          simp
        have hex : execOp rv ⟨dst, .call { callee := .value f, args := args, argTypes := ts }, type, pos, after, guard⟩ = (do let d ← resolve rv { callee := .value f, args := args, argTypes := ts } type; invoke d.target d.args) := rfl
        rw [hex, hr]
        simp only [Sem.run_bind, Sem.run_pure, Result.andThen_ok, invoke, this]
        exact run_callFunc h1
    · exact hx.elim
  · rename_i rc name args ts
    split at hx
    · rename_i t v hf
      have hfv := hrv rc (by rw [hf]; simp)
      rw [hf] at hfv
      cases hn : noTop (v :: mapE e args.toList) with
      | false => rw [hn] at hx; exact hx.elim
      | true =>
        rw [hn] at hx
        simp only [cond_true] at hx
        obtain ⟨hv1, hn2⟩ := noTop_cons hn
        have hA := argsStd_all hrv hn2
        obtain ⟨u, hu⟩ : ∃ u, rv rc = .iface t u := ⟨_, (hfv []).symm⟩
        have hvu : Std h v u := fun r => by
          have := hfv r
          rw [hu] at this
          simp only [den, Value.iface.injEq, true_and] at this
          exact this
        obtain ⟨g, s, r, k1, k2, k3, k4⟩ := xinv_sound c hvu hv1 hx
        right
        have hS : StdL h (s :: mapE e args.toList) (r :: args.toList.map rv) := fun q => by
          simp only [denL]
          rw [hA q, k3 q]
        obtain ⟨h1, h2⟩ := hcall g F h w _ _ K c hS k1
        refine ⟨g, (r :: args.toList.map rv).toArray, ?_, h2⟩
        have hex : execOp rv ⟨dst, .call { callee := .invoke rc name, args := args, argTypes := ts }, type, pos, after, guard⟩ = (do let d ← resolve rv { callee := .invoke rc name, args := args, argTypes := ts } type; invoke d.target d.args) := rfl
        have hr : resolve rv { callee := .invoke rc name, args := args, argTypes := ts } type = pure { target := .fn (.method name) #[], args := #[rv rc] ++ args.map rv } := rfl
        rw [hex, hr]
        have e1 : (#[rv rc] ++ args.map rv)[0]? = some (rv rc) := by rw [← Array.getElem?_toList, Array.toList_append]; rfl
        have e2 : (#[rv rc] ++ args.map rv).extract 1 (#[rv rc] ++ args.map rv).size = args.map rv := by
          apply Array.toList_inj.1
          simp
          exact List.take_of_length_le (by simp)
        have e3 : #[r] ++ args.map rv = (r :: args.toList.map rv).toArray := by
          apply Array.toList_inj.1
          simp
        have k5 := k4 (P.types.size + 99)
        rw [hu] at e1 e2 ⊢
        simp only [Sem.run_bind, Sem.run_pure, Result.andThen_ok, invoke, e1, e2, callMethod, run_program]
        rw [show P.types.size + Made.depth = P.types.size + 99 + 1 from rfl, k5]
        simp only [Result.andThen_ok, e3]
        exact run_callFunc h1
    · exact hx.elim
  · exact hx.elim
end

/-! States of an activation. -/
structure Mod (D : List Deferred) (F : List (Nat × Blk)) (h0 : List Ent) (w0 : World) (σ : St) (a : Act) (w : World) : Prop where
  size : a.tmps.size = σ.n
  defers : a.defers = D
  env : ∀ t, look σ.env t ≠ .top → Std σ.heap (look σ.env t) (a.tmps.getD t undef)
  ctx : Ctx F σ.heap w
  rest : Rest w0 w
  ext : Ext h0 σ.heap

theorem look_cons (u : Nat) (s : SV) (r : List (Nat × SV)) (t : Nat) : look ((u, s) :: r) t = if u = t then s else look r t := by
  show (bif Nat.beq u t then s else look r t) = _
  by_cases h : u = t
  · subst h; simp
  · rw [if_neg h]; cases hb : Nat.beq u t with
    | false => rfl
    | true => exact absurd (Nat.eq_of_beq_eq_true hb) h

section
variable {P : Program} {D : List Deferred} {F : List (Nat × Blk)} {h0 : List Ent} {w0 : World} {σ : St} {a : Act} {w : World} {call : Nat → FuncId → Trans} {hs : Hints} {path : List Nat} {ops : Array Oper} {ca : List (Nat × Cast)}

theorem Mod.ev (m : Mod D F h0 w0 σ a w) : ∀ x, ev σ.env x ≠ .top → Std σ.heap (Sx.ev σ.env x) (a.eval x) := by
  intro x hx
  cases x with
  | tmp t => exact m.env t hx
  | const v => intro r; exact den_svOf _ v
  | global g => intro r; rfl
  | func f => intro r; rfl

theorem Mod.grow (m : Mod D F h0 w0 σ a w) {h' : List Ent} {w' : World} (e : Ext σ.heap h') (c : Ctx F h' w') (r : Rest w w') : Mod D F h0 w0 ⟨σ.n, σ.env, h'⟩ a w' :=
  ⟨m.size, m.defers, fun t ht => (m.env t ht).ext e, c, m.rest.trans r, m.ext.trans e⟩

theorem Mod.drew (m : Mod D F h0 w0 σ a w) (d : Nat) : Mod D F h0 w0 σ a { w with drawn := d } := ⟨m.size, m.defers, m.env, m.ctx.drew d, ⟨m.rest.1, m.rest.2, m.rest.3, m.rest.4⟩, m.ext⟩

/-- What is known of a temporary may be said more exactly. -/
theorem Mod.know (m : Mod D F h0 w0 σ a w) {t : Nat} {s : SV} (hs : Std σ.heap s (a.tmps.getD t undef)) : Mod D F h0 w0 ⟨σ.n, (t, s) :: σ.env, σ.heap⟩ a w :=
  ⟨m.size, m.defers, fun u hu => by
    simp only [look_cons] at hu ⊢
    split
    · rename_i h; subst h; exact hs
    · rename_i h; rw [if_neg h] at hu; exact m.env u hu, m.ctx, m.rest, m.ext⟩

theorem getD_put {a : Act} {d t : Nat} {v : Value} (hd : d < a.tmps.size) : (a.tmps.setIfInBounds d v).getD t undef = if d = t then v else a.tmps.getD t undef := by
  rw [Array.getD_eq_getD_getElem?, Array.getElem?_setIfInBounds, Array.getD_eq_getD_getElem?]
  split
  · rename_i h; subst h; simp [hd]
  · rfl

theorem Mod.put (m : Mod D F h0 w0 σ a w) {d : Nat} {s : SV} {v : Value} (hd : d < σ.n) (hs : s ≠ .top → Std σ.heap s v) : Mod D F h0 w0 ⟨σ.n, (d, s) :: σ.env, σ.heap⟩ (a.put (some d) v) w :=
  ⟨by simp [Act.put, m.size], m.defers, fun u hu => by
    simp only [look_cons, Act.put] at hu ⊢
    rw [getD_put (by rw [m.size]; exact hd)]
    split
    · rename_i h; rw [if_pos h] at hu; exact hs hu
    · rename_i h; rw [if_neg h] at hu; exact m.env u hu, m.ctx, m.rest, m.ext⟩

theorem svlt_std {h : List Ent} {s s' : SV} {v : Value} (hl : svlt (lenE h) s' = true) (he : den (locs h) s' = den (locs h) s) (hs : Std h s v) : Std h s' v := by
  have hv : den (locs h) s' = v := by rw [he]; have := hs []; rwa [List.append_nil] at this
  intro r
  rw [← hv]
  have at_ : ∀ n, Nat.ble (n + 1) (lenE h) = true → locAt (locs h ++ r) n = locAt (locs h) n := fun n hn => by
    have := Nat.le_of_ble_eq_true hn
    rw [lenE_eq] at this
    rw [locAt_get, locAt_get, List.getElem?_append_left (by rw [locs_eq, List.length_map]; omega)]
  cases s' <;> simp only [svlt, Bool.false_eq_true] at hl <;> simp only [den]
  · rw [at_ _ hl]
  · rw [at_ _ hl]
  · rw [at_ _ hl]

theorem Mod.putK (m : Mod D F h0 w0 σ a w) {dst : Option Nat} {s : SV} {v : Value} {K : St → Prop} (hs : s ≠ .top → Std σ.heap s v) (hk : putK ca dst s σ K) :
    ∃ σ', K σ' ∧ Mod D F h0 w0 σ' (a.put dst v) w ∧ σ'.heap = σ.heap := by
  unfold Sx.putK at hk
  split at hk
  · exact ⟨σ, hk, m, rfl⟩
  · rename_i d
    obtain ⟨hd, hk⟩ := bif_false hk
    have hd := Nat.le_of_ble_eq_true hd
    split at hk
    · obtain ⟨hnt, x, he, hk⟩ := nt_spec hk
      refine ⟨_, hk, m.put hd fun _ r => ?_, rfl⟩
      rw [he r]
      have := hs hnt []
      rwa [List.append_nil] at this
    · exact ⟨_, hk, m.put hd hs, rfl⟩

theorem undef_not_bool (b : Bool) : undef ≠ .bool b := by intro h; cases h

theorem yielded_of {o : Oper} {j t : Nat} {b : Bool} (ho : ops[j]? = some o) (hd : o.dst = some t) (hv : a.tmps.getD t undef = .bool b) : yielded ops a.tmps j = some b := by
  have : a.tmps[t]? = some (.bool b) := by
    rw [Array.getD_eq_getD_getElem?] at hv
    cases hq : a.tmps[t]? with
    | none => rw [hq] at hv; exact absurd hv (undef_not_bool b)
    | some v => rw [hq] at hv; exact congrArg some hv
  unfold yielded
  simp only [ho, Option.bind_some, hd, this]

theorem xboth_spec {hint : Option Bool} {p yes no : Prop} (hx : xboth hint p yes no) : (p → yes) ∧ (¬ p → no) := by
  unfold xboth at hx
  split at hx
  · exact hx
  · exact ⟨fun _ => hx.2, fun h => absurd hx.1 h⟩
  · exact ⟨fun h => absurd h hx.1, fun _ => hx.2⟩

theorem yielded_none {o : Oper} {j t : Nat} (ho : ops[j]? = some o) (hd : o.dst = some t) (hv : ∀ b, a.tmps.getD t undef ≠ .bool b) : yielded ops a.tmps j = none := by
  unfold yielded
  simp only [ho, Option.bind_some, hd]
  split
  · rename_i b hb
    exact absurd (by rw [Array.getD_eq_getD_getElem?, hb]; rfl) (hv b)
  · rfl

theorem xguard_sound (m : Mod D F h0 w0 σ a w) {o : Oper} {yes no : St → Prop} (hx : xguard hs path (guardOf ops o) σ yes no) :
    (Region.wanted o (yielded ops a.tmps) = true ∧ ∃ σ', yes σ' ∧ Mod D F h0 w0 σ' a w ∧ σ'.heap = σ.heap) ∨ (Region.wanted o (yielded ops a.tmps) = false ∧ ∃ σ', no σ' ∧ Mod D F h0 w0 σ' a w ∧ σ'.heap = σ.heap) := by
  unfold guardOf at hx
  cases hg : o.guard with
  | none =>
    rw [hg] at hx
    exact .inl ⟨by simp [Region.wanted, hg], σ, hx, m, rfl⟩
  | some q =>
    obtain ⟨j, want⟩ := q
    rw [hg] at hx
    simp only [xguard] at hx
    cases hj : ops.toList[j]? with
    | none => rw [hj] at hx; exact hx.elim
    | some oj =>
      rw [hj] at hx
      simp only at hx
      cases hd : oj.dst with
      | none => rw [hd] at hx; exact hx.elim
      | some t =>
        rw [hd] at hx
        simp only at hx
        have hj' : ops[j]? = some oj := by rw [← Array.getElem?_toList]; exact hj
        have key : ∀ b, a.tmps.getD t undef = .bool b → Region.wanted o (yielded ops a.tmps) = (b == want) := fun b hb => by
          simp only [Region.wanted, hg, yielded_of hj' hd hb]
          cases b <;> cases want <;> rfl
        have fin : ∀ b (σ' : St), a.tmps.getD t undef = .bool b → Mod D F h0 w0 σ' a w → σ'.heap = σ.heap → (if b then (bif want then yes σ' else no σ') else (bif want then no σ' else yes σ')) →
            (Region.wanted o (yielded ops a.tmps) = true ∧ ∃ σ', yes σ' ∧ Mod D F h0 w0 σ' a w ∧ σ'.heap = σ.heap) ∨ (Region.wanted o (yielded ops a.tmps) = false ∧ ∃ σ', no σ' ∧ Mod D F h0 w0 σ' a w ∧ σ'.heap = σ.heap) := by
          intro b σ' hb hm hh hq
          rw [key b hb]
          cases b <;> cases want <;> simp at hq
          · exact .inl ⟨rfl, σ', hq, hm, hh⟩
          · exact .inr ⟨rfl, σ', hq, hm, hh⟩
          · exact .inr ⟨rfl, σ', hq, hm, hh⟩
          · exact .inl ⟨rfl, σ', hq, hm, hh⟩
        have hstd := m.env t
        split at hx
        · rename_i hl
          rw [hl] at hstd
          have hv : a.tmps.getD t undef = .bool true := ((hstd (by simp)) []).symm
          exact fin true σ hv m rfl (by simpa using hx)
        · rename_i hl
          rw [hl] at hstd
          have hv : a.tmps.getD t undef = .bool false := ((hstd (by simp)) []).symm
          exact fin false σ hv m rfl (by simpa using hx)
        · rename_i p hl
          rw [hl] at hstd
          have hv : a.tmps.getD t undef = .bool (decide p) := ((hstd (by simp)) []).symm
          have hx := xboth_spec hx
          by_cases hp : p
          · have hv' : a.tmps.getD t undef = .bool true := by rw [hv]; simp [hp]
            exact fin true _ hv' (m.know (t := t) (s := .tt) fun r => hv'.symm) rfl (by simpa using hx.1 hp)
          · have hv' : a.tmps.getD t undef = .bool false := by rw [hv]; simp [hp]
            exact fin false _ hv' (m.know (t := t) (s := .ff) fun r => hv'.symm) rfl (by simpa using hx.2 hp)
        · rename_i b hl
          rw [hl] at hstd
          have hv : a.tmps.getD t undef = .bool b := ((hstd (by simp)) []).symm
          have hx := xboth_spec hx
          cases b
          · exact fin false _ hv (m.know (t := t) (s := .ff) fun r => hv.symm) rfl (by simpa using hx.2 (by simp))
          · exact fin true _ hv (m.know (t := t) (s := .tt) fun r => hv.symm) rfl (by simpa using hx.1 rfl)
        · rename_i x hl
          rw [hl] at hstd
          have hv : a.tmps.getD t undef = .tuple x := ((hstd (by simp)) []).symm
          refine .inr ⟨?_, σ, hx, m, rfl⟩
          simp only [Region.wanted, hg, yielded_none hj' hd (fun b hb => by rw [hv] at hb; cases hb)]
          rfl
        · exact hx.elim

/-- One loud operation, as the machine takes it. -/
theorem loud_wp (hcall : ∀ k g, SoundT P g (call k g)) (m : Mod D F h0 w0 σ a w) {o : Oper} {K : SV → List Ent → Prop} {N : Act → World → Prop} {Q : Exit → Act → World → Prop}
    (hx : xl P (call (keyOf o)) σ.heap (ev σ.env) o.op K)
    (hn : ∀ s h' v w', K s h' → Ext σ.heap h' → Ctx F h' w' → Rest w w' → (s ≠ .top → Std h' s v) → N (a.put o.dst v) w') : o.wp P a w N Q := by
  unfold Oper.wp
  rcases xl_sound (hcall _) m.ctx m.ev hx with ⟨s, h', nx, v, w', h1, h2, h3, h4, h5, h6, h7⟩ | ⟨f, args, h1, h2⟩
  · rw [h6]
    have := hn s h' v w' h1 h2 h3 h4 h5
    rcases h7 with rfl | ⟨rfl, rfl⟩
    · exact this
    · exact this
  · rw [h1]
    refine Calls.mono h2 fun e w' he => ?_
    obtain ⟨v, s, h', rfl, e1, e2, e3, e4, e5, e6⟩ := he
    exact hn s h' v w' e1 e2 e3 e4 fun _ => e6

theorem xop_sound (hcall : ∀ k g, SoundT P g (call k g)) (m : Mod D F h0 w0 σ a w) {i : Nat} {o : Oper} (ho : ops[i]? = some o) {K : St → Prop} {N : Act → World → Prop} {Q : Exit → Act → World → Prop}
    (hx : xop P call hs path ca ops o σ K) (hn : ∀ σ' a' w', K σ' → Mod D F h0 w0 σ' a' w' → N a' w') : wpOp P ops Q i N a w := by
  unfold wpOp
  simp only [ho]
  rcases xguard_sound m hx with ⟨hw, σ', h1, h2, hh⟩ | ⟨hw, σ', h1, h2, hh⟩
  · simp only [hw, if_true]
    left
    cases hq : isQuiet P o.op with
    | true =>
      rw [hq] at h1
      obtain ⟨s, v, k1, k2, k3, k4⟩ := xq_sound h2.ctx h2.ev h1
      unfold Oper.wp
      rw [k4]
      obtain ⟨σ'', e1, e2, e3⟩ := h2.putK (fun _ => k3) k1
      exact hn _ _ _ e1 e2
    | false =>
      rw [hq] at h1
      refine loud_wp hcall h2 h1 fun s h' v w' k1 k2 k3 k4 k5 => ?_
      obtain ⟨σ'', e1, e2, e3⟩ := (h2.grow k2 k3 k4).putK k5 k1
      exact hn _ _ _ e1 e2
  · simp only [hw, Bool.false_eq_true, if_false]
    obtain ⟨σ'', e1, e2, e3⟩ := h2.putK (v := undef) (fun _ r => rfl) h1
    exact hn _ _ _ e1 e2

theorem xops_sound (hcall : ∀ k g, SoundT P g (call k g)) {Q : Exit → Act → World → Prop} {K : St → Prop} (hn : ∀ σ' a' w', K σ' → Mod D F h0 w0 σ' a' w' → Q .normal a' w') :
    ∀ (l : List Nat) (os : List Oper) (σ : St) (a : Act) (w : World), os.length = l.length → (∀ k, k < l.length → ops[l.getD k 0]? = os[k]?) → Mod D F h0 w0 σ a w → xops P call hs path ca ops os σ K → wpOps P ops Q l a w
  | [], [], σ, a, w, _, _, m, hx => hn _ _ _ hx m
  | [], _ :: _, _, _, _, hl, _, _, _ => by simp at hl
  | _ :: _, [], _, _, _, hl, _, _, _ => by simp at hl
  | i :: l, o :: os, σ, a, w, hl, hg, m, hx => by
    have ho : ops[i]? = some o := by have := hg 0 (by simp); simpa using this
    have := xop_sound (Q := Q) (N := wpOps P ops Q l) hcall m ho hx fun σ' a' w' k m' =>
      xops_sound hcall hn l os σ' a' w' (by simpa using hl) (fun k hk => by have := hg (k + 1) (by simpa using hk); simpa using this) m' k
    unfold wpOps
    unfold wpOp at this
    exact this

/-! Any order. -/
def PendOK (F : List (Nat × Blk)) (h : List Ent) (pend : Pend) (sp : SPend) : Prop :=
  ∀ p ∈ pend, (∀ h' w', Ext h h' → Ctx F h' w' → p.2 w') ∨ ∃ rc, (p.1, rc) ∈ sp ∧ ∀ h' w', Ext h h' → Ctx F h' w' → rc h' → p.2 w'

theorem keepS_mem {j : Nat} : ∀ {sp : SPend} {q}, q ∈ sp → pre ops q.1 j = false → q ∈ keepS ops j sp
  | [], _, hq, _ => by cases hq
  | (i, rc) :: r, q, hq, hp => by
    unfold keepS
    rcases List.mem_cons.1 hq with rfl | hq
    · simp only at hp; rw [hp]; simp
    · cases pre ops i j
      · exact List.mem_cons_of_mem _ (keepS_mem hq hp)
      · exact keepS_mem hq hp
theorem PendOK.keep {h : List Ent} {pend : Pend} {sp : SPend} (hp : PendOK F h pend sp) (j : Nat) : PendOK F h (keepP ops j pend) (keepS ops j sp) := fun p hm => by
  obtain ⟨h1, h2⟩ := List.mem_filter.1 hm
  rcases hp p h1 with h3 | ⟨rc, h3, h4⟩
  · exact .inl h3
  · exact .inr ⟨rc, keepS_mem h3 (by simpa using h2), h4⟩
theorem PendOK.ext {h h' : List Ent} {pend : Pend} {sp : SPend} (hp : PendOK F h pend sp) (e : Ext h h') : PendOK F h' pend sp := fun p hm => by
  rcases hp p hm with h3 | ⟨rc, h3, h4⟩
  · exact .inl fun h'' w'' e' => h3 h'' w'' (e.trans e')
  · exact .inr ⟨rc, h3, fun h'' w'' e' => h4 h'' w'' (e.trans e')⟩
theorem allS_spec {h : List Ent} {A : Prop} : ∀ {sp : SPend}, allS h sp A → A ∧ ∀ q ∈ sp, q.2 h
  | [], ha => ⟨ha, by simp⟩
  | (i, rc) :: r, ha => by
    obtain ⟨h1, h2⟩ := ha
    obtain ⟨h3, h4⟩ := allS_spec h2
    exact ⟨h3, fun q hq => by 
      rcases List.mem_cons.1 hq with rfl | hq
      · exact h1
      · exact h4 q hq⟩
theorem firstQ_mem : ∀ {l : List Nat} {i : Nat}, firstQ P ops l = some i → i ∈ l ∧ ∃ o, ops.toList[i]? = some o ∧ isQuiet P o.op = true
  | [], _, hf => by cases hf
  | x :: r, i, hf => by
    unfold firstQ at hf
    split at hf
    · rename_i o ho
      cases hq : isQuiet P o.op with
      | true =>
        rw [hq] at hf
        cases hf
        exact ⟨by simp, o, ho, hq⟩
      | false =>
        rw [hq] at hf
        obtain ⟨h1, h2⟩ := firstQ_mem (l := r) hf
        exact ⟨by simp [h1], h2⟩
    · obtain ⟨h1, h2⟩ := firstQ_mem (l := r) hf
      exact ⟨by simp [h1], h2⟩
theorem andL_spec {f : Nat → Prop} : ∀ {l : List Nat}, andL l f → ∀ j ∈ l, f j
  | [], _ => by simp
  | [x], ha => by intro j hj; cases List.mem_singleton.1 hj; exact ha
  | x :: y :: r, ha => by
    intro j hj
    rcases List.mem_cons.1 hj with rfl | hj
    · exact ha.1
    · exact andL_spec ha.2 j hj

def noSel : List Oper → Bool
  | [] => true
  | o :: r => match o.op with
    | .select _ _ => false
    | _ => noSel r
theorem noSel_spec : ∀ {l : List Oper}, noSel l = true → ∀ o ∈ l, ∀ cs b, o.op ≠ .select cs b
  | [], _ => by simp
  | x :: r, hn => by
    unfold noSel at hn
    split at hn
    · cases hn
    · rename_i hx
      intro o ho cs b
      rcases List.mem_cons.1 ho with rfl | ho
      · exact hx cs b
      · exact noSel_spec hn o ho cs b

theorem nth_intro : ∀ {l : List SV} {n : Nat} {s : SV} {K : SV → Prop}, l[n]? = some s → K s → nth l n K
  | [], _, _, _, h, _ => by simp at h
  | x :: _, 0, s, K, h, hk => by simp at h; subst h; exact hk
  | _ :: r, n + 1, s, K, h, hk => nth_intro (l := r) (n := n) (by simpa using h) hk
theorem nt_self {s : SV} (h : s ≠ .top) : nt s (· = s) := by cases s <;> first | exact absurd rfl h | rfl

theorem xq_ind {h : List Ent} {e : Operand → SV} {op : Op} {K : SV → Prop} (hx : xq P h e op K) :
    xq P h e op fun s => K s ∧ (isInd op = true → ∀ h', xq P h' e op fun s' => s' = s) := by
  cases hi : isInd op with
  | false => 
    have : (fun s => K s ∧ (false = true → ∀ h', xq P h' e op fun s' => s' = s)) = K := by
      funext s
      simp
    rw [this]
    exact hx
  | true =>
    cases op <;> simp only [isInd, Bool.false_eq_true] at hi
    · obtain ⟨h1, h2⟩ := nt_spec hx
      simp only [xq]
      cases hs : e _ <;> first | exact absurd hs h1 | exact ⟨by rw [← hs]; exact h2, fun _ h' => by simp only [nt]⟩
    · obtain ⟨h1, h2⟩ := nt_spec hx
      simp only [xq]
      cases hs : e _ <;> first | exact absurd hs h1 | exact ⟨by rw [← hs]; exact h2, fun _ h' => by simp only [nt]⟩
    · simp only [xq] at hx ⊢
      split at hx
      · rename_i he
        simp only [he]
        exact ⟨hx, fun _ _ => trivial⟩
      · rename_i he
        simp only [he]
        exact ⟨hx, fun _ _ => trivial⟩
      · rename_i he
        simp only [he]
        exact ⟨hx, fun _ _ => trivial⟩
      · rename_i he
        simp only [he]
        exact ⟨hx, fun _ _ => trivial⟩
      · exact hx.elim
    · simp only [xq, xfieldAddr] at hx ⊢
      split at hx
      · rename_i hu
        simp only [hu]
        split at hx
        · exact hx.elim
        · rename_i hf
          simp only [hf]
          split at hx
          · exact hx.elim
          · rename_i hi
            simp only [hi]
            cases hb : Nat.beq _ 0 with
            | true => rw [hb] at hx; exact hx.elim
            | false =>
              rw [hb] at hx
              simp only [cond_false] at hx ⊢
              split at hx
              · rename_i he
                simp only [he]
                exact ⟨hx, fun _ _ => trivial⟩
              · rename_i he
                simp only [he]
                exact ⟨hx, fun _ _ => trivial⟩
              · exact hx.elim
      · exact hx.elim
    · simp only [xq, xextract] at hx ⊢
      split at hx
      · rename_i l he
        obtain ⟨s, h1, h2⟩ := nth_get hx
        obtain ⟨h3, h4⟩ := nt_spec h2
        have key : ∀ K' : SV → Prop, K' s → nth l _ fun s => nt s K' := fun K' hk => nth_intro (K := fun s => nt s K') h1 (by cases s <;> first | exact absurd rfl h3 | exact hk)
        exact key _ ⟨h4, fun _ h' => by simp only [he]; exact key _ rfl⟩
      · exact hx.elim

theorem xany_sound (hcall : ∀ k g, SoundT P g (call k g)) (hsel : ∀ (j : Nat) (o : Oper) cs b, ops[j]? = some o → o.op ≠ .select cs b) {K : St → Prop} :
    ∀ (fuel : Nat) (sp : SPend) (pend : Pend) (listed : Array Bool) (σ : St) (a : Act) (w : World), Closed ops listed → PendOK F σ.heap pend sp → (∀ p ∈ pend, p.2 w) →
      Mod D F h0 w0 σ a w → xany P call hs path ca ops fuel sp listed σ K → wpAnyT P ops (fun a w => ∃ σ', K σ' ∧ Mod D F h0 w0 σ' a w) fuel pend listed a w := by
  intro fuel
  induction fuel with
  | zero =>
    intro sp pend listed σ a w hc hp hw m hx
    unfold xany at hx
    split at hx
    · rename_i hr
      exact ⟨hr, σ, hx, m⟩
    · exact hx.elim
  | succ fuel ih =>
    intro sp pend listed σ a w hc hp hw m hx
    unfold xany at hx
    split at hx
    · rename_i hr
      exact ⟨fun _ => ⟨σ, hx, m⟩, fun j hj => by rw [hr] at hj; cases hj⟩
    · rename_i hne
      split at hx
      · rename_i i hi
        obtain ⟨hmem, o, ho, hq⟩ := firstQ_mem hi
        have ho' : ops[i]? = some o := by rw [← Array.getElem?_toList]; exact ho
        rw [ho] at hx
        simp only at hx
        obtain ⟨hfree, hx⟩ := bif_false hx
        have hfree' := Region.free_spec (md := .any) ho' hfree
        rcases xguard_sound m hx with ⟨hwt, σ', h1, h2, hh⟩ | ⟨hwt, σ', h1, h2, hh⟩
        · obtain ⟨s, v, ⟨k1, hind⟩, k2, k3, k4⟩ := xq_sound h2.ctx h2.ev (xq_ind h1)
          obtain ⟨σ'', e1, e2, e3⟩ := h2.putK (fun _ => k3) k1
          have hT : ∀ h' w', Ext σ'.heap h' → Ctx F h' w' → xq P h' (ev σ'.env) o.op (fun s' => s' = s) → (execOp a.eval o).run P w' = .ok (.value v) w' := by
            intro h' w' e c' hq'
            obtain ⟨s', v', f1, f2, f3, f4⟩ := xq_sound c' (fun x hx => (h2.ev x hx).ext e) hq'
            have : v' = v := by
              subst f1
              rw [← f3 [], ← (k3.ext e) []]
            rw [this] at f4
            exact f4
          refine wpAnyT_first (T := fun w' => (execOp a.eval o).run P w' = .ok (.value v) w') ho' hsel fuel pend listed a w (fun j oj h3 h4 h5 h6 => hfree' j oj h3 h4 h5 h6) hc hmem (.inl ⟨hwt, fun _ h => h⟩) k4 hw ?_
          refine ih _ _ _ σ'' _ w (hc.step hmem) ?_ ?_ e2 e1
          · intro p hpm
            rcases List.mem_cons.1 hpm with rfl | hpm
            · cases hi : isInd o.op with
              | false => exact .inr ⟨_, by simp, fun h' w' e c' hr => hT h' w' (by rw [← e3]; exact e) c' hr⟩
              | true => exact .inl fun h' w' e c' => hT h' w' (by rw [← e3]; exact e) c' (hind hi h')
            · rcases hp p hpm with q | ⟨rc, q1, q2⟩
              · exact .inl fun h' w' e => q h' w' (by rw [← hh, ← e3]; exact e)
              · exact .inr ⟨rc, by cases isInd o.op <;> simp [q1], fun h' w' e => q2 h' w' (by rw [← hh, ← e3]; exact e)⟩
          · intro p hpm
            rcases List.mem_cons.1 hpm with rfl | hpm
            · exact k4
            · exact hw p hpm
        · obtain ⟨σ'', e1, e2, e3⟩ := h2.putK (v := undef) (fun _ r => rfl) h1
          refine wpAnyT_first (T := fun _ => True) ho' hsel fuel pend listed a w (fun j oj h3 h4 h5 h6 => hfree' j oj h3 h4 h5 h6) hc hmem (.inr ⟨hwt, rfl⟩) trivial hw ?_
          refine ih _ _ _ σ'' _ w (hc.step hmem) ?_ ?_ e2 e1
          · intro p hpm
            rcases List.mem_cons.1 hpm with rfl | hpm
            · exact .inl fun _ _ _ _ => trivial
            · rw [e3, hh]; exact hp p hpm
          · intro p hpm
            rcases List.mem_cons.1 hpm with rfl | hpm
            · exact trivial
            · exact hw p hpm
      · refine ⟨fun h => absurd h hne, fun j hj => ?_⟩
        have hx := andL_spec hx j hj
        cases ho : ops.toList[j]? with
        | none => rw [ho] at hx; exact hx.elim
        | some o =>
          rw [ho] at hx
          simp only at hx
          have ho' : ops[j]? = some o := by rw [← Array.getElem?_toList]; exact ho
          unfold wpOp
          simp only [ho']
          rcases xguard_sound m hx with ⟨hwt, σ', h1, h2, hh⟩ | ⟨hwt, σ', h1, h2, hh⟩
          · simp only [hwt, if_true]
            left
            refine loud_wp hcall h2 h1 fun s h' v w' k1 k2 k3 k4 k5 => ?_
            obtain ⟨k1, k6⟩ := allS_spec k1
            obtain ⟨σ'', e1, e2, e3⟩ := (h2.grow k2 k3 k4).putK k5 k1
            have hpk := (hp.keep (ops := ops) j).ext (hh ▸ k2)
            have hw' : ∀ p ∈ keepP ops j pend, p.2 w' := fun p hpm => by
              rcases hpk p hpm with q | ⟨rc, q1, q2⟩
              · exact q h' w' (Ext.refl h') k3
              · exact q2 h' w' (Ext.refl h') k3 (k6 _ q1)
            refine ⟨hw', ih _ _ _ σ'' _ w' (hc.step hj) ?_ hw' e2 e1⟩
            rw [e3]
            exact hpk
          · simp only [hwt, Bool.false_eq_true, if_false]
            obtain ⟨σ'', e1, e2, e3⟩ := h2.putK (v := undef) (fun _ r => rfl) h1
            have hw' : ∀ p ∈ keepP ops j pend, p.2 w := fun p hpm => hw p (List.mem_filter.1 hpm).1
            refine ⟨hw', ih _ _ _ σ'' _ w (hc.step hj) ?_ hw' e2 e1⟩
            rw [e3, hh]
            exact hp.keep j
end
end Go.Sx
