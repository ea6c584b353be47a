/- The executor: operations, regions, code, calls. -/
import Derived.Test.YthkcfocoekonjaaSxQd
set_option linter.unusedVariables false
set_option linter.unusedSimpArgs false
namespace Go.Sx
open Classical

structure St where
  n : Nat
  env : List (Nat × SV)
  heap : List Ent

abbrev Trans := List SV → List Ent → (SV → List Ent → Prop) → Prop

/-- Positions that a value names lie below n. -/
def svlt (n : Nat) : SV → Bool
  | .ptr m _ _ => Nat.ble (m + 1) n
  | .slc m _ _ _ => Nat.ble (m + 1) n
  | .mp m => Nat.ble (m + 1) n
  | .val _ => true
  | .tt => true
  | .ff => true
  | .prop _ => true
  | _ => false

structure LoopAnn where
  X : Type
  /-- The shapes that the state may have at the loop's head, and what holds of x in each (against the x of the entry). -/
  shapes : List ((St → X → St) × (X → X → Prop))
  meas : X → Nat

def orSh {X : Type} : List ((St → X → St) × (X → X → Prop)) → ((St → X → St) → (X → X → Prop) → Prop) → Prop
  | [], _ => False
  | [(s, i)], f => f s i
  | (s, i) :: r, f => f s i ∨ orSh r f
def andSh {X : Type} : List ((St → X → St) × (X → X → Prop)) → ((St → X → St) → (X → X → Prop) → Prop) → Prop
  | [], _ => True
  | [(s, i)], f => f s i
  | (s, i) :: r, f => f s i ∧ andSh r f
theorem orSh_spec {X : Type} {f : (St → X → St) → (X → X → Prop) → Prop} : ∀ {l : List ((St → X → St) × (X → X → Prop))}, orSh l f → ∃ p ∈ l, f p.1 p.2
  | [], h => h.elim
  | [(s, i)], h => ⟨(s, i), by simp, h⟩
  | (s, i) :: q :: r, h => by
    rcases h with h | h
    · exact ⟨(s, i), by simp, h⟩
    · obtain ⟨p, h1, h2⟩ := orSh_spec h
      exact ⟨p, List.mem_cons_of_mem _ h1, h2⟩
theorem andSh_spec {X : Type} {f : (St → X → St) → (X → X → Prop) → Prop} : ∀ {l : List ((St → X → St) × (X → X → Prop))}, andSh l f → ∀ p ∈ l, f p.1 p.2
  | [], _ => by simp
  | [(s, i)], h => by intro p hp; cases List.mem_singleton.1 hp; exact h
  | (s, i) :: q :: r, h => by
    intro p hp
    rcases List.mem_cons.1 hp with rfl | hp
    · exact h.1
    · exact andSh_spec h.2 p hp

/-- These temporaries' values. -/
def keepE (env : List (Nat × SV)) : List Nat → List (Nat × SV)
  | [] => []
  | t :: r => (t, look env t) :: keepE env r

/-- The same state, seen otherwise: these positions are changed, these are new, these temporaries are seen so. -/
structure View where
  X : Type
  chg : X → List Ent → List (Nat × Ent)
  add : X → List Ent
  env : X → List (Nat × SV)
/-- What is foreseen of a temporary (its value, seen otherwise), or ahead of a region (key 1000000 + its number). -/
inductive Cast where
  | to (X : Type) (sv : X → SV)
  | view (l : List View)
structure FnAnn where
  casts : List (Nat × Cast)
  loops : List (Nat × LoopAnn)

def findC : List (Nat × Cast) → Nat → Option Cast
  | [], _ => none
  | (u, s) :: r, t => bif Nat.beq u t then some s else findC r t
def findLp : List (Nat × LoopAnn) → Nat → Option LoopAnn
  | [], _ => none
  | (u, s) :: r, t => bif Nat.beq u t then some s else findLp r t
def findA : List (Nat × FnAnn) → Nat → FnAnn
  | [], _ => ⟨[], []⟩
  | (u, s) :: r, t => bif Nat.beq u t then s else findA r t
def findT : List (Nat × Trans) → Nat → Option Trans
  | [], _ => none
  | (u, s) :: r, t => bif Nat.beq u t then some s else findT r t

noncomputable def castTo (h : List Ent) (s s' : SV) (A : Prop) : Prop := (∀ r, den (locs h ++ r) s' = den (locs h) s) ∧ A

noncomputable def putK (ca : List (Nat × Cast)) (dst : Option Nat) (s : SV) (σ : St) (K : St → Prop) : Prop :=
  match dst with
  | none => K σ
  | some d => bif Nat.ble (d + 1) σ.n then
      (match findC ca d with
       | some (.to X sv) => nt s fun s => ∃ x : X, castTo σ.heap s (sv x) (K ⟨σ.n, (d, sv x) :: σ.env, σ.heap⟩)
       | _ => K ⟨σ.n, (d, s) :: σ.env, σ.heap⟩) else False

/-- Where a run stands (the calls' places, the innermost first), and what is foreseen there of a condition. -/
abbrev Hints := List (List Nat × Nat × Bool)
def eqPath : List Nat → List Nat → Bool
  | [], [] => true
  | a :: r, b :: q => Nat.beq a b && eqPath r q
  | _, _ => false
def findH : Hints → List Nat → Nat → Option Bool
  | [], _, _ => none
  | (p, u, b) :: r, path, t => bif Nat.beq u t && eqPath p path then some b else findH r path t

/-- A condition that is open: decided as foreseen, or both ways. -/
def xboth (hint : Option Bool) (p : Prop) (yes no : Prop) : Prop :=
  match hint with
  | none => (p → yes) ∧ (¬ p → no)
  | some true => p ∧ yes
  | some false => ¬ p ∧ no

/-- A guard decides whether an operation is carried out; a guard that is open is decided both ways. -/
def xguard (hs : Hints) (path : List Nat) (g : Option (Option Nat × Bool)) (σ : St) (yes no : St → Prop) : Prop :=
  match g with
  | none => yes σ
  | some (none, _) => False
  | some (some t, want) =>
    match look σ.env t with
    | .tt => bif want then yes σ else no σ
    | .ff => bif want then no σ else yes σ
    | .prop p => xboth (findH hs path t) p (bif want then yes ⟨σ.n, (t, .tt) :: σ.env, σ.heap⟩ else no ⟨σ.n, (t, .tt) :: σ.env, σ.heap⟩) (bif want then no ⟨σ.n, (t, .ff) :: σ.env, σ.heap⟩ else yes ⟨σ.n, (t, .ff) :: σ.env, σ.heap⟩)
    | .val (.bool b) => xboth (findH hs path t) (b = true) (bif want then yes ⟨σ.n, (t, .tt) :: σ.env, σ.heap⟩ else no ⟨σ.n, (t, .tt) :: σ.env, σ.heap⟩) (bif want then no ⟨σ.n, (t, .ff) :: σ.env, σ.heap⟩ else yes ⟨σ.n, (t, .ff) :: σ.env, σ.heap⟩)
    | .val (.tuple _) => no σ
    | _ => False

def isQuiet (P : Program) : Op → Bool
  | .move _ | .assign _ | .pick _ _ _ | .load _ _ | .nilCheck _ | .binOp _ _ _ _ _ | .unOp _ _ _ | .slice _ _ _ _ _ | .fieldAddr _ _ _ | .field _ _ _ | .indexAddr _ _ _ | .lookup _ _ _ _ | .extract _ _
  | .makeInterface _ _ | .makeFunc _ _ _ | .typeAssert _ _ _ _ | .build _ _ => true
  | .convert _ d _ => (match P.underlying d with | some (.slice _) => false | _ => true)
  | .call { callee := .builtin b, .. } => (match b with | .len => true | .cap => true | .min => true | .max => true | _ => false)
  | _ => false

/-- Operations that do not look at the heap at all. -/
def isInd : Op → Bool
  | .move _ | .assign _ | .nilCheck _ | .fieldAddr _ _ _ | .extract _ _ => true
  | _ => false

/-- The method of a dynamic type: its function, and whether it takes a pointer. -/
def findM (P : Program) (t : TypeId) (name : String) : Option (FuncId × Bool) :=
  match P.info? t with
  | none => none
  | some inf => match inf.methods.find? (fun m => m.name == name) with
    | some m => bif m.path.toList.isEmpty then m.func else none
    | none => none
/-- A method is called through an interface value whose dynamic type is known. -/
def xinv (P : Program) (h : List Ent) (t : TypeId) (v : SV) (name : String) (K : FuncId → SV → Prop) : Prop :=
  match findM P t name with
  | none => False
  | some (g, true) => (match P.underlying t with
    | some (.pointer _) => K g v
    | _ => False)
  | some (g, false) => (match P.underlying t with
    | some (.pointer e) => (match v with
      | .ptr n i j => xload P h n i j e fun s => K g s
      | _ => False)
    | some _ => K g v
    | none => False)

noncomputable def xl (P : Program) (call : FuncId → Trans) (h : List Ent) (e : Operand → SV) (op : Op) (K : SV → List Ent → Prop) : Prop :=
  match op with
  | .alloc t => xalloc P h t K
  | .box t x => xbox h t (e x) K
  | .buildSlice t len parts => xbuildSlice P h t len (mapP e parts.toList) K
  | .store t a v => xstore P h t (e a) (e v) K
  | .makeMap t r => xmakeMap P h t r.isNone K
  | .makeSlice t l c => xmakeSlice P h t (e l) (e c) K
  | .mapUpdate t m k v => xmapUpdate P h t (e m) (e k) (e v) K
  | .insert t m k v => xmapUpdate P h t (e m) (e k) (e v) K
  | .mapEntry t m k => xmapEntry P h t (e m) (e k) K
  | .entryStore _ m s v => xentryStore h (e m) (e s) (e v) K
  | .convert s d x => (match P.underlying s with
    | some (.slice _) => xmark P h s d (e x) K
    | _ => xbytes P h s d (e x) K)
  | .call { callee := .builtin b, args := args, argTypes := ts } =>
    (match b, mapE e args.toList with
     | .append, [s, x] => (match ts.toList with
       | [t, tn] => (match P.underlying tn with
         | some (.int _) => xapp0 P h [t, tn] s x K
         | _ => xappend P h [t, tn] s x K)
       | l => xappend P h l s x K)
     | .copy, [d, s] => xcopy P h ts.toList d s K
     | .delete, [m, k] => (match ts.toList with | t :: _ => xdelete P h t m k K | [] => False)
     | .clear, [x] => (match ts.toList with | t :: _ => xclear P h t x K | [] => False)
     | _, _ => False)
  | .call { callee := .value f, args := args, argTypes := ts } =>
    (match e f with
     | .fn g caps => bif noTop (mapE e args.toList) then (bif noBody P g then xoverlaps P h g ts.toList (mapE e args.toList ++ caps) K else call g (mapE e args.toList ++ caps) h K) else False
     | _ => False)
  | .call { callee := .invoke rc name, args := args, argTypes := ts } =>
    (match e rc with
     | .ifc t v => bif noTop (v :: mapE e args.toList) then xinv P h t v name fun g s => call g (s :: mapE e args.toList) h K else False
     | _ => False)
  | _ => False

def keyOf (o : Oper) : Nat := match o.dst with | some d => d + 1 | none => 0

def guardOf (ops : Array Oper) (o : Oper) : Option (Option Nat × Bool) :=
  match o.guard with
  | none => none
  | some (j, want) => some ((match ops.toList[j]? with | some x => x.dst | none => none), want)

section
variable (P : Program) (call : Nat → FuncId → Trans) (hs : Hints) (path : List Nat) (ca : List (Nat × Cast)) (ops : Array Oper)

/-- One operation. -/
noncomputable def xop (o : Oper) (σ : St) (K : St → Prop) : Prop :=
  xguard hs path (guardOf ops o) σ
    (fun σ => bif isQuiet P o.op then xq P σ.heap (ev σ.env) o.op fun s => putK ca o.dst s σ K
      else xl P (call (keyOf o)) σ.heap (ev σ.env) o.op fun s h' => putK ca o.dst s ⟨σ.n, σ.env, h'⟩ K)
    (fun σ => putK [] o.dst (.val (.tuple #[])) σ K)

/-- Operations in the order of the text. -/
noncomputable def xops : List Oper → St → (St → Prop) → Prop
  | [], σ, K => K σ
  | o :: r, σ, K => xop P call hs path ca ops o σ fun σ' => xops r σ' K

abbrev SPend := List (Nat × (List Ent → Prop))
def keepS (j : Nat) : SPend → SPend
  | [] => []
  | (i, rc) :: r => bif pre ops i j then keepS j r else (i, rc) :: keepS j r
def allS (h : List Ent) : SPend → Prop → Prop
  | [], A => A
  | (_, rc) :: r, A => rc h ∧ allS h r A

def firstQ : List Nat → Option Nat
  | [] => none
  | i :: r => match ops.toList[i]? with
    | some o => bif isQuiet P o.op then some i else firstQ r
    | none => firstQ r
def andL : List Nat → (Nat → Prop) → Prop
  | [], _ => True
  | [j], f => f j
  | j :: r, f => f j ∧ andL r f

/-- Operations in any order. -/
noncomputable def xany : Nat → SPend → Array Bool → St → (St → Prop) → Prop
  | 0, _, listed, σ, K => match Region.ready .any ops listed with
    | [] => K σ
    | _ => False
  | fuel + 1, pend, listed, σ, K => match Region.ready .any ops listed with
    | [] => K σ
    | rs => match firstQ P ops rs with
      | some i => (match ops.toList[i]? with
        | none => False
        | some o => bif Region.free .any ops listed i then
            xguard hs path (guardOf ops o) σ
              (fun σ => xq P σ.heap (ev σ.env) o.op fun s => putK ca o.dst s σ fun σ' =>
                xany fuel (bif isInd o.op then pend else (i, fun h' => xq P h' (ev σ.env) o.op fun s' => s' = s) :: pend) (listed.setIfInBounds i true) σ' K)
              (fun σ => putK [] o.dst (.val (.tuple #[])) σ fun σ' => xany fuel pend (listed.setIfInBounds i true) σ' K)
            else False)
      | none => andL rs fun j => (match ops.toList[j]? with
        | none => False
        | some o => xguard hs path (guardOf ops o) σ
              (fun σ => xl P (call (keyOf o)) σ.heap (ev σ.env) o.op fun s h' => allS h' (keepS ops j pend) (putK ca o.dst s ⟨σ.n, σ.env, h'⟩ fun σ' =>
                xany fuel (keepS ops j pend) (listed.setIfInBounds j true) σ' K))
              (fun σ => putK [] o.dst (.val (.tuple #[])) σ fun σ' => xany fuel (keepS ops j pend) (listed.setIfInBounds j true) σ' K))
end

end Go.Sx
