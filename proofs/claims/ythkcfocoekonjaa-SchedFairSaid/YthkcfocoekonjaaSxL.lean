/- The loud operations, second part: new variables, slices, maps; writes to maps. -/
import Derived.Test.YthkcfocoekonjaaSxK
set_option linter.unusedVariables false
set_option linter.unusedSimpArgs false
namespace Go.Sx
open Classical

def allZ (k : IntKind) : List Value → Bool
  | [] => true
  | .int k' (.ofNat 0) :: r => kEqB k k' && allZ k r
  | _ => false
def allF : List Value → Bool
  | [] => true
  | .bool false :: r => allF r
  | _ => false
def lenV : List Value → Nat
  | [] => 0
  | _ :: r => lenV r + 1
def colZ (cs : List Value) : Col :=
  match cs with
  | .int k n :: r => bif allZ k (.int k n :: r) then .ints k (List.replicate (lenV cs) 0) else .raws cs
  | .bool b :: r => bif allF (.bool b :: r) then .bools (List.replicate (lenV cs) false) else .raws cs
  | cs => .raws cs
def allOne : List Value → Bool
  | [] => true
  | v :: r => v.oneCell' && allOne r
def zeroBlk (P : Program) (t : TypeId) (cs : List Value) : SBlk :=
  match P.underlying t with
  | some (.array _ e) => (match P.info? e with
    | some inf => bif Nat.beq inf.size 1 && allOne cs then .tab t 0 (lenV cs) [colZ cs] else .cells inf.size (svL cs) t
    | none => .cells (lenV cs) (svL cs) t)
  | _ => .cells (lenV cs) (svL cs) t

def ksDesc : TypeDesc → Option KS
  | .int k => some (.int k)
  | .bool => some .bool
  | .string => some .str
  | _ => none
def ksFields (P : Program) : List Field → Option (List KS)
  | [] => some []
  | f :: r => match P.underlying f.type with
    | none => none
    | some d => match ksDesc d, ksFields P r with
      | some s, some l => some (s :: l)
      | _, _ => none
def ksOf (P : Program) (kt : TypeId) : Option KShape :=
  match P.underlying kt with
  | some (.struct fs) => (match ksFields P fs.toList with | some l => some (.many l) | none => none)
  | some d => (match ksDesc d with | some s => some (.one s) | none => none)
  | none => none

def xalloc (P : Program) (h : List Ent) (t : TypeId) (K : SV → List Ent → Prop) : Prop :=
  match P.info? t with
  | none => False
  | some inf => match inf.zero with
    | none => False
    | some z => ∀ b, appK h (.own b (zeroBlk P t z.cells.toList)) fun h' => K (.ptr (lenE h) 0 0) h'
def xbox (h : List Ent) (t : TypeId) (v : SV) (K : SV → List Ent → Prop) : Prop :=
  bif noTop (cellsS v) then ∀ b, appK h (.own b (.cells (lenS (cellsS v)) (cellsS v) t)) fun h' => K (.ptr (lenE h) 0 0) h' else False

def repS : Nat → List SV → List SV
  | 0, _ => []
  | n + 1, l => l ++ repS n l
def repC0 : List Value → List Col
  | [] => []
  | .int k _ :: r => .ints k [] :: repC0 r
  | .bool _ :: r => .bools [] :: repC0 r
  | _ :: r => .raws [] :: repC0 r
theorem repC0_spec : ∀ l : List Value, (repC0 l).length = l.length ∧ ∀ c ∈ repC0 l, c.len = 0
  | [] => ⟨rfl, by simp [repC0]⟩
  | v :: r => by
    obtain ⟨h1, h2⟩ := repC0_spec r
    cases v <;> exact ⟨by simp [repC0, h1], fun c hc => by
      simp only [repC0, List.mem_cons] at hc
      rcases hc with rfl | hc
      · rfl
      · exact h2 c hc⟩
def xbuildSlice (P : Program) (h : List Ent) (t : TypeId) (len : Nat) (parts : List (Nat × SV)) (K : SV → List Ent → Prop) : Prop :=
  match P.underlying t with
  | some (.slice e) => (match P.info? e with
    | none => False
    | some inf => match inf.zero with
      | none => False
      | some z => bif Nat.beq inf.size (lenV z.cells.toList) && (Nat.ble (len * inf.size) 16777216 && Nat.ble 1 inf.size) then
          match len, parts with
          | 0, [] => ∀ b, appK h (.own b (.tab e 0 0 (repC0 z.cells.toList))) fun h' => K (.slc (lenE h) 0 0 0) h'
          | len, parts => xfill (fun i => some (i * inf.size, inf.size)) (repS len (svL z.cells.toList)) parts fun l => ∀ b, appK h (.own b (.cells inf.size l e)) fun h' => K (.slc (lenE h) 0 len len) h'
        else False)
  | _ => False

def xmakeMap (P : Program) (h : List Ent) (t : TypeId) (r : Bool) (K : SV → List Ent → Prop) : Prop :=
  match P.underlying t with
  | some (.map kt _) => (match ksOf P kt with
    | none => False
    | some ks => bif r then ∀ b, appK h (.own b (.map ks (fun _ => none) none)) fun h' => K (.mp (lenE h)) h' else False)
  | _ => False

noncomputable def xmapUpdate (P : Program) (h : List Ent) (t : TypeId) (m k v : SV) (K : SV → List Ent → Prop) : Prop :=
  match P.underlying t with
  | some (.map kt _) => (match m with
    | .mp n => (match entAt h n with
      | some (.own b (.map ks f _)) => bif keyOk P kt ks then (match keyVal ks k with
        | some key => nt v fun v => setK h n (.own b (.map ks (updM f key (den (locs h) v)) none)) fun h' => K .top h'
        | none => False) else False
      | _ => False)
    | _ => False)
  | _ => False

noncomputable def xmapEntry (P : Program) (h : List Ent) (t : TypeId) (m k : SV) (K : SV → List Ent → Prop) : Prop :=
  match P.underlying t with
  | some (.map kt et) => (match P.info? et with
    | none => False
    | some inf => match inf.zero with
      | none => False
      | some z => match m with
        | .mp n => (match entAt h n with
          | some (.own b (.map ks f _)) => bif keyOk P kt ks then (match keyVal ks k with
            | some key => ∀ s : Int, setK h n (.own b (.map ks (updM f key ((f key).getD z)) (some (key, s)))) fun h' => K (.tup [.val ((f key).getD z), .val (.int .i64 s)]) h'
            | none => False) else False
          | _ => False)
        | _ => False)
  | _ => False

noncomputable def xentryStore (h : List Ent) (m s v : SV) (K : SV → List Ent → Prop) : Prop :=
  match m, s with
  | .mp n, .val (.int _ s) => (match entAt h n with
    | some (.own b (.map ks f (some (key, s')))) => s = s' ∧ nt v fun v => setK h n (.own b (.map ks (updM f key (den (locs h) v)) none)) fun h' => K .top h'
    | _ => False)
  | _, _ => False

noncomputable def xdelete (P : Program) (h : List Ent) (t : TypeId) (m k : SV) (K : SV → List Ent → Prop) : Prop :=
  match P.underlying t with
  | some (.map kt _) => (match m with
    | .mp n => (match entAt h n with
      | some (.own b (.map ks f _)) => bif keyOk P kt ks then (match keyVal ks k with
        | some key => setK h n (.own b (.map ks (delM f key) none)) fun h' => K (.tup []) h'
        | none => False) else False
      | _ => False)
    | _ => False)
  | _ => False

section
variable {P : Program} {F : List (Nat × Blk)} {h : List Ent} {w : World} {K : SV → List Ent → Prop}

theorem lenV_eq : ∀ l : List Value, lenV l = l.length
  | [] => rfl
  | _ :: r => by simp [lenV, lenV_eq r]
theorem allZ_eq {k : IntKind} : ∀ {l : List Value}, allZ k l = true → l = List.replicate l.length (.int k 0)
  | [], _ => rfl
  | .int k' (.ofNat 0) :: r, hl => by
    simp only [allZ, Bool.and_eq_true] at hl
    have := kEqB_eq hl.1
    subst this
    have := allZ_eq hl.2
    rw [List.length_cons, List.replicate_succ, ← this]
    rfl
  | .int k' (.ofNat (n + 1)) :: r, hl => Bool.noConfusion (show false = true from hl)
  | .int k' (.negSucc n) :: r, hl => by simp [allZ] at hl
  | .bool _ :: r, hl => by simp [allZ] at hl
  | .float _ _ :: r, hl => by simp [allZ] at hl
  | .complex _ _ _ :: r, hl => by simp [allZ] at hl
  | .string _ :: r, hl => by simp [allZ] at hl
  | .pointer _ :: r, hl => by simp [allZ] at hl
  | .slice _ _ _ :: r, hl => by simp [allZ] at hl
  | .map _ :: r, hl => by simp [allZ] at hl
  | .chan _ :: r, hl => by simp [allZ] at hl
  | .func _ _ _ :: r, hl => by simp [allZ] at hl
  | .nilFunc :: r, hl => by simp [allZ] at hl
  | .iface _ _ :: r, hl => by simp [allZ] at hl
  | .nilIface :: r, hl => by simp [allZ] at hl
  | .agg _ :: r, hl => by simp [allZ] at hl
  | .tuple _ :: r, hl => by simp [allZ] at hl
theorem allF_eq : ∀ {l : List Value}, allF l = true → l = List.replicate l.length (.bool false)
  | [], _ => rfl
  | v :: r, hl => by
    cases v with
    | bool b =>
      cases b with
      | true => simp [allF] at hl
      | false =>
        have := allF_eq (l := r) (by simpa [allF] using hl)
        rw [List.length_cons, List.replicate_succ, ← this]
    | _ => simp [allF] at hl

theorem colZ_spec (cs : List Value) : (colZ cs).len = cs.length ∧ ∀ i, i < cs.length → cs[i]? = some ((colZ cs).get i) := by
  have raw : (Col.raws cs).len = cs.length ∧ ∀ i, i < cs.length → cs[i]? = some ((Col.raws cs).get i) := by
    refine ⟨rfl, fun i hi => ?_⟩
    simp [Col.get, List.getD, hi]
  unfold colZ
  split
  · rename_i k n r
    cases hz : allZ k (.int k n :: r) with
    | false => simp only [cond_false]; exact raw
    | true =>
      simp only [cond_true]
      have := allZ_eq hz
      refine ⟨by simp [Col.len, lenV_eq], fun i hi => ?_⟩
      rw [this, List.getElem?_replicate, if_pos (by simpa using hi)]
      simp only [Col.get, lenV_eq]
      congr 2
      simp [List.getD, List.getElem?_replicate]
      split <;> rfl
  · rename_i b r
    cases hz : allF (.bool b :: r) with
    | false => simp only [cond_false]; exact raw
    | true =>
      simp only [cond_true]
      have := allF_eq hz
      refine ⟨by simp [Col.len, lenV_eq], fun i hi => ?_⟩
      rw [this, List.getElem?_replicate, if_pos (by simpa using hi)]
      simp only [Col.get, lenV_eq]
      congr 2
      simp [List.getD, List.getElem?_replicate]
      split <;> rfl
  · exact raw

theorem allOne_spec : ∀ {cs : List Value}, allOne cs = true → ∀ v ∈ cs, v.oneCell' = true
  | [], _ => by simp
  | v :: r, ha => by
    simp only [allOne, Bool.and_eq_true] at ha
    intro u hu
    rcases List.mem_cons.1 hu with rfl | hu
    · exact ha.1
    · exact allOne_spec ha.2 u hu

theorem zeroBlk_holds (t : TypeId) (cs : List Value) (ρ : List Loc) : ((zeroBlk P t cs).den ρ).holds (.cells cs.toArray t (0, 0)) := by
  have base : ∀ wd, ((SBlk.cells wd (svL cs) t).den ρ).holds (.cells cs.toArray t (0, 0)) := fun wd => by simp [SBlk.den, Blk.holds, denL_svL]
  unfold zeroBlk
  split
  · split
    · rename_i inf _
      cases hb : (Nat.beq inf.size 1 && allOne cs) with
      | false => exact base _
      | true =>
        simp only [cond_true]
        simp only [Bool.and_eq_true] at hb
        obtain ⟨h1, h2⟩ := colZ_spec cs
        refine ⟨cs.toArray, 0, 0, rfl, ?_, ?_, ?_⟩
        · intro c hc
          simp at hc; subst hc
          refine ⟨by rw [h1, lenV_eq], fun i hi => ?_⟩
          rw [lenV_eq] at hi
          exact allOne_spec hb.2 _ (List.mem_of_getElem? (h2 i hi))
        · intro i j c hi hc
          cases j with
          | zero =>
            simp at hc; subst hc
            rw [lenV_eq] at hi
            simpa using h2 i hi
          | succ j => simp at hc
        · intro x _ hx; omega
    · exact base _
  · exact base _

theorem push_loud {s : SV} {v : Value} {blk : SBlk} {o : Obj} {m : Sem Next} (c : Ctx F h w) (hb : ∀ r, (blk.den (locs h ++ r)).holds o)
    (hx : ∀ b, appK h (.own b blk) fun h' => K s h') (hs : ∀ r, den (locs (h ++ [Ent.own w.heap.size blk]) ++ r) s = v) (hr : m.run P w = .ok (.value v) { w with heap := w.heap.push o }) : Loud P F h w K m :=
  ⟨s, _, _, v, _, appK_iff (hx w.heap.size), Ext.app _ _, c.push hb, ⟨rfl, rfl, rfl, by simp⟩, fun _ => hs, hr, .inl rfl⟩

theorem loc_new (h : List Ent) (b : Nat) (blk : SBlk) (r : List Loc) : locAt (locs (h ++ [Ent.own b blk]) ++ r) (lenE h) = (b, blk.base, blk.wd) := by
  rw [locAt_get, lenE_eq, locs_eq, List.map_append, List.append_assoc, List.getElem?_append_right (by simp)]
  simp [Ent.loc]

theorem xalloc_sound (c : Ctx F h w) {t : TypeId} (hx : xalloc P h t K) : Loud P F h w K (do pure (.value (← Instr.alloc t true (.tuple #[])))) := by
  unfold xalloc at hx
  split at hx
  · exact hx.elim
  · rename_i inf hinf
    split at hx
    · exact hx.elim
    · rename_i z hz
      have hz' : (zeroValue t).run P w = .ok z w := by simp [zeroValue, run_typeInfo' hinf, hz]
      refine push_loud (o := .cells z.cells t) (v := .pointer (some ⟨w.heap.size, 0, none⟩)) c (fun r => ?_) hx (fun r => ?_) ?_
      · have := zeroBlk_holds (P := P) t z.cells.toList (locs h ++ r)
        simpa using this
      · simp only [den, loc_new]
        have : (zeroBlk P t z.cells.toList).base = 0 := by
          unfold zeroBlk
          split
          · split
            · rename_i inf' _; cases (Nat.beq inf'.size 1 && allOne z.cells.toList) <;> rfl
            · rfl
          · rfl
        simp [this]
      · simp [Instr.alloc, hz', newVar, newRow]

theorem xbox_sound (c : Ctx F h w) {t : TypeId} {v : SV} {vv : Value} (hv : v ≠ .top → Std h v vv) (hx : xbox h t v K) : Loud P F h w K (do pure (.value (← Instr.box t vv))) := by
  obtain ⟨hn, hx⟩ := bif_false hx
  have hnt : v ≠ .top := by rintro rfl; simp [cellsS, noTop] at hn
  have hc := cellsS_std hnt (hv hnt)
  refine push_loud (o := .cells vv.cells t) (v := .pointer (some ⟨w.heap.size, 0, none⟩)) c (fun r => ?_) hx (fun r => ?_) ?_
  · simp only [SBlk.den, Blk.holds, hc r]
  · simp only [den, loc_new, SBlk.base]
    simp
  · simp [Instr.box, newVar, newRow]

theorem rep_cells {z : Array Value} (hz : 0 < z.size) : ∀ n : Nat, (List.range (n * z.size)).map (fun i => z[i % z.size]!) = (List.replicate n z.toList).flatten
  | 0 => by simp
  | n + 1 => by
    rw [Nat.add_mul, Nat.one_mul, List.range_add, List.map_append, rep_cells hz n, List.replicate_succ', List.flatten_append]
    congr 1
    simp only [List.flatten_cons, List.flatten_nil, List.append_nil, List.map_map]
    apply List.ext_getElem
    · simp
    · intro i h1 h2
      simp at h1
      simp [Nat.mul_comm n, Nat.mul_add_mod, Nat.mod_eq_of_lt h1, h1]
theorem repS_den (ρ : List Loc) (l : List SV) : ∀ n : Nat, denL ρ (repS n l) = (List.replicate n (denL ρ l)).flatten
  | 0 => rfl
  | n + 1 => by
    have := repS_den ρ l n
    simp only [denL_eq] at *
    simp [repS, List.replicate_succ, this]

theorem xbuildSlice_sound (c : Ctx F h w) {t : TypeId} {len : Nat} {parts : List (Nat × SV)} {pv : Array (Nat × Value)} (hp : PartsStd h parts pv.toList) (hx : xbuildSlice P h t len parts K) :
    Loud P F h w K (do pure (.value (← Instr.buildSlice t len pv))) := by
  unfold xbuildSlice at hx
  split at hx
  · rename_i e hu
    split at hx
    · exact hx.elim
    · rename_i inf hinf
      split at hx
      · exact hx.elim
      · rename_i z hz
        obtain ⟨hb, hx⟩ := bif_false hx
        simp only [Bool.and_eq_true] at hb
        obtain ⟨h1, h2, h3⟩ := hb
        have h1 := Nat.eq_of_beq_eq_true h1
        have h2 := Nat.le_of_ble_eq_true h2
        have h3 := Nat.le_of_ble_eq_true h3
        rw [lenV_eq, Array.length_toList] at h1
        have hz' : (zeroValue e).run P w = .ok z w := by simp [zeroValue, run_typeInfo' hinf, hz]
        split at hx
        · have hpv : pv.toList = [] := by
            cases hq : pv.toList with
            | nil => rfl
            | cons a b => rw [hq] at hp; exact hp.elim
          have hpe : pv = #[] := by rw [← Array.toArray_toList (xs := pv), hpv]
          subst hpe
          refine push_loud (blk := .tab e 0 0 (repC0 z.cells.toList)) (o := .cells #[] e (0, 0)) (v := .slice (some ⟨w.heap.size, 0, none⟩) 0 0) c (fun r => ⟨#[], 0, 0, rfl, fun cc hm => ⟨(repC0_spec _).2 cc hm, fun i hi => by omega⟩, fun i j cc hi => by omega, fun x _ hx => by omega⟩) hx (fun r => ?_) ?_
          · simp only [den, loc_new, SBlk.base]; simp
          · simp only [Instr.buildSlice, Sem.run_bind, run_underlying' hu, Result.andThen_ok, run_sizeOf' hinf, Sem.run_ite]
            rw [if_neg (by omega)]
            simp only [Nat.zero_mul, if_true, Sem.run_pure, Result.andThen_ok, Instr.fill, show Array.range 0 = #[] from rfl, Array.map_empty, newRow, Sem.run_bind, run_newObj]
        obtain ⟨l, cs, hx, h5, h6⟩ := xfill_sound (cells := (Array.range (len * inf.size)).map (z.cells[· % z.cells.size]!)) hp (fun r => by
          rw [repS_den, denL_svL, Array.toList_map, Array.toList_range, h1, rep_cells (by omega)]) hx
        refine push_loud (o := .cells cs e) (v := .slice (some ⟨w.heap.size, 0, none⟩) len len) c (fun r => by simp [SBlk.den, Blk.holds, h5 r]) hx (fun r => ?_) ?_
        · simp only [den, loc_new, SBlk.base]; simp
        · simp only [Instr.buildSlice, Sem.run_bind, run_underlying' hu, Result.andThen_ok, run_sizeOf' hinf, Sem.run_ite]
          rw [if_neg (by omega)]
          by_cases h0 : len * inf.size = 0
          · have hl0 : len = 0 := by
              rcases Nat.mul_eq_zero.1 h0 with h | h
              · exact h
              · omega
            subst hl0
            have hcs : cs = cs := rfl
            simp only [Nat.zero_mul] at h6 ⊢
            have h6' : Instr.fill (fun i => some (i * inf.size, inf.size)) (Array.map (fun x => (#[] : Array Value)[x % (#[] : Array Value).size]!) (Array.range 0)) pv.toList = some cs := by
              rw [show Array.range 0 = #[] from rfl, Array.map_empty] at h6 ⊢
              exact h6
            simp only [if_true, Sem.run_pure, Result.andThen_ok, h6', newRow, Sem.run_bind, run_newObj]
          · rw [if_neg h0]
            simp only [Sem.run_bind, hz', Result.andThen_ok, Sem.run_pure, h6, newRow, run_newObj]
  · exact hx.elim

end
end Go.Sx
