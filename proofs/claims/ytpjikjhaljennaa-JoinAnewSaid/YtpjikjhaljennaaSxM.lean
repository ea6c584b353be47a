/- The loud operations, second part: new variables, slices, maps; writes to maps. -/
import Derived.Test.YtpjikjhaljennaaSxK
set_option linter.unusedVariables false
set_option linter.unusedSimpArgs false
namespace Go.Sx
open Classical

def allZ (k : IntKind) : List Value → Bool
  | [] => true
  | .int k' (.ofNat 0) :: r => kEqB k k' && allZ k r
  | _ => false
def allF : List Value → Bool
  | [] => true
  | .bool false :: r => allF r
  | _ => false
def lenV : List Value → Nat
  | [] => 0
  | _ :: r => lenV r + 1
def colZ (cs : List Value) : Col :=
  match cs with
  | .int k n :: r => bif allZ k (.int k n :: r) then .ints k (List.replicate (lenV cs) 0) else .raws cs
  | .bool b :: r => bif allF (.bool b :: r) then .bools (List.replicate (lenV cs) false) else .raws cs
  | cs => .raws cs
def allOne : List Value → Bool
  | [] => true
  | v :: r => v.oneCell' && allOne r
def zeroBlk (P : Program) (t : TypeId) (cs : List Value) : SBlk :=
  match P.underlying t with
  | some (.array _ e) => (match P.info? e with
    | some inf => bif Nat.beq inf.size 1 && allOne cs then .tab t 0 (lenV cs) [colZ cs] else .cells inf.size (svL cs) t
    | none => .cells (lenV cs) (svL cs) t)
  | _ => .cells (lenV cs) (svL cs) t

def xalloc (P : Program) (h : List Ent) (t : TypeId) (K : SV → List Ent → Prop) : Prop :=
  match P.info? t with
  | none => False
  | some inf => match inf.zero with
    | none => False
    | some z => ∀ b, appK h (.own b (zeroBlk P t z.cells.toList)) fun h' => K (.ptr (lenE h) 0 0) h'
def xbox (h : List Ent) (t : TypeId) (v : SV) (K : SV → List Ent → Prop) : Prop :=
  match v with
  | .arr k l => ∀ b, appK h (.own b (.tab t 0 l.length [.ints k l])) fun h' => K (.ptr (lenE h) 0 0) h'
  | v => bif noTop (cellsS v) then ∀ b, appK h (.own b (.cells (lenS (cellsS v)) (cellsS v) t)) fun h' => K (.ptr (lenE h) 0 0) h' else False

def repS : Nat → List SV → List SV
  | 0, _ => []
  | n + 1, l => l ++ repS n l
def repC0 : List Value → List Col
  | [] => []
  | .int k _ :: r => .ints k [] :: repC0 r
  | .bool _ :: r => .bools [] :: repC0 r
  | _ :: r => .raws [] :: repC0 r
theorem repC0_spec : ∀ l : List Value, (repC0 l).length = l.length ∧ ∀ c ∈ repC0 l, c.len = 0
  | [] => ⟨rfl, by simp [repC0]⟩
  | v :: r => by
    obtain ⟨h1, h2⟩ := repC0_spec r
    cases v <;> exact ⟨by simp [repC0, h1], fun c hc => by
      simp only [repC0, List.mem_cons] at hc
      rcases hc with rfl | hc
      · rfl
      · exact h2 c hc⟩
def xbuildSlice (P : Program) (h : List Ent) (t : TypeId) (len : Nat) (parts : List (Nat × SV)) (K : SV → List Ent → Prop) : Prop :=
  match P.underlying t with
  | some (.slice e) => (match P.info? e with
    | none => False
    | some inf => match inf.zero with
      | none => False
      | some z => bif Nat.beq inf.size (lenV z.cells.toList) && (Nat.ble (len * inf.size) 16777216 && Nat.ble 1 inf.size) then
          match len, parts with
          | 0, [] => ∀ b, appK h (.own b (.tab e 0 0 (repC0 z.cells.toList))) fun h' => K (.slc (lenE h) 0 0 0) h'
          | len, parts => xfill (fun i => some (i * inf.size, inf.size)) (repS len (svL z.cells.toList)) parts fun l => ∀ b, appK h (.own b (.cells inf.size l e)) fun h' => K (.slc (lenE h) 0 len len) h'
        else False)
  | _ => False

def xmakeMap (P : Program) (h : List Ent) (t : TypeId) (r : Bool) (K : SV → List Ent → Prop) : Prop :=
  match P.underlying t with
  | some (.map kt _) => (match ksOf P kt with
    | none => False
    | some ks => bif r then ∀ b, appK h (.own b (.map ks (fun _ => none) none)) fun h' => K (.mp (lenE h)) h' else False)
  | _ => False

noncomputable def xmapUpdate (P : Program) (h : List Ent) (t : TypeId) (m k v : SV) (K : SV → List Ent → Prop) : Prop :=
  match P.underlying t with
  | some (.map kt _) => (match m with
    | .mp n => (match entAt h n with
      | some (.own b (.map ks f _)) => bif keyOk P kt ks then (match keyVal ks k with
        | some key => nt v fun v => setK h n (.own b (.map ks (updM f key (den (locs h) v)) none)) fun h' => K .top h'
        | none => False) else False
      | _ => False)
    | _ => False)
  | _ => False

noncomputable def xmapEntry (P : Program) (h : List Ent) (t : TypeId) (m k : SV) (K : SV → List Ent → Prop) : Prop :=
  match P.underlying t with
  | some (.map kt et) => (match P.info? et with
    | none => False
    | some inf => match inf.zero with
      | none => False
      | some z => match m with
        | .mp n => (match entAt h n with
          | some (.own b (.map ks f _)) => bif keyOk P kt ks then (match keyVal ks k with
            | some key => ∀ s : Int, setK h n (.own b (.map ks (updM f key ((f key).getD z)) (some (key, s)))) fun h' => K (.tup [.val ((f key).getD z), .val (.int .i64 s)]) h'
            | none => False) else False
          | _ => False)
        | _ => False)
  | _ => False

noncomputable def xentryStore (h : List Ent) (m s v : SV) (K : SV → List Ent → Prop) : Prop :=
  match m, s with
  | .mp n, .val (.int _ s) => (match entAt h n with
    | some (.own b (.map ks f (some (key, s')))) => s = s' ∧ nt v fun v => setK h n (.own b (.map ks (updM f key (den (locs h) v)) none)) fun h' => K .top h'
    | _ => False)
  | _, _ => False

noncomputable def xdelete (P : Program) (h : List Ent) (t : TypeId) (m k : SV) (K : SV → List Ent → Prop) : Prop :=
  match P.underlying t with
  | some (.map kt _) => (match m with
    | .mp n => (match entAt h n with
      | some (.own b (.map ks f _)) => bif keyOk P kt ks then (match keyVal ks k with
        | some key => setK h n (.own b (.map ks (delM f key) none)) fun h' => K (.tup []) h'
        | none => False) else False
      | _ => False)
    | _ => False)
  | _ => False

section
variable {P : Program} {F : List (Nat × Blk)} {h : List Ent} {w : World} {K : SV → List Ent → Prop}

theorem lenV_eq : ∀ l : List Value, lenV l = l.length
  | [] => rfl
  | _ :: r => by simp [lenV, lenV_eq r]
theorem allZ_eq {k : IntKind} : ∀ {l : List Value}, allZ k l = true → l = List.replicate l.length (.int k 0)
  | [], _ => rfl
  | .int k' (.ofNat 0) :: r, hl => by
    simp only [allZ, Bool.and_eq_true] at hl
    have := kEqB_eq hl.1
    subst this
    have := allZ_eq hl.2
    rw [List.length_cons, List.replicate_succ, ← this]
    rfl
  | .int k' (.ofNat (n + 1)) :: r, hl => Bool.noConfusion (show false = true from hl)
  | .int k' (.negSucc n) :: r, hl => by simp [allZ] at hl
  | .bool _ :: r, hl => by simp [allZ] at hl
  | .float _ _ :: r, hl => by simp [allZ] at hl
  | .complex _ _ _ :: r, hl => by simp [allZ] at hl
  | .string _ :: r, hl => by simp [allZ] at hl
  | .pointer _ :: r, hl => by simp [allZ] at hl
  | .slice _ _ _ :: r, hl => by simp [allZ] at hl
  | .map _ :: r, hl => by simp [allZ] at hl
  | .chan _ :: r, hl => by simp [allZ] at hl
  | .func _ _ _ :: r, hl => by simp [allZ] at hl
  | .nilFunc :: r, hl => by simp [allZ] at hl
  | .iface _ _ :: r, hl => by simp [allZ] at hl
  | .nilIface :: r, hl => by simp [allZ] at hl
  | .agg _ :: r, hl => by simp [allZ] at hl
  | .tuple _ :: r, hl => by simp [allZ] at hl
theorem allF_eq : ∀ {l : List Value}, allF l = true → l = List.replicate l.length (.bool false)
  | [], _ => rfl
  | v :: r, hl => by
    cases v with
    | bool b =>
      cases b with
      | true => simp [allF] at hl
      | false =>
        have := allF_eq (l := r) (by simpa [allF] using hl)
        rw [List.length_cons, List.replicate_succ, ← this]
    | _ => simp [allF] at hl

theorem colZ_spec (cs : List Value) : (colZ cs).len = cs.length ∧ ∀ i, i < cs.length → cs[i]? = some ((colZ cs).get i) := by
  have raw : (Col.raws cs).len = cs.length ∧ ∀ i, i < cs.length → cs[i]? = some ((Col.raws cs).get i) := by
    refine ⟨rfl, fun i hi => ?_⟩
    simp [Col.get, List.getD, hi]
  unfold colZ
  split
  · rename_i k n r
    cases hz : allZ k (.int k n :: r) with
    | false => simp only [cond_false]; exact raw
    | true =>
      simp only [cond_true]
      have := allZ_eq hz
      refine ⟨by simp [Col.len, lenV_eq], fun i hi => ?_⟩
      rw [this, List.getElem?_replicate, if_pos (by simpa using hi)]
      simp only [Col.get, lenV_eq]
      congr 2
      simp [List.getD, List.getElem?_replicate]
      split <;> rfl
  · rename_i b r
    cases hz : allF (.bool b :: r) with
    | false => simp only [cond_false]; exact raw
    | true =>
      simp only [cond_true]
      have := allF_eq hz
      refine ⟨by simp [Col.len, lenV_eq], fun i hi => ?_⟩
      rw [this, List.getElem?_replicate, if_pos (by simpa using hi)]
      simp only [Col.get, lenV_eq]
      congr 2
      simp [List.getD, List.getElem?_replicate]
      split <;> rfl
  · exact raw

theorem allOne_spec : ∀ {cs : List Value}, allOne cs = true → ∀ v ∈ cs, v.oneCell' = true
  | [], _ => by simp
  | v :: r, ha => by
    simp only [allOne, Bool.and_eq_true] at ha
    intro u hu
    rcases List.mem_cons.1 hu with rfl | hu
    · exact ha.1
    · exact allOne_spec ha.2 u hu

theorem zeroBlk_holds (t : TypeId) (cs : List Value) (ρ : List Loc) : ((zeroBlk P t cs).den ρ).holds (.cells cs.toArray t (0, 0)) := by
  have base : ∀ wd, ((SBlk.cells wd (svL cs) t).den ρ).holds (.cells cs.toArray t (0, 0)) := fun wd => by simp [SBlk.den, Blk.holds, denL_svL]
  unfold zeroBlk
  split
  · split
    · rename_i inf _
      cases hb : (Nat.beq inf.size 1 && allOne cs) with
      | false => exact base _
      | true =>
        simp only [cond_true]
        simp only [Bool.and_eq_true] at hb
        obtain ⟨h1, h2⟩ := colZ_spec cs
        refine ⟨cs.toArray, 0, 0, rfl, ?_, ?_, ?_⟩
        · intro c hc
          simp at hc; subst hc
          refine ⟨by rw [h1, lenV_eq], fun i hi => ?_⟩
          rw [lenV_eq] at hi
          exact allOne_spec hb.2 _ (List.mem_of_getElem? (h2 i hi))
        · intro i j c hi hc
          cases j with
          | zero =>
            simp at hc; subst hc
            rw [lenV_eq] at hi
            simpa using h2 i hi
          | succ j => simp at hc
        · intro x _ hx; omega
    · exact base _
  · exact base _

theorem push_loud {s : SV} {v : Value} {blk : SBlk} {o : Obj} {m : Sem Next} (c : Ctx F h w) (hb : ∀ r, (blk.den (locs h ++ r)).holds o)
    (hx : ∀ b, appK h (.own b blk) fun h' => K s h') (hs : ∀ r, den (locs (h ++ [Ent.own w.heap.size blk]) ++ r) s = v) (hr : m.run P w = .ok (.value v) { w with heap := w.heap.push o }) : Loud P F h w K m :=
  ⟨s, _, _, v, _, appK_iff (hx w.heap.size), Ext.app _ _, c.push hb, ⟨rfl, rfl, rfl, by simp⟩, fun _ => hs, hr, .inl rfl⟩

theorem loc_new (h : List Ent) (b : Nat) (blk : SBlk) (r : List Loc) : locAt (locs (h ++ [Ent.own b blk]) ++ r) (lenE h) = (b, blk.base, blk.wd) := by
  rw [locAt_get, lenE_eq, locs_eq, List.map_append, List.append_assoc, List.getElem?_append_right (by simp)]
  simp [Ent.loc]

theorem xalloc_sound (c : Ctx F h w) {t : TypeId} (hx : xalloc P h t K) : Loud P F h w K (do pure (.value (← Instr.alloc t true (.tuple #[])))) := by
  unfold xalloc at hx
  split at hx
  · exact hx.elim
  · rename_i inf hinf
    split at hx
    · exact hx.elim
    · rename_i z hz
      have hz' : (zeroValue t).run P w = .ok z w := by simp [zeroValue, run_typeInfo' hinf, hz]
      refine push_loud (o := .cells z.cells t) (v := .pointer (some ⟨w.heap.size, 0, none⟩)) c (fun r => ?_) hx (fun r => ?_) ?_
      · have := zeroBlk_holds (P := P) t z.cells.toList (locs h ++ r)
        simpa using this
      · simp only [den, loc_new]
        have : (zeroBlk P t z.cells.toList).base = 0 := by
          unfold zeroBlk
          split
          · split
            · rename_i inf' _; cases (Nat.beq inf'.size 1 && allOne z.cells.toList) <;> rfl
            · rfl
          · rfl
        simp [this]
      · simp [Instr.alloc, hz', newVar, newRow]

theorem xbox_sound (c : Ctx F h w) {t : TypeId} {v : SV} {vv : Value} (hv : v ≠ .top → Std h v vv) (hx : xbox h t v K) : Loud P F h w K (do pure (.value (← Instr.box t vv))) := by
  unfold xbox at hx
  split at hx
  · rename_i k l
    have hvv : vv = .agg (l.map (Value.int k)).toArray := (hv (by simp) []).symm
    refine push_loud (o := .cells (l.map (Value.int k)).toArray t) (v := .pointer (some ⟨w.heap.size, 0, none⟩)) c (fun r => ?_) hx (fun r => ?_) ?_
    · refine ⟨_, 0, 0, rfl, fun c hc => ?_, fun i j c hi hj => ?_, fun x _ _ => by omega⟩
      · rw [List.mem_singleton.1 hc]
        exact ⟨rfl, fun i _ => rfl⟩
      · cases j with
        | zero =>
          simp at hj
          subst hj
          simp only [List.length_singleton, Nat.zero_add, Nat.mul_one, Nat.add_zero, Col.get]
          simp [List.getD_eq_getElem?_getD, hi]
        | succ j => simp at hj
    · simp only [den, loc_new, SBlk.base]
      simp
    · subst hvv
      simp [Instr.box, newVar, newRow, Value.cells]
  obtain ⟨hn, hx⟩ := bif_false hx
  have hnt : v ≠ .top := by rintro rfl; simp [cellsS, noTop] at hn
  have hc := cellsS_std hnt (hv hnt)
  refine push_loud (o := .cells vv.cells t) (v := .pointer (some ⟨w.heap.size, 0, none⟩)) c (fun r => ?_) hx (fun r => ?_) ?_
  · simp only [SBlk.den, Blk.holds, hc r]
  · simp only [den, loc_new, SBlk.base]
    simp
  · simp [Instr.box, newVar, newRow]

theorem rep_cells {z : Array Value} (hz : 0 < z.size) : ∀ n : Nat, (List.range (n * z.size)).map (fun i => z[i % z.size]!) = (List.replicate n z.toList).flatten
  | 0 => by simp
  | n + 1 => by
    rw [Nat.add_mul, Nat.one_mul, List.range_add, List.map_append, rep_cells hz n, List.replicate_succ', List.flatten_append]
    congr 1
    simp only [List.flatten_cons, List.flatten_nil, List.append_nil, List.map_map]
    apply List.ext_getElem
    · simp
    · intro i h1 h2
      simp at h1
      simp [Nat.mul_comm n, Nat.mul_add_mod, Nat.mod_eq_of_lt h1, h1]
theorem repS_den (ρ : List Loc) (l : List SV) : ∀ n : Nat, denL ρ (repS n l) = (List.replicate n (denL ρ l)).flatten
  | 0 => rfl
  | n + 1 => by
    have := repS_den ρ l n
    simp only [denL_eq] at *
    simp [repS, List.replicate_succ, this]

theorem xbuildSlice_sound (c : Ctx F h w) {t : TypeId} {len : Nat} {parts : List (Nat × SV)} {pv : Array (Nat × Value)} (hp : PartsStd h parts pv.toList) (hx : xbuildSlice P h t len parts K) :
    Loud P F h w K (do pure (.value (← Instr.buildSlice t len pv))) := by
  unfold xbuildSlice at hx
  split at hx
  · rename_i e hu
    split at hx
    · exact hx.elim
    · rename_i inf hinf
      split at hx
      · exact hx.elim
      · rename_i z hz
        obtain ⟨hb, hx⟩ := bif_false hx
        simp only [Bool.and_eq_true] at hb
        obtain ⟨h1, h2, h3⟩ := hb
        have h1 := Nat.eq_of_beq_eq_true h1
        have h2 := Nat.le_of_ble_eq_true h2
        have h3 := Nat.le_of_ble_eq_true h3
        rw [lenV_eq, Array.length_toList] at h1
        have hz' : (zeroValue e).run P w = .ok z w := by simp [zeroValue, run_typeInfo' hinf, hz]
        split at hx
        · have hpv : pv.toList = [] := by
            cases hq : pv.toList with
            | nil => rfl
            | cons a b => rw [hq] at hp; exact hp.elim
          have hpe : pv = #[] := by rw [← Array.toArray_toList (xs := pv), hpv]
          subst hpe
          refine push_loud (blk := .tab e 0 0 (repC0 z.cells.toList)) (o := .cells #[] e (0, 0)) (v := .slice (some ⟨w.heap.size, 0, none⟩) 0 0) c (fun r => ⟨#[], 0, 0, rfl, fun cc hm => ⟨(repC0_spec _).2 cc hm, fun i hi => by omega⟩, fun i j cc hi => by omega, fun x _ hx => by omega⟩) hx (fun r => ?_) ?_
          · simp only [den, loc_new, SBlk.base]; simp
          · simp only [Instr.buildSlice, Sem.run_bind, run_underlying' hu, Result.andThen_ok, run_sizeOf' hinf, Sem.run_ite]
            rw [if_neg (by omega)]
            simp only [Nat.zero_mul, if_true, Sem.run_pure, Result.andThen_ok, Instr.fill, show Array.range 0 = #[] from rfl, Array.map_empty, newRow, Sem.run_bind, run_newObj]
        obtain ⟨l, cs, hx, h5, h6⟩ := xfill_sound (cells := (Array.range (len * inf.size)).map (z.cells[· % z.cells.size]!)) hp (fun r => by
          rw [repS_den, denL_svL, Array.toList_map, Array.toList_range, h1, rep_cells (by omega)]) hx
        refine push_loud (o := .cells cs e) (v := .slice (some ⟨w.heap.size, 0, none⟩) len len) c (fun r => by simp [SBlk.den, Blk.holds, h5 r]) hx (fun r => ?_) ?_
        · simp only [den, loc_new, SBlk.base]; simp
        · simp only [Instr.buildSlice, Sem.run_bind, run_underlying' hu, Result.andThen_ok, run_sizeOf' hinf, Sem.run_ite]
          rw [if_neg (by omega)]
          by_cases h0 : len * inf.size = 0
          · have hl0 : len = 0 := by
              rcases Nat.mul_eq_zero.1 h0 with h | h
              · exact h
              · omega
            subst hl0
            have hcs : cs = cs := rfl
            simp only [Nat.zero_mul] at h6 ⊢
            have h6' : Instr.fill (fun i => some (i * inf.size, inf.size)) (Array.map (fun x => (#[] : Array Value)[x % (#[] : Array Value).size]!) (Array.range 0)) pv.toList = some cs := by
              rw [show Array.range 0 = #[] from rfl, Array.map_empty] at h6 ⊢
              exact h6
            simp only [if_true, Sem.run_pure, Result.andThen_ok, h6', newRow, Sem.run_bind, run_newObj]
          · rw [if_neg h0]
            simp only [Sem.run_bind, hz', Result.andThen_ok, Sem.run_pure, h6, newRow, run_newObj]
  · exact hx.elim

end
end Go.Sx

/- The loud operations, third part: maps. -/
set_option linter.unusedVariables false
set_option linter.unusedSimpArgs false
namespace Go.Sx
open Classical
section
variable {P : Program} {F : List (Nat × Blk)} {h : List Ent} {w : World} {K : SV → List Ent → Prop}

theorem findR_some {k : Value} : ∀ {l : List MapEntry} {j i : Nat} {v : Value}, findR k l j = some (i, v) → ∃ p e q, l = p ++ e :: q ∧ i = j + p.length ∧ e.key = k ∧ e.val = v ∧ ∀ x ∈ p, x.key ≠ k
  | [], _, _, _, hf => by cases hf
  | x :: l, j, i, v, hf => by
    simp only [findR] at hf
    split at hf
    · rename_i hk
      cases hf
      exact ⟨[], x, l, rfl, rfl, hk, rfl, by simp⟩
    · rename_i hk
      obtain ⟨p, e, q, h1, h2, h3, h4, h5⟩ := findR_some hf
      refine ⟨x :: p, e, q, by simp [h1], by simp [h2]; omega, h3, h4, ?_⟩
      intro y hy
      rcases List.mem_cons.1 hy with rfl | hy
      · exact hk
      · exact h5 y hy
theorem findR_none {k : Value} : ∀ {l : List MapEntry} {j : Nat}, findR k l j = none → ∀ x ∈ l, x.key ≠ k
  | [], _, _ => by simp
  | x :: l, j, hf => by
    simp only [findR] at hf
    split at hf
    · cases hf
    · rename_i hk
      intro y hy
      rcases List.mem_cons.1 hy with rfl | hy
      · exact hk
      · exact findR_none hf y hy

theorem getM_none {l : List MapEntry} {k : Value} (hn : ∀ x ∈ l, x.key ≠ k) : getM l k = none := by
  unfold getM
  rw [List.find?_eq_none.2 (by intro x hx; simpa using hn x hx)]
  rfl
theorem getM_app {p q : List MapEntry} {e : MapEntry} {k : Value} : getM (p ++ e :: q) k = match getM p k with | some v => some v | none => if e.key = k then some e.val else getM q k := by
  unfold getM
  rw [List.find?_append, List.find?_cons]
  cases hp : List.find? (fun e => decide (e.key = k)) p with
  | some x => simp
  | none =>
    by_cases hk : e.key = k <;> simp [hk]

theorem getM_mod {p q : List MapEntry} {e : MapEntry} {key v : Value} (he : e.key = key) (hp : ∀ x ∈ p, x.key ≠ key) (k : Value) :
    getM (p ++ { e with key := key, val := v } :: q) k = updM (getM (p ++ e :: q)) key v k := by
  unfold updM
  rw [getM_app, getM_app]
  by_cases hk : k = key
  · subst hk
    simp [getM_none hp]
  · have : ¬ e.key = k := fun h' => hk (by rw [← h', he])
    simp [hk, Ne.symm hk, this]
theorem getM_push {l : List MapEntry} {key v : Value} {c : Nat} (hn : ∀ x ∈ l, x.key ≠ key) (k : Value) : getM (l ++ [{ key, val := v, born := c }]) k = updM (getM l) key v k := by
  unfold updM
  rw [getM_app]
  by_cases hk : k = key
  · subst hk; simp [getM_none hn]
  · simp only [hk, if_false, Ne.symm hk]
    cases getM l k <;> rfl
theorem getM_del {p q : List MapEntry} {e : MapEntry} {key : Value} (he : e.key = key) (hp : ∀ x ∈ p, x.key ≠ key) (hq : ∀ x ∈ q, x.key ≠ key) (k : Value) :
    getM (p ++ q) k = delM (getM (p ++ e :: q)) key k := by
  unfold delM
  rw [getM_app]
  by_cases hk : k = key
  · subst hk
    simp only [if_true]
    exact getM_none fun x hx => by
      rcases List.mem_append.1 hx with hx | hx
      · exact hp x hx
      · exact hq x hx
  · have : ¬ e.key = k := fun h' => hk (by rw [← h', he])
    simp only [hk, if_false, this]
    unfold getM
    rw [List.find?_append]
    cases List.find? (fun e => decide (e.key = k)) p <;> simp
theorem delM_none {l : List MapEntry} {key : Value} (hn : ∀ x ∈ l, x.key ≠ key) (k : Value) : getM l k = delM (getM l) key k := by
  unfold delM
  by_cases hk : k = key
  · subst hk; simp [getM_none hn]
  · simp [hk]

theorem modify_mid (f : MapEntry → MapEntry) : ∀ (p : List MapEntry) (e : MapEntry) (q : List MapEntry), ((p ++ e :: q).toArray.modify p.length f) = (p ++ f e :: q).toArray := by
  intro p e q
  apply Array.ext_getElem?
  intro i
  rw [Array.getElem?_modify]
  rcases Nat.lt_trichotomy p.length i with hi | rfl | hi
  · rw [if_neg (by omega)]
    simp only [List.getElem?_toArray]
    rw [List.getElem?_append_right (by omega), List.getElem?_append_right (by omega)]
    obtain ⟨d, hd⟩ : ∃ d, i - p.length = d + 1 := ⟨i - p.length - 1, by omega⟩
    simp [hd]
  · simp
  · rw [if_neg (by omega)]
    simp only [List.getElem?_toArray]
    rw [List.getElem?_append_left hi, List.getElem?_append_left hi]

theorem sameBits_scalar {s : KS} {v : Value} (hv : s.is v) (n : Nat) : Instr.sameBits n v v = true := by
  cases s <;> cases v <;> simp [KS.is] at hv <;> simp [Instr.sameBits, ba_beq]
theorem sameBits_key {ks : KShape} {k : Value} (hk : ks.is k) : Instr.sameBits 10000 k k = true := by
  cases ks with
  | one s => exact sameBits_scalar hk _
  | many l =>
    cases k <;> simp [KShape.is] at hk
    rename_i cs
    rw [show (10000 : Nat) = 9999 + 1 from rfl, Instr.sameBits]
    simp only [beq_self_eq_true, Bool.true_and]
    generalize cs.toList = vs at hk
    induction vs generalizing l with
    | nil => rfl
    | cons v vs ih =>
      cases l with
      | nil => exact hk.elim
      | cons s l =>
        simp only [List.zip_cons_cons, List.all_cons, sameBits_scalar hk.1, Bool.true_and]
        exact ih l hk.2
theorem run_stays {ks : KShape} {k : Value} (hk : ks.is k) : (Instr.keyThatStays k k).run P w = .ok k w := by
  simp [Instr.keyThatStays, sameBits_key hk]

theorem run_setObj {b : Nat} {o o' : Obj} (hb : w.heap[b]? = some o') (hn : ∀ c t f, o' ≠ .cells c t f) : (setObj b o).run P w = .ok () { w with heap := w.heap.setIfInBounds b o } := by
  simp only [setObj, Sem.run, hb]

theorem Ctx.setMap (c : Ctx F h w) {n b : Nat} {ks : KShape} {m m' : Value → Option Value} {st st' : Option (Value × Int)} (he : entAt h n = some (.own b (.map ks m st))) {es : Array MapEntry} {clock : Nat}
    (hg : GoodMap ks es clock) (hm : ∀ k, m' k = getM es.toList k) (hst : ∀ k s, st' = some (k, s) → ∃ e ∈ es.toList, e.key = k ∧ (e.born : Int) = s) :
    Ctx F (h.set n (.own b (.map ks m' st'))) { w with heap := w.heap.setIfInBounds b (.map es clock) } := by
  obtain ⟨⟨o, ho, -⟩, -⟩ := c.blk he rfl
  have hlt := (Array.getElem?_eq_some_iff.1 ho).1
  refine c.set (k' := .map ks m' st') he rfl rfl (o := .map es clock) (by simp [hlt]) (fun r => ⟨es, clock, rfl, hg, hm, hst⟩) (fun x hx => ?_)
  rw [Array.getElem?_setIfInBounds_ne (Ne.symm hx)]

theorem GoodMap.modify {ks : KShape} {p q : List MapEntry} {e : MapEntry} {key v : Value} {clock : Nat} (g : GoodMap ks (p ++ e :: q).toArray clock) (he : e.key = key) : GoodMap ks (p ++ { e with key := key, val := v } :: q).toArray clock := by
  subst he
  obtain ⟨h1, h2, h3, h4⟩ := g
  simp only [List.toList_toArray] at *
  refine ⟨fun x hx => ?_, by simpa using h2, by simpa using h3, fun x hx => ?_⟩
  · simp only [List.mem_append, List.mem_cons] at hx
    rcases hx with hx | rfl | hx
    · exact h1 x (by simp [hx])
    · exact h1 e (by simp)
    · exact h1 x (by simp [hx])
  · simp only [List.mem_append, List.mem_cons] at hx
    rcases hx with hx | rfl | hx
    · exact h4 x (by simp [hx])
    · exact h4 e (by simp)
    · exact h4 x (by simp [hx])
theorem GoodMap.push {ks : KShape} {es : Array MapEntry} {key v : Value} {clock : Nat} (g : GoodMap ks es clock) (hk : ks.is key) (hn : ∀ x ∈ es.toList, x.key ≠ key) : GoodMap ks (es.push { key, val := v, born := clock }) (clock + 1) := by
  obtain ⟨h1, h2, h3, h4⟩ := g
  refine ⟨fun x hx => ?_, ?_, ?_, fun x hx => ?_⟩ <;> simp only [Array.toList_push] at *
  · rcases List.mem_append.1 hx with hx | hx
    · exact h1 x hx
    · simp at hx; subst hx; exact hk
  · rw [List.map_append, List.nodup_append]
    refine ⟨h2, by simp, ?_⟩
    intro a ha b hb
    simp at hb
    obtain ⟨x, hx, rfl⟩ := List.mem_map.1 ha
    rw [hb]; exact hn x hx
  · rw [List.map_append, List.nodup_append]
    refine ⟨h3, by simp, ?_⟩
    intro a ha b hb
    simp at hb
    obtain ⟨x, hx, rfl⟩ := List.mem_map.1 ha
    have := h4 x hx
    omega
  · rcases List.mem_append.1 hx with hx | hx
    · have := h4 x hx; omega
    · simp at hx; subst hx; simp
theorem GoodMap.sub {ks : KShape} {es es' : Array MapEntry} {clock : Nat} (g : GoodMap ks es clock) (hs : es'.toList.Sublist es.toList) : GoodMap ks es' clock :=
  ⟨fun x hx => g.keys x (hs.subset hx), (hs.map _).nodup g.nodup, (hs.map _).nodup g.born, fun x hx => g.old x (hs.subset hx)⟩

/-- The one write behind mapUpdate. -/
theorem map_write (c : Ctx F h w) {n b : Nat} {ks : KShape} {m : Value → Option Value} {st : Option (Value × Int)} (he : entAt h n = some (.own b (.map ks m st))) {key : Value} (hk : ks.is key) (v : Value) :
    ∃ es clock, w.heap[b]? = some (.map es clock) ∧ GoodMap ks es clock ∧ (∀ k, m k = getM es.toList k) ∧
      ((∃ i e, findR key es.toList 0 = some (i, e.val) ∧ es[i]? = some e ∧ e.key = key ∧ GoodMap ks (es.modify i fun e => { e with key, val := v }) clock ∧ (∀ k, updM m key v k = getM (es.modify i fun e => { e with key, val := v }).toList k) ∧
          ∃ e' ∈ (es.modify i fun e => { e with key, val := v }).toList, e'.key = key ∧ e'.born = e.born) ∨
       (findR key es.toList 0 = none ∧ GoodMap ks (es.push { key, val := v, born := clock }) (clock + 1) ∧ ∀ k, updM m key v k = getM (es.push { key, val := v, born := clock }).toList k)) := by
  obtain ⟨es, clock, h1, h2, h3, -⟩ := c.map he
  refine ⟨es, clock, h1, h2, h3, ?_⟩
  have hmf : m = getM es.toList := funext h3
  subst hmf
  cases hf : findR key es.toList 0 with
  | some p =>
    obtain ⟨i, v0⟩ := p
    obtain ⟨p, e, q, h4, h5, h6, h7, h8⟩ := findR_some hf
    have hes : es = (p ++ e :: q).toArray := by rw [← h4]
    subst hes
    simp only [Nat.zero_add] at h5
    subst h5
    refine .inl ⟨p.length, e, by rw [h7], by simp, h6, ?_, fun k => ?_, ?_⟩
    · rw [modify_mid]; exact h2.modify h6
    · rw [modify_mid, List.toList_toArray, List.toList_toArray, getM_mod h6 h8]
    · rw [modify_mid]; exact ⟨{ e with key := key, val := v }, by simp, rfl, rfl⟩
  | none =>
    have := findR_none hf
    exact .inr ⟨rfl, h2.push hk this, fun k => by rw [Array.toList_push, getM_push this]⟩

theorem xmakeMap_sound (c : Ctx F h w) {t : TypeId} {r : Option Value} (hx : xmakeMap P h t r.isNone K) : Loud P F h w K (do pure (.value (← Instr.makeMap t r))) := by
  unfold xmakeMap at hx
  split at hx
  · split at hx
    · exact hx.elim
    · rename_i ks hks
      obtain ⟨hr, hx⟩ := bif_false hx
      cases r with
      | some _ => cases hr
      | none =>
        refine push_loud (o := .map #[] 0) (v := .map (some w.heap.size)) c (fun r => ?_) hx (fun r => ?_) ?_
        · exact ⟨#[], 0, rfl, ⟨by simp, by simp, by simp, by simp⟩, fun k => by simp [getM], by simp⟩
        · simp only [den, loc_new]
        · simp [Instr.makeMap]
  · exact hx.elim

theorem xmapUpdate_sound (c : Ctx F h w) {t : TypeId} {m k v : SV} {vm vk vv : Value} (hm : m ≠ .top → Std h m vm) (hk : k ≠ .top → Std h k vk) (hv : v ≠ .top → Std h v vv) (hx : xmapUpdate P h t m k v K) :
    Loud P F h w K (do Instr.mapUpdate t vm vk vv; pure .skip) := by
  unfold xmapUpdate at hx
  split at hx
  · rename_i kt et hu
    split at hx
    · rename_i n
      split at hx
      · rename_i b ks f st he
        obtain ⟨hok, hx⟩ := bif_false hx
        split at hx
        · rename_i key hkv
          obtain ⟨hnt, hx⟩ := nt_spec hx
          have hx := setK_spec hx
          obtain ⟨hks, hkd⟩ := keyVal_spec hkv
          have hkt : k ≠ .top := by
            rintro rfl
            cases ks with
            | one s => cases s <;> cases hkv
            | many l => cases hkv
          have hvk : vk = key := by rw [← hk hkt [], hkd]
          have hvm : vm = .map (some b) := by
            have := hm (by simp) []
            simp only [den, (c.blk he rfl).2 []] at this
            exact this.symm
          have hvv : vv = den (locs h) v := by have := hv hnt []; rw [List.append_nil] at this; exact this.symm
          subst hvk hvm hvv
          obtain ⟨es, clock, h1, h2, h3, h4⟩ := map_write c he hks (den (locs h) v)
          have start : ∀ r, findR vk es.toList 0 = r → (do Instr.mapUpdate t (.map (some b)) vk (den (locs h) v); pure .skip : Sem Next).run P w =
              ((match r with
                | some (i, _) => do
                  let key ← Instr.keyThatStays (((es[i]?).map (·.key)).getD vk) vk
                  setObj b (.map (es.modify i fun e => { e with key, val := den (locs h) v }) clock)
                | none => setObj b (.map (es.push { key := vk, val := den (locs h) v, born := clock }) (clock + 1)) : Sem Unit).run P w).andThen fun _ w' => .ok .skip w' := by
            intro r hr
            simp only [Instr.mapUpdate, Sem.run_bind, run_underlying' hu, Result.andThen_ok, run_getObj_map h1]
            rw [show (10000 : Nat) = 9998 + 2 from rfl, run_check hok hks, Result.andThen_ok, run_find hok hks h2.keys, Result.andThen_ok, hr]
            rfl
          rcases h4 with ⟨i, e, h5, h6, h7, h8, h9, -⟩ | ⟨h5, h6, h7⟩
          · refine ⟨_, _, .skip, undef, _, hx, Ext.set he rfl, c.setMap he h8 h9 (by simp), ⟨rfl, rfl, rfl, by simp⟩, fun h => absurd rfl h, ?_, .inr ⟨rfl, rfl⟩⟩
            rw [start _ h5]
            simp only [h6, Option.map_some, Option.getD_some, h7, Sem.run_bind, run_stays hks, Result.andThen_ok, run_setObj h1 (by simp)]
          · refine ⟨_, _, .skip, undef, _, hx, Ext.set he rfl, c.setMap he h6 h7 (by simp), ⟨rfl, rfl, rfl, by simp⟩, fun h => absurd rfl h, ?_, .inr ⟨rfl, rfl⟩⟩
            rw [start _ h5]
            simp only [run_setObj h1 (by simp), Result.andThen_ok]
        · exact hx.elim
      · exact hx.elim
    · exact hx.elim
  · exact hx.elim

theorem updM_same {m : Value → Option Value} {k v : Value} (hm : m k = some v) : updM m k v = m := by
  funext x
  unfold updM
  split
  · subst_vars; exact hm.symm
  · rfl

theorem xmapEntry_sound (c : Ctx F h w) {t : TypeId} {m k : SV} {vm vk : Value} (hm : m ≠ .top → Std h m vm) (hk : k ≠ .top → Std h k vk) (hx : xmapEntry P h t m k K) :
    Loud P F h w K (do pure (.value (← Instr.mapEntry t vm vk))) := by
  unfold xmapEntry at hx
  split at hx
  · rename_i kt et hu
    split at hx
    · exact hx.elim
    · rename_i inf hinf
      split at hx
      · exact hx.elim
      · rename_i z hz
        split at hx
        · rename_i n
          split at hx
          · rename_i b ks f st he
            obtain ⟨hok, hx⟩ := bif_false hx
            split at hx
            · rename_i key hkv
              have hz' : ∀ w, (zeroValue et).run P w = .ok z w := fun w => by simp [zeroValue, run_typeInfo' hinf, hz]
              obtain ⟨hks, hkd⟩ := keyVal_spec hkv
              have hkt : k ≠ .top := by
                rintro rfl
                cases ks with
                | one s => cases s <;> cases hkv
                | many l => cases hkv
              have hvk : vk = key := by rw [← hk hkt [], hkd]
              have hvm : vm = .map (some b) := by
                have := hm (by simp) []
                simp only [den, (c.blk he rfl).2 []] at this
                exact this.symm
              subst hvk hvm
              obtain ⟨es, clock, h1, h2, h3, h4⟩ := map_write c he hks ((f vk).getD z)
              have hf : f vk = (findR vk es.toList 0).map (·.2) := by rw [h3, findR_val]
              have start : (Instr.mapEntry t (.map (some b)) vk).run P w =
                  (match findR vk es.toList 0 with
                    | some (i, v) => do
                      let key ← Instr.keyThatStays (((es[i]?).map (·.key)).getD vk) vk
                      setObj b (.map (es.modify i fun e => { e with key }) clock)
                      pure (.tuple #[v, goInt (((es[i]?).map (·.born)).getD 0)])
                    | none => do
                      let zero ← zeroValue et
                      setObj b (.map (es.push { key := vk, val := zero, born := clock }) (clock + 1))
                      pure (.tuple #[zero, goInt clock]) : Sem Value).run P w := by
                simp only [Instr.mapEntry, Sem.run_bind, run_underlying' hu, Result.andThen_ok, run_getObj_map h1]
                rw [show (10000 : Nat) = 9998 + 2 from rfl, run_check hok hks, Result.andThen_ok, run_find hok hks h2.keys, Result.andThen_ok]
                rfl
              rcases h4 with ⟨i, e, h5, h6, h7, h8, h9, e', h10, h11, h12⟩ | ⟨h5, h6, h7⟩
              · rw [h5] at hf start
                simp only [Option.map_some] at hf
                have hmod : (es.modify i fun e => { e with key := vk }) = es.modify i fun e => { e with key := vk, val := (f vk).getD z } := by
                  apply Array.ext_getElem?
                  intro j
                  rw [Array.getElem?_modify, Array.getElem?_modify]
                  split
                  · subst_vars
                    rw [h6]
                    simp [hf]
                  · rfl
                have hx := setK_spec (hx (e.born : Int))
                refine ⟨_, _, _, .tuple #[(f vk).getD z, goInt e.born], _, hx, Ext.set he rfl, c.setMap he h8 h9 (fun k s hks' => ?_), ⟨rfl, rfl, rfl, by simp⟩, fun _ r => rfl, ?_, .inl rfl⟩
                · cases hks'
                  exact ⟨e', h10, h11, by rw [h12]⟩
                · simp only [Sem.run_bind, start, h6, Option.map_some, Option.getD_some, h7, run_stays hks, Result.andThen_ok, run_setObj h1 (o' := .map es clock) (by simp), Sem.run_pure, hmod, hf]
              · rw [h5] at hf start
                simp only [Option.map_none] at hf
                rw [hf] at h6 h7
                simp only [Option.getD_none] at h6 h7
                have hx := setK_spec (hx (clock : Int))
                rw [hf] at hx
                refine ⟨_, _, _, .tuple #[z, goInt clock], _, hx, Ext.set he rfl, c.setMap he h6 h7 (fun k s hks' => ?_), ⟨rfl, rfl, rfl, by simp⟩, fun _ r => rfl, ?_, .inl rfl⟩
                · cases hks'
                  exact ⟨{ key := vk, val := z, born := clock }, by simp, rfl, rfl⟩
                · simp only [Sem.run_bind, start, hz', Result.andThen_ok, run_setObj h1 (o' := .map es clock) (by simp), Sem.run_pure]
            · exact hx.elim
          · exact hx.elim
        · exact hx.elim
  · exact hx.elim

theorem findIdx_born {l : List MapEntry} {p : List MapEntry} {e : MapEntry} {q : List MapEntry} (hl : l = p ++ e :: q) (hn : (l.map (·.born)).Nodup) : l.findIdx? (fun x => (x.born : Int) == (e.born : Int)) = some p.length := by
  subst hl
  induction p with
  | nil => simp [List.findIdx?_cons]
  | cons x p ih =>
    have hne : x.born ≠ e.born := by
      simp only [List.cons_append, List.map_cons, List.nodup_cons] at hn
      intro h
      exact hn.1 (List.mem_map.2 ⟨e, by simp, h.symm⟩)
    have hb : ((x.born : Int) == (e.born : Int)) = false := by
      simp; omega
    have := ih (by simpa using (List.nodup_cons.1 (by simpa using hn)).2)
    simp [List.findIdx?_cons, hb, this]

theorem xentryStore_sound (c : Ctx F h w) {t : TypeId} {m s v : SV} {vm vs vv : Value} (hm : m ≠ .top → Std h m vm) (hs : s ≠ .top → Std h s vs) (hv : v ≠ .top → Std h v vv) (hx : xentryStore h m s v K) :
    Loud P F h w K (do Instr.entryStore t vm vs vv; pure .skip) := by
  unfold xentryStore at hx
  split at hx
  · rename_i n ik s
    split at hx
    · rename_i b ks f key s' he
      obtain ⟨rfl, hx⟩ := hx
      obtain ⟨hnt, hx⟩ := nt_spec hx
      have hx := setK_spec hx
      obtain ⟨⟨o, ho, hk⟩, hl⟩ := c.blk he rfl
      obtain ⟨es, clock, rfl, hg, hm', hst⟩ := hk []
      have hvm : vm = .map (some b) := by
        have := hm (by simp) []
        simp only [den, hl []] at this
        exact this.symm
      have hvs : vs = .int ik s := (hs (by simp) []).symm
      have hvv : vv = den (locs h) v := by have := hv hnt []; rw [List.append_nil] at this; exact this.symm
      subst hvm hvs hvv
      obtain ⟨e, hmem, hkey, hborn⟩ := hst key s rfl
      obtain ⟨p, q, hpq⟩ := List.append_of_mem hmem
      have hes : es = (p ++ e :: q).toArray := by rw [← hpq]
      subst hes
      have hp : ∀ x ∈ p, x.key ≠ key := by
        intro x hx' hxk
        have := hg.nodup
        simp only [List.map_append, List.map_cons, List.nodup_append] at this
        exact this.2.2 x.key (List.mem_map_of_mem hx') e.key (by simp) (by rw [hxk, hkey])
      have hfi : ((p ++ e :: q).toArray.findIdx? fun x => (x.born : Int) == s) = some p.length := by
        rw [← hborn]
        have := findIdx_born (p := p) (e := e) (q := q) rfl hg.born
        simpa using this
      have he2 : ∀ v, ({ e with val := v } : MapEntry) = { e with key := key, val := v } := fun v => by rw [hkey]
      have hmf : f = getM (p ++ e :: q) := funext hm'
      refine ⟨_, _, .skip, undef, _, hx, Ext.set he rfl, c.setMap (es := (p ++ { e with key := key, val := den (locs h) v } :: q).toArray) (clock := clock) he (hg.modify hkey) (fun k => ?_) (by simp), ⟨rfl, rfl, rfl, by simp⟩, fun h => absurd rfl h, ?_, .inr ⟨rfl, rfl⟩⟩
      · rw [List.toList_toArray, getM_mod hkey hp, hmf]
      · simp only [Instr.entryStore, Sem.run_bind, run_getObj_map ho, Result.andThen_ok, asInt, asIntOf, Sem.run_pure, hfi, modify_mid, he2, run_setObj ho (o' := .map (p ++ e :: q).toArray clock) (by simp)]
    · exact hx.elim
  · exact hx.elim

theorem xdelete_sound (c : Ctx F h w) {t : TypeId} {ts : Array TypeId} {tt : TypeId} {args : Array Value} {m k : SV} {vm vk : Value} (ht : ts[0]? = some t) (ha : args[0]? = some vm) (hb : args[1]? = some vk)
    (hm : m ≠ .top → Std h m vm) (hk : k ≠ .top → Std h k vk) (hx : xdelete P h t m k K) : Loud P F h w K (do pure (.value (← Builtin.delete_ ts tt args))) := by
  unfold xdelete at hx
  split at hx
  · rename_i kt et hu
    split at hx
    · rename_i n
      split at hx
      · rename_i b ks f st he
        obtain ⟨hok, hx⟩ := bif_false hx
        split at hx
        · rename_i key hkv
          have hx := setK_spec hx
          obtain ⟨hks, hkd⟩ := keyVal_spec hkv
          have hkt : k ≠ .top := by
            rintro rfl
            cases ks with
            | one s => cases s <;> cases hkv
            | many l => cases hkv
          have hvk : vk = key := by rw [← hk hkt [], hkd]
          have hvm : vm = .map (some b) := by
            have := hm (by simp) []
            simp only [den, (c.blk he rfl).2 []] at this
            exact this.symm
          subst hvk hvm
          obtain ⟨es, clock, h1, h2, h3, -⟩ := c.map he
          have hmf : f = getM es.toList := funext h3
          have start : (Builtin.delete_ ts tt args).run P w = ((match findR vk es.toList 0 with
              | some (i, _) => setObj b (.map (es.eraseIdxIfInBounds i) clock)
              | none => setObj b (.map es clock) : Sem Unit).run P w).andThen fun _ w' => .ok (.tuple #[]) w' := by
            simp only [Builtin.delete_, ht, ha, hb, Sem.run_bind, run_underlying' hu, Result.andThen_ok, run_getObj_map h1]
            rw [show (10000 : Nat) = 9998 + 2 from rfl, run_check hok hks, Result.andThen_ok, run_find hok hks h2.keys, Result.andThen_ok]
            cases findR vk es.toList 0 <;> simp
          cases hf : findR vk es.toList 0 with
          | some p =>
            obtain ⟨i, v0⟩ := p
            obtain ⟨p, e, q, h4, h5, h6, h7, h8⟩ := findR_some hf
            have hes : es = (p ++ e :: q).toArray := by rw [← h4]
            subst hes
            simp only [Nat.zero_add] at h5
            subst h5
            have her : ((p ++ e :: q).toArray.eraseIdxIfInBounds p.length) = (p ++ q).toArray := by
              apply Array.toList_inj.1
              simp [List.eraseIdx_append_of_length_le]
            have hq : ∀ x ∈ q, x.key ≠ vk := by
              intro x hx' hxk
              have := h2.nodup
              simp only [List.map_append, List.map_cons, List.nodup_append, List.nodup_cons] at this
              exact this.2.1.1 (by rw [h6, ← hxk]; exact List.mem_map_of_mem hx')
            refine ⟨_, _, _, .tuple #[], _, hx, Ext.set he rfl, c.setMap (es := (p ++ q).toArray) (clock := clock) he (h2.sub (by simp)) (fun k => ?_) (by simp), ⟨rfl, rfl, rfl, by simp⟩, fun _ r => rfl, ?_, .inl rfl⟩
            · rw [List.toList_toArray, getM_del h6 h8 hq, hmf]
            · simp only [Sem.run_bind, start, hf, her, run_setObj h1 (o' := .map (p ++ e :: q).toArray clock) (by simp), Result.andThen_ok, Sem.run_pure]
          | none =>
            have := findR_none hf
            refine ⟨_, _, _, .tuple #[], _, hx, Ext.set he rfl, c.setMap (es := es) (clock := clock) he h2 (fun k => ?_) (by simp), ⟨rfl, rfl, rfl, by simp⟩, fun _ r => rfl, ?_, .inl rfl⟩
            · rw [hmf, ← delM_none this]
            · simp only [Sem.run_bind, start, hf, run_setObj h1 (o' := .map es clock) (by simp), Result.andThen_ok, Sem.run_pure]
        · exact hx.elim
      · exact hx.elim
    · exact hx.elim
  · exact hx.elim

end
end Go.Sx
