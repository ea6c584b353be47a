/- Drop: what it comes to. -/
import Derived.Test.YthkcfocoekonjaaDrG
set_option maxRecDepth 100000
set_option linter.unusedVariables false
set_option linter.unusedSimpArgs false
namespace Go.Proofs.Ythkcfocoekonjaa
open Go Go.Sx
attribute [local irreducible] Go.Sx.xrun

/-! What a drop comes to. -/
noncomputable def keepL (id : Int) (l : Int × List QItem) : Int × List QItem := (l.1, keepI id l.2)
def neL (l : Int × List QItem) : Bool := decide (l.2 ≠ [])
noncomputable def dOne (id : Int) (inter : Bool) (a : Int × List Dc) (l : Int × List QItem) : Int × List Dc := ((dL ⟨id, a.1, l.1, inter, a.2⟩ l.2).n, (dL ⟨id, a.1, l.1, inter, a.2⟩ l.2).ds)
noncomputable def dAll (id : Int) (inter : Bool) (a : Int × List Dc) (ls : List (Int × List QItem)) : Int × List Dc := ls.foldl (dOne id inter) a
noncomputable def DSt.with (d : DSt) (ls : List (Int × List QItem)) (h : Bool) (a : Int × List Dc) : DSt := ⟨{ d.q with lines := ls, held := h }, a.1, a.2⟩
theorem keepI_idem (id : Int) (l : List QItem) : keepI id (keepI id l) = keepI id l := by simp [keepI]
theorem dOne_miss {id : Int} {inter : Bool} {a : Int × List Dc} {l : Int × List QItem} (h : ∀ it ∈ l.2, it.id ≠ id) : dOne id inter a l = a := by
  have := dL_miss (x := ⟨id, a.1, l.1, inter, a.2⟩) h
  unfold dOne
  rw [this]
theorem keep_no {id : Int} {l : List QItem} : ∀ it ∈ keepI id l, it.id ≠ id := fun it h => by
  have := List.mem_filter.1 h
  simpa using this.2
theorem go_end {id : Int} : ∀ (k : Nat) {d : DSt} {i : Nat}, d.q.lines.length ≤ i → dropGo id k d i = d
  | 0, d, i, h => rfl
  | k + 1, d, i, h => by rw [dropGo, if_neg (by omega)]
theorem go_run {id : Int} : ∀ (B A : List (Int × List QItem)) (k : Nat) (d : DSt), d.q.lines = A ++ B → (d.q.held = true → 0 < A.length) → B.length ≤ k →
    dropGo id k d A.length = d.with (A ++ (B.map (keepL id)).filter neL) d.q.held (dAll id d.q.inter (d.n, d.ds) B)
  | [], A, k, d, hl, hh, hk => by
    rw [go_end k (by rw [hl]; simp)]
    unfold DSt.with dAll
    rw [List.map_nil, List.filter_nil, ← hl]
    rfl
  | l :: B, A, 0, d, hl, hh, hk => by simp at hk
  | l :: B, A, k + 1, d, hl, hh, hk => by
    have hlt : A.length < d.q.lines.length := by rw [hl]; simp
    have hla : lineAt d.q A.length = l := by simp [lineAt, List.getD_eq_getElem?_getD, hl]
    have hsv : servedAt d.q id A.length = false := by
      unfold servedAt
      cases hb : d.q.held with
      | false => rfl
      | true =>
        have := hh hb
        simp [pbool, show A.length ≠ 0 by omega]
    have hx : d.x id A.length = dL ⟨id, d.n, l.1, d.q.inter, d.ds⟩ l.2 := by unfold DSt.x; rw [hla]
    rw [dropGo, if_pos hlt]
    unfold dropStep
    simp only [hla, hsv, hx]
    have hset : d.q.lines.set A.length (l.1, keepI id l.2) = (A ++ [keepL id l]) ++ B := by rw [hl]; simp [keepL]
    have her : d.q.lines.eraseIdx A.length = A ++ B := by rw [hl]; simp [List.eraseIdx_append_of_length_le]
    simp only [List.length_cons] at hk
    by_cases hkp : keepI id l.2 = []
    · rw [if_pos hkp]
      simp only [Bool.false_eq_true, if_false, her]
      have := go_run (id := id) B A k ⟨{ d.q with lines := A ++ B }, (dL ⟨id, d.n, l.1, d.q.inter, d.ds⟩ l.2).n, (dL ⟨id, d.n, l.1, d.q.inter, d.ds⟩ l.2).ds⟩ rfl hh (by omega)
      rw [this]
      have e : (((l :: B).map (keepL id)).filter neL) = (B.map (keepL id)).filter neL := by
        rw [List.map_cons, List.filter_cons_of_neg (by simp [neL, keepL, hkp])]
      rw [e]
      rfl
    · rw [if_neg hkp]
      simp only [Bool.false_eq_true, if_false, hset]
      have := go_run (id := id) B (A ++ [keepL id l]) k ⟨{ d.q with lines := (A ++ [keepL id l]) ++ B }, (dL ⟨id, d.n, l.1, d.q.inter, d.ds⟩ l.2).n, (dL ⟨id, d.n, l.1, d.q.inter, d.ds⟩ l.2).ds⟩ rfl (fun _ => by simp) (by omega)
      rw [List.length_append, List.length_singleton] at this
      rw [this]
      have e : (((l :: B).map (keepL id)).filter neL) = keepL id l :: (B.map (keepL id)).filter neL := by
        rw [List.map_cons, List.filter_cons_of_pos (by simp [neL, keepL, hkp])]
      rw [e]
      simp only [List.append_assoc, List.singleton_append]
      rfl
noncomputable def over (q : SQ) (id : Int) : Bool := servedAt q id 0
/-- The lines that are left. -/
noncomputable def dropLines (q : SQ) (id : Int) : List (Int × List QItem) :=
  if over q id then ((q.lines.drop 1).map (keepL id)).filter neL ++ ((q.lines.take 1).map (keepL id)).filter neL else (q.lines.map (keepL id)).filter neL
theorem dropF_eq (q : SQ) (id : Int) (hne : ∀ l ∈ q.lines, l.2 ≠ []) : dropF q id = ⟨{ q with lines := dropLines q id, held := !over q id && q.held, all := IntKind.wrap .i64 (q.all - (dAll id q.inter (0, []) q.lines).1) }, (dAll id q.inter (0, []) q.lines).1, (dAll id q.inter (0, []) q.lines).2⟩ := by
  have key : dropGo id (q.lines.length + 1) ⟨q, 0, []⟩ 0 = (⟨q, 0, []⟩ : DSt).with (dropLines q id) (!over q id && q.held) (dAll id q.inter (0, []) q.lines) := by
    by_cases hh : q.held = true
    · cases hq : q.lines with
      | nil =>
        rw [go_end _ (by rw [hq]; simp)]
        have ho : over q id = false := by simp [over, servedAt, lineAt, hq, pbool]
        unfold dropLines DSt.with
        rw [ho, hq]
        simp only [dAll, List.map_nil, List.filter_nil, List.foldl_nil]
        rw [← hq]
        cases q
        simp only at hh
        subst hh
        rfl
      | cons l rest =>
        have hla : lineAt q 0 = l := by simp [lineAt, hq]
        have hx : (⟨q, 0, []⟩ : DSt).x id 0 = dL ⟨id, 0, l.1, q.inter, []⟩ l.2 := by unfold DSt.x; rw [hla]
        rw [List.length_cons, dropGo, if_pos (by rw [hq]; simp)]
        unfold dropStep
        simp only [hla, hx]
        by_cases ho : over q id = true
        · have hsv : servedAt q id 0 = true := ho
          simp only [hsv, if_true]
          by_cases hkp : keepI id l.2 = []
          · rw [if_pos hkp]
            have := go_run (id := id) rest [] (rest.length + 1) ⟨{ q with lines := q.lines.eraseIdx 0, held := false }, (dL ⟨id, 0, l.1, q.inter, []⟩ l.2).n, (dL ⟨id, 0, l.1, q.inter, []⟩ l.2).ds⟩ (by simp [hq]) (fun h => by simp at h) (by omega)
            rw [List.length_nil] at this
            rw [this]
            unfold DSt.with dropLines
            rw [ho, if_pos rfl, hq]
            simp only [List.drop_succ_cons, List.drop_zero, List.take_succ_cons, List.take_zero, List.map_cons, List.map_nil]
            rw [List.filter_cons_of_neg (by simp [neL, keepL, hkp])]
            simp only [List.filter_nil, List.append_nil, List.nil_append]
            rfl
          · rw [if_neg hkp]
            have := go_run (id := id) (rest ++ [keepL id l]) [] (rest.length + 1) ⟨{ q with lines := q.lines.drop 1 ++ [(l.1, keepI id l.2)], held := false }, (dL ⟨id, 0, l.1, q.inter, []⟩ l.2).n, (dL ⟨id, 0, l.1, q.inter, []⟩ l.2).ds⟩ (by simp [hq, keepL]) (fun h => by simp at h) (by simp)
            rw [List.length_nil] at this
            rw [this]
            unfold DSt.with dropLines
            rw [ho, if_pos rfl, hq]
            have e1 : keepL id (keepL id l) = keepL id l := by unfold keepL; rw [keepI_idem]
            have e2 : dAll id q.inter ((dL ⟨id, 0, l.1, q.inter, []⟩ l.2).n, (dL ⟨id, 0, l.1, q.inter, []⟩ l.2).ds) (rest ++ [keepL id l]) = dAll id q.inter (0, []) (l :: rest) := by
              unfold dAll
              rw [List.foldl_append, List.foldl_cons, List.foldl_nil, dOne_miss (l := keepL id l) keep_no]
              rfl
            simp only [List.drop_succ_cons, List.drop_zero, List.take_succ_cons, List.take_zero, List.map_cons, List.map_nil, List.map_append, List.filter_append, e1, e2]
            simp only [List.nil_append]
            rfl
        · have hsv : servedAt q id 0 = false := by
            cases h : servedAt q id 0 with
            | false => rfl
            | true => exact absurd h ho
          have ho' : over q id = false := hsv
          simp only [hsv, Bool.false_eq_true, if_false]
          have hkp : keepI id l.2 ≠ [] := by
            intro e
            cases hl2 : l.2 with
            | nil => exact hne l (by rw [hq]; simp) hl2
            | cons it r =>
              have : it.id ≠ id := by
                intro e2
                have : servedAt q id 0 = true := by
                  unfold servedAt
                  rw [hh, hla, hl2]
                  simp only [pbool, Bool.true_and, decide_eq_true_eq]
                  exact ⟨trivial, it, r, rfl, e2⟩
                rw [hsv] at this
                cases this
              rw [hl2] at e
              simp [keepI, this] at e
          rw [if_neg hkp]
          have := go_run (id := id) rest [keepL id l] (rest.length + 1) ⟨{ q with lines := q.lines.set 0 (l.1, keepI id l.2) }, (dL ⟨id, 0, l.1, q.inter, []⟩ l.2).n, (dL ⟨id, 0, l.1, q.inter, []⟩ l.2).ds⟩ (by simp [hq, keepL]) (fun _ => by simp) (by omega)
          rw [List.length_singleton] at this
          rw [this]
          unfold DSt.with dropLines
          rw [ho', hq]
          simp only [Bool.false_eq_true, if_false, List.map_cons]
          rw [List.filter_cons_of_pos (by simp [neL, keepL, hkp]), List.singleton_append]
          simp [hh]
          exact ⟨rfl, rfl⟩
    · have hh' : q.held = false := by simpa using hh
      have ho : over q id = false := by simp [over, servedAt, hh']
      have := go_run (id := id) q.lines [] (q.lines.length + 1) ⟨q, 0, []⟩ rfl (fun h => absurd h hh) (by omega)
      rw [List.length_nil] at this
      rw [this]
      unfold dropLines
      rw [ho]
      simp only [Bool.false_eq_true, if_false, List.nil_append]
      simp [hh']
  unfold dropF
  simp only [key]
  rfl
/-! What a drop does to the messages. -/
def allI (q : SQ) : List QItem := q.lines.flatMap Prod.snd
noncomputable def bsum (id : Int) (l : List QItem) : Nat := ((l.filter fun it => decide (it.id = id)).map fun it => it.body.length).sum
def tsum (l : List QItem) : Nat := (l.map fun it => it.body.length).sum
theorem tsum_split (id : Int) (l : List QItem) : tsum l = tsum (keepI id l) + bsum id l := by
  induction l with
  | nil => rfl
  | cons a r ih =>
    unfold tsum keepI bsum at *
    by_cases h : a.id = id
    · rw [List.filter_cons_of_neg (by simp [h]), List.filter_cons_of_pos (by simp [h])]
      simp only [List.map_cons, List.sum_cons]
      omega
    · rw [List.filter_cons_of_pos (by simp [h]), List.filter_cons_of_neg (by simp [h])]
      simp only [List.map_cons, List.sum_cons]
      omega
theorem bsum_cons (id : Int) (a : QItem) (r : List QItem) : bsum id (a :: r) = (if a.id = id then a.body.length else 0) + bsum id r := by
  unfold bsum
  by_cases h : a.id = id
  · rw [List.filter_cons_of_pos (by simp [h]), if_pos h]; simp
  · rw [List.filter_cons_of_neg (by simp [h]), if_neg h]; simp
theorem bsum_append (id : Int) (a b : List QItem) : bsum id (a ++ b) = bsum id a + bsum id b := by
  unfold bsum; simp [List.filter_append]
theorem bsum_perm {id : Int} {a b : List QItem} (h : a.Perm b) : bsum id a = bsum id b := by
  unfold bsum
  exact ((h.filter _).map _).sum_nat
theorem tsum_perm {a b : List QItem} (h : a.Perm b) : tsum a = tsum b := (h.map _).sum_nat
theorem bsum_le (id : Int) (l : List QItem) : bsum id l ≤ tsum l := by rw [tsum_split id l]; omega
theorem dL_n : ∀ (l : List QItem) (x : DS), 0 ≤ x.n → x.n + tsum l ≤ 1000000000 → (dL x l).n = x.n + bsum x.k l
  | [], x, h1, h2 => by simp [dL, bsum]
  | it :: r, x, h1, h2 => by
    have e : dL x (it :: r) = dL (dF x it) r := rfl
    have e2 : tsum (it :: r) = it.body.length + tsum r := by simp [tsum]
    rw [e, bsum_cons]
    by_cases h : it.id = x.k
    · have hn : (dF x it).n = x.n + it.body.length := by
        unfold dF
        rw [if_pos h]
        show IntKind.wrap .i64 (x.n + it.body.length) = _
        rw [IntKind.wrap_i64]; omega
      have := dL_n r (dF x it) (by omega) (by omega)
      rw [this, hn, dF_k, if_pos h]
      omega
    · have e3 : dF x it = x := by rw [dF, if_neg h]
      rw [e3, if_neg h, dL_n r x h1 (by omega)]
      omega
theorem dAll_n (id : Int) (inter : Bool) : ∀ (ls : List (Int × List QItem)) (a : Int × List Dc), 0 ≤ a.1 → a.1 + tsum (ls.flatMap Prod.snd) ≤ 1000000000 → (dAll id inter a ls).1 = a.1 + bsum id (ls.flatMap Prod.snd)
  | [], a, h1, h2 => by simp [dAll, bsum]
  | l :: r, a, h1, h2 => by
    have e : dAll id inter a (l :: r) = dAll id inter (dOne id inter a l) r := rfl
    rw [List.flatMap_cons] at h2 ⊢
    have e2 : tsum (l.2 ++ r.flatMap Prod.snd) = tsum l.2 + tsum (r.flatMap Prod.snd) := by simp [tsum]
    have e3 : (dOne id inter a l).1 = a.1 + bsum id l.2 := dL_n l.2 ⟨id, a.1, l.1, inter, a.2⟩ h1 (by simp only; omega)
    have e4 := bsum_le id l.2
    rw [e, bsum_append, dAll_n id inter r _ (by omega) (by omega), e3]
    omega
theorem flat_ne (ls : List (Int × List QItem)) : (ls.filter neL).flatMap Prod.snd = ls.flatMap Prod.snd := by
  induction ls with
  | nil => rfl
  | cons l r ih =>
    by_cases h : l.2 = []
    · rw [List.filter_cons_of_neg (by simp [neL, h]), List.flatMap_cons, h, ih]; rfl
    · rw [List.filter_cons_of_pos (by simp [neL, h]), List.flatMap_cons, List.flatMap_cons, ih]
theorem flat_keep (id : Int) (ls : List (Int × List QItem)) : (ls.map (keepL id)).flatMap Prod.snd = keepI id (ls.flatMap Prod.snd) := by
  induction ls with
  | nil => rfl
  | cons l r ih =>
    rw [List.map_cons, List.flatMap_cons, ih, List.flatMap_cons]
    unfold keepI keepL
    rw [List.filter_append]
    rfl
theorem drop_items (q : SQ) (id : Int) : ((dropLines q id).flatMap Prod.snd).Perm (keepI id (allI q)) := by
  unfold dropLines allI
  split
  · rw [List.flatMap_append, flat_ne, flat_ne, flat_keep, flat_keep]
    refine List.perm_append_comm.trans ?_
    unfold keepI
    rw [← List.filter_append, ← List.flatMap_append, List.take_append_drop]
  · rw [flat_ne, flat_keep]
theorem drop_ne (q : SQ) (id : Int) : ∀ l ∈ dropLines q id, l.2 ≠ [] := by
  intro l hl
  have : neL l = true := by
    unfold dropLines at hl
    split at hl
    · rcases List.mem_append.1 hl with hl | hl
      · exact (List.mem_filter.1 hl).2
      · exact (List.mem_filter.1 hl).2
    · exact (List.mem_filter.1 hl).2
  simpa [neL] using this
end Go.Proofs.Ythkcfocoekonjaa
