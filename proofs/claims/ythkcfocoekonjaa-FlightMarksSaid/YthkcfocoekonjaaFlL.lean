/- Flights: the sums that a Sack takes from. -/
import Derived.Test.YthkcfocoekonjaaFlP
set_option maxRecDepth 100000
set_option linter.unusedVariables false
set_option linter.unusedSimpArgs false
namespace Go.Proofs.Ythkcfocoekonjaa
open Go Go.Sx
attribute [local irreducible] Go.Sx.xrun

/-! The law's sums. -/
def openB (p : Pc) : Bool := p.how == 0 || p.how == 1
theorem openB_iff (p : Pc) : openB p = true ↔ p.how = 0 ∨ p.how = 1 := by simp [openB]
def oLen (p : Pc) : Int := if openB p then (p.len : Int) else 0
def oOne (p : Pc) : Int := if openB p then 1 else 0
def allF (ps : List Pc) : Int := (ps.map oLen).sum
def cntF (ps : List Pc) : Int := (ps.map oOne).sum
theorem leftF_eq (ps : List Pc) : leftF ps = cntF ps := by
  unfold leftF cntF
  congr 1
  refine List.map_congr_left fun p _ => ?_
  unfold oOne openP
  by_cases h : p.how = 0 ∨ p.how = 1
  · rw [if_pos h, if_pos ((openB_iff p).2 h)]
  · rw [if_neg h, if_neg (fun h' => h ((openB_iff p).1 h'))]
def lensOk (ps : List Pc) : Prop := ∀ p ∈ ps, 1 ≤ p.len ∧ p.len ≤ 256
theorem sum_set (g : Pc → Int) : ∀ (l : List Pc) (i : Nat) (p q : Pc), l[i]? = some p → ((l.set i q).map g).sum = (l.map g).sum - g p + g q
  | [], i, p, q, h => by simp at h
  | a :: r, 0, p, q, h => by
    simp at h
    subst h
    simp only [List.set, List.map_cons, List.sum_cons]
    omega
  | a :: r, i + 1, p, q, h => by
    have := sum_set g r i p q (by simpa using h)
    simp only [List.set, List.map_cons, List.sum_cons, this]
    omega
theorem allF_pos {ps : List Pc} (h : lensOk ps) : 0 ≤ allF ps ∧ allF ps ≤ ps.length * 256 := sum_lim oLen fun p hp => by
  have := h p hp
  unfold oLen
  split <;> omega
theorem cntF_pos (ps : List Pc) : 0 ≤ cntF ps := (sum_lim (m := 1) oOne fun p hp => by unfold oOne; split <;> omega).1
theorem zero_iff : ∀ {ps : List Pc}, lensOk ps → (cntF ps = 0 ↔ allF ps = 0)
  | [], _ => by simp [cntF, allF]
  | p :: r, h => by
    have hr : lensOk r := fun q hq => h q (by simp [hq])
    have ih := zero_iff hr
    have h1 := allF_pos hr
    have h2 := cntF_pos r
    have h3 := h p (by simp)
    unfold cntF allF at *
    simp only [List.map_cons, List.sum_cons, oLen, oOne] at *
    split <;> omega
theorem lensOk_set {ps : List Pc} (h : lensOk ps) {k : Nat} {p q : Pc} (hp : ps[k]? = some p) (hq : q.len = p.len) : lensOk (ps.set k q) := by
  intro x hx
  rcases List.mem_or_eq_of_mem_set hx with hx | rfl
  · exact h x hx
  · rw [hq]; exact h p (List.mem_of_getElem? hp)
/-- What holds within a Sack's run. -/
structure AInv (ps0 : List Pc) (s : AS) : Prop where
  lens : lensOk s.ps
  bytes : s.bytes = allF ps0 - allF s.ps
  cnt : cntF s.ps ≤ cntF ps0
  le : allF s.ps ≤ allF ps0
  len : s.ps.length = ps0.length
theorem arr1_inv {ps0 : List Pc} (h0 : lensOk ps0) (hl : ps0.length < 1000000) {now : Int} {s : AS} (h : AInv ps0 s) (k : Nat) : AInv ps0 (arr1 now s k) := by
  obtain ⟨g1, g2, g3, g4, g5⟩ := h
  unfold arr1
  split
  · exact ⟨g1, g2, g3, g4, g5⟩
  · rename_i p hp
    split
    · exact ⟨g1, g2, g3, g4, g5⟩
    · rename_i hn2
      have e1 := sum_set oLen s.ps k p { p with how := 2 } hp
      have e2 := sum_set oOne s.ps k p { p with how := 2 } hp
      have z1 : oLen { p with how := 2 } = 0 := by simp [oLen, openB]
      have z2 : oOne { p with how := 2 } = 0 := by simp [oOne, openB]
      rw [z1] at e1
      rw [z2] at e2
      have hlen := g1 p (List.mem_of_getElem? hp)
      have b1 := allF_pos g1
      have b2 := allF_pos h0
      split
      · rename_i ho
        have ob := (openB_iff p).2 ho
        have y1 : oLen p = p.len := by simp [oLen, ob]
        have y2 : oOne p = 1 := by simp [oOne, ob]
        rw [y1] at e1
        rw [y2] at e2
        have le2 := allF_pos (lensOk_set (q := { p with how := 2 }) g1 hp rfl)
        unfold allF cntF at *
        refine ⟨lensOk_set g1 hp rfl, ?_, ?_, ?_, by simpa using g5⟩
        · show IntKind.wrap .i64 _ = _
          rw [IntKind.wrap_i64]
          unfold allF
          simp only at e1 ⊢
          omega
        · show ((s.ps.set k _).map oOne).sum ≤ (ps0.map oOne).sum
          omega
        · show ((s.ps.set k _).map oLen).sum ≤ (ps0.map oLen).sum
          omega
      · rename_i ho
        have ob : openB p = false := by
          cases hb : openB p with
          | true => exact absurd ((openB_iff p).1 hb) ho
          | false => rfl
        have y1 : oLen p = 0 := by simp [oLen, ob]
        have y2 : oOne p = 0 := by simp [oOne, ob]
        rw [y1] at e1
        rw [y2] at e2
        unfold allF cntF at *
        refine ⟨lensOk_set g1 hp rfl, ?_, ?_, ?_, by simpa using g5⟩
        · show s.bytes = (ps0.map oLen).sum - ((s.ps.set k _).map oLen).sum
          omega
        · show ((s.ps.set k _).map oOne).sum ≤ (ps0.map oOne).sum
          omega
        · show ((s.ps.set k _).map oLen).sum ≤ (ps0.map oLen).sum
          omega
theorem fold_inv {ps0 : List Pc} (h0 : lensOk ps0) (hl : ps0.length < 1000000) {now : Int} : ∀ (l : List Nat) (s : AS), AInv ps0 s → AInv ps0 (l.foldl (arr1 now) s)
  | [], s, h => h
  | k :: r, s, h => fold_inv h0 hl r _ (arr1_inv h0 hl h k)
theorem arr1_done {now : Int} {s : AS} {k j : Nat} {p : Pc} (h : (arr1 now s k).ps[j]? = some p) : p.how = 2 ∨ (s.ps[j]? = some p ∧ (j ≠ k ∨ p.how = 2)) := by
  unfold arr1 at h
  split at h
  · rename_i hk
    refine .inr ⟨h, .inl ?_⟩
    rintro rfl
    rw [hk] at h; cases h
  · rename_i q hq
    have set_case : ∀ q' : Pc, q'.how = 2 → (s.ps.set k q')[j]? = some p → p.how = 2 ∨ (s.ps[j]? = some p ∧ (j ≠ k ∨ p.how = 2)) := fun q' hq' h => by
      by_cases e : k = j
      · subst e
        rw [List.getElem?_set_self (List.getElem?_eq_some_iff.1 hq).1] at h
        cases h
        exact .inl hq'
      · rw [List.getElem?_set_ne e] at h
        exact .inr ⟨h, .inl (Ne.symm e)⟩
    split at h
    · rename_i h2
      by_cases e : k = j
      · subst e
        rw [hq] at h
        cases h
        exact .inl h2
      · exact .inr ⟨h, .inl (Ne.symm e)⟩
    · split at h
      · exact set_case _ rfl h
      · exact set_case _ rfl h
theorem fold_keeps {now : Int} : ∀ (l : List Nat) (s : AS) (j : Nat), (∀ p, s.ps[j]? = some p → p.how = 2) → ∀ p, (l.foldl (arr1 now) s).ps[j]? = some p → p.how = 2
  | [], s, j, h => h
  | k :: r, s, j, h => fold_keeps r _ j fun p hp => by
    rcases arr1_done hp with h1 | ⟨h1, -⟩
    · exact h1
    · exact h p h1
theorem fold_done {now : Int} : ∀ (l : List Nat) (s : AS) (j : Nat), j ∈ l → ∀ p, (l.foldl (arr1 now) s).ps[j]? = some p → p.how = 2
  | [], s, j, h => by simp at h
  | k :: r, s, j, h => by
    by_cases e : j = k
    · subst e
      refine fold_keeps r _ j fun p hp => ?_
      rcases arr1_done hp with h1 | ⟨h1, h2 | h2⟩
      · exact h1
      · exact absurd rfl h2
      · exact h2
    · exact fold_done r _ j (by simpa [e] using h)
structure MInv (ps0 ps : List Pc) : Prop where
  lens : lensOk ps
  all : allF ps = allF ps0
  cnt : cntF ps = cntF ps0
  len : ps.length = ps0.length
  done : ∀ (j : Nat) (p q : Pc), ps0[j]? = some p → ps[j]? = some q → p.how = 2 → q.how = 2
theorem mis1_inv {ps0 : List Pc} {s : List Pc × Bool} (h : MInv ps0 s.1) (k : Nat) : MInv ps0 (mis1 s k).1 := by
  obtain ⟨g1, g2, g3, g4, g5⟩ := h
  unfold mis1
  split
  · exact ⟨g1, g2, g3, g4, g5⟩
  · rename_i p hp
    split
    · rename_i h0
      have ob := (openB_iff p).2 (.inl h0)
      have key : ∀ q : Pc, q.len = p.len → openB q = true → MInv ps0 (s.1.set k q) := fun q hq oq => by
        have e1 := sum_set oLen s.1 k p q hp
        have e2 := sum_set oOne s.1 k p q hp
        have y1 : oLen p = p.len := by simp [oLen, ob]
        have y2 : oOne p = 1 := by simp [oOne, ob]
        have y3 : oLen q = p.len := by simp [oLen, oq, hq]
        have y4 : oOne q = 1 := by simp [oOne, oq]
        rw [y1, y3] at e1
        rw [y2, y4] at e2
        unfold allF cntF at *
        refine ⟨lensOk_set g1 hp hq, by show ((s.1.set k q).map oLen).sum = (ps0.map oLen).sum; omega, by show ((s.1.set k q).map oOne).sum = (ps0.map oOne).sum; omega, by simpa using g4, fun j a b ha hb h2 => ?_⟩
        by_cases e : k = j
        · subst e
          have := g5 k a p ha hp h2
          omega
        · rw [List.getElem?_set_ne e] at hb
          exact g5 j a b ha hb h2
      split
      · exact key _ rfl (by simp [openB])
      · exact key _ rfl (by simpa [openB] using Or.inl h0)
    · exact ⟨g1, g2, g3, g4, g5⟩
theorem misS_inv {ps0 : List Pc} : ∀ (l : List Nat) (s : List Pc × Bool), MInv ps0 s.1 → MInv ps0 (l.foldl mis1 s).1
  | [], s, h => h
  | k :: r, s, h => misS_inv r _ (mis1_inv h k)
theorem sum_drop {g : Pc → Int} {ps : List Pc} {n : Nat} (h : ∀ j p, j < n → ps[j]? = some p → g p = 0) : ((ps.drop n).map g).sum = (ps.map g).sum := by
  have e : (ps.map g).sum = ((ps.take n).map g).sum + ((ps.drop n).map g).sum := by
    conv => lhs; rw [← List.take_append_drop n ps]
    rw [List.map_append, List.sum_append]
  have z : ((ps.take n).map g).sum = 0 := by
    have := sum_lim g (l := ps.take n) (m := 0) fun p hp => by
      obtain ⟨j, hj⟩ := List.getElem?_of_mem hp
      have hjn : j < n := by
        have := (List.getElem?_eq_some_iff.1 hj).1
        rw [List.length_take] at this
        omega
      rw [List.getElem?_take_of_lt hjn] at hj
      rw [h j p hjn hj]
      omega
    omega
  omega
/-- What a Sack that is not bad leaves. -/
theorem ackG_law {f : Fl} {s : Sk} {gs : List (Int × Int)} {now : Int} (h : lensOk f.ps) (hl : f.ps.length < 1000000) (hn : ackN f s ≤ f.ps.length) :
    (ackG f s gs now).f.mark = s.tsn ∧ (ackG f s gs now).f.ps.length = f.ps.length - ackN f s ∧ lensOk (ackG f s gs now).f.ps ∧ allF (ackG f s gs now).f.ps = allF f.ps - (ackG f s gs now).bytes ∧ cntF (ackG f s gs now).f.ps ≤ cntF f.ps ∧ 0 ≤ (ackG f s gs now).bytes := by
  have i1 : AInv f.ps (ackS now f.ps (idxs (ackN f s) gs)) := fold_inv h hl _ _ ⟨h, by show (0 : Int) = allF f.ps - allF f.ps; omega, Int.le_refl _, Int.le_refl _, rfl⟩
  have i2 : MInv (ackS now f.ps (idxs (ackN f s) gs)).ps (misS (ackS now f.ps (idxs (ackN f s) gs)).ps (max (ackS now f.ps (idxs (ackN f s) gs)).top 0).toNat).1 := misS_inv _ _ ⟨i1.lens, rfl, rfl, rfl, fun j a b ha hb h2 => by rw [ha] at hb; cases hb; exact h2⟩
  have hd : ∀ j p, j < ackN f s → (misS (ackS now f.ps (idxs (ackN f s) gs)).ps (max (ackS now f.ps (idxs (ackN f s) gs)).top 0).toNat).1[j]? = some p → p.how = 2 := fun j p hj hp => by
    have hlt : j < (ackS now f.ps (idxs (ackN f s) gs)).ps.length := by rw [i1.len]; omega
    obtain ⟨a, ha⟩ : ∃ a, (ackS now f.ps (idxs (ackN f s) gs)).ps[j]? = some a := ⟨_, List.getElem?_eq_getElem hlt⟩
    have h2 := fold_done (now := now) (idxs (ackN f s) gs) ⟨f.ps, 0, -1, -1⟩ j (by unfold idxs; exact List.mem_append_left _ (List.mem_range.2 hj)) a ha
    exact i2.done j a p ha hp h2
  have z : ∀ p : Pc, p.how = 2 → oLen p = 0 ∧ oOne p = 0 := fun p hp => by simp [oLen, oOne, openB, hp]
  have d1 := sum_drop (g := oLen) (n := ackN f s) fun j p hj hp => (z p (hd j p hj hp)).1
  have d2 := sum_drop (g := oOne) (n := ackN f s) fun j p hj hp => (z p (hd j p hj hp)).2
  have b1 := i1.bytes
  have b2 := i2.all
  have b3 := i2.cnt
  have b4 := i1.cnt
  have b5 := i1.le
  refine ⟨rfl, ?_, fun p hp => i2.lens p (List.mem_of_mem_drop hp), ?_, ?_, ?_⟩
  · show (List.drop _ _).length = _
    rw [List.length_drop, i2.len, i1.len]
  · show ((List.drop _ _).map oLen).sum = _
    rw [d1]
    unfold allF at *
    show _ = _ - (ackS now f.ps (idxs (ackN f s) gs)).bytes
    omega
  · show ((List.drop _ _).map oOne).sum ≤ _
    rw [d2]
    unfold cntF at *
    omega
  · show 0 ≤ (ackS now f.ps (idxs (ackN f s) gs)).bytes
    omega
end Go.Proofs.Ythkcfocoekonjaa
