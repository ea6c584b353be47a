/- Timers: a heap of pairs, its two ways of mending, and the sorted list that it stands for. No program in sight. -/
import Init.Data.List.Nat.Perm
set_option linter.unusedVariables false
set_option linter.unusedSimpArgs false
namespace Go.Proofs.Ythkcfocoekonjaa

abbrev Row := Int × Int
def rlt (a b : Row) : Prop := a.1 < b.1 ∨ (a.1 = b.1 ∧ a.2 < b.2)
def rle (a b : Row) : Prop := a.1 < b.1 ∨ (a.1 = b.1 ∧ a.2 ≤ b.2)
theorem not_rlt {a b : Row} : ¬ rlt b a ↔ rle a b := by unfold rlt rle; omega
theorem rle_of_lt {a b : Row} (h : rlt a b) : rle a b := by unfold rlt at h; unfold rle; omega
theorem rle_refl (a : Row) : rle a a := by unfold rle; omega
theorem rle_trans {a b c : Row} (h : rle a b) (k : rle b c) : rle a c := by unfold rle at *; omega
theorem rle_antisymm {a b : Row} (h : rle a b) (k : rle b a) : a = b := by
  obtain ⟨a1, a2⟩ := a
  obtain ⟨b1, b2⟩ := b
  unfold rle at *
  simp only at h k
  have : a1 = b1 := by omega
  have : a2 = b2 := by omega
  simp [*]

def gq (q : List Row) (k : Nat) : Row := q.getD k (0, 0)
theorem gq_eq {q : List Row} {k : Nat} (h : k < q.length) : gq q k = q[k] := by simp [gq, List.getD, List.getElem?_eq_getElem h]
def sw (q : List Row) (i j : Nat) : List Row := (q.set i (gq q j)).set j (gq q i)
theorem sw_len (q : List Row) (i j : Nat) : (sw q i j).length = q.length := by simp [sw]
theorem sw_perm {q : List Row} {i j : Nat} (hi : i < q.length) (hj : j < q.length) : (sw q i j).Perm q := by
  unfold sw
  rw [gq_eq hi, gq_eq hj]
  exact List.set_set_perm hi hj
theorem sw_get {q : List Row} {i j : Nat} (hi : i < q.length) (hj : j < q.length) (k : Nat) : gq (sw q i j) k = if k = j then gq q i else if k = i then gq q j else gq q k := by
  unfold sw
  simp only [gq, List.getD, List.getElem?_set, List.length_set]
  by_cases h1 : k = j
  · subst h1
    simp [hj]
  · rw [if_neg (Ne.symm h1), if_neg h1]
    by_cases h2 : k = i
    · subst h2
      simp [hi]
    · rw [if_neg (Ne.symm h2), if_neg h2]

def par (k : Nat) : Nat := (k - 1) / 2
def Heap (n : Nat) (q : List Row) : Prop := ∀ k, 0 < k → k < n → rle (gq q (par k)) (gq q k)
def UpInv (n : Nat) (q : List Row) (j : Nat) : Prop := j < n ∧ n ≤ q.length ∧ (∀ k, 0 < k → k < n → k ≠ j → rle (gq q (par k)) (gq q k)) ∧ ∀ k, 0 < k → k < n → par k = j → 0 < j → rle (gq q (par j)) (gq q k)
theorem up_done {n : Nat} {q : List Row} {j : Nat} (h : UpInv n q j) (hd : j = 0 ∨ ¬ rlt (gq q j) (gq q (par j))) : Heap n q := by
  intro k h0 h1
  by_cases hk : k = j
  · subst hk
    rcases hd with hd | hd
    · omega
    · exact not_rlt.1 hd
  · exact h.2.2.1 k h0 h1 hk
theorem up_step {n : Nat} {q : List Row} {j : Nat} (h : UpInv n q j) (h0 : 0 < j) (hl : rlt (gq q j) (gq q (par j))) : UpInv n (sw q (par j) j) (par j) := by
  obtain ⟨a, b, c, d⟩ := h
  have hp : par j < j := by unfold par; omega
  have hi : par j < q.length := by omega
  have hj : j < q.length := by omega
  refine ⟨by omega, by rw [sw_len]; exact b, fun k k0 kn hk => ?_, fun k k0 kn hk hj0 => ?_⟩
  · rw [sw_get hi hj, sw_get hi hj]
    by_cases h1 : k = j
    · subst h1
      rw [if_neg (by omega), if_pos rfl, if_pos rfl]
      exact rle_of_lt hl
    · by_cases h2 : par k = j
      · rw [if_pos h2, if_neg h1, if_neg hk]
        exact d k k0 kn h2 h0
      · by_cases h3 : par k = par j
        · rw [if_neg h2, if_pos h3, if_neg h1, if_neg hk]
          have := c k k0 kn h1
          rw [h3] at this
          exact rle_trans (rle_of_lt hl) this
        · rw [if_neg h2, if_neg h3, if_neg h1, if_neg hk]
          exact c k k0 kn h1
  · have hpp : par (par j) < par j := by unfold par at hj0 ⊢; omega
    have hkj : par j < k := by rw [← hk]; unfold par; omega
    have e0 : gq (sw q (par j) j) (par (par j)) = gq q (par (par j)) := by rw [sw_get hi hj, if_neg (by omega), if_neg (by omega)]
    have e1 := c (par j) hj0 (by omega) (by omega)
    rw [e0, sw_get hi hj]
    by_cases h1 : k = j
    · rw [if_pos h1]; exact e1
    · rw [if_neg h1, if_neg (by omega)]
      have := c k k0 kn h1
      rw [hk] at this
      exact rle_trans e1 this

/-- Down: the pair at i may be greater than its children; the one at i0 less than its parent, till something has moved. -/
def DnInv (n : Nat) (q : List Row) (i0 i : Nat) : Prop := n ≤ q.length ∧ i0 ≤ i ∧ (∀ k, 0 < k → k < n → par k ≠ i → (k = i0 ∧ i = i0) ∨ rle (gq q (par k)) (gq q k)) ∧ ∀ k, 0 < k → k < n → par k = i → 0 < i → rle (gq q (par i)) (gq q k)
theorem dn_done {n : Nat} {q : List Row} {i0 i : Nat} (h : DnInv n q i0 i) (hd : ∀ k, 0 < k → k < n → par k = i → rle (gq q i) (gq q k)) : (i0 < i → Heap n q) ∧ (¬ i0 < i → i0 < n → UpInv n q i0) := by
  obtain ⟨a, b, c, d⟩ := h
  constructor
  · intro hlt k k0 kn
    by_cases h1 : par k = i
    · rw [h1]; exact hd k k0 kn h1
    · rcases c k k0 kn h1 with h2 | h2
      · omega
      · exact h2
  · intro hlt h0
    have : i = i0 := by omega
    subst this
    refine ⟨h0, a, fun k k0 kn hk => ?_, d⟩
    by_cases h1 : par k = i
    · rw [h1]; exact hd k k0 kn h1
    · rcases c k k0 kn h1 with h2 | h2
      · omega
      · exact h2
theorem dn_step {n : Nat} {q : List Row} {i0 i j : Nat} (h : DnInv n q i0 i) (j0 : 0 < j) (jn : j < n) (hj : par j = i) (hl : rlt (gq q j) (gq q i)) (hm : ∀ k, 0 < k → k < n → par k = i → rle (gq q j) (gq q k)) : DnInv n (sw q i j) i0 j := by
  obtain ⟨a, b, c, d⟩ := h
  have hij : i < j := by rw [← hj]; unfold par; omega
  have hi' : i < q.length := by omega
  have hj' : j < q.length := by omega
  refine ⟨by rw [sw_len]; exact a, by omega, fun k k0 kn hk => .inr ?_, fun k k0 kn hk _ => ?_⟩
  · rw [sw_get hi' hj', sw_get hi' hj']
    rw [if_neg hk]
    by_cases h1 : k = j
    · subst h1
      rw [if_pos hj, if_pos rfl]
      exact rle_of_lt hl
    · rw [if_neg h1]
      by_cases h2 : par k = i
      · have : k ≠ i := by intro e; rw [e] at h2; unfold par at h2; omega
        rw [if_pos h2, if_neg this]
        exact hm k k0 kn h2
      · rw [if_neg h2]
        by_cases h3 : k = i
        · subst h3
          rw [if_pos rfl]
          exact d j j0 jn hj k0
        · rw [if_neg h3]
          rcases c k k0 kn h2 with h4 | h4
          · omega
          · exact h4
  · have hkj : j < k := by rw [← hk]; unfold par; omega
    rw [hj, sw_get hi' hj', sw_get hi' hj', if_neg (by omega), if_pos rfl, if_neg (by omega), if_neg (by omega)]
    rcases c k k0 kn (by omega) with h4 | h4
    · omega
    · rw [hk] at h4; exact h4

theorem heap_min {n : Nat} {q : List Row} (h : Heap n q) (k : Nat) (hk : k < n) : rle (gq q 0) (gq q k) := by
  induction k using Nat.strongRecOn with
  | ind k ih =>
    rcases Nat.eq_zero_or_pos k with rfl | h0
    · exact rle_refl _
    · have hp : par k < k := by unfold par; omega
      exact rle_trans (ih (par k) hp (by omega)) (h k h0 hk)
/-- The last one takes the place of number i. -/
theorem heap_cut {n : Nat} {q : List Row} {i : Nat} (h : Heap (n + 1) q) (hn : n + 1 = q.length) (hi : i < n) : DnInv n (sw q i n) i i := by
  have hi' : i < q.length := by omega
  have hn' : n < q.length := by omega
  refine ⟨by rw [sw_len]; omega, Nat.le_refl _, fun k k0 kn hk => ?_, fun k k0 kn hk h0 => ?_⟩
  · by_cases h1 : k = i
    · exact .inl ⟨h1, rfl⟩
    · have hp : par k < k := by unfold par; omega
      right
      rw [sw_get hi' hn', sw_get hi' hn', if_neg (by omega), if_neg hk, if_neg (by omega), if_neg h1]
      exact h k k0 (by omega)
  · have hp : par i < i := by unfold par; omega
    have hp2 : i < k := by rw [← hk]; unfold par; omega
    rw [sw_get hi' hn', sw_get hi' hn', if_neg (by omega), if_neg (by omega), if_neg (by omega), if_neg (by omega)]
    have e1 := h k k0 (by omega)
    rw [hk] at e1
    exact rle_trans (h i h0 (by omega)) e1
theorem heap_push {n : Nat} {q : List Row} {a : Row} (h : Heap n q) (hn : n = q.length) : UpInv (n + 1) (q ++ [a]) n := by
  subst hn
  have old : ∀ k, k < q.length → gq (q ++ [a]) k = gq q k := fun k hk => by simp [gq, List.getD, List.getElem?_append_left hk]
  refine ⟨by omega, by simp, fun k k0 kn hk => ?_, fun k k0 kn hk h0 => ?_⟩
  · have hp : par k < k := by unfold par; omega
    rw [old _ (by omega), old _ (by omega)]
    exact h k k0 (by omega)
  · have hp : par k < k := by unfold par; omega
    omega
theorem heap_take {n : Nat} {q : List Row} (h : Heap n q) : Heap n (q.take n) := by
  intro k k0 kn
  have hp : par k < k := by unfold par; omega
  have e : ∀ k, k < n → gq (q.take n) k = gq q k := fun k hk => by simp [gq, List.getD, List.getElem?_take, hk]
  rw [e _ (by omega), e _ kn]
  exact h k k0 kn
end Go.Proofs.Ythkcfocoekonjaa
