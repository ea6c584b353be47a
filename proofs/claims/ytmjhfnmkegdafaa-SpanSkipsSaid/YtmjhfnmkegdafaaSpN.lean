/- Span: rows that lie apart; what an added number and a moved mark make of them. No program in sight. -/
import Derived.Test.YtmjhfnmkegdafaaSpM
set_option maxRecDepth 100000
set_option linter.unusedVariables false
set_option linter.unusedSimpArgs false
namespace Go.Proofs.Ytmjhfnmkegdafaa
open Go Go.Sx

def Good (l : List (Int × Int)) : Prop := l.Pairwise (fun r s => r.2 + 1 < s.1) ∧ ∀ r ∈ l, 1 ≤ r.1 ∧ r.1 ≤ r.2 ∧ r.2 ≤ 4096
def Tidy (l : List (Int × Int)) : Prop := Good l ∧ ∀ r ∈ l, 2 ≤ r.1
def Has (x : Int) (l : List (Int × Int)) : Prop := ∃ r ∈ l, r.1 ≤ x ∧ x ≤ r.2

theorem known_iff {x : Int} {l : List (Int × Int)} : Known x l ↔ Has x l := by
  constructor
  · rintro ⟨k, r, h, h1, h2⟩
    exact ⟨r, List.mem_of_getElem? h, h1, h2⟩
  · rintro ⟨r, h, h1, h2⟩
    obtain ⟨k, hk⟩ := List.mem_iff_getElem?.1 h
    exact ⟨k, r, hk, h1, h2⟩

theorem u32_id {a : Int} (h0 : 0 ≤ a) (h1 : a < 4294967296) : IntKind.wrap .u32 a = a := by
  simp only [IntKind.wrap, IntKind.bits, IntKind.signed]
  simp
  omega
theorem u16_id {a : Int} (h0 : 0 ≤ a) (h1 : a < 65536) : IntKind.wrap .u16 a = a := by
  simp only [IntKind.wrap, IntKind.bits, IntKind.signed]
  simp
  omega
theorem u32_eq (a : Int) : IntKind.wrap .u32 a = a % 4294967296 := by
  simp only [IntKind.wrap, IntKind.bits, IntKind.signed]
  simp

theorem Good.nil : Good [] := ⟨List.Pairwise.nil, by simp⟩
theorem Tidy.nil : Tidy [] := ⟨Good.nil, by simp⟩
theorem Good.len {l : List (Int × Int)} {lo : Int} (h : Good l) (hlo : ∀ r ∈ l, lo ≤ r.1) (h1 : lo ≤ 4097) : (l.length : Int) + lo ≤ 4097 := by
  induction l generalizing lo with
  | nil => simpa using h1
  | cons r l ih =>
    obtain ⟨hp, hm⟩ := h
    have hr := hm r (by simp)
    have hl := hlo r (by simp)
    rw [List.pairwise_cons] at hp
    have := ih (lo := r.2 + 1) ⟨hp.2, fun s hs => hm s (by simp [hs])⟩ (fun s hs => by have := hp.1 s hs; omega) (by omega)
    simp only [List.length_cons]
    omega
theorem Good.len' {l : List (Int × Int)} (h : Good l) : l.length + 1 < 1000000 := by
  have := h.len (lo := 1) (fun r hr => (h.2 r hr).1) (by omega)
  omega
theorem Good.at {l : List (Int × Int)} (h : Good l) {i j : Nat} {r s : Int × Int} (hij : i < j) (hi : l[i]? = some r) (hj : l[j]? = some s) : r.2 + 1 < s.1 := by
  obtain ⟨h1, rfl⟩ := List.getElem?_eq_some_iff.1 hi
  obtain ⟨h2, rfl⟩ := List.getElem?_eq_some_iff.1 hj
  exact List.pairwise_iff_getElem.1 h.1 i j h1 h2 hij
theorem Good.rising {l : List (Int × Int)} (h : Good l) : Rising l := by
  intro i j r s hij hi hj
  rcases Nat.eq_or_lt_of_le hij with rfl | hlt
  · rw [hi] at hj; cases hj; exact Int.le_refl _
  · have h1 := h.at hlt hi hj
    have h2 := (h.2 s (List.mem_of_getElem? hj)).2.1
    omega

/-- The place splits the rows. -/
theorem Place.split {d : Int} {rows : List (Int × Int)} {i : Nat} (hp : Place d rows i) (hg : Good rows) :
    rows = rows.take i ++ rows.drop i ∧ (rows.take i).length = i ∧ (∀ r ∈ rows.take i, r.2 < d) ∧ ∀ r ∈ rows.drop i, d < r.1 := by
  obtain ⟨h1, h2, h3⟩ := hp
  refine ⟨(List.take_append_drop i rows).symm, by rw [List.length_take]; omega, fun r hr => ?_, fun r hr => ?_⟩
  · obtain ⟨k, hk⟩ := List.mem_iff_getElem?.1 hr
    rw [List.getElem?_take] at hk
    split at hk
    · exact h2 k r (by assumption) hk
    · cases hk
  · obtain ⟨k, hk⟩ := List.mem_iff_getElem?.1 hr
    rw [List.getElem?_drop] at hk
    rcases Nat.eq_zero_or_pos k with rfl | hk0
    · exact (h3 i r (Nat.le_refl i) hk).2 rfl
    · have hlt : i < rows.length := by have := (List.getElem?_eq_some_iff.1 hk).1; omega
      have h4 := (h3 i rows[i] (Nat.le_refl i) (List.getElem?_eq_getElem hlt)).2 rfl
      have h5 := hg.at (show i < i + k by omega) (List.getElem?_eq_getElem hlt) hk
      have h6 := (hg.2 rows[i] (List.getElem_mem hlt)).2.1
      omega
theorem place_known {d : Int} {rows : List (Int × Int)} {i : Nat} (hp : Place d rows i) (hg : Good rows) : ¬ Has d rows := by
  obtain ⟨h1, -, h2, h3⟩ := hp.split hg
  rintro ⟨r, hr, h4, h5⟩
  rw [h1] at hr
  rcases List.mem_append.1 hr with hr | hr
  · have := h2 r hr; omega
  · have := h3 r hr; omega
theorem place_one {d : Int} {rows : List (Int × Int)} {i j : Nat} (hi : Place d rows i) (hj : Place d rows j) : i = j := by
  have key : ∀ {i j : Nat}, Place d rows i → Place d rows j → ¬ i < j := by
    intro i j hi hj hlt
    have hl : i < rows.length := by have := hj.1; omega
    have h1 := (hi.2.2 i rows[i] (Nat.le_refl i) (List.getElem?_eq_getElem hl)).1
    have h2 := hj.2.1 i rows[i] hlt (List.getElem?_eq_getElem hl)
    omega
  have := key hi hj
  have := key hj hi
  omega

/-- What the two merges leave. -/
theorem mergeR_shape (d : Int) (A B : List (Int × Int)) (hd : 0 ≤ d) (hd2 : d ≤ 4096) :
    ∃ e R, mergeR d A.length (A ++ (d, d) :: B) = A ++ (d, e) :: R ∧ (B = (d + 1, e) :: R ∨ (e = d ∧ R = B ∧ ∀ b ∈ B.head?, b.1 ≠ d + 1)) := by
  have hw : IntKind.wrap .u32 (d + 1) = d + 1 := u32_id (by omega) (by omega)
  have hg : (A ++ (d, d) :: B).getD (A.length + 1) (0, 0) = B.getD 0 (0, 0) := by
    simp [List.getD, List.getElem?_append_right]
  unfold mergeR
  rw [hw, hg]
  cases B with
  | nil => exact ⟨d, [], by simp, .inr ⟨rfl, rfl, by simp⟩⟩
  | cons b R =>
    obtain ⟨f, e⟩ := b
    by_cases hf : f = d + 1
    · subst hf
      refine ⟨e, R, ?_, .inl rfl⟩
      rw [if_pos ⟨by simp, rfl⟩]
      have h1 : (A ++ (d, d) :: (d + 1, e) :: R).take A.length = A := by simp
      have h2 : (A ++ (d, d) :: (d + 1, e) :: R).drop (A.length + 2) = R := by simp [List.drop_append]
      rw [h1, h2]; rfl
    · refine ⟨d, (f, e) :: R, ?_, .inr ⟨rfl, rfl, by simpa using hf⟩⟩
      rw [if_neg fun h => hf h.2]
theorem mergeL_shape (d e : Int) (A R : List (Int × Int)) (hd : 0 ≤ d) (hd2 : d ≤ 4096) (hA : ∀ a ∈ A, 0 ≤ a.2 ∧ a.2 ≤ 4096) :
    ∃ f L, mergeL d A.length (A ++ (d, e) :: R) = L ++ (f, e) :: R ∧ (A = L ++ [(f, d - 1)] ∨ (f = d ∧ L = A ∧ ∀ a ∈ A.getLast?, a.2 + 1 ≠ d)) := by
  unfold mergeL
  rcases List.eq_nil_or_concat A with rfl | ⟨L, a, rfl⟩
  · exact ⟨d, [], by simp, .inr ⟨rfl, rfl, by simp⟩⟩
  · obtain ⟨f, g⟩ := a
    have hg := hA (f, g) (by simp)
    have hw : IntKind.wrap .u32 (g + 1) = g + 1 := u32_id (by simp only at hg; omega) (by simp only at hg; omega)
    have h1 : (L.concat (f, g) ++ (d, e) :: R).getD ((L.concat (f, g)).length - 1) (0, 0) = (f, g) := by
      simp [List.getD, List.getElem?_append_left, List.getElem?_append_right]
    have h2 : (L.concat (f, g) ++ (d, e) :: R).getD (L.concat (f, g)).length (0, 0) = (d, e) := by
      simp [List.getD, List.getElem?_append_right]
    rw [h1, h2, hw]
    by_cases hf : g + 1 = d
    · refine ⟨f, L, ?_, .inl (by simp; omega)⟩
      rw [if_pos ⟨by simp, hf⟩]
      simp [List.take_append, List.drop_append]
      rw [List.drop_eq_nil_of_le (by omega), show L.length + 1 + 1 - L.length = 2 by omega]
      rfl
    · refine ⟨d, _, ?_, .inr ⟨rfl, rfl, by simpa using hf⟩⟩
      rw [if_neg fun h => hf h.2]

theorem add_shape {d : Int} {rows : List (Int × Int)} {i : Nat} (hp : Place d rows i) (hg : Good rows) (hd : 1 ≤ d) (hd2 : d ≤ 4096) :
    ∃ A B L f e R, rows = A ++ B ∧ (∀ r ∈ A, r.2 < d) ∧ (∀ r ∈ B, d < r.1) ∧ addF d i rows = L ++ (f, e) :: R ∧
      (B = (d + 1, e) :: R ∨ (e = d ∧ R = B ∧ ∀ b ∈ B, d + 1 < b.1)) ∧ (A = L ++ [(f, d - 1)] ∨ (f = d ∧ L = A ∧ ∀ a ∈ A, a.2 + 1 < d)) := by
  obtain ⟨h1, h2, h3, h4⟩ := hp.split hg
  have hmem : ∀ r ∈ rows.take i, 0 ≤ r.2 ∧ r.2 ≤ 4096 := fun r hr => by have := hg.2 r (List.mem_of_mem_take hr); omega
  generalize hA : rows.take i = A at *
  generalize hB : rows.drop i = B at *
  have hgA : Good (A ++ B) := h1 ▸ hg
  obtain ⟨e, R, k1, k2⟩ := mergeR_shape d A B (by omega) hd2
  obtain ⟨f, L, k3, k4⟩ := mergeL_shape d e A R (by omega) hd2 hmem
  have hpA := List.pairwise_append.1 hgA.1
  refine ⟨A, B, L, f, e, R, h1, h3, h4, ?_, ?_, ?_⟩
  · unfold addF insF
    rw [hA, hB]
    rw [h2] at k1 k3
    rw [k1, k3]
  · rcases k2 with k2 | ⟨k2, k5, k6⟩
    · exact .inl k2
    · refine .inr ⟨k2, k5, fun b hb => ?_⟩
      cases B with
      | nil => simp at hb
      | cons b0 B =>
        have h0 := k6 b0 (by simp)
        have h0' := h4 b0 (by simp)
        rcases List.mem_cons.1 hb with rfl | hb
        · omega
        · have := (List.pairwise_cons.1 hpA.2.1).1 b hb
          have := (hgA.2 b0 (by simp)).2.1
          omega
  · rcases k4 with k4 | ⟨k4, k5, k6⟩
    · exact .inl k4
    · refine .inr ⟨k4, k5, fun a ha => ?_⟩
      rcases List.eq_nil_or_concat A with h0 | ⟨A', a0, h0⟩
      · rw [h0] at ha; simp at ha
      · rw [List.concat_eq_append] at h0
        rw [h0] at k6 ha h3 hpA hgA
        have e0 := k6 a0 (by simp)
        have e0' := h3 a0 (by simp)
        rcases List.mem_append.1 ha with ha | ha
        · have := (List.pairwise_append.1 hpA.1).2.2 a ha a0 (by simp)
          have := (hgA.2 a0 (by simp)).2.1
          omega
        · simp at ha; subst ha; omega

theorem add_good {d : Int} {rows : List (Int × Int)} {i : Nat} (hp : Place d rows i) (hg : Good rows) (hd : 1 ≤ d) (hd2 : d ≤ 4096) :
    Good (addF d i rows) ∧ ∀ x, Has x (addF d i rows) ↔ Has x rows ∨ x = d := by
  obtain ⟨A, B, L, f, e, R, h1, h3, h4, h5, h6, h7⟩ := add_shape hp hg hd hd2
  rw [h5]
  rw [h1] at hg ⊢
  obtain ⟨g1, g2⟩ := hg
  rw [List.pairwise_append] at g1
  obtain ⟨p1, p2, p3⟩ := g1
  have mA : ∀ r ∈ A, 1 ≤ r.1 ∧ r.1 ≤ r.2 ∧ r.2 ≤ 4096 := fun r hr => g2 r (by simp [hr])
  have mB : ∀ r ∈ B, 1 ≤ r.1 ∧ r.1 ≤ r.2 ∧ r.2 ≤ 4096 := fun r hr => g2 r (by simp [hr])
  -- the right part
  have right : R.Pairwise (fun r s => r.2 + 1 < s.1) ∧ (∀ s ∈ R, e + 1 < s.1) ∧ (∀ s ∈ R, s ∈ B) ∧ d ≤ e ∧ e ≤ 4096 ∧ ∀ x, (d ≤ x ∧ x ≤ e ∨ Has x R) ↔ (Has x B ∨ x = d) := by
    rcases h6 with rfl | ⟨rfl, rfl, h6⟩
    · have m0 := mB (d + 1, e) (by simp)
      rw [List.pairwise_cons] at p2
      refine ⟨p2.2, p2.1, fun s hs => by simp [hs], by simp only at m0; omega, by simp only at m0; omega, fun x => ?_⟩
      simp only [Has, List.mem_cons, exists_eq_or_imp]
      simp only at m0
      constructor
      · rintro (h | h)
        · by_cases hx : x = d
          · exact .inr hx
          · exact .inl (.inl ⟨by omega, h.2⟩)
        · exact .inl (.inr h)
      · rintro ((h | h) | h)
        · exact .inl ⟨by omega, h.2⟩
        · exact .inr h
        · exact .inl ⟨by omega, by omega⟩
    · refine ⟨p2, h6, fun s hs => hs, Int.le_refl _, hd2, fun x => ?_⟩
      constructor
      · rintro (h | h)
        · exact .inr (by omega)
        · exact .inl h
      · rintro (h | h)
        · exact .inr h
        · exact .inl (by omega)
  have left : L.Pairwise (fun r s => r.2 + 1 < s.1) ∧ (∀ s ∈ L, s.2 + 1 < f) ∧ (∀ s ∈ L, s ∈ A) ∧ f ≤ d ∧ 1 ≤ f ∧ ∀ x, (Has x L ∨ f ≤ x ∧ x ≤ d) ↔ (Has x A ∨ x = d) := by
    rcases h7 with rfl | ⟨rfl, rfl, h7⟩
    · have m0 := mA (f, d - 1) (by simp)
      rw [List.pairwise_append] at p1
      refine ⟨p1.1, fun s hs => p1.2.2 s hs (f, d - 1) (by simp), fun s hs => by simp [hs], by simp only at m0; omega, m0.1, fun x => ?_⟩
      simp only at m0
      constructor
      · rintro (⟨r, hr, h⟩ | h)
        · exact .inl ⟨r, by simp [hr], h⟩
        · by_cases hx : x = d
          · exact .inr hx
          · exact .inl ⟨(f, d - 1), by simp, h.1, by simp only; omega⟩
      · rintro (⟨r, hr, h⟩ | h)
        · rcases List.mem_append.1 hr with hr | hr
          · exact .inl ⟨r, hr, h⟩
          · simp at hr; subst hr; exact .inr ⟨h.1, by have := h.2; simp only at this; omega⟩
        · exact .inr ⟨by omega, by omega⟩
    · refine ⟨p1, h7, fun s hs => hs, Int.le_refl _, hd, fun x => ?_⟩
      constructor
      · rintro (h | h)
        · exact .inl h
        · exact .inr (by omega)
      · rintro (h | h)
        · exact .inl h
        · exact .inr (by omega)
  obtain ⟨r1, r2, r3, r4, r5, r6⟩ := right
  obtain ⟨l1, l2, l3, l4, l5, l6⟩ := left
  refine ⟨⟨?_, fun r hr => ?_⟩, fun x => ?_⟩
  · rw [List.pairwise_append, List.pairwise_cons]
    refine ⟨l1, ⟨r2, r1⟩, fun a ha b hb => ?_⟩
    rcases List.mem_cons.1 hb with rfl | hb
    · exact l2 a ha
    · exact p3 a (l3 a ha) b (r3 b hb)
  · rcases List.mem_append.1 hr with hr | hr
    · exact mA r (l3 r hr)
    · rcases List.mem_cons.1 hr with rfl | hr
      · exact ⟨l5, by simp only; omega, r5⟩
      · exact mB r (r3 r hr)
  · have split : Has x (L ++ (f, e) :: R) ↔ (Has x L ∨ f ≤ x ∧ x ≤ d) ∨ (d ≤ x ∧ x ≤ e ∨ Has x R) := by
      constructor
      · rintro ⟨r, hr, h⟩
        rcases List.mem_append.1 hr with hr | hr
        · exact .inl (.inl ⟨r, hr, h⟩)
        · rcases List.mem_cons.1 hr with rfl | hr
          · simp only at h
            by_cases hx : x ≤ d
            · exact .inl (.inr ⟨h.1, hx⟩)
            · exact .inr (.inl ⟨by omega, h.2⟩)
          · exact .inr (.inr ⟨r, hr, h⟩)
      · rintro ((⟨r, hr, h⟩ | h) | (h | ⟨r, hr, h⟩))
        · exact ⟨r, by simp [hr], h⟩
        · exact ⟨(f, e), by simp, h.1, by simp only; omega⟩
        · exact ⟨(f, e), by simp, by simp only; omega, h.2⟩
        · exact ⟨r, by simp [hr], h⟩
    have app : Has x (A ++ B) ↔ Has x A ∨ Has x B := by
      constructor
      · rintro ⟨r, hr, h⟩
        rcases List.mem_append.1 hr with hr | hr
        · exact .inl ⟨r, hr, h⟩
        · exact .inr ⟨r, hr, h⟩
      · rintro (⟨r, hr, h⟩ | ⟨r, hr, h⟩)
        · exact ⟨r, by simp [hr], h⟩
        · exact ⟨r, by simp [hr], h⟩
    rw [split, app, l6, r6]
    constructor
    · rintro ((h | h) | (h | h)) <;> simp [h]
    · rintro ((h | h) | h) <;> simp [h]

/-! The mark goes on. -/
theorem mvRow_eq {by_ : Int} {r : Int × Int} (h0 : 0 ≤ by_) (hr : 1 ≤ r.1 ∧ r.1 ≤ r.2 ∧ r.2 ≤ 4096) (hb : by_ < r.2) : mvRow by_ r = (max r.1 (by_ + 1) - by_, r.2 - by_) := by
  unfold mvRow
  rw [u32_id (a := by_ + 1) (by omega) (by omega), u32_id (by omega) (by omega), u32_id (by omega) (by omega)]
theorem mv_good {by_ : Int} {l : List (Int × Int)} (h0 : 0 ≤ by_) (hg : Good l) : Good (mvRows by_ l) ∧ ∀ x, Has x (mvRows by_ l) ↔ 1 ≤ x ∧ Has (x + by_) l := by
  have hmem : ∀ r ∈ l.filter fun r => decide (by_ < r.2), (1 ≤ r.1 ∧ r.1 ≤ r.2 ∧ r.2 ≤ 4096) ∧ by_ < r.2 := fun r hr => by
    rw [List.mem_filter] at hr
    exact ⟨hg.2 r hr.1, by simpa using hr.2⟩
  refine ⟨⟨?_, fun r hr => ?_⟩, fun x => ?_⟩
  · unfold mvRows
    rw [List.pairwise_map]
    refine List.Pairwise.imp_of_mem ?_ (hg.1.filter _)
    intro r s hr hs h
    obtain ⟨a1, a2⟩ := hmem r hr
    obtain ⟨b1, b2⟩ := hmem s hs
    rw [mvRow_eq h0 a1 a2, mvRow_eq h0 b1 b2]
    simp only
    omega
  · unfold mvRows at hr
    obtain ⟨s, hs, rfl⟩ := List.mem_map.1 hr
    obtain ⟨a1, a2⟩ := hmem s hs
    rw [mvRow_eq h0 a1 a2]
    simp only
    omega
  · constructor
    · rintro ⟨r, hr, h⟩
      unfold mvRows at hr
      obtain ⟨s, hs, rfl⟩ := List.mem_map.1 hr
      obtain ⟨a1, a2⟩ := hmem s hs
      rw [mvRow_eq h0 a1 a2] at h
      simp only at h
      exact ⟨by omega, s, (List.mem_filter.1 hs).1, by omega, by omega⟩
    · rintro ⟨hx, r, hr, h⟩
      have a1 := hg.2 r hr
      have a2 : by_ < r.2 := by omega
      refine ⟨mvRow by_ r, List.mem_map.2 ⟨r, List.mem_filter.2 ⟨hr, by simpa using a2⟩, rfl⟩, ?_⟩
      rw [mvRow_eq h0 a1 a2]
      simp only
      omega

/-- How far 'settle' goes on. -/
def setBy : List (Int × Int) → Int
  | [] => 0
  | r :: _ => if r.1 = 1 then r.2 else 0
theorem settle_good {mark : Int} {l : List (Int × Int)} (hg : Good l) :
    Tidy (settleF mark l).2 ∧ (∀ x, Has x (settleF mark l).2 ↔ 1 ≤ x ∧ Has (x + setBy l) l) ∧ (∀ x, 1 ≤ x → x ≤ setBy l → Has x l) ∧ 0 ≤ setBy l ∧ setBy l ≤ 4096 ∧ (settleF mark l).1 = (if setBy l = 0 then mark else IntKind.wrap .u32 (mark + setBy l)) := by
  cases l with
  | nil => exact ⟨Tidy.nil, fun x => by simp [settleF, Has], fun x h1 h2 => by simp only [setBy] at h2; omega, by simp [setBy], by simp [setBy], by simp [settleF, setBy]⟩
  | cons r0 l =>
    obtain ⟨f, e⟩ := r0
    have m0 := hg.2 (f, e) (by simp)
    have hp := List.pairwise_cons.1 hg.1
    simp only at m0
    simp only [settleF, setBy]
    by_cases hf : f = 1
    · simp only [hf, if_true]
      subst hf
      obtain ⟨k1, k2⟩ := mv_good (by_ := e) (l := (1, e) :: l) (by omega) hg
      refine ⟨⟨k1, fun r hr => ?_⟩, k2, fun x h1 h2 => ⟨(1, e), by simp, h1, h2⟩, by omega, by omega, ?_⟩
      · unfold mvRows at hr
        obtain ⟨s, hs, rfl⟩ := List.mem_map.1 hr
        rw [List.mem_filter] at hs
        obtain ⟨hs1, hs2⟩ := hs
        have hs2 : e < s.2 := by simpa using hs2
        rw [mvRow_eq (by omega) (hg.2 s hs1) hs2]
        rcases List.mem_cons.1 hs1 with rfl | hs1
        · simp only at hs2; omega
        · have := hp.1 s hs1
          simp only at this ⊢
          omega
      · rw [if_neg (by omega)]
    · simp only [hf, if_false]
      refine ⟨⟨hg, fun r hr => ?_⟩, fun x => ?_, fun x h1 h2 => by omega, by omega, by omega, by simp⟩
      · rcases List.mem_cons.1 hr with rfl | hr
        · simp only; omega
        · have := hp.1 r hr
          simp only at this
          omega
      · constructor
        · rintro ⟨r, hr, h⟩
          have := (hg.2 r hr).1
          exact ⟨by omega, r, hr, by omega, by omega⟩
        · rintro ⟨_, r, hr, h⟩
          exact ⟨r, hr, by omega, by omega⟩

/-- Rows that lie apart are told by what they hold. -/
theorem canon {l l' : List (Int × Int)} (hg : Good l) (hg' : Good l') (h : ∀ x, Has x l ↔ Has x l') : l = l' := by
  induction l generalizing l' with
  | nil =>
    cases l' with
    | nil => rfl
    | cons r l' =>
      have m := hg'.2 r (by simp)
      obtain ⟨s, hs, -⟩ := (h r.1).2 ⟨r, by simp, by omega, by omega⟩
      simp at hs
  | cons r l ih =>
    cases l' with
    | nil =>
      have m := hg.2 r (by simp)
      obtain ⟨s, hs, -⟩ := (h r.1).1 ⟨r, by simp, by omega, by omega⟩
      simp at hs
    | cons r' l' =>
      obtain ⟨f, e⟩ := r
      obtain ⟨f', e'⟩ := r'
      have m := hg.2 (f, e) (by simp)
      have m' := hg'.2 (f', e') (by simp)
      have hp := List.pairwise_cons.1 hg.1
      have hp' := List.pairwise_cons.1 hg'.1
      simp only at m m' hp hp'
      have in_r : ∀ {x}, Has x ((f, e) :: l) ↔ (f ≤ x ∧ x ≤ e) ∨ Has x l := by intro x; simp [Has]
      have in_r' : ∀ {x}, Has x ((f', e') :: l') ↔ (f' ≤ x ∧ x ≤ e') ∨ Has x l' := by intro x; simp [Has]
      have far : ∀ {x}, Has x l → e + 1 < x := by rintro x ⟨s, hs, h1, h2⟩; have := hp.1 s hs; omega
      have far' : ∀ {x}, Has x l' → e' + 1 < x := by rintro x ⟨s, hs, h1, h2⟩; have := hp'.1 s hs; omega
      have hf : f = f' := by
        have h1 := in_r'.1 ((h f).1 (in_r.2 (.inl ⟨by omega, by omega⟩)))
        have h2 := in_r.1 ((h f').2 (in_r'.2 (.inl ⟨by omega, by omega⟩)))
        rcases h1 with h1 | h1 <;> rcases h2 with h2 | h2
        · omega
        · have := far h2; omega
        · have := far' h1; omega
        · have := far h2; have := far' h1; omega
      subst hf
      have he : e = e' := by
        have key : ∀ {a b : Int} {p q : List (Int × Int)}, (∀ x, (f ≤ x ∧ x ≤ a) ∨ Has x p ↔ (f ≤ x ∧ x ≤ b) ∨ Has x q) → (∀ {x}, Has x p → a + 1 < x) → (∀ {x}, Has x q → b + 1 < x) → f ≤ a → f ≤ b → ¬ a < b := by
          intro a b p q hh fp fq ha hb hlt
          rcases (hh (a + 1)).2 (.inl ⟨by omega, by omega⟩) with h1 | h1
          · omega
          · have := fp h1; omega
        have hh : ∀ x, (f ≤ x ∧ x ≤ e) ∨ Has x l ↔ (f ≤ x ∧ x ≤ e') ∨ Has x l' := fun x => by rw [← in_r, ← in_r']; exact h x
        have a1 := key hh far far' (by omega) (by omega)
        have a2 := key (fun x => (hh x).symm) far' far (by omega) (by omega)
        omega
      subst he
      congr 1
      refine ih ⟨hp.2, fun s hs => hg.2 s (by simp [hs])⟩ ⟨hp'.2, fun s hs => hg'.2 s (by simp [hs])⟩ fun x => ?_
      have hh := h x
      rw [in_r, in_r'] at hh
      constructor
      · intro hx
        have h1 := far hx
        rcases hh.1 (.inr hx) with h2 | h2
        · omega
        · exact h2
      · intro hx
        have h1 := far' hx
        rcases hh.2 (.inr hx) with h2 | h2
        · omega
        · exact h2
end Go.Proofs.Ytmjhfnmkegdafaa
