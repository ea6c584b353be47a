/- Span: a set as the numbers that it knows, counted from where it began. No program in sight. -/
import Derived.Test.YtmjhfnmkegdafaaSpR
set_option maxRecDepth 100000
set_option linter.unusedVariables false
set_option linter.unusedSimpArgs false
namespace Go.Proofs.Ytmjhfnmkegdafaa
open Go Go.Sx

theorem i32_eq (a : Int) : IntKind.wrap .i32 a = if a % 4294967296 < 2147483648 then a % 4294967296 else a % 4294967296 - 4294967296 := by
  simp only [IntKind.wrap, IntKind.bits, IntKind.signed]
  simp
  split <;> split <;> omega
theorem less_iff (m t : Int) : lessF m t ↔ 1 ≤ (t - m) % 4294967296 ∧ (t - m) % 4294967296 < 2147483648 := by
  unfold lessF
  rw [i32_eq, u32_eq, Int.emod_emod_of_dvd _ (Int.dvd_refl _)]
  split <;> omega
theorem dist_eq (m t : Int) : distF m t = (t - m) % 4294967296 := by unfold distF; rw [u32_eq]

/-- The set that began at m0 knows m0 + x just where K holds of x. -/
def St (m0 mark : Int) (rows : List (Int × Int)) (K : Int → Prop) : Prop :=
  ∃ o, 0 ≤ o ∧ mark = IntKind.wrap .u32 (m0 + o) ∧ Tidy rows ∧ (∀ x, K x ↔ (0 ≤ x ∧ x ≤ o) ∨ (o < x ∧ Has (x - o) rows)) ∧ ∀ x, K x → x ≤ 70000
theorem St.tidy {m0 mark : Int} {rows : List (Int × Int)} {K : Int → Prop} (h : St m0 mark rows K) : Tidy rows := by
  obtain ⟨o, _, _, h, _⟩ := h; exact h
theorem St.congr {m0 mark : Int} {rows : List (Int × Int)} {K K' : Int → Prop} (h : St m0 mark rows K) (hk : ∀ x, K x ↔ K' x) : St m0 mark rows K' := by
  obtain ⟨o, h0, h1, h2, h3, h4⟩ := h
  exact ⟨o, h0, h1, h2, fun x => (hk x).symm.trans (h3 x), fun x hx => h4 x ((hk x).2 hx)⟩
theorem St.start {m0 : Int} (h0 : 0 ≤ m0) (h1 : m0 < 4294967296) : St m0 m0 [] fun x => x = 0 :=
  ⟨0, Int.le_refl _, by rw [Int.add_zero, u32_id h0 h1], Tidy.nil, fun x => ⟨fun h => .inl (by omega), fun h => h.elim (fun h => by omega) fun ⟨_, r, hr, _⟩ => by simp at hr⟩, fun x h => by omega⟩
theorem Tidy.not_one {rows : List (Int × Int)} (h : Tidy rows) : ¬ Has 1 rows := by
  rintro ⟨r, hr, h1, h2⟩
  have := h.2 r hr
  omega
theorem St.inj {m0 m m' : Int} {r r' : List (Int × Int)} {K K' : Int → Prop} (h : St m0 m r K) (h' : St m0 m' r' K') (hk : ∀ x, K x ↔ K' x) : m = m' ∧ r = r' := by
  obtain ⟨o, h0, h1, h2, h3, h4⟩ := h
  obtain ⟨o', g0, g1, g2, g3, g4⟩ := h'
  have key : ∀ {a b : Int} {p q : List (Int × Int)} {A B : Int → Prop}, 0 ≤ a → Tidy p → (∀ x, A x ↔ (0 ≤ x ∧ x ≤ a) ∨ (a < x ∧ Has (x - a) p)) → (∀ x, B x ↔ (0 ≤ x ∧ x ≤ b) ∨ (b < x ∧ Has (x - b) q)) → (∀ x, A x ↔ B x) → ¬ a < b := by
    intro a b p q A B ha hp hA hB hh hlt
    have := (hA (a + 1)).1 ((hh (a + 1)).2 ((hB (a + 1)).2 (.inl ⟨by omega, by omega⟩)))
    rcases this with h | ⟨-, h⟩
    · omega
    · rw [show a + 1 - a = 1 by omega] at h
      exact hp.not_one h
  have e : o = o' := by
    have a1 := key h0 h2 h3 g3 hk
    have a2 := key g0 g2 g3 h3 fun x => (hk x).symm
    omega
  subst e
  refine ⟨h1.trans g1.symm, canon h2.1 g2.1 fun x => ?_⟩
  have pos : ∀ {p : List (Int × Int)}, Tidy p → Has x p → 1 ≤ x := by
    rintro p hp ⟨s, hs, e1, e2⟩
    have := hp.2 s hs
    omega
  constructor
  · intro hx
    have hp := pos h2 hx
    have := (g3 (x + o)).1 ((hk _).1 ((h3 (x + o)).2 (.inr ⟨by omega, by rwa [show x + o - o = x by omega]⟩)))
    rcases this with h | ⟨-, h⟩
    · omega
    · rwa [show x + o - o = x by omega] at h
  · intro hx
    have hp := pos g2 hx
    have := (h3 (x + o)).1 ((hk _).2 ((g3 (x + o)).2 (.inr ⟨by omega, by rwa [show x + o - o = x by omega]⟩)))
    rcases this with h | ⟨-, h⟩
    · omega
    · rwa [show x + o - o = x by omega] at h

theorem off_less {m0 o x : Int} (h0 : 0 ≤ o) (h1 : o ≤ 70000) (h2 : 0 ≤ x) (h3 : x ≤ 70000) :
    (lessF (IntKind.wrap .u32 (m0 + o)) (IntKind.wrap .u32 (m0 + x)) ↔ o < x) ∧ (o < x → distF (IntKind.wrap .u32 (m0 + o)) (IntKind.wrap .u32 (m0 + x)) = x - o) := by
  rw [less_iff, dist_eq, u32_eq, u32_eq]
  constructor
  · constructor
    · intro h; omega
    · intro h; omega
  · intro h; omega

/-- What settles behind a good list. -/
theorem settle_st {m0 o mark : Int} {l : List (Int × Int)} {K : Int → Prop} (h0 : 0 ≤ o) (hm : mark = IntKind.wrap .u32 (m0 + o)) (hg : Good l)
    (hk : ∀ x, K x ↔ (0 ≤ x ∧ x ≤ o) ∨ (o < x ∧ Has (x - o) l)) (hb : ∀ x, K x → x ≤ 70000) : St m0 (settleF mark l).1 (settleF mark l).2 K := by
  obtain ⟨s1, s2, s3, s4, s5, s6⟩ := settle_good (mark := mark) hg
  generalize setBy l = s at *
  refine ⟨o + s, by omega, ?_, s1, fun x => ?_, hb⟩
  · rw [s6]
    split
    · rename_i hs; rw [hs, hm, Int.add_zero]
    · rw [hm]
      simp only [u32_eq]
      omega
  · rw [hk x]
    constructor
    · rintro (h | ⟨h1, h2⟩)
      · exact .inl ⟨by omega, by omega⟩
      · by_cases hx : x ≤ o + s
        · exact .inl ⟨by omega, hx⟩
        · exact .inr ⟨by omega, (s2 _).2 ⟨by omega, by rwa [show x - (o + s) + s = x - o by omega]⟩⟩
    · rintro (⟨h1, h2⟩ | ⟨h1, h2⟩)
      · by_cases hx : x ≤ o
        · exact .inl ⟨h1, hx⟩
        · exact .inr ⟨by omega, s3 _ (by omega) (by omega)⟩
      · have := ((s2 _).1 h2).2
        rw [show x - (o + s) + s = x - o by omega] at this
        exact .inr ⟨by omega, this⟩

theorem St.add {m0 mark x n mark' : Int} {rows rows' : List (Int × Int)} {K : Int → Prop} (h : St m0 mark rows K) (h0 : 0 ≤ x) (h1 : x ≤ 70000)
    (ha : AddS mark rows (IntKind.wrap .u32 (m0 + x)) n mark' rows') :
    St m0 mark' rows' (fun y => K y ∨ (n ≠ 2 ∧ y = x)) ∧ (n = 0 → ¬ K x) ∧ (n = 1 → K x) ∧ (n = 2 → ∃ o, 0 ≤ o ∧ o + 4096 < x ∧ ¬ K (o + 1)) ∧ (n = 0 ∨ n = 1 ∨ n = 2) := by
  obtain ⟨o, ho, hm, ht, hk, hb⟩ := h
  have hob := hb o ((hk o).2 (.inl ⟨ho, Int.le_refl _⟩))
  obtain ⟨l1, l2⟩ := off_less (m0 := m0) ho hob h0 h1
  rw [← hm] at l1 l2
  have st : St m0 mark rows K := ⟨o, ho, hm, ht, hk, hb⟩
  rcases ha with ⟨a, rfl, rfl, rfl⟩ | ⟨a, b, rfl, rfl, rfl⟩ | ⟨a, b, c, rfl, rfl, rfl⟩ | ⟨a, b, c, rfl, i, hp, rfl, rfl⟩
  · have hkx : K x := (hk x).2 (.inl ⟨h0, by have := mt l1.2 a; omega⟩)
    exact ⟨st.congr fun y => ⟨fun h => .inl h, fun h => by rcases h with h | ⟨-, rfl⟩ <;> assumption⟩, fun h => by omega, fun _ => hkx, fun h => by omega, by omega⟩
  · have hlt := l1.1 a
    rw [l2 hlt] at b
    refine ⟨st.congr fun y => ⟨fun h => .inl h, fun h => h.elim id fun ⟨h, _⟩ => absurd rfl h⟩, fun h => by omega, fun h => by omega, fun _ => ⟨o, ho, by omega, fun h => ?_⟩, by omega⟩
    rcases (hk _).1 h with h | ⟨-, h⟩
    · omega
    · rw [show o + 1 - o = 1 by omega] at h; exact ht.not_one h
  · have hlt := l1.1 a
    rw [l2 hlt] at c
    have hkx : K x := (hk x).2 (.inr ⟨hlt, c⟩)
    exact ⟨st.congr fun y => ⟨fun h => .inl h, fun h => by rcases h with h | ⟨-, rfl⟩ <;> assumption⟩, fun h => by omega, fun _ => hkx, fun h => by omega, by omega⟩
  · have hlt := l1.1 a
    have hd := less_dist a
    obtain ⟨g1, g2⟩ := add_good hp ht.1 hd b
    rw [l2 hlt] at c g1 g2
    rw [l2 hlt]
    refine ⟨settle_st ho hm g1 (fun y => ?_) (fun y hy => ?_), fun _ hkx => ?_, fun h => by omega, fun h => by omega, by omega⟩
    · rw [g2, hk y]
      constructor
      · rintro ((h | h) | ⟨-, rfl⟩)
        · exact .inl h
        · exact .inr ⟨h.1, .inl h.2⟩
        · exact .inr ⟨hlt, .inr rfl⟩
      · rintro (h | ⟨h, h' | h'⟩)
        · exact .inl (.inl h)
        · exact .inl (.inr ⟨h, h'⟩)
        · exact .inr ⟨by decide, by omega⟩
    · rcases hy with hy | ⟨-, rfl⟩
      · exact hb y hy
      · exact h1
    · rcases (hk x).1 hkx with h | ⟨-, h⟩
      · omega
      · exact c h

theorem St.skip {m0 mark x mark' : Int} {p : Prop} {rows rows' : List (Int × Int)} {K : Int → Prop} (h : St m0 mark rows K) (h0 : 0 ≤ x) (h1 : x ≤ 70000)
    (ha : SkipS mark rows (IntKind.wrap .u32 (m0 + x)) p mark' rows') : St m0 mark' rows' (fun y => K y ∨ (0 ≤ y ∧ y ≤ x)) ∧ (p ↔ lessF mark (IntKind.wrap .u32 (m0 + x))) := by
  obtain ⟨o, ho, hm, ht, hk, hb⟩ := h
  have hob := hb o ((hk o).2 (.inl ⟨ho, Int.le_refl _⟩))
  obtain ⟨l1, l2⟩ := off_less (m0 := m0) ho hob h0 h1
  rw [← hm] at l1 l2
  have st : St m0 mark rows K := ⟨o, ho, hm, ht, hk, hb⟩
  rcases ha with ⟨a, hp, rfl, rfl⟩ | ⟨a, hp, rfl, rfl⟩
  · refine ⟨st.congr fun y => ⟨fun h => .inl h, fun h => ?_⟩, hp.trans ⟨fun h => h.elim, fun h => absurd h a⟩⟩
    rcases h with h | h
    · exact h
    · exact (hk y).2 (.inl ⟨h.1, by have := mt l1.2 a; omega⟩)
  · have hlt := l1.1 a
    refine ⟨?_, hp.trans ⟨fun _ => a, fun _ => trivial⟩⟩
    rw [l2 hlt]
    obtain ⟨g1, g2⟩ := mv_good (by_ := x - o) (by omega) ht.1
    refine settle_st (o := x) h0 (by rw [hm]; simp only [u32_eq]; omega) g1 (fun y => ?_) fun y hy => ?_
    · rw [g2, hk y, show y - x + (x - o) = y - o by omega]
      constructor
      · rintro ((h | h) | h)
        · exact .inl ⟨h.1, by omega⟩
        · by_cases hy : y ≤ x
          · exact .inl ⟨by omega, hy⟩
          · exact .inr ⟨by omega, by omega, h.2⟩
        · exact .inl h
      · rintro (h | h)
        · exact .inr h
        · exact .inl (.inr ⟨by omega, h.2.2⟩)
    · rcases hy with hy | hy
      · exact hb y hy
      · omega

theorem has_rel {mark y : Int} {rows : List (Int × Int)} (hg : Good rows) (h1 : 1 ≤ y) (h2 : y ≤ 1000000) {t : Int} (ht : t = IntKind.wrap .u32 (mark + y)) : hasF mark rows t ↔ Has y rows := by
  have hl : lessF mark t := by rw [less_iff, ht, u32_eq]; omega
  have hd : distF mark t = y := by rw [dist_eq, ht, u32_eq]; omega
  unfold hasF
  rw [hd]
  constructor
  · rintro (⟨-, i, r, h3, h4, h5, h6⟩ | ⟨h, -⟩)
    · exact ⟨r, List.mem_of_getElem? h3, h5, h6⟩
    · exact absurd hl h
  · rintro ⟨r, hr, h5, h6⟩
    obtain ⟨i, hi⟩ := List.mem_iff_getElem?.1 hr
    exact .inl ⟨hl, i, r, hi, fun k s hk hs => by have := hg.at hk hs hi; omega, h5, h6⟩
theorem St.has {m0 mark x : Int} {rows : List (Int × Int)} {K : Int → Prop} (h : St m0 mark rows K) (h0 : 0 ≤ x) (h1 : x ≤ 70000) : hasF mark rows (IntKind.wrap .u32 (m0 + x)) ↔ K x := by
  obtain ⟨o, ho, hm, ht, hk, hb⟩ := h
  have hob := hb o ((hk o).2 (.inl ⟨ho, Int.le_refl _⟩))
  obtain ⟨l1, l2⟩ := off_less (m0 := m0) ho hob h0 h1
  obtain ⟨l3, l4⟩ := off_less (m0 := m0) h0 h1 ho hob
  rw [← hm] at l1 l2 l3 l4
  by_cases hlt : o < x
  · rw [has_rel (y := x - o) ht.1 (by omega) (by omega) (by rw [hm]; simp only [u32_eq]; omega), hk]
    constructor
    · intro h; exact .inr ⟨hlt, h⟩
    · rintro (h | h)
      · omega
      · exact h.2
  · constructor
    · intro _; exact (hk x).2 (.inl ⟨h0, by omega⟩)
    · intro _
      refine .inr ⟨fun h => hlt (l1.1 h), ?_⟩
      by_cases he : x = o
      · exact .inl (by rw [he, hm])
      · exact .inr (l3.2 (by omega))
end Go.Proofs.Ytmjhfnmkegdafaa
