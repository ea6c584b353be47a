/- Many things, each in blocks of its own. -/
import Derived.Test.YthkcfocoekonjaaSxZ
set_option linter.unusedVariables false
set_option linter.unusedSimpArgs false
namespace Go.Sx
open Classical

/-- Each of these things lies in blocks of its own; what is left over is of no use. -/
def SepL {α : Type} (R : α → Blks → Prop) : List α → Blks → Prop
  | [], _ => True
  | a :: r, L => ∃ L1 L2, L.Perm (L1 ++ L2) ∧ R a L1 ∧ SepL R r L2
section
variable {α : Type} {R R' : α → Blks → Prop}
theorem SepL.permL : ∀ {l : List α} {L L' : Blks}, SepL R l L → L.Perm L' → SepL R l L'
  | [], _, _, _, _ => trivial
  | a :: r, L, L', ⟨L1, L2, h1, h2, h3⟩, p => ⟨L1, L2, p.symm.trans h1, h2, h3⟩
theorem SepL.more : ∀ {l : List α} {L : Blks} (G : Blks), SepL R l L → SepL R l (L ++ G)
  | [], _, _, _ => trivial
  | a :: r, L, G, ⟨L1, L2, h1, h2, h3⟩ => ⟨L1, L2 ++ G, by simpa using h1.append_right G, h2, h3.more G⟩
theorem SepL.mono : ∀ {l : List α} {L : Blks}, SepL R l L → (∀ a ∈ l, ∀ L, R a L → R' a L) → SepL R' l L
  | [], _, _, _ => trivial
  | a :: r, L, ⟨L1, L2, h1, h2, h3⟩, h => ⟨L1, L2, h1, h a (by simp) L1 h2, h3.mono fun b hb => h b (by simp [hb])⟩
theorem SepL.app {l l' : List α} {L L' : Blks} (h : SepL R l L) (h' : SepL R l' L') : SepL R (l ++ l') (L ++ L') := by
  induction l generalizing L with
  | nil => exact (h'.more L).permL List.perm_append_comm
  | cons a r ih =>
    obtain ⟨L1, L2, h1, h2, h3⟩ := h
    exact ⟨L1, L2 ++ L', by simpa using h1.append_right L', h2, ih h3⟩
theorem SepL.one {a : α} {L : Blks} (h : R a L) : SepL R [a] L := ⟨L, [], by simp, h, trivial⟩
theorem SepL.split : ∀ {l l' : List α} {L : Blks}, SepL R (l ++ l') L → ∃ L1 L2, L.Perm (L1 ++ L2) ∧ SepL R l L1 ∧ SepL R l' L2
  | [], l', L, h => ⟨[], L, by simp, trivial, h⟩
  | a :: r, l', L, ⟨L1, L2, h1, h2, h3⟩ => by
    obtain ⟨M1, M2, k1, k2, k3⟩ := SepL.split (l := r) h3
    exact ⟨L1 ++ M1, M2, h1.trans (by simpa using k1.append_left L1), ⟨L1, M1, List.Perm.refl _, h2, k2⟩, k3⟩
theorem SepL.perm {l l' : List α} (p : l.Perm l') : ∀ {L : Blks}, SepL R l L → SepL R l' L := by
  induction p with
  | nil => exact fun h => h
  | cons a _ ih => exact fun ⟨L1, L2, h1, h2, h3⟩ => ⟨L1, L2, h1, h2, ih h3⟩
  | swap a b r =>
    rintro L ⟨L1, L2, h1, h2, M1, M2, k1, k2, k3⟩
    refine ⟨M1, L1 ++ M2, ?_, k2, L1, M2, List.Perm.refl _, h2, k3⟩
    refine h1.trans ((k1.append_left L1).trans ?_)
    rw [← List.append_assoc, ← List.append_assoc]
    exact List.perm_append_comm.append_right M2
  | trans _ _ ih1 ih2 => exact fun h => ih2 (ih1 h)
theorem SepL.mid {A B : List α} {a : α} {L : Blks} (h : SepL R (A ++ a :: B) L) : ∃ L1 L2, L.Perm (L1 ++ L2) ∧ R a L1 ∧ SepL R (A ++ B) L2 := h.perm List.perm_middle
theorem SepL.mid_mk {A B : List α} {a : α} {L1 L2 : Blks} (h : R a L1) (h2 : SepL R (A ++ B) L2) : SepL R (A ++ a :: B) (L1 ++ L2) :=
  SepL.perm (List.perm_middle (l₁ := A)).symm ⟨L1, L2, List.Perm.refl _, h, h2⟩
end

/-- A window of numbers, as a slice; nil if there are none, or not. -/
structure Win where
  b : Nat
  base : Nat
  o : Nat
  N : Nat
  cap : Nat
  zs : List Int
  G : Blks
def Win.ok (x : Win) (l : List Int) : Prop := l.length ≤ x.cap ∧ x.o + x.cap ≤ x.N ∧ x.zs.length = x.N ∧ (x.zs.drop x.o).take l.length = l
def Win.val (x : Win) (n : Nat) : Value := .slice (some ⟨x.b, (x.base + x.o) * 1, none⟩) n x.cap
def WinAt (t : TypeId) (k : IntKind) (l : List Int) (v : Value) (L : Blks) : Prop := ∃ x : Win, x.ok l ∧ v = x.val l.length ∧ L.Perm ((x.b, .tab t x.base x.N [.ints k x.zs]) :: x.G)
def WinNil (t : TypeId) (k : IntKind) (l : List Int) (v : Value) (L : Blks) : Prop := (l = [] ∧ v = .slice none 0 0) ∨ WinAt t k l v L
theorem WinAt.more {t : TypeId} {k : IntKind} {l : List Int} {v : Value} {L : Blks} (h : WinAt t k l v L) (G : Blks) : WinAt t k l v (L ++ G) := by
  obtain ⟨x, h1, h2, h3⟩ := h
  exact ⟨{ x with G := x.G ++ G }, h1, h2, by simpa using h3.append_right G⟩
theorem WinNil.more {t : TypeId} {k : IntKind} {l : List Int} {v : Value} {L : Blks} (h : WinNil t k l v L) (G : Blks) : WinNil t k l v (L ++ G) := by
  rcases h with h | h
  · exact .inl h
  · exact .inr (h.more G)
/-- What is left of a window behind its first n numbers. -/
theorem Win.drop {x : Win} {l : List Int} (h : x.ok l) {n : Nat} (hn : n ≤ l.length) {off : Nat} (h1 : n < x.cap → off = x.o + n) (h2 : off + (x.cap - n) ≤ x.o + x.cap) : ({ x with o := off, cap := x.cap - n } : Win).ok (l.drop n) := by
  obtain ⟨o1, o2, o3, o4⟩ := h
  refine ⟨by rw [List.length_drop]; show l.length - n ≤ x.cap - n; omega, by show off + (x.cap - n) ≤ x.N; omega, o3, ?_⟩
  show (x.zs.drop off).take (l.drop n).length = l.drop n
  rw [List.length_drop]
  rcases Nat.lt_or_ge n l.length with hlt | hge
  · rw [h1 (by omega)]
    conv => rhs; rw [← o4]
    rw [List.drop_take, List.drop_drop]
  · rw [show l.length - n = 0 by omega, List.drop_eq_nil_of_le hge]; simp
theorem Win.get {x : Win} {l : List Int} (h : x.ok l) {i : Nat} (hi : i < l.length) : x.zs.getD (x.o + i) 0 = l[i] := by
  have h1 : ((x.zs.drop x.o).take l.length)[i]? = l[i]? := by rw [h.2.2.2]
  rw [List.getElem?_take, if_pos hi, List.getElem?_drop, List.getElem?_eq_getElem hi] at h1
  simp [List.getD, h1]

/-! Permutations by weighing. -/
theorem perm_sum {L L' : Blks} (h : L.Perm L') (f : Nat × Blk → Nat) : (L.map f).sum = (L'.map f).sum := by
  induction h with
  | nil => rfl
  | cons x _ ih => simp [ih]
  | swap x y l => simp; omega
  | trans _ _ ih1 ih2 => exact ih1.trans ih2
theorem perm_of_sums {L L' : Blks} (h : ∀ f : Nat × Blk → Nat, (L.map f).sum = (L'.map f).sum) : L.Perm L' := by
  have key : ∀ (a : Nat × Blk) (l : Blks), (l.map fun b => if b = a then 1 else 0).sum = l.count a := fun a l => by
    induction l with
    | nil => rfl
    | cons b r ih =>
      simp only [List.map_cons, List.sum_cons, ih, List.count_cons]
      by_cases e : b = a
      · subst e; simp; omega
      · have : (b == a) = false := by simpa using e
        simp [e, this]
  refine List.perm_iff_count.2 fun a => ?_
  rw [← key, ← key]
  exact h _
theorem win_copy {x : Win} {l : List Int} (h : x.ok l) {b base cap : Nat} {sp : List Int} (hc : l.length ≤ cap) (hs : sp.length = cap - l.length) :
    ({ b := b, base := base, o := 0, N := cap, cap := cap, zs := (x.zs.drop x.o).take l.length ++ sp, G := [] } : Win).ok l := by
  obtain ⟨h1, h2, h3, h4⟩ := h
  rw [h4]
  refine ⟨hc, by simp, by simp [hs]; omega, ?_⟩
  show ((l ++ sp).drop 0).take l.length = _
  rw [List.drop_zero, List.take_left]
end Go.Sx
