/- Span: where a distance stands. -/
import Derived.Test.YtmjhfnmkegdafaaSpF
import Derived.Test.YtmjhfnmkegdafaaProg
set_option maxRecDepth 100000
set_option linter.unusedVariables false
set_option linter.unusedSimpArgs false
namespace Go.Proofs.Ytmjhfnmkegdafaa
open Go Go.Sx

def bsInv (d : Int) (rows : List (Int × Int)) (x : Nat × Nat) : Prop := x.1 ≤ x.2 ∧ x.2 ≤ rows.length ∧ (∀ k r, k < x.1 → rows[k]? = some r → r.2 < d) ∧ ∀ k r, x.2 ≤ k → rows[k]? = some r → d ≤ r.2
noncomputable def Ann.bs (d : Int) (rows : List (Int × Int)) : FnAnn := ⟨[], [(3, ⟨Nat × Nat, [
  (fun σ x => ⟨σ.n, (9, .val (.int .i64 x.1)) :: (10, .val (.int .i64 x.2)) :: keepE σ.env [0, 1, 2, 8], σ.heap⟩, fun _ x => bsInv d rows x)], fun x => x.2 - x.1⟩)]⟩
/-- The first row that ends at a distance or behind it; the blocks are as they were. -/
def AtR (d : Int) (rows : List (Int × Int)) (L0 : Blks) (v : Value) (L : Blks) : Prop := ∃ i : Nat, v = .int .i64 i ∧ i ≤ rows.length ∧ (∀ k r, k < i → rows[k]? = some r → r.2 < d) ∧ (∀ k r, i ≤ k → rows[k]? = some r → d ≤ r.2) ∧ ∃ G, L = L0 ++ G
noncomputable def atGoal (b b1 base cap : Nat) (xs ys : List Int) (mark d : Int) (rows : List (Int × Int)) : Prop :=
  xrun Go.Proofs.Try.prog [] [(33, Ann.bs d rows)] [] 9 [] 24 [.ptr 0 0 0, .val (.int .u32 d)]
    [.own b (.cells 2 [.val (.int .u32 mark), .slc 1 0 rows.length cap] 55), .own b1 (.tab 60 base cap [.ints .u32 xs, .ints .u32 ys])] fun s h =>
      AtR d rows [(b, .cells [.int .u32 mark, .slice (some ⟨b1, base * 2, none⟩) rows.length cap] 55), (b1, .tab 60 base cap [.ints .u32 xs, .ints .u32 ys])] (den (locs h) s) (owned (locs h) h)
noncomputable def atNilGoal (b : Nat) (mark d : Int) : Prop :=
  xrun Go.Proofs.Try.prog [] [(33, Ann.bs d [])] [] 9 [] 24 [.ptr 0 0 0, .val (.int .u32 d)]
    [.own b (.cells 2 [.val (.int .u32 mark), .val (.slice none 0 0)] 55)] fun s h => AtR d [] [(b, .cells [.int .u32 mark, .slice none 0 0] 55)] (den (locs h) s) (owned (locs h) h)

def Rising (rows : List (Int × Int)) : Prop := ∀ (i j : Nat) (r s : Int × Int), i ≤ j → rows[i]? = some r → rows[j]? = some s → r.2 ≤ s.2

theorem mid_eq {i j : Nat} (hj : j < 1000000) (hij : i < j) :
    IntKind.wrap .i64 (Int.fdiv (IntKind.wrap .u64 (IntKind.wrap .i64 ((i : Int) + (j : Int)))) ((2 : Int) ^ min (Int.toNat (1 : Int)) (IntKind.bits .u64))) = (((i + j) / 2 : Nat) : Int) := by
  have e1 : IntKind.wrap .i64 ((i : Int) + (j : Int)) = ((i + j : Nat) : Int) := by rw [IntKind.wrap_i64]; omega
  have e2 : IntKind.wrap .u64 ((i + j : Nat) : Int) = ((i + j : Nat) : Int) := by simp only [IntKind.wrap, IntKind.bits, IntKind.signed]; simp; omega
  have e3 : min (Int.toNat (1 : Int)) (IntKind.bits .u64) = 1 := by decide
  rw [e1, e2, e3]
  have e4 : Int.fdiv ((i + j : Nat) : Int) ((2 : Int) ^ 1) = (((i + j) / 2 : Nat) : Int) := by
    rw [Int.pow_one, Int.fdiv_eq_ediv_of_nonneg _ (by omega)]; omega
  rw [e4, IntKind.wrap_i64]; omega

set_option maxHeartbeats 1000000 in
theorem at_vc (b b1 base cap : Nat) (xs ys : List Int) (mark d : Int) (rows : List (Int × Int)) (hlc : rows.length ≤ cap) (hb : rows.length < 1000000)
    (h1 : xs.take rows.length = rows.map (·.1)) (h2 : ys.take rows.length = rows.map (·.2)) (hr : Rising rows) :
    ∃ (x0 : Nat × Nat),
  ((((0 : Int) = (↑x0.1 : Int) ∧
          (↑(List.length rows) : Int) = (↑x0.2 : Int) ∧
            ((0 : Nat) = (0 : Nat) ∧ List.length rows = List.length rows ∧ cap = cap) ∧ d = d ∧ True ∧ (↑(List.length rows) : Int) = (↑(List.length rows) : Int) ∧ True) ∧
        (b = b ∧ mark = mark ∧ ((0 : Nat) = (0 : Nat) ∧ List.length rows = List.length rows ∧ cap = cap) ∧ True) ∧ (b1 = b1 ∧ base = base ∧ cap = cap ∧ xs = xs ∧ ys = ys ∧ True) ∧ True) ∧
      bsInv d rows x0) ∧
    ∀ (x : Nat × Nat),
      bsInv d rows x →
        ((↑x.1 : Int) < (↑x.2 : Int) →
            (0 : Int) ≤ (1 : Int) ∧
              ((0 : Int) ≤
                    Go.IntKind.wrap Go.IntKind.i64
                      (Int.fdiv (Go.IntKind.wrap Go.IntKind.u64 (Go.IntKind.wrap Go.IntKind.i64 ((↑x.1 : Int) + (↑x.2 : Int))))
                        ((2 : Int) ^ Min.min (Int.toNat (1 : Int)) (Go.IntKind.bits Go.IntKind.u64))) ∧
                  Go.IntKind.wrap Go.IntKind.i64
                      (Int.fdiv (Go.IntKind.wrap Go.IntKind.u64 (Go.IntKind.wrap Go.IntKind.i64 ((↑x.1 : Int) + (↑x.2 : Int))))
                        ((2 : Int) ^ Min.min (Int.toNat (1 : Int)) (Go.IntKind.bits Go.IntKind.u64))) <
                    (↑(List.length rows) : Int)) ∧
                (0 : Nat) +
                      Int.toNat
                        (Go.IntKind.wrap Go.IntKind.i64
                          (Int.fdiv (Go.IntKind.wrap Go.IntKind.u64 (Go.IntKind.wrap Go.IntKind.i64 ((↑x.1 : Int) + (↑x.2 : Int))))
                            ((2 : Int) ^ Min.min (Int.toNat (1 : Int)) (Go.IntKind.bits Go.IntKind.u64)))) <
                    cap ∧
                  (0 : Nat) +
                        Int.toNat
                          (Go.IntKind.wrap Go.IntKind.i64
                            (Int.fdiv (Go.IntKind.wrap Go.IntKind.u64 (Go.IntKind.wrap Go.IntKind.i64 ((↑x.1 : Int) + (↑x.2 : Int))))
                              ((2 : Int) ^ Min.min (Int.toNat (1 : Int)) (Go.IntKind.bits Go.IntKind.u64)))) <
                      cap ∧
                    ∀ (b_1 : Nat),
                      (List.getD ys
                              ((0 : Nat) +
                                Int.toNat
                                  (Go.IntKind.wrap Go.IntKind.i64
                                    (Int.fdiv (Go.IntKind.wrap Go.IntKind.u64 (Go.IntKind.wrap Go.IntKind.i64 ((↑x.1 : Int) + (↑x.2 : Int))))
                                      ((2 : Int) ^ Min.min (Int.toNat (1 : Int)) (Go.IntKind.bits Go.IntKind.u64)))))
                              (0 : Int) <
                            d →
                          ((-1 : Int) < (0 : Int) →
                              ∃ (y : Nat × Nat),
                                y.2 - y.1 < x.2 - x.1 ∧
                                  ((Go.IntKind.wrap Go.IntKind.i64
                                            (Go.IntKind.wrap Go.IntKind.i64
                                                (Int.fdiv (Go.IntKind.wrap Go.IntKind.u64 (Go.IntKind.wrap Go.IntKind.i64 ((↑x.1 : Int) + (↑x.2 : Int))))
                                                  ((2 : Int) ^ Min.min (Int.toNat (1 : Int)) (Go.IntKind.bits Go.IntKind.u64))) +
                                              (1 : Int)) =
                                          (↑y.1 : Int) ∧
                                        (↑x.2 : Int) = (↑y.2 : Int) ∧
                                          ((0 : Nat) = (0 : Nat) ∧ List.length rows = List.length rows ∧ cap = cap) ∧ d = d ∧ True ∧ (↑(List.length rows) : Int) = (↑(List.length rows) : Int) ∧ True) ∧
                                      (b = b ∧ mark = mark ∧ ((0 : Nat) = (0 : Nat) ∧ List.length rows = List.length rows ∧ cap = cap) ∧ True) ∧
                                        (b1 = b1 ∧ base = base ∧ cap = cap ∧ xs = xs ∧ ys = ys ∧ True) ∧ True) ∧
                                    bsInv d rows y) ∧
                            (¬(-1 : Int) < (0 : Int) →
                              ∃ (y : Nat × Nat),
                                y.2 - y.1 < x.2 - x.1 ∧
                                  (((↑x.1 : Int) = (↑y.1 : Int) ∧
                                        Go.IntKind.wrap Go.IntKind.i64
                                              (Int.fdiv (Go.IntKind.wrap Go.IntKind.u64 (Go.IntKind.wrap Go.IntKind.i64 ((↑x.1 : Int) + (↑x.2 : Int))))
                                                ((2 : Int) ^ Min.min (Int.toNat (1 : Int)) (Go.IntKind.bits Go.IntKind.u64))) =
                                            (↑y.2 : Int) ∧
                                          ((0 : Nat) = (0 : Nat) ∧ List.length rows = List.length rows ∧ cap = cap) ∧ d = d ∧ True ∧ (↑(List.length rows) : Int) = (↑(List.length rows) : Int) ∧ True) ∧
                                      (b = b ∧ mark = mark ∧ ((0 : Nat) = (0 : Nat) ∧ List.length rows = List.length rows ∧ cap = cap) ∧ True) ∧
                                        (b1 = b1 ∧ base = base ∧ cap = cap ∧ xs = xs ∧ ys = ys ∧ True) ∧ True) ∧
                                    bsInv d rows y)) ∧
                        (¬List.getD ys
                                ((0 : Nat) +
                                  Int.toNat
                                    (Go.IntKind.wrap Go.IntKind.i64
                                      (Int.fdiv (Go.IntKind.wrap Go.IntKind.u64 (Go.IntKind.wrap Go.IntKind.i64 ((↑x.1 : Int) + (↑x.2 : Int))))
                                        ((2 : Int) ^ Min.min (Int.toNat (1 : Int)) (Go.IntKind.bits Go.IntKind.u64)))))
                                (0 : Int) <
                              d →
                          ((1 : Int) < (0 : Int) →
                              ∃ (y : Nat × Nat),
                                y.2 - y.1 < x.2 - x.1 ∧
                                  ((Go.IntKind.wrap Go.IntKind.i64
                                            (Go.IntKind.wrap Go.IntKind.i64
                                                (Int.fdiv (Go.IntKind.wrap Go.IntKind.u64 (Go.IntKind.wrap Go.IntKind.i64 ((↑x.1 : Int) + (↑x.2 : Int))))
                                                  ((2 : Int) ^ Min.min (Int.toNat (1 : Int)) (Go.IntKind.bits Go.IntKind.u64))) +
                                              (1 : Int)) =
                                          (↑y.1 : Int) ∧
                                        (↑x.2 : Int) = (↑y.2 : Int) ∧
                                          ((0 : Nat) = (0 : Nat) ∧ List.length rows = List.length rows ∧ cap = cap) ∧ d = d ∧ True ∧ (↑(List.length rows) : Int) = (↑(List.length rows) : Int) ∧ True) ∧
                                      (b = b ∧ mark = mark ∧ ((0 : Nat) = (0 : Nat) ∧ List.length rows = List.length rows ∧ cap = cap) ∧ True) ∧
                                        (b1 = b1 ∧ base = base ∧ cap = cap ∧ xs = xs ∧ ys = ys ∧ True) ∧ True) ∧
                                    bsInv d rows y) ∧
                            (¬(1 : Int) < (0 : Int) →
                              ∃ (y : Nat × Nat),
                                y.2 - y.1 < x.2 - x.1 ∧
                                  (((↑x.1 : Int) = (↑y.1 : Int) ∧
                                        Go.IntKind.wrap Go.IntKind.i64
                                              (Int.fdiv (Go.IntKind.wrap Go.IntKind.u64 (Go.IntKind.wrap Go.IntKind.i64 ((↑x.1 : Int) + (↑x.2 : Int))))
                                                ((2 : Int) ^ Min.min (Int.toNat (1 : Int)) (Go.IntKind.bits Go.IntKind.u64))) =
                                            (↑y.2 : Int) ∧
                                          ((0 : Nat) = (0 : Nat) ∧ List.length rows = List.length rows ∧ cap = cap) ∧ d = d ∧ True ∧ (↑(List.length rows) : Int) = (↑(List.length rows) : Int) ∧ True) ∧
                                      (b = b ∧ mark = mark ∧ ((0 : Nat) = (0 : Nat) ∧ List.length rows = List.length rows ∧ cap = cap) ∧ True) ∧
                                        (b1 = b1 ∧ base = base ∧ cap = cap ∧ xs = xs ∧ ys = ys ∧ True) ∧ True) ∧
                                    bsInv d rows y))) ∧
          (¬(↑x.1 : Int) < (↑x.2 : Int) →
            ((↑x.1 : Int) < (↑(List.length rows) : Int) →
                ((0 : Int) ≤ (↑x.1 : Int) ∧ (↑x.1 : Int) < (↑(List.length rows) : Int)) ∧
                  (0 : Nat) + x.1 < cap ∧
                    (0 : Nat) + x.1 < cap ∧
                      ∀ (b_1 : Nat),
                        (List.getD ys ((0 : Nat) + x.1) (0 : Int) < d →
                            AtR d rows
                              [(b, Go.Sx.Blk.cells [Go.Value.int Go.IntKind.u32 mark, Go.Value.slice (Option.some { block := b1, off := base * (2 : Nat) }) (List.length rows) cap] (55 : Go.TypeId)),
                                (b1, Go.Sx.Blk.tab (60 : Go.TypeId) base cap [Go.Sx.Col.ints Go.IntKind.u32 xs, Go.Sx.Col.ints Go.IntKind.u32 ys])]
                              (Go.Value.int Go.IntKind.i64 (↑x.1 : Int))
                              [(b, Go.Sx.Blk.cells [Go.Value.int Go.IntKind.u32 mark, Go.Value.slice (Option.some { block := b1, off := base * (2 : Nat) }) (List.length rows) cap] (55 : Go.TypeId)),
                                (b1, Go.Sx.Blk.tab (60 : Go.TypeId) base cap [Go.Sx.Col.ints Go.IntKind.u32 xs, Go.Sx.Col.ints Go.IntKind.u32 ys]),
                                (b_1,
                                  Go.Sx.Blk.cells [Go.Value.int Go.IntKind.u32 (List.getD xs ((0 : Nat) + x.1) (0 : Int)), Go.Value.int Go.IntKind.u32 (List.getD ys ((0 : Nat) + x.1) (0 : Int))]
                                    (60 : Nat))]) ∧
                          (¬List.getD ys ((0 : Nat) + x.1) (0 : Int) < d →
                            AtR d rows
                              [(b, Go.Sx.Blk.cells [Go.Value.int Go.IntKind.u32 mark, Go.Value.slice (Option.some { block := b1, off := base * (2 : Nat) }) (List.length rows) cap] (55 : Go.TypeId)),
                                (b1, Go.Sx.Blk.tab (60 : Go.TypeId) base cap [Go.Sx.Col.ints Go.IntKind.u32 xs, Go.Sx.Col.ints Go.IntKind.u32 ys])]
                              (Go.Value.int Go.IntKind.i64 (↑x.1 : Int))
                              [(b, Go.Sx.Blk.cells [Go.Value.int Go.IntKind.u32 mark, Go.Value.slice (Option.some { block := b1, off := base * (2 : Nat) }) (List.length rows) cap] (55 : Go.TypeId)),
                                (b1, Go.Sx.Blk.tab (60 : Go.TypeId) base cap [Go.Sx.Col.ints Go.IntKind.u32 xs, Go.Sx.Col.ints Go.IntKind.u32 ys]),
                                (b_1,
                                  Go.Sx.Blk.cells [Go.Value.int Go.IntKind.u32 (List.getD xs ((0 : Nat) + x.1) (0 : Int)), Go.Value.int Go.IntKind.u32 (List.getD ys ((0 : Nat) + x.1) (0 : Int))]
                                    (60 : Nat))])) ∧
              (¬(↑x.1 : Int) < (↑(List.length rows) : Int) →
                AtR d rows
                  [(b, Go.Sx.Blk.cells [Go.Value.int Go.IntKind.u32 mark, Go.Value.slice (Option.some { block := b1, off := base * (2 : Nat) }) (List.length rows) cap] (55 : Go.TypeId)),
                    (b1, Go.Sx.Blk.tab (60 : Go.TypeId) base cap [Go.Sx.Col.ints Go.IntKind.u32 xs, Go.Sx.Col.ints Go.IntKind.u32 ys])]
                  (Go.Value.int Go.IntKind.i64 (↑x.1 : Int))
                  [(b, Go.Sx.Blk.cells [Go.Value.int Go.IntKind.u32 mark, Go.Value.slice (Option.some { block := b1, off := base * (2 : Nat) }) (List.length rows) cap] (55 : Go.TypeId)),
                    (b1, Go.Sx.Blk.tab (60 : Go.TypeId) base cap [Go.Sx.Col.ints Go.IntKind.u32 xs, Go.Sx.Col.ints Go.IntKind.u32 ys])])) := by
  refine ⟨(0, rows.length), ⟨by simp, by simp, by simp, fun k r hk => by simp at hk, fun k r hk hr => ?_⟩, ?_⟩
  · rw [List.getElem?_eq_none hk] at hr; cases hr
  · rintro ⟨i, j⟩ ⟨q1, q2, q3, q4⟩
    dsimp only at q1 q2 q3 q4
    refine ⟨fun hij => ?_, fun hij => ?_⟩
    · have hij : i < j := by simpa using hij
      have hm := mid_eq (i := i) (j := j) (by omega) hij
      have hj : (i + j) / 2 < rows.length := by omega
      have g2 := getD_take h2 hj
      have hmid : rows[(i + j) / 2]? = some rows[(i + j) / 2] := List.getElem?_eq_getElem hj
      have hw : IntKind.wrap .i64 ((((i + j) / 2 : Nat) : Int) + (1 : Int)) = (((i + j) / 2 + 1 : Nat) : Int) := by rw [IntKind.wrap_i64]; omega
      dsimp only
      rw [hm]
      simp only [Int.toNat_natCast, Nat.zero_add, g2, hw]
      refine ⟨by omega, ⟨by omega, by omega⟩, by omega, by omega, fun b2 => ⟨fun hd => ⟨fun _ => ⟨((i + j) / 2 + 1, j), by dsimp only; omega, ⟨by simp, by simp⟩, by dsimp only; omega, q2, fun k r hk hkr => ?_, q4⟩, fun hn => absurd (by decide) hn⟩,
        fun hd => ⟨fun hn => absurd hn (by decide), fun _ => ⟨(i, (i + j) / 2), by dsimp only; omega, ⟨by simp, by simp⟩, by dsimp only; omega, by dsimp only; omega, q3, fun k r hk hkr => ?_⟩⟩⟩⟩
      · have := hr k ((i + j) / 2) r _ (by dsimp only at hk; omega) hkr hmid
        omega
      · have := hr ((i + j) / 2) k _ r hk hmid hkr
        omega
    · have hij : i = j := by simp at hij; omega
      subst hij
      dsimp only
      have fin : ∀ G, AtR d rows [(b, .cells [.int .u32 mark, .slice (some ⟨b1, base * 2, none⟩) rows.length cap] 55), (b1, .tab 60 base cap [.ints .u32 xs, .ints .u32 ys])] (.int .i64 (i : Int))
          ([(b, .cells [.int .u32 mark, .slice (some ⟨b1, base * 2, none⟩) rows.length cap] 55), (b1, .tab 60 base cap [.ints .u32 xs, .ints .u32 ys])] ++ G) := fun G => ⟨i, rfl, q2, q3, q4, G, rfl⟩
      exact ⟨fun hl => ⟨⟨by omega, hl⟩, by omega, by omega, fun b2 => ⟨fun _ => fin [_], fun _ => fin [_]⟩⟩, fun hl => fin []⟩

theorem atNil_vc (b : Nat) (mark d : Int) : 
    ∃ (x0 : Nat × Nat),
  ((((0 : Int) = (↑x0.1 : Int) ∧
          (↑(0 : Nat) : Int) = (↑x0.2 : Int) ∧
            Go.Value.slice Option.none (0 : Nat) (0 : Nat) = Go.Value.slice Option.none (0 : Nat) (0 : Nat) ∧ d = d ∧ True ∧ (↑(0 : Nat) : Int) = (↑(0 : Nat) : Int) ∧ True) ∧
        (b = b ∧ mark = mark ∧ Go.Value.slice Option.none (0 : Nat) (0 : Nat) = Go.Value.slice Option.none (0 : Nat) (0 : Nat) ∧ True) ∧ True) ∧
      bsInv d [] x0) ∧
    ∀ (x : Nat × Nat),
      bsInv d [] x →
        ((↑x.1 : Int) < (↑x.2 : Int) → (0 : Int) ≤ (1 : Int) ∧ False) ∧
          (¬(↑x.1 : Int) < (↑x.2 : Int) →
            ((↑x.1 : Int) < (↑(0 : Nat) : Int) → False) ∧
              (¬(↑x.1 : Int) < (↑(0 : Nat) : Int) →
                AtR d [] [(b, Go.Sx.Blk.cells [Go.Value.int Go.IntKind.u32 mark, Go.Value.slice Option.none (0 : Nat) (0 : Nat)] (55 : Go.TypeId))] (Go.Value.int Go.IntKind.i64 (↑x.1 : Int))
                  [(b, Go.Sx.Blk.cells [Go.Value.int Go.IntKind.u32 mark, Go.Value.slice Option.none (0 : Nat) (0 : Nat)] (55 : Go.TypeId))])) := by
  refine ⟨(0, 0), ⟨by simp, by simp, by simp, fun k r hk => by simp at hk, fun k r hk hr => by simp at hr⟩, ?_⟩
  rintro ⟨i, j⟩ ⟨q1, q2, q3, q4⟩
  dsimp only at q1 q2 q3 q4
  simp at q2
  subst q2
  have hi : i = 0 := by omega
  subst hi
  exact ⟨fun h => by simp at h, fun _ => ⟨fun h => by simp at h, fun _ => ⟨0, rfl, by simp, fun k r hk => by simp at hk, fun k r hk hr => by simp at hr, [], rfl⟩⟩⟩

theorem at_goal (b b1 base cap : Nat) (xs ys : List Int) (mark d : Int) (rows : List (Int × Int)) (hlc : rows.length ≤ cap) (hb : rows.length < 1000000)
    (h1 : xs.take rows.length = rows.map (·.1)) (h2 : ys.take rows.length = rows.map (·.2)) (hr : Rising rows) : atGoal b b1 base cap xs ys mark d rows :=
  Eq.mpr (by kernel_rfl) (at_vc b b1 base cap xs ys mark d rows hlc hb h1 h2 hr)
theorem atNil_goal (b : Nat) (mark d : Int) : atNilGoal b mark d := Eq.mpr (by kernel_rfl) (atNil_vc b mark d)

theorem at_triple (b b1 base cap : Nat) (xs ys : List Int) (mark d : Int) (rows : List (Int × Int)) (hlc : rows.length ≤ cap) (hb : rows.length < 1000000)
    (h1 : xs.take rows.length = rows.map (·.1)) (h2 : ys.take rows.length = rows.map (·.2)) (hr : Rising rows) :
    Triple Go.Proofs.Try.prog 24 [.pointer (some ⟨b, 0, none⟩), .int .u32 d] [(b, .cells [.int .u32 mark, .slice (some ⟨b1, base * 2, none⟩) rows.length cap] 55), (b1, .tab 60 base cap [.ints .u32 xs, .ints .u32 ys])]
      (AtR d rows [(b, .cells [.int .u32 mark, .slice (some ⟨b1, base * 2, none⟩) rows.length cap] 55), (b1, .tab 60 base cap [.ints .u32 xs, .ints .u32 ys])]) :=
  triple_of_run (h := [.own b (.cells 2 [.val (.int .u32 mark), .slc 1 0 rows.length cap] 55), .own b1 (.tab 60 base cap [.ints .u32 xs, .ints .u32 ys])]) (args := [.ptr 0 0 0, .val (.int .u32 d)])
    (run_ok _ _ _ _ _) (fun r => rfl) (fun r => rfl) (by simp) (at_goal b b1 base cap xs ys mark d rows hlc hb h1 h2 hr)
theorem atNil_triple (b : Nat) (mark d : Int) :
    Triple Go.Proofs.Try.prog 24 [.pointer (some ⟨b, 0, none⟩), .int .u32 d] [(b, .cells [.int .u32 mark, .slice none 0 0] 55)] (AtR d [] [(b, .cells [.int .u32 mark, .slice none 0 0] 55)]) :=
  triple_of_run (h := [.own b (.cells 2 [.val (.int .u32 mark), .val (.slice none 0 0)] 55)]) (args := [.ptr 0 0 0, .val (.int .u32 d)])
    (run_ok _ _ _ _ _) (fun r => rfl) (fun r => rfl) (by simp) (atNil_goal b mark d)
end Go.Proofs.Ytmjhfnmkegdafaa
