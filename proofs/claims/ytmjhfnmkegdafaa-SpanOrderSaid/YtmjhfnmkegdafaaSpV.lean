/- Span: the law SpanOrder. -/
import Derived.Test.YtmjhfnmkegdafaaSpT


set_option maxRecDepth 100000
set_option linter.unusedVariables false
set_option linter.unusedSimpArgs false
namespace Go.Proofs.Ytmjhfnmkegdafaa
open Go Go.Sx

structure OX where
  i : Nat
  ba : Nat
  bb : Nat
  L : Blks
  ma : Int
  mb : Int
  ra : List (Int × Int)
  rb : List (Int × Int)
/-- Number j, counted from the mark. -/
def eF (xs : List Int) (j : Nat) : Int := Int.tmod (xs.getD j 0) 100
def KaF (xs : List Int) (i : Nat) (x : Int) : Prop := x = 0 ∨ ∃ j, j < i ∧ x = eF xs j
def KbF (xs : List Int) (n r i : Nat) (x : Int) : Prop := x = 0 ∨ ∃ j, j < i ∧ (x = eF xs ((j + r) % n) ∨ x = eF xs (n - 1 - j))
def turnF (turn : Int) : Nat := (IntKind.wrap .u64 turn % 40).toNat
def orInv (mark : Int) (xs : List Int) (n r : Nat) (x : OX) : Prop := x.i ≤ n ∧ ∃ L1 L2 G, x.L.Perm (L1 ++ (L2 ++ G)) ∧ SetRep x.ba x.ma x.ra L1 ∧ SetRep x.bb x.mb x.rb L2 ∧ St mark x.ma x.ra (KaF xs x.i) ∧ St mark x.mb x.rb (KbF xs n r x.i)
noncomputable def Ann.or (mark : Int) (xs : List Int) (n r : Nat) : FnAnn := ⟨[], [(6, ⟨OX, [
  (fun σ x => ⟨σ.n, (21, .val (.int .i64 x.i)) :: (8, .val (.pointer (some ⟨x.ba, 0, none⟩))) :: (9, .val (.pointer (some ⟨x.bb, 0, none⟩))) :: keepE σ.env [0, 1, 2, 7, 20], Ann.chunk σ.heap x.L⟩, fun _ x => orInv mark xs n r x)], fun x => n - x.i⟩)]⟩
noncomputable def orGoal (bd t base len cap n r : Nat) (xs : List Int) (mark turn : Int) : Prop :=
  xrun Go.Proofs.Try.prog tbl2T [(5, Ann.or mark xs n r)] [([], (12, false)), ([], (70, true)), ([], (77, true))] 9 [] 5 [.val (.int .u32 mark), .slc 0 0 len cap, .val (.int .i64 turn)] [.ro bd (.tab t base cap [.ints .u16 xs]), .chunk []] fun s h => bOf s fun p => p
noncomputable def orNilGoal (o : Option Addr) (cap : Nat) (mark turn : Int) : Prop :=
  xrun Go.Proofs.Try.prog tbl2T [(5, Ann.or mark [] 0 0)] [([], (12, false)), ([], (70, true)), ([], (77, true))] 9 [] 5 [.val (.int .u32 mark), .val (.slice o 0 cap), .val (.int .i64 turn)] [.chunk []] fun s h => bOf s fun p => p

theorem KaF_zero (xs : List Int) (y : Int) : KaF xs 0 y ↔ y = 0 := by simp [KaF]
theorem KbF_zero (xs : List Int) (n r : Nat) (y : Int) : KbF xs n r 0 y ↔ y = 0 := by simp [KbF]
theorem KaF_succ (xs : List Int) (i : Nat) (y : Int) : KaF xs (i + 1) y ↔ KaF xs i y ∨ y = eF xs i := by
  unfold KaF
  constructor
  · rintro (h | ⟨j, hj, h⟩)
    · exact .inl (.inl h)
    · rcases Nat.lt_succ_iff_lt_or_eq.1 hj with hj | rfl
      · exact .inl (.inr ⟨j, hj, h⟩)
      · exact .inr h
  · rintro ((h | ⟨j, hj, h⟩) | h)
    · exact .inl h
    · exact .inr ⟨j, by omega, h⟩
    · exact .inr ⟨i, by omega, h⟩
theorem KbF_succ (xs : List Int) (n r i : Nat) (y : Int) : KbF xs n r (i + 1) y ↔ (KbF xs n r i y ∨ y = eF xs ((i + r) % n)) ∨ y = eF xs (n - 1 - i) := by
  unfold KbF
  constructor
  · rintro (h | ⟨j, hj, h⟩)
    · exact .inl (.inl (.inl h))
    · rcases Nat.lt_succ_iff_lt_or_eq.1 hj with hj | rfl
      · exact .inl (.inl (.inr ⟨j, hj, h⟩))
      · rcases h with h | h
        · exact .inl (.inr h)
        · exact .inr h
  · rintro (((h | ⟨j, hj, h⟩) | h) | h)
    · exact .inl h
    · exact .inr ⟨j, by omega, h⟩
    · exact .inr ⟨i, by omega, .inl h⟩
    · exact .inr ⟨i, by omega, .inr h⟩
theorem Kab (xs : List Int) (n r : Nat) (y : Int) : KaF xs n y ↔ KbF xs n r n y := by
  unfold KaF KbF
  constructor
  · rintro (h | ⟨j, hj, h⟩)
    · exact .inl h
    · exact .inr ⟨n - 1 - j, by omega, .inr (by rw [show n - 1 - (n - 1 - j) = j by omega]; exact h)⟩
  · rintro (h | ⟨j, hj, h | h⟩)
    · exact .inl h
    · exact .inr ⟨(j + r) % n, Nat.mod_lt _ (by omega), h⟩
    · exact .inr ⟨n - 1 - j, by omega, h⟩
theorem eF_bd {xs : List Int} (hx : ∀ z ∈ xs, 0 ≤ z ∧ z < 65536) (j : Nat) : 0 ≤ eF xs j ∧ eF xs j < 100 := by
  unfold eF
  have : 0 ≤ xs.getD j 0 := by
    rw [List.getD_eq_getElem?_getD]
    cases h : xs[j]? with
    | none => simp
    | some z => exact (hx z (List.mem_of_getElem? h)).1
  rw [Int.tmod_eq_emod_of_nonneg this]
  omega
theorem eF_w {xs : List Int} (hx : ∀ z ∈ xs, 0 ≤ z ∧ z < 65536) (j : Nat) : IntKind.wrap .u32 (Int.tmod (List.getD xs j (0 : Int)) (100 : Int)) = eF xs j := by
  have := eF_bd hx j
  have h2 : Int.tmod (List.getD xs j (0 : Int)) (100 : Int) = eF xs j := rfl
  rw [h2]
  exact u32_id this.1 (by omega)
theorem turn_lt (turn : Int) : turnF turn < 40 := by unfold turnF; omega
theorem turn_ix {i n : Nat} (turn : Int) (hi : i < n) (hn : n ≤ 40) :
    Int.tmod (IntKind.wrap .i64 ((i : Int) + IntKind.wrap .i64 (Int.tmod (IntKind.wrap .u64 turn) (40 : Int)))) (n : Int) = (((i + turnF turn) % n : Nat) : Int) := by
  have h0 : 0 ≤ IntKind.wrap .u64 turn := by
    simp only [IntKind.wrap, IntKind.bits, IntKind.signed]
    simp
    omega
  have h1 : Int.tmod (IntKind.wrap .u64 turn) 40 = (turnF turn : Int) := by
    rw [Int.tmod_eq_emod_of_nonneg h0]
    unfold turnF
    omega
  have h2 := turn_lt turn
  rw [h1, IntKind.wrap_i64, IntKind.wrap_i64]
  rw [show ((turnF turn : Int) + 9223372036854775808) % 18446744073709551616 - 9223372036854775808 = (turnF turn : Int) by omega]
  rw [show ((i : Int) + (turnF turn : Int) + 9223372036854775808) % 18446744073709551616 - 9223372036854775808 = ((i + turnF turn : Nat) : Int) by omega]
  rw [Int.tmod_eq_emod_of_nonneg (by omega)]
  rfl
theorem back_ix {i n : Nat} (hi : i < n) (hn : n ≤ 40) : IntKind.wrap .i64 (IntKind.wrap .i64 ((n : Int) - 1) - (i : Int)) = ((n - 1 - i : Nat) : Int) := by
  rw [IntKind.wrap_i64, IntKind.wrap_i64]; omega

theorem St.addK {m0 mark x n mark' : Int} {rows rows' : List (Int × Int)} {K : Int → Prop} (h : St m0 mark rows K) (h0 : 0 ≤ x) (h1 : x ≤ 4096)
    (ha : AddS mark rows (IntKind.wrap .u32 (m0 + x)) n mark' rows') : St m0 mark' rows' fun y => K y ∨ y = x := by
  obtain ⟨k1, -, -, k2, -⟩ := h.add h0 (by omega) ha
  refine k1.congr fun y => ⟨fun h => h.imp id And.right, fun h => h.imp id fun h => ⟨fun h2 => ?_, h⟩⟩
  obtain ⟨o, h3, h4, -⟩ := k2 h2
  omega

theorem or_vc (bd t base len cap n : Nat) (xs : List Int) (mark turn : Int) (hlc : len ≤ cap) (hm0 : 0 ≤ mark) (hm1 : mark < 4294967296) (hx : ∀ z ∈ xs, 0 ≤ z ∧ z < 65536) (hn : min (len : Int) 40 = (n : Int)) (r : Nat) (hr : r = turnF turn) :
    ∃ (x : Unit),
  ∃ (L : List (Nat × Go.Sx.Blk)),
    ∃ (G : List (Nat × Go.Sx.Blk)),
      List.Perm [] (L ++ G) ∧
        ((0 : Nat) = (0 : Nat) ∧ L = []) ∧
          ∀ (a : Unit) (L' : List (Nat × Go.Sx.Blk)),
            a = () →
              ∃ (x : Int),
                ∃ (L : List (Nat × Go.Sx.Blk)),
                  ∃ (G_1 : List (Nat × Go.Sx.Blk)),
                    List.Perm (L' ++ G) (L ++ G_1) ∧
                      ([Go.Value.int Go.IntKind.u32 mark] = [Go.Value.int Go.IntKind.u32 x] ∧ L = []) ∧
                        ∀ (a : Nat) (L' : List (Nat × Go.Sx.Blk)),
                          SetRep a x [] L' →
                            ∃ (x : Int),
                              ∃ (L : List (Nat × Go.Sx.Blk)),
                                ∃ (G : List (Nat × Go.Sx.Blk)),
                                  List.Perm (L' ++ G_1) (L ++ G) ∧
                                    ([Go.Value.int Go.IntKind.u32 mark] = [Go.Value.int Go.IntKind.u32 x] ∧ L = []) ∧
                                      ∀ (a_2 : Nat) (L' : List (Nat × Go.Sx.Blk)),
                                        SetRep a_2 x [] L' →
                                          ∃ (x0 : OX),
                                            ((((0 : Int) = (↑x0.1 : Int) ∧
                                                    Go.Value.pointer (Option.some { block := a, off := (0 : Nat) }) = Go.Value.pointer (Option.some { block := x0.2, off := (0 : Nat) }) ∧
                                                      Go.Value.pointer (Option.some { block := a_2, off := (0 : Nat) }) = Go.Value.pointer (Option.some { block := x0.3, off := (0 : Nat) }) ∧
                                                        mark = mark ∧
                                                          ((0 : Nat) = (0 : Nat) ∧ len = len ∧ cap = cap) ∧
                                                            turn = turn ∧
                                                              Min.min (↑len : Int) (40 : Int) = Min.min (↑len : Int) (40 : Int) ∧
                                                                Min.min (↑len : Int) (40 : Int) = Min.min (↑len : Int) (40 : Int) ∧ True) ∧
                                                  (bd = bd ∧ bif Nat.beq t t then base = base ∧ cap = cap ∧ xs = xs ∧ True else False) ∧ L' ++ G = x0.4 ∧ True) ∧
                                                orInv mark xs n r x0) ∧
                                              ∀ (x : OX),
                                                orInv mark xs n r x →
                                                  ((↑x.1 : Int) < Min.min (↑len : Int) (40 : Int) →
                                                      ((0 : Int) ≤ (↑x.1 : Int) ∧ (↑x.1 : Int) < (↑len : Int)) ∧
                                                        (0 : Nat) + x.1 < cap ∧
                                                          (100 : Int) ≠ (0 : Int) ∧
                                                            ∃ (x_1 : TX),
                                                              ∃ (L : List (Nat × Go.Sx.Blk)),
                                                                ∃ (G : List (Nat × Go.Sx.Blk)),
                                                                  List.Perm x.4 (L ++ G) ∧
                                                                    ([Go.Value.pointer (Option.some { block := x.2, off := (0 : Nat) }),
                                                                            Go.Value.int Go.IntKind.u32
                                                                              (Go.IntKind.wrap Go.IntKind.u32
                                                                                (mark + Go.IntKind.wrap Go.IntKind.u32 (Int.tmod (List.getD xs ((0 : Nat) + x.1) (0 : Int)) (100 : Int))))] =
                                                                          [Go.Value.pointer (Option.some { block := x_1.1, off := (0 : Nat) }), Go.Value.int Go.IntKind.u32 x_1.4] ∧
                                                                        SetRep x_1.1 x_1.2 x_1.3 L ∧ Good x_1.3) ∧
                                                                      ∀ (a : Int) (L' : List (Nat × Go.Sx.Blk)),
                                                                        (∃ (mark' : Int),
                                                                            ∃ (rows' : List (Int × Int)),
                                                                              AddS x_1.2 x_1.3 x_1.4 a mark' rows' ∧
                                                                                SetRep x_1.1 mark' rows' L') →
                                                                          (40 : Int) ≠ (0 : Int) ∧
                                                                            Min.min (↑len : Int) (40 : Int) ≠ (0 : Int) ∧
                                                                              ((0 : Int) ≤
                                                                                    Int.tmod
                                                                                      (Go.IntKind.wrap Go.IntKind.i64
                                                                                        ((↑x.1 : Int) + Go.IntKind.wrap Go.IntKind.i64 (Int.tmod (Go.IntKind.wrap Go.IntKind.u64 turn) (40 : Int))))
                                                                                      (Min.min (↑len : Int) (40 : Int)) ∧
                                                                                  Int.tmod
                                                                                      (Go.IntKind.wrap Go.IntKind.i64
                                                                                        ((↑x.1 : Int) + Go.IntKind.wrap Go.IntKind.i64 (Int.tmod (Go.IntKind.wrap Go.IntKind.u64 turn) (40 : Int))))
                                                                                      (Min.min (↑len : Int) (40 : Int)) <
                                                                                    (↑len : Int)) ∧
                                                                                (0 : Nat) +
                                                                                      Int.toNat
                                                                                        (Int.tmod
                                                                                          (Go.IntKind.wrap Go.IntKind.i64
                                                                                            ((↑x.1 : Int) + Go.IntKind.wrap Go.IntKind.i64 (Int.tmod (Go.IntKind.wrap Go.IntKind.u64 turn) (40 : Int))))
                                                                                          (Min.min (↑len : Int) (40 : Int))) <
                                                                                    cap ∧
                                                                                  (100 : Int) ≠ (0 : Int) ∧
                                                                                    ∃ (x_2 : TX),
                                                                                      ∃ (L : List (Nat × Go.Sx.Blk)),
                                                                                        ∃ (G_2 : List (Nat × Go.Sx.Blk)),
                                                                                          List.Perm (L' ++ G) (L ++ G_2) ∧
                                                                                            ([Go.Value.pointer (Option.some { block := x.3, off := (0 : Nat) }),
                                                                                                    Go.Value.int Go.IntKind.u32
                                                                                                      (Go.IntKind.wrap Go.IntKind.u32
                                                                                                        (mark +
                                                                                                          Go.IntKind.wrap Go.IntKind.u32
                                                                                                            (Int.tmod
                                                                                                              (List.getD xs
                                                                                                                ((0 : Nat) +
                                                                                                                  Int.toNat
                                                                                                                    (Int.tmod
                                                                                                                      (Go.IntKind.wrap Go.IntKind.i64
                                                                                                                        ((↑x.1 : Int) +
                                                                                                                          Go.IntKind.wrap Go.IntKind.i64
                                                                                                                            (Int.tmod (Go.IntKind.wrap Go.IntKind.u64 turn) (40 : Int))))
                                                                                                                      (Min.min (↑len : Int) (40 : Int))))
                                                                                                                (0 : Int))
                                                                                                              (100 : Int))))] =
                                                                                                  [Go.Value.pointer (Option.some { block := x_2.1, off := (0 : Nat) }),
                                                                                                    Go.Value.int Go.IntKind.u32 x_2.4] ∧
                                                                                                SetRep x_2.1 x_2.2 x_2.3 L ∧ Good x_2.3) ∧
                                                                                              ∀ (a : Int) (L' : List (Nat × Go.Sx.Blk)),
                                                                                                (∃ (mark' : Int),
                                                                                                    ∃ (rows' : List (Int × Int)),
                                                                                                      AddS x_2.2 x_2.3 x_2.4 a mark' rows' ∧
                                                                                                        SetRep x_2.1 mark' rows' L') →
                                                                                                  ((0 : Int) ≤
                                                                                                        Go.IntKind.wrap Go.IntKind.i64
                                                                                                          (Go.IntKind.wrap Go.IntKind.i64 (Min.min (↑len : Int) (40 : Int) - (1 : Int)) -
                                                                                                            (↑x.1 : Int)) ∧
                                                                                                      Go.IntKind.wrap Go.IntKind.i64
                                                                                                          (Go.IntKind.wrap Go.IntKind.i64 (Min.min (↑len : Int) (40 : Int) - (1 : Int)) -
                                                                                                            (↑x.1 : Int)) <
                                                                                                        (↑len : Int)) ∧
                                                                                                    (0 : Nat) +
                                                                                                          Int.toNat
                                                                                                            (Go.IntKind.wrap Go.IntKind.i64
                                                                                                              (Go.IntKind.wrap Go.IntKind.i64 (Min.min (↑len : Int) (40 : Int) - (1 : Int)) -
                                                                                                                (↑x.1 : Int))) <
                                                                                                        cap ∧
                                                                                                      (100 : Int) ≠ (0 : Int) ∧
                                                                                                        ∃ (x_3 : TX),
                                                                                                          ∃ (L : List (Nat × Go.Sx.Blk)),
                                                                                                            ∃ (G : List (Nat × Go.Sx.Blk)),
                                                                                                              List.Perm (L' ++ G_2) (L ++ G) ∧
                                                                                                                ([Go.Value.pointer (Option.some { block := x.3, off := (0 : Nat) }),
                                                                                                                        Go.Value.int Go.IntKind.u32
                                                                                                                          (Go.IntKind.wrap Go.IntKind.u32
                                                                                                                            (mark +
                                                                                                                              Go.IntKind.wrap Go.IntKind.u32
                                                                                                                                (Int.tmod
                                                                                                                                  (List.getD xs
                                                                                                                                    ((0 : Nat) +
                                                                                                                                      Int.toNat
                                                                                                                                        (Go.IntKind.wrap Go.IntKind.i64
                                                                                                                                          (Go.IntKind.wrap Go.IntKind.i64
                                                                                                                                              (Min.min (↑len : Int) (40 : Int) - (1 : Int)) -
                                                                                                                                            (↑x.1 : Int))))
                                                                                                                                    (0 : Int))
                                                                                                                                  (100 : Int))))] =
                                                                                                                      [Go.Value.pointer (Option.some { block := x_3.1, off := (0 : Nat) }),
                                                                                                                        Go.Value.int Go.IntKind.u32 x_3.4] ∧
                                                                                                                    SetRep x_3.1 x_3.2 x_3.3 L ∧
                                                                                                                      Good x_3.3) ∧
                                                                                                                  ∀ (a : Int) (L' : List (Nat × Go.Sx.Blk)),
                                                                                                                    (∃ (mark' : Int),
                                                                                                                        ∃ (rows' : List (Int × Int)),
                                                                                                                          AddS x_3.2 x_3.3 x_3.4 a mark' rows' ∧
                                                                                                                            SetRep x_3.1 mark' rows' L') →
                                                                                                                      ∃ (y : OX),
                                                                                                                        n - y.1 < n - x.1 ∧
                                                                                                                          ((Go.IntKind.wrap Go.IntKind.i64 ((↑x.1 : Int) + (1 : Int)) = (↑y.1 : Int) ∧
                                                                                                                                Go.Value.pointer (Option.some { block := x.2, off := (0 : Nat) }) =
                                                                                                                                    Go.Value.pointer (Option.some { block := y.2, off := (0 : Nat) }) ∧
                                                                                                                                  Go.Value.pointer (Option.some { block := x.3, off := (0 : Nat) }) =
                                                                                                                                      Go.Value.pointer
                                                                                                                                        (Option.some { block := y.3, off := (0 : Nat) }) ∧
                                                                                                                                    mark = mark ∧
                                                                                                                                      ((0 : Nat) = (0 : Nat) ∧ len = len ∧ cap = cap) ∧
                                                                                                                                        turn = turn ∧
                                                                                                                                          Min.min (↑len : Int) (40 : Int) =
                                                                                                                                              Min.min (↑len : Int) (40 : Int) ∧
                                                                                                                                            Min.min (↑len : Int) (40 : Int) =
                                                                                                                                                Min.min (↑len : Int) (40 : Int) ∧
                                                                                                                                              True) ∧
                                                                                                                              (bd = bd ∧
                                                                                                                                  bif Nat.beq t t then base = base ∧ cap = cap ∧ xs = xs ∧ True
                                                                                                                                  else False) ∧
                                                                                                                                L' ++ G = y.4 ∧ True) ∧
                                                                                                                            orInv mark xs n r y) ∧
                                                    (¬(↑x.1 : Int) < Min.min (↑len : Int) (40 : Int) →
                                                      ∃ (x_1 : SX),
                                                        ∃ (L : List (Nat × Go.Sx.Blk)),
                                                          ∃ (G : List (Nat × Go.Sx.Blk)),
                                                            List.Perm x.4 (L ++ G) ∧
                                                              ([Go.Value.pointer (Option.some { block := x.2, off := (0 : Nat) })] =
                                                                    [Go.Value.pointer (Option.some { block := x_1.1, off := (0 : Nat) })] ∧
                                                                  SetRep x_1.1 x_1.2 x_1.3 L) ∧
                                                                ∀ (a : Int) (L' : List (Nat × Go.Sx.Blk)),
                                                                  a = x_1.2 ∧ SetRep x_1.1 x_1.2 x_1.3 L' →
                                                                    ∃ (x_2 : SX),
                                                                      ∃ (L : List (Nat × Go.Sx.Blk)),
                                                                        ∃ (G_2 : List (Nat × Go.Sx.Blk)),
                                                                          List.Perm (L' ++ G) (L ++ G_2) ∧
                                                                            ([Go.Value.pointer (Option.some { block := x.3, off := (0 : Nat) })] =
                                                                                  [Go.Value.pointer (Option.some { block := x_2.1, off := (0 : Nat) })] ∧
                                                                                SetRep x_2.1 x_2.2 x_2.3 L) ∧
                                                                              ∀ (a_5 : Int) (L' : List (Nat × Go.Sx.Blk)),
                                                                                a_5 = x_2.2 ∧ SetRep x_2.1 x_2.2 x_2.3 L' →
                                                                                  a = a_5 ∧
                                                                                    ∃ (x_3 : SX),
                                                                                      ∃ (L : List (Nat × Go.Sx.Blk)),
                                                                                        ∃ (G : List (Nat × Go.Sx.Blk)),
                                                                                          List.Perm (L' ++ G_2) (L ++ G) ∧
                                                                                            ([Go.Value.pointer (Option.some { block := x.2, off := (0 : Nat) })] =
                                                                                                  [Go.Value.pointer (Option.some { block := x_3.1, off := (0 : Nat) })] ∧
                                                                                                SetRep x_3.1 x_3.2 x_3.3 L ∧ Good x_3.3) ∧
                                                                                              ∀ (a : Int) (L' : List (Nat × Go.Sx.Blk)),
                                                                                                a = lenF x_3.3 ∧ SetRep x_3.1 x_3.2 x_3.3 L' →
                                                                                                  ∃ (x_4 : SX),
                                                                                                    ∃ (L : List (Nat × Go.Sx.Blk)),
                                                                                                      ∃ (G_3 : List (Nat × Go.Sx.Blk)),
                                                                                                        List.Perm (L' ++ G) (L ++ G_3) ∧
                                                                                                          ([Go.Value.pointer (Option.some { block := x.3, off := (0 : Nat) })] =
                                                                                                                [Go.Value.pointer (Option.some { block := x_4.1, off := (0 : Nat) })] ∧
                                                                                                              SetRep x_4.1 x_4.2 x_4.3 L ∧
                                                                                                                Good x_4.3) ∧
                                                                                                            ∀ (a_8 : Int) (L' : List (Nat × Go.Sx.Blk)),
                                                                                                              a_8 = lenF x_4.3 ∧
                                                                                                                  SetRep x_4.1 x_4.2 x_4.3 L' →
                                                                                                                a = a_8 ∧
                                                                                                                  ∃ (x_5 : TX),
                                                                                                                    ∃ (L : List (Nat × Go.Sx.Blk)),
                                                                                                                      ∃ (G : List (Nat × Go.Sx.Blk)),
                                                                                                                        List.Perm (L' ++ G_3) (L ++ G) ∧
                                                                                                                          ([Go.Value.pointer (Option.some { block := x.2, off := (0 : Nat) }),
                                                                                                                                  Go.Value.int Go.IntKind.i64 (999 : Int)] =
                                                                                                                                [Go.Value.pointer (Option.some { block := x_5.1, off := (0 : Nat) }),
                                                                                                                                  Go.Value.int Go.IntKind.i64 x_5.4] ∧
                                                                                                                              SetRep x_5.1 x_5.2 x_5.3 L ∧
                                                                                                                                Good x_5.3) ∧
                                                                                                                            ∀ (a : VS) (L' : List (Nat × Go.Sx.Blk)),
                                                                                                                              GpR x_5.1 x_5.2 x_5.4 x_5.3
                                                                                                                                  (Go.Value.slice a.1 a.2 a.3) L' →
                                                                                                                                ∃ (x_6 : TX),
                                                                                                                                  ∃ (L : List (Nat × Go.Sx.Blk)),
                                                                                                                                    ∃ (G_4 : List (Nat × Go.Sx.Blk)),
                                                                                                                                      List.Perm (L' ++ G) (L ++ G_4) ∧
                                                                                                                                        ([Go.Value.pointer
                                                                                                                                                  (Option.some { block := x.3, off := (0 : Nat) }),
                                                                                                                                                Go.Value.int Go.IntKind.i64 (999 : Int)] =
                                                                                                                                              [Go.Value.pointer
                                                                                                                                                  (Option.some { block := x_6.1, off := (0 : Nat) }),
                                                                                                                                                Go.Value.int Go.IntKind.i64 x_6.4] ∧
                                                                                                                                            SetRep x_6.1 x_6.2 x_6.3 L ∧
                                                                                                                                              Good x_6.3) ∧
                                                                                                                                          ∀ (a_11 : VS)
                                                                                                                                            (L' : List (Nat × Go.Sx.Blk)),
                                                                                                                                            GpR x_6.1 x_6.2 x_6.4 x_6.3
                                                                                                                                                (Go.Value.slice a_11.1 a_11.2 a_11.3) L' →
                                                                                                                                              ∃ (x : WX),
                                                                                                                                                ∃ (L : List (Nat × Go.Sx.Blk)),
                                                                                                                                                  ∃ (G : List (Nat × Go.Sx.Blk)),
                                                                                                                                                    List.Perm (L' ++ G_4) (L ++ G) ∧
                                                                                                                                                      ([Go.Value.slice a.1 a.2 a.3,
                                                                                                                                                              Go.Value.slice a_11.1 a_11.2 a_11.3] =
                                                                                                                                                            [x.3, x.4] ∧
                                                                                                                                                          List.length x.1 < (1000000 : Nat) ∧
                                                                                                                                                            ∃ (L1 : List (Nat × Go.Sx.Blk)),
                                                                                                                                                              ∃ (L2 : List (Nat × Go.Sx.Blk)),
                                                                                                                                                                L = L1 ++ L2 ∧
                                                                                                                                                                  GapsAt x.1
                                                                                                                                                                      x.3 L1 ∧
                                                                                                                                                                    GapsAt
                                                                                                                                                                      x.2 x.4 L2) ∧
                                                                                                                                                        ∀ (a : Prop) (L' : List (Nat × Go.Sx.Blk)),
                                                                                                                                                          (a ↔ x.1 = x.2) → a) := by
  have hw := @eF_w xs hx
  have hbd := @eF_bd xs hx
  simp only [hn, hw, Nat.zero_add]
  refine ⟨(), [], [], by simp, ⟨by trivial, rfl⟩, fun _ L0 _ => ?_⟩
  refine ⟨mark, [], L0 ++ [], by simp, ⟨rfl, rfl⟩, fun ba La rA => ?_⟩
  refine ⟨mark, [], La ++ (L0 ++ []), by simp, ⟨rfl, rfl⟩, fun bb Lb rB => ?_⟩
  refine ⟨⟨0, ba, bb, Lb ++ (La ++ (L0 ++ [])), mark, mark, [], []⟩, ⟨by simp, Nat.zero_le _, La, Lb, L0 ++ [], ?_, rA, rB, (St.start hm0 hm1).congr fun y => (KaF_zero _ _).symm, (St.start hm0 hm1).congr fun y => (KbF_zero _ _ _ _).symm⟩, ?_⟩
  · exact List.perm_append_comm_assoc _ _ _
  rintro ⟨i, ba, bb, L, ma, mb, ra, rb⟩ ⟨hi, L1, L2, G, hp, r1, r2, sa, sb⟩
  simp only at hi hp r1 r2 sa sb ⊢
  refine ⟨fun hlt => ?_, fun hge => ?_⟩
  · have hin : i < n := by omega
    have hn40 : n ≤ 40 := by omega
    have hnl : n ≤ len := by omega
    have hnz : ((n : Nat) : Int) ≠ 0 := by omega
    have hmod : (i + turnF turn) % n < n := Nat.mod_lt _ (by omega)
    simp only [turn_ix turn hin hn40, back_ix hin hn40, Int.toNat_natCast]
    refine ⟨⟨by omega, by omega⟩, by omega, by first | trivial | decide, ⟨ba, ma, ra, IntKind.wrap .u32 (mark + eF xs i)⟩, L1, L2 ++ G, hp, ⟨rfl, r1, sa.tidy.1⟩, fun n1 La ⟨ma', ra', ha, r1'⟩ => ?_⟩
    refine ⟨by first | trivial | decide, hnz, ⟨by omega, by omega⟩, by omega, by first | trivial | decide, ⟨bb, mb, rb, IntKind.wrap .u32 (mark + eF xs ((i + turnF turn) % n))⟩, L2, La ++ G, List.perm_append_comm_assoc _ _ _, ⟨rfl, r2, sb.tidy.1⟩, fun n2 Lb ⟨mb', rb', hb, r2'⟩ => ?_⟩
    have sa' := sa.addK (hbd i).1 (by have := (hbd i).2; omega) ha
    have sb' := sb.addK (hbd _).1 (by have := (hbd ((i + turnF turn) % n)).2; omega) hb
    refine ⟨⟨by omega, by omega⟩, by omega, by first | trivial | decide, ⟨bb, mb', rb', IntKind.wrap .u32 (mark + eF xs (n - 1 - i))⟩, Lb, La ++ G, List.Perm.refl _, ⟨rfl, r2', sb'.tidy.1⟩, fun n3 Lc ⟨mc', rc', hc, r3'⟩ => ?_⟩
    have sc' := sb'.addK (hbd _).1 (by have := (hbd (n - 1 - i)).2; omega) hc
    refine ⟨⟨i + 1, ba, bb, _, ma', mc', ra', rc'⟩, by simp only; omega, ⟨⟨wrapL hin (by omega), by simp⟩, ⟨by trivial, by simp⟩, rfl, trivial⟩, by simp only; omega, La, Lc, G, List.perm_append_comm_assoc _ _ _, r1', r3', ?_, ?_⟩
    · exact sa'.congr fun y => (KaF_succ _ _ _).symm
    · subst hr
      exact sc'.congr fun y => (KbF_succ _ _ _ _ _).symm
  · have hin : i = n := by omega
    subst hin
    obtain ⟨rfl, rfl⟩ := sa.inj sb (Kab _ _ _)
    refine ⟨⟨ba, ma, ra⟩, L1, L2 ++ G, hp, ⟨rfl, r1⟩, fun n La ⟨hn, r1⟩ => ?_⟩
    refine ⟨⟨bb, ma, ra⟩, L2, La ++ G, List.perm_append_comm_assoc _ _ _, ⟨rfl, r2⟩, fun n2 Lb ⟨hn2, r2⟩ => ?_⟩
    refine ⟨hn.trans hn2.symm, ⟨ba, ma, ra⟩, La, Lb ++ G, List.perm_append_comm_assoc _ _ _, ⟨rfl, r1, sa.tidy.1⟩, fun n3 Lc ⟨hn3, r1⟩ => ?_⟩
    refine ⟨⟨bb, ma, ra⟩, Lb, Lc ++ G, List.perm_append_comm_assoc _ _ _, ⟨rfl, r2, sa.tidy.1⟩, fun n4 Ld ⟨hn4, r2⟩ => ?_⟩
    refine ⟨hn3.trans hn4.symm, ⟨ba, ma, ra, 999⟩, Lc, Ld ++ G, List.perm_append_comm_assoc _ _ _, ⟨rfl, r1, sa.tidy.1⟩, fun v Le ⟨P1, P2, s1, g1, p1⟩ => ?_⟩
    refine ⟨⟨bb, ma, ra, 999⟩, Ld, Le ++ G, List.perm_append_comm_assoc _ _ _, ⟨rfl, r2, sa.tidy.1⟩, fun v2 Lf ⟨Q1, Q2, s2, g2, p2⟩ => ?_⟩
    exact ⟨⟨gapsF 999 ra, gapsF 999 ra, .slice v.a v.n v.c, .slice v2.a v2.n v2.c⟩, P2 ++ Q2, P1 ++ Q1 ++ G, last_perm p1 p2, ⟨rfl, gaps_len _ _ (by have := sa.tidy.1.len'; omega), P2, Q2, rfl, g1, g2⟩, fun p _ h => h.2 rfl⟩
theorem orNil_vc (o : Option Addr) (cap : Nat) (mark turn : Int) (hm0 : 0 ≤ mark) (hm1 : mark < 4294967296) :
    ∃ (x : Unit),
  ∃ (L : List (Nat × Go.Sx.Blk)),
    ∃ (G : List (Nat × Go.Sx.Blk)),
      List.Perm [] (L ++ G) ∧
        ((0 : Nat) = (0 : Nat) ∧ L = []) ∧
          ∀ (a : Unit) (L' : List (Nat × Go.Sx.Blk)),
            a = () →
              ∃ (x : Int),
                ∃ (L : List (Nat × Go.Sx.Blk)),
                  ∃ (G_1 : List (Nat × Go.Sx.Blk)),
                    List.Perm (L' ++ G) (L ++ G_1) ∧
                      ([Go.Value.int Go.IntKind.u32 mark] = [Go.Value.int Go.IntKind.u32 x] ∧ L = []) ∧
                        ∀ (a : Nat) (L' : List (Nat × Go.Sx.Blk)),
                          SetRep a x [] L' →
                            ∃ (x : Int),
                              ∃ (L : List (Nat × Go.Sx.Blk)),
                                ∃ (G : List (Nat × Go.Sx.Blk)),
                                  List.Perm (L' ++ G_1) (L ++ G) ∧
                                    ([Go.Value.int Go.IntKind.u32 mark] = [Go.Value.int Go.IntKind.u32 x] ∧ L = []) ∧
                                      ∀ (a_2 : Nat) (L' : List (Nat × Go.Sx.Blk)),
                                        SetRep a_2 x [] L' →
                                          ∃ (x0 : OX),
                                            ((((0 : Int) = (↑x0.1 : Int) ∧
                                                    Go.Value.pointer (Option.some { block := a, off := (0 : Nat) }) = Go.Value.pointer (Option.some { block := x0.2, off := (0 : Nat) }) ∧
                                                      Go.Value.pointer (Option.some { block := a_2, off := (0 : Nat) }) = Go.Value.pointer (Option.some { block := x0.3, off := (0 : Nat) }) ∧
                                                        mark = mark ∧
                                                          Go.Value.slice o (0 : Nat) cap = Go.Value.slice o (0 : Nat) cap ∧
                                                            turn = turn ∧
                                                              Min.min (↑(0 : Nat) : Int) (40 : Int) = Min.min (↑(0 : Nat) : Int) (40 : Int) ∧
                                                                Min.min (↑(0 : Nat) : Int) (40 : Int) = Min.min (↑(0 : Nat) : Int) (40 : Int) ∧ True) ∧
                                                  L' ++ G = x0.4 ∧ True) ∧
                                                orInv mark [] (0 : Nat) (0 : Nat) x0) ∧
                                              ∀ (x : OX),
                                                orInv mark [] (0 : Nat) (0 : Nat) x →
                                                  ((↑x.1 : Int) < Min.min (↑(0 : Nat) : Int) (40 : Int) → False) ∧
                                                    (¬(↑x.1 : Int) < Min.min (↑(0 : Nat) : Int) (40 : Int) →
                                                      ∃ (x_1 : SX),
                                                        ∃ (L : List (Nat × Go.Sx.Blk)),
                                                          ∃ (G : List (Nat × Go.Sx.Blk)),
                                                            List.Perm x.4 (L ++ G) ∧
                                                              ([Go.Value.pointer (Option.some { block := x.2, off := (0 : Nat) })] =
                                                                    [Go.Value.pointer (Option.some { block := x_1.1, off := (0 : Nat) })] ∧
                                                                  SetRep x_1.1 x_1.2 x_1.3 L) ∧
                                                                ∀ (a : Int) (L' : List (Nat × Go.Sx.Blk)),
                                                                  a = x_1.2 ∧ SetRep x_1.1 x_1.2 x_1.3 L' →
                                                                    ∃ (x_2 : SX),
                                                                      ∃ (L : List (Nat × Go.Sx.Blk)),
                                                                        ∃ (G_2 : List (Nat × Go.Sx.Blk)),
                                                                          List.Perm (L' ++ G) (L ++ G_2) ∧
                                                                            ([Go.Value.pointer (Option.some { block := x.3, off := (0 : Nat) })] =
                                                                                  [Go.Value.pointer (Option.some { block := x_2.1, off := (0 : Nat) })] ∧
                                                                                SetRep x_2.1 x_2.2 x_2.3 L) ∧
                                                                              ∀ (a_5 : Int) (L' : List (Nat × Go.Sx.Blk)),
                                                                                a_5 = x_2.2 ∧ SetRep x_2.1 x_2.2 x_2.3 L' →
                                                                                  a = a_5 ∧
                                                                                    ∃ (x_3 : SX),
                                                                                      ∃ (L : List (Nat × Go.Sx.Blk)),
                                                                                        ∃ (G : List (Nat × Go.Sx.Blk)),
                                                                                          List.Perm (L' ++ G_2) (L ++ G) ∧
                                                                                            ([Go.Value.pointer (Option.some { block := x.2, off := (0 : Nat) })] =
                                                                                                  [Go.Value.pointer (Option.some { block := x_3.1, off := (0 : Nat) })] ∧
                                                                                                SetRep x_3.1 x_3.2 x_3.3 L ∧ Good x_3.3) ∧
                                                                                              ∀ (a : Int) (L' : List (Nat × Go.Sx.Blk)),
                                                                                                a = lenF x_3.3 ∧ SetRep x_3.1 x_3.2 x_3.3 L' →
                                                                                                  ∃ (x_4 : SX),
                                                                                                    ∃ (L : List (Nat × Go.Sx.Blk)),
                                                                                                      ∃ (G_3 : List (Nat × Go.Sx.Blk)),
                                                                                                        List.Perm (L' ++ G) (L ++ G_3) ∧
                                                                                                          ([Go.Value.pointer (Option.some { block := x.3, off := (0 : Nat) })] =
                                                                                                                [Go.Value.pointer (Option.some { block := x_4.1, off := (0 : Nat) })] ∧
                                                                                                              SetRep x_4.1 x_4.2 x_4.3 L ∧
                                                                                                                Good x_4.3) ∧
                                                                                                            ∀ (a_8 : Int) (L' : List (Nat × Go.Sx.Blk)),
                                                                                                              a_8 = lenF x_4.3 ∧
                                                                                                                  SetRep x_4.1 x_4.2 x_4.3 L' →
                                                                                                                a = a_8 ∧
                                                                                                                  ∃ (x_5 : TX),
                                                                                                                    ∃ (L : List (Nat × Go.Sx.Blk)),
                                                                                                                      ∃ (G : List (Nat × Go.Sx.Blk)),
                                                                                                                        List.Perm (L' ++ G_3) (L ++ G) ∧
                                                                                                                          ([Go.Value.pointer (Option.some { block := x.2, off := (0 : Nat) }),
                                                                                                                                  Go.Value.int Go.IntKind.i64 (999 : Int)] =
                                                                                                                                [Go.Value.pointer (Option.some { block := x_5.1, off := (0 : Nat) }),
                                                                                                                                  Go.Value.int Go.IntKind.i64 x_5.4] ∧
                                                                                                                              SetRep x_5.1 x_5.2 x_5.3 L ∧
                                                                                                                                Good x_5.3) ∧
                                                                                                                            ∀ (a : VS) (L' : List (Nat × Go.Sx.Blk)),
                                                                                                                              GpR x_5.1 x_5.2 x_5.4 x_5.3
                                                                                                                                  (Go.Value.slice a.1 a.2 a.3) L' →
                                                                                                                                ∃ (x_6 : TX),
                                                                                                                                  ∃ (L : List (Nat × Go.Sx.Blk)),
                                                                                                                                    ∃ (G_4 : List (Nat × Go.Sx.Blk)),
                                                                                                                                      List.Perm (L' ++ G) (L ++ G_4) ∧
                                                                                                                                        ([Go.Value.pointer
                                                                                                                                                  (Option.some { block := x.3, off := (0 : Nat) }),
                                                                                                                                                Go.Value.int Go.IntKind.i64 (999 : Int)] =
                                                                                                                                              [Go.Value.pointer
                                                                                                                                                  (Option.some { block := x_6.1, off := (0 : Nat) }),
                                                                                                                                                Go.Value.int Go.IntKind.i64 x_6.4] ∧
                                                                                                                                            SetRep x_6.1 x_6.2 x_6.3 L ∧
                                                                                                                                              Good x_6.3) ∧
                                                                                                                                          ∀ (a_11 : VS)
                                                                                                                                            (L' : List (Nat × Go.Sx.Blk)),
                                                                                                                                            GpR x_6.1 x_6.2 x_6.4 x_6.3
                                                                                                                                                (Go.Value.slice a_11.1 a_11.2 a_11.3) L' →
                                                                                                                                              ∃ (x : WX),
                                                                                                                                                ∃ (L : List (Nat × Go.Sx.Blk)),
                                                                                                                                                  ∃ (G : List (Nat × Go.Sx.Blk)),
                                                                                                                                                    List.Perm (L' ++ G_4) (L ++ G) ∧
                                                                                                                                                      ([Go.Value.slice a.1 a.2 a.3,
                                                                                                                                                              Go.Value.slice a_11.1 a_11.2 a_11.3] =
                                                                                                                                                            [x.3, x.4] ∧
                                                                                                                                                          List.length x.1 < (1000000 : Nat) ∧
                                                                                                                                                            ∃ (L1 : List (Nat × Go.Sx.Blk)),
                                                                                                                                                              ∃ (L2 : List (Nat × Go.Sx.Blk)),
                                                                                                                                                                L = L1 ++ L2 ∧
                                                                                                                                                                  GapsAt x.1
                                                                                                                                                                      x.3 L1 ∧
                                                                                                                                                                    GapsAt
                                                                                                                                                                      x.2 x.4 L2) ∧
                                                                                                                                                        ∀ (a : Prop) (L' : List (Nat × Go.Sx.Blk)),
                                                                                                                                                          (a ↔ x.1 = x.2) → a) := by
  have hn : min ((0 : Nat) : Int) 40 = ((0 : Nat) : Int) := by omega
  simp only [hn]
  refine ⟨(), [], [], by simp, ⟨by trivial, rfl⟩, fun _ L0 _ => ?_⟩
  refine ⟨mark, [], L0 ++ [], by simp, ⟨rfl, rfl⟩, fun ba La rA => ?_⟩
  refine ⟨mark, [], La ++ (L0 ++ []), by simp, ⟨rfl, rfl⟩, fun bb Lb rB => ?_⟩
  refine ⟨⟨0, ba, bb, Lb ++ (La ++ (L0 ++ [])), mark, mark, [], []⟩, ⟨by simp, Nat.zero_le _, La, Lb, L0 ++ [], ?_, rA, rB, (St.start hm0 hm1).congr fun y => (KaF_zero _ _).symm, (St.start hm0 hm1).congr fun y => (KbF_zero _ _ _ _).symm⟩, ?_⟩
  · exact List.perm_append_comm_assoc _ _ _
  rintro ⟨i, ba, bb, L, ma, mb, ra, rb⟩ ⟨hi, L1, L2, G, hp, r1, r2, sa, sb⟩
  simp only at hi hp r1 r2 sa sb ⊢
  refine ⟨fun hlt => by omega, fun hge => ?_⟩
  have hin : i = 0 := by omega
  subst hin
  obtain ⟨rfl, rfl⟩ := sa.inj sb (Kab _ _ _)
  refine ⟨⟨ba, ma, ra⟩, L1, L2 ++ G, hp, ⟨rfl, r1⟩, fun n La ⟨hn, r1⟩ => ?_⟩
  refine ⟨⟨bb, ma, ra⟩, L2, La ++ G, List.perm_append_comm_assoc _ _ _, ⟨rfl, r2⟩, fun n2 Lb ⟨hn2, r2⟩ => ?_⟩
  refine ⟨hn.trans hn2.symm, ⟨ba, ma, ra⟩, La, Lb ++ G, List.perm_append_comm_assoc _ _ _, ⟨rfl, r1, sa.tidy.1⟩, fun n3 Lc ⟨hn3, r1⟩ => ?_⟩
  refine ⟨⟨bb, ma, ra⟩, Lb, Lc ++ G, List.perm_append_comm_assoc _ _ _, ⟨rfl, r2, sa.tidy.1⟩, fun n4 Ld ⟨hn4, r2⟩ => ?_⟩
  refine ⟨hn3.trans hn4.symm, ⟨ba, ma, ra, 999⟩, Lc, Ld ++ G, List.perm_append_comm_assoc _ _ _, ⟨rfl, r1, sa.tidy.1⟩, fun v Le ⟨P1, P2, s1, g1, p1⟩ => ?_⟩
  refine ⟨⟨bb, ma, ra, 999⟩, Ld, Le ++ G, List.perm_append_comm_assoc _ _ _, ⟨rfl, r2, sa.tidy.1⟩, fun v2 Lf ⟨Q1, Q2, s2, g2, p2⟩ => ?_⟩
  exact ⟨⟨gapsF 999 ra, gapsF 999 ra, .slice v.a v.n v.c, .slice v2.a v2.n v2.c⟩, P2 ++ Q2, P1 ++ Q1 ++ G, last_perm p1 p2, ⟨rfl, gaps_len _ _ (by have := sa.tidy.1.len'; omega), P2, Q2, rfl, g1, g2⟩, fun p _ h => h.2 rfl⟩
theorem or_goal (bd t base len cap n : Nat) (xs : List Int) (mark turn : Int) (hlc : len ≤ cap) (hm0 : 0 ≤ mark) (hm1 : mark < 4294967296) (hx : ∀ z ∈ xs, 0 ≤ z ∧ z < 65536) (hn : min (len : Int) 40 = (n : Int)) :
    orGoal bd t base len cap n (turnF turn) xs mark turn := Eq.mpr (by kernel_rfl) (or_vc bd t base len cap n xs mark turn hlc hm0 hm1 hx hn (turnF turn) rfl)
theorem orNil_goal (o : Option Addr) (cap : Nat) (mark turn : Int) (hm0 : 0 ≤ mark) (hm1 : mark < 4294967296) : orNilGoal o cap mark turn := Eq.mpr (by kernel_rfl) (orNil_vc o cap mark turn hm0 hm1)
end Go.Proofs.Ytmjhfnmkegdafaa
