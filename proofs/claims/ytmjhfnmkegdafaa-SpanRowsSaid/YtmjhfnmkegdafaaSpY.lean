/- Span: the law SpanRows. -/
import Derived.Test.YtmjhfnmkegdafaaSpW


set_option maxRecDepth 100000
set_option linter.unusedVariables false
set_option linter.unusedSimpArgs false
namespace Go.Proofs.Ytmjhfnmkegdafaa
open Go Go.Sx

structure RW where
  i : Nat
  b : Nat
  L : Blks
  m : Int
  rows : List (Int × Int)
  n : Int
  last : Int
def rwSet (x : RW) : Prop := ∃ L1 G, x.L.Perm (L1 ++ G) ∧ SetRep x.b x.m x.rows L1 ∧ Tidy x.rows
def lastF (rows : List (Int × Int)) (i : Nat) : Int := if i = 0 then 0 else (rows.getD (i - 1) (0, 0)).2
def rwInv (x0 x : RW) : Prop := x.b = x0.b ∧ x.m = x0.m ∧ x.rows = x0.rows ∧ x.i ≤ x.rows.length ∧ rwSet x ∧ x.n = lenF (x.rows.take x.i) ∧ x.last = lastF x.rows x.i
noncomputable def Ann.rw (len : Nat) : FnAnn := ⟨[], [
  (5, ⟨RW, [(fun σ x => ⟨σ.n, (18, .val (.int .i64 x.i)) :: (5, .val (.pointer (some ⟨x.b, 0, none⟩))) :: keepE σ.env [0, 1, 16, 17], Ann.chunk σ.heap x.L⟩, fun _ x => x.i ≤ len ∧ rwSet x)], fun x => len - x.i⟩),
  (12, ⟨RW, [(fun σ x => ⟨σ.n, (35, .val (.int .i64 x.i)) :: (5, .val (.pointer (some ⟨x.b, 0, none⟩))) :: (8, .val (.int .i64 x.n)) :: (9, .val (.int .i64 x.last)) :: keepE σ.env [33, 34], Ann.chunk σ.heap x.L⟩, rwInv)], fun x => x.rows.length - x.i⟩)]⟩
noncomputable def rwGoal (bd t base len cap : Nat) (xs : List Int) (mark : Int) : Prop :=
  xrun Go.Proofs.Try.prog tbl3T [(8, Ann.rw len)] [([], (13, false)), ([], (45, false)), ([], (52, false)), ([], (63, false)), ([], (74, false)), ([], (84, false)), ([], (102, true))] 9 [] 8 [.val (.int .u32 mark), .slc 0 0 len cap] [.ro bd (.tab t base cap [.ints .u16 xs]), .chunk []] fun s h => bOf s fun p => p
noncomputable def rwNilGoal (o : Option Addr) (cap : Nat) (mark : Int) : Prop :=
  xrun Go.Proofs.Try.prog tbl3T [(8, Ann.rw 0)] [([], (13, false)), ([], (45, false)), ([], (52, false)), ([], (63, false)), ([], (74, false)), ([], (84, false)), ([], (102, true))] 9 [] 8 [.val (.int .u32 mark), .val (.slice o 0 cap)] [.chunk []] fun s h => bOf s fun p => p

theorem gaps_all {rows : List (Int × Int)} (hg : Good rows) : gapsF 5000 rows = rows := by
  have hl := hg.len (lo := 1) (fun r hr => (hg.2 r hr).1) (by omega)
  unfold gapsF
  rw [show max 0 (min (5000 : Int) (rows.length : Int)) = (rows.length : Int) by omega, Int.toNat_natCast, List.take_length]
  have : ∀ r ∈ rows, gapF r = r := fun r hr => by
    have := hg.2 r hr
    obtain ⟨f, e⟩ := r
    simp only at this
    unfold gapF
    rw [u16_id (by simp only; omega) (by simp only; omega), u16_id (by simp only; omega) (by simp only; omega)]
  rw [List.map_congr_left this, List.map_id']
theorem has_next {rows : List (Int × Int)} (hg : Good rows) {i : Nat} (hi : i < rows.length) : ¬ Has (rows[i].2 + 1) rows := by
  rintro ⟨s, hs, h1, h2⟩
  obtain ⟨j, hj⟩ := List.mem_iff_getElem?.1 hs
  have hr := (hg.2 rows[i] (List.getElem_mem hi)).2.1
  rcases Nat.lt_trichotomy i j with h | h | h
  · have := hg.at h (List.getElem?_eq_getElem hi) hj; omega
  · subst h
    rw [List.getElem?_eq_getElem hi] at hj
    cases hj
    omega
  · have := hg.at h hj (List.getElem?_eq_getElem hi); omega
theorem last_lt {rows : List (Int × Int)} (ht : Tidy rows) {i : Nat} (hi : i < rows.length) : lastF rows i + 2 ≤ rows[i].1 ∧ 0 ≤ lastF rows i := by
  unfold lastF
  split
  · have := ht.2 rows[i] (List.getElem_mem hi); omega
  · have h1 : i - 1 < rows.length := by omega
    have h2 := ht.1.at (show i - 1 < i by omega) (List.getElem?_eq_getElem h1) (List.getElem?_eq_getElem hi)
    have h3 := ht.1.2 rows[i - 1] (List.getElem_mem h1)
    simp only [List.getD, List.getElem?_eq_getElem h1, Option.getD_some]
    omega
theorem lastF_succ {rows : List (Int × Int)} {i : Nat} (hi : i < rows.length) : lastF rows (i + 1) = rows[i].2 := by
  unfold lastF
  rw [if_neg (by omega)]
  simp [List.getD, List.getElem?_eq_getElem hi]
theorem i64_id {a : Int} (h0 : 0 ≤ a) (h1 : a < 1000000000000000000) : IntKind.wrap .i64 a = a := by rw [IntKind.wrap_i64]; omega
theorem one_rel {m : Int} {rows : List (Int × Int)} (ht : Tidy rows) : ¬ hasF m rows (IntKind.wrap .u32 (m + 1)) := fun h => ht.not_one ((has_rel ht.1 (by omega) (by omega) rfl).1 h)
theorem u32_add (m a c : Int) : IntKind.wrap .u32 (IntKind.wrap .u32 (m + a) + c) = IntKind.wrap .u32 (m + (a + c)) := by simp only [u32_eq]; omega

theorem rw_vc (bd t base len cap : Nat) (xs : List Int) (mark : Int) (hlc : len ≤ cap) (hlen : len ≤ 9223372036854775807) (hm0 : 0 ≤ mark) (hm1 : mark < 4294967296) (hx : ∀ z ∈ xs, 0 ≤ z ∧ z < 65536) :
    ∃ (x : Unit),
  ∃ (L : List (Nat × Go.Sx.Blk)),
    ∃ (G : List (Nat × Go.Sx.Blk)),
      List.Perm [] (L ++ G) ∧
        ((0 : Nat) = (0 : Nat) ∧ L = []) ∧
          ∀ (a : Unit) (L' : List (Nat × Go.Sx.Blk)),
            a = () →
              ∃ (x : Int),
                ∃ (L : List (Nat × Go.Sx.Blk)),
                  ∃ (G_1 : List (Nat × Go.Sx.Blk)),
                    List.Perm (L' ++ G) (L ++ G_1) ∧
                      ([Go.Value.int Go.IntKind.u32 mark] = [Go.Value.int Go.IntKind.u32 x] ∧ L = []) ∧
                        ∀ (a : Nat) (L' : List (Nat × Go.Sx.Blk)),
                          SetRep a x [] L' →
                            ∃ (x0 : RW),
                              ((((0 : Int) = (↑x0.1 : Int) ∧
                                      Go.Value.pointer (Option.some { block := a, off := (0 : Nat) }) = Go.Value.pointer (Option.some { block := x0.2, off := (0 : Nat) }) ∧
                                        mark = mark ∧ ((0 : Nat) = (0 : Nat) ∧ len = len ∧ cap = cap) ∧ ((0 : Nat) = (0 : Nat) ∧ len = len ∧ cap = cap) ∧ (↑len : Int) = (↑len : Int) ∧ True) ∧
                                    (bd = bd ∧ bif Nat.beq t t then base = base ∧ cap = cap ∧ xs = xs ∧ True else False) ∧ L' ++ G_1 = x0.3 ∧ True) ∧
                                  x0.1 ≤ len ∧ rwSet x0) ∧
                                ∀ (x : RW),
                                  x.1 ≤ len ∧ rwSet x →
                                    ((↑x.1 : Int) < (↑len : Int) →
                                        ((0 : Int) ≤ (↑x.1 : Int) ∧ (↑x.1 : Int) < (↑len : Int)) ∧
                                          (0 : Nat) + x.1 < cap ∧
                                            ((↑x.1 : Int) < (60 : Int) →
                                                ∃ (x_1 : TX),
                                                  ∃ (L : List (Nat × Go.Sx.Blk)),
                                                    ∃ (G : List (Nat × Go.Sx.Blk)),
                                                      List.Perm x.3 (L ++ G) ∧
                                                        ([Go.Value.pointer (Option.some { block := x.2, off := (0 : Nat) }),
                                                                Go.Value.int Go.IntKind.u32
                                                                  (Go.IntKind.wrap Go.IntKind.u32 (mark + Go.IntKind.wrap Go.IntKind.u32 (List.getD xs ((0 : Nat) + x.1) (0 : Int))))] =
                                                              [Go.Value.pointer (Option.some { block := x_1.1, off := (0 : Nat) }), Go.Value.int Go.IntKind.u32 x_1.4] ∧
                                                            SetRep x_1.1 x_1.2 x_1.3 L ∧ Good x_1.3) ∧
                                                          ∀ (a : Int) (L' : List (Nat × Go.Sx.Blk)),
                                                            (∃ (mark' : Int),
                                                                ∃ (rows' : List (Int × Int)),
                                                                  AddS x_1.2 x_1.3 x_1.4 a mark' rows' ∧ SetRep x_1.1 mark' rows' L') →
                                                              ∃ (y : RW),
                                                                len - y.1 < len - x.1 ∧
                                                                  ((Go.IntKind.wrap Go.IntKind.i64 ((↑x.1 : Int) + (1 : Int)) = (↑y.1 : Int) ∧
                                                                        Go.Value.pointer (Option.some { block := x.2, off := (0 : Nat) }) =
                                                                            Go.Value.pointer (Option.some { block := y.2, off := (0 : Nat) }) ∧
                                                                          mark = mark ∧
                                                                            ((0 : Nat) = (0 : Nat) ∧ len = len ∧ cap = cap) ∧
                                                                              ((0 : Nat) = (0 : Nat) ∧ len = len ∧ cap = cap) ∧ (↑len : Int) = (↑len : Int) ∧ True) ∧
                                                                      (bd = bd ∧ bif Nat.beq t t then base = base ∧ cap = cap ∧ xs = xs ∧ True else False) ∧ L' ++ G = y.3 ∧ True) ∧
                                                                    y.1 ≤ len ∧ rwSet y) ∧
                                              (¬(↑x.1 : Int) < (60 : Int) →
                                                ∃ (y : RW),
                                                  len - y.1 < len - x.1 ∧
                                                    ((Go.IntKind.wrap Go.IntKind.i64 ((↑x.1 : Int) + (1 : Int)) = (↑y.1 : Int) ∧
                                                          Go.Value.pointer (Option.some { block := x.2, off := (0 : Nat) }) = Go.Value.pointer (Option.some { block := y.2, off := (0 : Nat) }) ∧
                                                            mark = mark ∧
                                                              ((0 : Nat) = (0 : Nat) ∧ len = len ∧ cap = cap) ∧ ((0 : Nat) = (0 : Nat) ∧ len = len ∧ cap = cap) ∧ (↑len : Int) = (↑len : Int) ∧ True) ∧
                                                        (bd = bd ∧ bif Nat.beq t t then base = base ∧ cap = cap ∧ xs = xs ∧ True else False) ∧ x.3 = y.3 ∧ True) ∧
                                                      y.1 ≤ len ∧ rwSet y)) ∧
                                      (¬(↑x.1 : Int) < (↑len : Int) →
                                        ∃ (x_1 : TX),
                                          ∃ (L : List (Nat × Go.Sx.Blk)),
                                            ∃ (G : List (Nat × Go.Sx.Blk)),
                                              List.Perm x.3 (L ++ G) ∧
                                                ([Go.Value.pointer (Option.some { block := x.2, off := (0 : Nat) }), Go.Value.int Go.IntKind.i64 (5000 : Int)] =
                                                      [Go.Value.pointer (Option.some { block := x_1.1, off := (0 : Nat) }), Go.Value.int Go.IntKind.i64 x_1.4] ∧
                                                    SetRep x_1.1 x_1.2 x_1.3 L ∧ Good x_1.3) ∧
                                                  (gapsF x_1.4 x_1.3 = [] →
                                                      ∀ (L' : List (Nat × Go.Sx.Blk)),
                                                        SetRep x_1.1 x_1.2 x_1.3 L' →
                                                          ∃ (x0 : RW),
                                                            ((((0 : Int) = (↑x0.1 : Int) ∧
                                                                    Go.Value.pointer (Option.some { block := x.2, off := (0 : Nat) }) =
                                                                        Go.Value.pointer (Option.some { block := x0.2, off := (0 : Nat) }) ∧
                                                                      (0 : Int) = x0.6 ∧
                                                                        (0 : Int) = x0.7 ∧
                                                                          Go.Value.slice Option.none (0 : Nat) (0 : Nat) = Go.Value.slice Option.none (0 : Nat) (0 : Nat) ∧
                                                                            (↑(0 : Nat) : Int) = (↑(0 : Nat) : Int) ∧ True) ∧
                                                                  (bd = bd ∧ bif Nat.beq t t then base = base ∧ cap = cap ∧ xs = xs ∧ True else False) ∧ L' ++ G = x0.3 ∧ True) ∧
                                                                rwInv x0 x0) ∧
                                                              ∀ (x : RW),
                                                                rwInv x0 x →
                                                                  ((↑x.1 : Int) < (↑(0 : Nat) : Int) → False) ∧
                                                                    (¬(↑x.1 : Int) < (↑(0 : Nat) : Int) →
                                                                      ∃ (x_2 : SX),
                                                                        ∃ (L : List (Nat × Go.Sx.Blk)),
                                                                          ∃ (G : List (Nat × Go.Sx.Blk)),
                                                                            List.Perm x.3 (L ++ G) ∧
                                                                              ([Go.Value.pointer (Option.some { block := x.2, off := (0 : Nat) })] =
                                                                                    [Go.Value.pointer (Option.some { block := x_2.1, off := (0 : Nat) })] ∧
                                                                                  SetRep x_2.1 x_2.2 x_2.3 L ∧ Good x_2.3) ∧
                                                                                ∀ (a : Int) (L' : List (Nat × Go.Sx.Blk)),
                                                                                  a = lenF x_2.3 ∧ SetRep x_2.1 x_2.2 x_2.3 L' →
                                                                                    x.6 = a ∧
                                                                                      ∃ (x_3 : SX),
                                                                                        ∃ (L : List (Nat × Go.Sx.Blk)),
                                                                                          ∃ (G_2 : List (Nat × Go.Sx.Blk)),
                                                                                            List.Perm (L' ++ G) (L ++ G_2) ∧
                                                                                              ([Go.Value.pointer (Option.some { block := x.2, off := (0 : Nat) })] =
                                                                                                    [Go.Value.pointer (Option.some { block := x_3.1, off := (0 : Nat) })] ∧
                                                                                                  SetRep x_3.1 x_3.2 x_3.3 L) ∧
                                                                                                ∀ (a : Int) (L' : List (Nat × Go.Sx.Blk)),
                                                                                                  a = x_3.2 ∧ SetRep x_3.1 x_3.2 x_3.3 L' →
                                                                                                    ∃ (x_4 : TX),
                                                                                                      ∃ (L : List (Nat × Go.Sx.Blk)),
                                                                                                        ∃ (G : List (Nat × Go.Sx.Blk)),
                                                                                                          List.Perm (L' ++ G_2) (L ++ G) ∧
                                                                                                            ([Go.Value.pointer (Option.some { block := x.2, off := (0 : Nat) }),
                                                                                                                    Go.Value.int Go.IntKind.u32 (Go.IntKind.wrap Go.IntKind.u32 (a + (1 : Int)))] =
                                                                                                                  [Go.Value.pointer (Option.some { block := x_4.1, off := (0 : Nat) }),
                                                                                                                    Go.Value.int Go.IntKind.u32 x_4.4] ∧
                                                                                                                SetRep x_4.1 x_4.2 x_4.3 L ∧
                                                                                                                  Good x_4.3) ∧
                                                                                                              ∀ (a : Prop) (L' : List (Nat × Go.Sx.Blk)),
                                                                                                                (a ↔ hasF x_4.2 x_4.3 x_4.4) ∧
                                                                                                                    SetRep x_4.1 x_4.2 x_4.3 L' →
                                                                                                                  ¬a)) ∧
                                                    ∀ (b' base' cap' : Nat) (xs' ys' : List Int) (L' : List (Nat × Go.Sx.Blk)),
                                                      (0 : Nat) < List.length (gapsF x_1.4 x_1.3) →
                                                        List.length (gapsF x_1.4 x_1.3) ≤ cap' →
                                                          List.length xs' = cap' →
                                                            List.length ys' = cap' →
                                                              List.take (List.length (gapsF x_1.4 x_1.3)) xs' =
                                                                  List.map (fun (x : Int × Int) => x.1) (gapsF x_1.4 x_1.3) →
                                                                List.take (List.length (gapsF x_1.4 x_1.3)) ys' =
                                                                    List.map (fun (x : Int × Int) => x.2) (gapsF x_1.4 x_1.3) →
                                                                  SetRep x_1.1 x_1.2 x_1.3 L' →
                                                                    ∃ (x0 : RW),
                                                                      ((((0 : Int) = (↑x0.1 : Int) ∧
                                                                              Go.Value.pointer (Option.some { block := x.2, off := (0 : Nat) }) =
                                                                                  Go.Value.pointer (Option.some { block := x0.2, off := (0 : Nat) }) ∧
                                                                                (0 : Int) = x0.6 ∧
                                                                                  (0 : Int) = x0.7 ∧
                                                                                    ((0 : Nat) = (0 : Nat) ∧
                                                                                        List.length (gapsF x_1.4 x_1.3) =
                                                                                            List.length (gapsF x_1.4 x_1.3) ∧
                                                                                          cap' = cap') ∧
                                                                                      (↑(List.length (gapsF x_1.4 x_1.3)) : Int) =
                                                                                          (↑(List.length (gapsF x_1.4 x_1.3)) : Int) ∧
                                                                                        True) ∧
                                                                            (bd = bd ∧ bif Nat.beq t t then base = base ∧ cap = cap ∧ xs = xs ∧ True else False) ∧
                                                                              L' ++ G = x0.3 ∧ (b' = b' ∧ base' = base' ∧ cap' = cap' ∧ xs' = xs' ∧ ys' = ys' ∧ True) ∧ True) ∧
                                                                          rwInv x0 x0) ∧
                                                                        ∀ (x : RW),
                                                                          rwInv x0 x →
                                                                            ((↑x.1 : Int) < (↑(List.length (gapsF x_1.4 x_1.3)) : Int) →
                                                                                ((0 : Int) ≤ (↑x.1 : Int) ∧ (↑x.1 : Int) < (↑(List.length (gapsF x_1.4 x_1.3)) : Int)) ∧
                                                                                  (0 : Nat) + x.1 < cap' ∧
                                                                                    (0 : Nat) + x.1 < cap' ∧
                                                                                      ∀ (b : Nat),
                                                                                        Go.Value.oneCell' (Go.Value.int Go.IntKind.u16 (List.getD xs' ((0 : Nat) + x.1) (0 : Int))) = Bool.true ∧
                                                                                          Go.Value.oneCell' (Go.Value.int Go.IntKind.u16 (List.getD ys' ((0 : Nat) + x.1) (0 : Int))) = Bool.true ∧
                                                                                            ¬Go.IntKind.wrap Go.IntKind.i64 (List.getD xs' ((0 : Nat) + x.1) (0 : Int)) <
                                                                                                  Go.IntKind.wrap Go.IntKind.i64 (x.7 + (2 : Int)) ∧
                                                                                              ¬List.getD ys' ((0 : Nat) + x.1) (0 : Int) < List.getD xs' ((0 : Nat) + x.1) (0 : Int) ∧
                                                                                                ∃ (x_2 : SX),
                                                                                                  ∃ (L : List (Nat × Go.Sx.Blk)),
                                                                                                    ∃ (G : List (Nat × Go.Sx.Blk)),
                                                                                                      List.Perm x.3 (L ++ G) ∧
                                                                                                        ([Go.Value.pointer (Option.some { block := x.2, off := (0 : Nat) })] =
                                                                                                              [Go.Value.pointer (Option.some { block := x_2.1, off := (0 : Nat) })] ∧
                                                                                                            SetRep x_2.1 x_2.2 x_2.3 L) ∧
                                                                                                          ∀ (a : Int) (L' : List (Nat × Go.Sx.Blk)),
                                                                                                            a = x_2.2 ∧ SetRep x_2.1 x_2.2 x_2.3 L' →
                                                                                                              Go.Sx.SV.val
                                                                                                                    (Go.Value.int Go.IntKind.u32
                                                                                                                      (Go.IntKind.wrap Go.IntKind.u32 (List.getD ys' ((0 : Nat) + x.1) (0 : Int)))) =
                                                                                                                  Go.Sx.SV.val
                                                                                                                    (Go.Value.int Go.IntKind.u32
                                                                                                                      (Go.IntKind.wrap Go.IntKind.u32 (List.getD ys' ((0 : Nat) + x.1) (0 : Int)))) ∧
                                                                                                                Go.Sx.SV.val (Go.Value.int Go.IntKind.u16 (List.getD ys' ((0 : Nat) + x.1) (0 : Int))) =
                                                                                                                    Go.Sx.SV.val
                                                                                                                      (Go.Value.int Go.IntKind.u16 (List.getD ys' ((0 : Nat) + x.1) (0 : Int))) ∧
                                                                                                                  ∃ (x_3 : TX),
                                                                                                                    ∃ (L : List (Nat × Go.Sx.Blk)),
                                                                                                                      ∃ (G_2 : List (Nat × Go.Sx.Blk)),
                                                                                                                        List.Perm (L' ++ G) (L ++ G_2) ∧
                                                                                                                          ([Go.Value.pointer (Option.some { block := x.2, off := (0 : Nat) }),
                                                                                                                                  Go.Value.int Go.IntKind.u32
                                                                                                                                    (Go.IntKind.wrap Go.IntKind.u32
                                                                                                                                      (Go.IntKind.wrap Go.IntKind.u32
                                                                                                                                          (a +
                                                                                                                                            Go.IntKind.wrap Go.IntKind.u32
                                                                                                                                              (List.getD ys' ((0 : Nat) + x.1) (0 : Int))) +
                                                                                                                                        (1 : Int)))] =
                                                                                                                                [Go.Value.pointer (Option.some { block := x_3.1, off := (0 : Nat) }),
                                                                                                                                  Go.Value.int Go.IntKind.u32 x_3.4] ∧
                                                                                                                              SetRep x_3.1 x_3.2 x_3.3 L ∧
                                                                                                                                Good x_3.3) ∧
                                                                                                                            ∀ (a : Prop) (L' : List (Nat × Go.Sx.Blk)),
                                                                                                                              (a ↔ hasF x_3.2 x_3.3 x_3.4) ∧
                                                                                                                                  SetRep x_3.1 x_3.2 x_3.3 L' →
                                                                                                                                ¬a ∧
                                                                                                                                  ∃ (x_4 : SX),
                                                                                                                                    ∃ (L : List (Nat × Go.Sx.Blk)),
                                                                                                                                      ∃ (G : List (Nat × Go.Sx.Blk)),
                                                                                                                                        List.Perm (L' ++ G_2) (L ++ G) ∧
                                                                                                                                          ([Go.Value.pointer
                                                                                                                                                    (Option.some { block := x.2, off := (0 : Nat) })] =
                                                                                                                                                [Go.Value.pointer
                                                                                                                                                    (Option.some
                                                                                                                                                      { block := x_4.1, off := (0 : Nat) })] ∧
                                                                                                                                              SetRep x_4.1 x_4.2 x_4.3 L) ∧
                                                                                                                                            ∀ (a : Int) (L' : List (Nat × Go.Sx.Blk)),
                                                                                                                                              a = x_4.2 ∧
                                                                                                                                                  SetRep x_4.1 x_4.2 x_4.3
                                                                                                                                                    L' →
                                                                                                                                                Go.Sx.SV.val
                                                                                                                                                      (Go.Value.int Go.IntKind.u32
                                                                                                                                                        (Go.IntKind.wrap Go.IntKind.u32
                                                                                                                                                          (List.getD xs' ((0 : Nat) + x.1)
                                                                                                                                                            (0 : Int)))) =
                                                                                                                                                    Go.Sx.SV.val
                                                                                                                                                      (Go.Value.int Go.IntKind.u32
                                                                                                                                                        (Go.IntKind.wrap Go.IntKind.u32
                                                                                                                                                          (List.getD xs' ((0 : Nat) + x.1)
                                                                                                                                                            (0 : Int)))) ∧
                                                                                                                                                  Go.Sx.SV.val
                                                                                                                                                        (Go.Value.int Go.IntKind.u16
                                                                                                                                                          (List.getD xs' ((0 : Nat) + x.1) (0 : Int))) =
                                                                                                                                                      Go.Sx.SV.val
                                                                                                                                                        (Go.Value.int Go.IntKind.u16
                                                                                                                                                          (List.getD xs' ((0 : Nat) + x.1) (0 : Int))) ∧
                                                                                                                                                    ∃ (x_5 : TX),
                                                                                                                                                      ∃ (L : List (Nat × Go.Sx.Blk)),
                                                                                                                                                        ∃ (G_3 : List (Nat × Go.Sx.Blk)),
                                                                                                                                                          List.Perm (L' ++ G) (L ++ G_3) ∧
                                                                                                                                                            ([Go.Value.pointer
                                                                                                                                                                      (Option.some
                                                                                                                                                                        { block := x.2,
                                                                                                                                                                          off := (0 : Nat) }),
                                                                                                                                                                    Go.Value.int Go.IntKind.u32
                                                                                                                                                                      (Go.IntKind.wrap Go.IntKind.u32
                                                                                                                                                                        (a +
                                                                                                                                                                          Go.IntKind.wrap Go.IntKind.u32
                                                                                                                                                                            (List.getD xs'
                                                                                                                                                                              ((0 : Nat) + x.1)
                                                                                                                                                                              (0 : Int))))] =
                                                                                                                                                                  [Go.Value.pointer
                                                                                                                                                                      (Option.some
                                                                                                                                                                        { block := x_5.1,
                                                                                                                                                                          off := (0 : Nat) }),
                                                                                                                                                                    Go.Value.int Go.IntKind.u32 x_5.4] ∧
                                                                                                                                                                SetRep x_5.1
                                                                                                                                                                    x_5.2 x_5.3 L ∧
                                                                                                                                                                  Good
                                                                                                                                                                    x_5.3) ∧
                                                                                                                                                              ∀ (a : Prop)
                                                                                                                                                                (L' : List (Nat × Go.Sx.Blk)),
                                                                                                                                                                (a ↔
                                                                                                                                                                      hasF
                                                                                                                                                                        x_5.2 x_5.3 x_5.4) ∧
                                                                                                                                                                    SetRep
                                                                                                                                                                      x_5.1 x_5.2 x_5.3 L' →
                                                                                                                                                                  ¬¬a ∧
                                                                                                                                                                    ∃ (x_6 :
                                                                                                                                                                      SX),
                                                                                                                                                                      ∃ (L : List (Nat × Go.Sx.Blk)),
                                                                                                                                                                        ∃ (G : List (Nat × Go.Sx.Blk)),
                                                                                                                                                                          List.Perm (L' ++ G_3)
                                                                                                                                                                              (L ++ G) ∧
                                                                                                                                                                            ([Go.Value.pointer
                                                                                                                                                                                      (Option.some
                                                                                                                                                                                        { block := x.2,
                                                                                                                                                                                          off :=
                                                                                                                                                                                            (0 :
                                                                                                                                                                                              Nat) })] =
                                                                                                                                                                                  [Go.Value.pointer
                                                                                                                                                                                      (Option.some
                                                                                                                                                                                        {
                                                                                                                                                                                          block :=
                                                                                                                                                                                            x_6.1,
                                                                                                                                                                                          off :=
                                                                                                                                                                                            (0 :
                                                                                                                                                                                              Nat) })] ∧
                                                                                                                                                                                SetRep
                                                                                                                                                                                  x_6.1 x_6.2 x_6.3 L) ∧
                                                                                                                                                                              ∀ (a : Int)
                                                                                                                                                                                (L' :
                                                                                                                                                                                  List
                                                                                                                                                                                    (Nat × Go.Sx.Blk)),
                                                                                                                                                                                a = x_6.2 ∧
                                                                                                                                                                                    SetRep
                                                                                                                                                                                      x_6.1 x_6.2 x_6.3
                                                                                                                                                                                      L' →
                                                                                                                                                                                  Go.Sx.SV.val
                                                                                                                                                                                        (Go.Value.int
                                                                                                                                                                                          Go.IntKind.u32
                                                                                                                                                                                          (Go.IntKind.wrap
                                                                                                                                                                                            Go.IntKind.u32
                                                                                                                                                                                            (List.getD
                                                                                                                                                                                              ys'
                                                                                                                                                                                              ((0 :
                                                                                                                                                                                                  Nat) +
                                                                                                                                                                                                x.1)
                                                                                                                                                                                              (0 :
                                                                                                                                                                                                Int)))) =
                                                                                                                                                                                      Go.Sx.SV.val
                                                                                                                                                                                        (Go.Value.int
                                                                                                                                                                                          Go.IntKind.u32
                                                                                                                                                                                          (Go.IntKind.wrap
                                                                                                                                                                                            Go.IntKind.u32
                                                                                                                                                                                            (List.getD
                                                                                                                                                                                              ys'
                                                                                                                                                                                              ((0 :
                                                                                                                                                                                                  Nat) +
                                                                                                                                                                                                x.1)
                                                                                                                                                                                              (0 :
                                                                                                                                                                                                Int)))) ∧
                                                                                                                                                                                    Go.Sx.SV.val
                                                                                                                                                                                          (Go.Value.int
                                                                                                                                                                                            Go.IntKind.u16
                                                                                                                                                                                            (List.getD
                                                                                                                                                                                              ys'
                                                                                                                                                                                              ((0 :
                                                                                                                                                                                                  Nat) +
                                                                                                                                                                                                x.1)
                                                                                                                                                                                              (0 :
                                                                                                                                                                                                Int))) =
                                                                                                                                                                                        Go.Sx.SV.val
                                                                                                                                                                                          (Go.Value.int
                                                                                                                                                                                            Go.IntKind.u16
                                                                                                                                                                                            (List.getD
                                                                                                                                                                                              ys'
                                                                                                                                                                                              ((0 :
                                                                                                                                                                                                  Nat) +
                                                                                                                                                                                                x.1)
                                                                                                                                                                                              (0 :
                                                                                                                                                                                                Int))) ∧
                                                                                                                                                                                      ∃ (x_7 :
                                                                                                                                                                                        TX),
                                                                                                                                                                                        ∃ (L :
                                                                                                                                                                                          List
                                                                                                                                                                                            (Nat ×
                                                                                                                                                                                              Go.Sx.Blk)),
                                                                                                                                                                                          ∃ (G_4 :
                                                                                                                                                                                            List
                                                                                                                                                                                              (Nat ×
                                                                                                                                                                                                Go.Sx.Blk)),
                                                                                                                                                                                            List.Perm
                                                                                                                                                                                                (L' ++
                                                                                                                                                                                                  G)
                                                                                                                                                                                                (L ++
                                                                                                                                                                                                  G_4) ∧
                                                                                                                                                                                              ([Go.Value.pointer
                                                                                                                                                                                                        (Option.some
                                                                                                                                                                                                          {
                                                                                                                                                                                                            block :=
                                                                                                                                                                                                              x.2,
                                                                                                                                                                                                            off :=
                                                                                                                                                                                                              (0 :
                                                                                                                                                                                                                Nat) }),
                                                                                                                                                                                                      Go.Value.int
                                                                                                                                                                                                        Go.IntKind.u32
                                                                                                                                                                                                        (Go.IntKind.wrap
                                                                                                                                                                                                          Go.IntKind.u32
                                                                                                                                                                                                          (a +
                                                                                                                                                                                                            Go.IntKind.wrap
                                                                                                                                                                                                              Go.IntKind.u32
                                                                                                                                                                                                              (List.getD
                                                                                                                                                                                                                ys'
                                                                                                                                                                                                                ((0 :
                                                                                                                                                                                                                    Nat) +
                                                                                                                                                                                                                  x.1)
                                                                                                                                                                                                                (0 :
                                                                                                                                                                                                                  Int))))] =
                                                                                                                                                                                                    [Go.Value.pointer
                                                                                                                                                                                                        (Option.some
                                                                                                                                                                                                          {
                                                                                                                                                                                                            block :=
                                                                                                                                                                                                              x_7.1,
                                                                                                                                                                                                            off :=
                                                                                                                                                                                                              (0 :
                                                                                                                                                                                                                Nat) }),
                                                                                                                                                                                                      Go.Value.int
                                                                                                                                                                                                        Go.IntKind.u32
                                                                                                                                                                                                        x_7.4] ∧
                                                                                                                                                                                                  SetRep
                                                                                                                                                                                                      x_7.1
                                                                                                                                                                                                      x_7.2
                                                                                                                                                                                                      x_7.3
                                                                                                                                                                                                      L ∧
                                                                                                                                                                                                    Good
                                                                                                                                                                                                      x_7.3) ∧
                                                                                                                                                                                                ∀
                                                                                                                                                                                                  (a :
                                                                                                                                                                                                    Prop)
                                                                                                                                                                                                  (L' :
                                                                                                                                                                                                    List
                                                                                                                                                                                                      (Nat ×
                                                                                                                                                                                                        Go.Sx.Blk)),
                                                                                                                                                                                                  (a ↔
                                                                                                                                                                                                        hasF
                                                                                                                                                                                                          x_7.2
                                                                                                                                                                                                          x_7.3
                                                                                                                                                                                                          x_7.4) ∧
                                                                                                                                                                                                      SetRep
                                                                                                                                                                                                        x_7.1
                                                                                                                                                                                                        x_7.2
                                                                                                                                                                                                        x_7.3
                                                                                                                                                                                                        L' →
                                                                                                                                                                                                    ¬¬a ∧
                                                                                                                                                                                                      ∃
                                                                                                                                                                                                        (y
                                                                                                                                                                                                        :
                                                                                                                                                                                                        RW),
                                                                                                                                                                                                        List.length
                                                                                                                                                                                                                y.5 -
                                                                                                                                                                                                              y.1 <
                                                                                                                                                                                                            List.length
                                                                                                                                                                                                                x.5 -
                                                                                                                                                                                                              x.1 ∧
                                                                                                                                                                                                          ((Go.IntKind.wrap
                                                                                                                                                                                                                    Go.IntKind.i64
                                                                                                                                                                                                                    ((↑x.1 :
                                                                                                                                                                                                                        Int) +
                                                                                                                                                                                                                      (1 :
                                                                                                                                                                                                                        Int)) =
                                                                                                                                                                                                                  (↑y.1 :
                                                                                                                                                                                                                    Int) ∧
                                                                                                                                                                                                                Go.Value.pointer
                                                                                                                                                                                                                      (Option.some
                                                                                                                                                                                                                        {
                                                                                                                                                                                                                          block :=
                                                                                                                                                                                                                            x.2,
                                                                                                                                                                                                                          off :=
                                                                                                                                                                                                                            (0 :
                                                                                                                                                                                                                              Nat) }) =
                                                                                                                                                                                                                    Go.Value.pointer
                                                                                                                                                                                                                      (Option.some
                                                                                                                                                                                                                        {
                                                                                                                                                                                                                          block :=
                                                                                                                                                                                                                            y.2,
                                                                                                                                                                                                                          off :=
                                                                                                                                                                                                                            (0 :
                                                                                                                                                                                                                              Nat) }) ∧
                                                                                                                                                                                                                  Go.IntKind.wrap
                                                                                                                                                                                                                        Go.IntKind.i64
                                                                                                                                                                                                                        (x.6 +
                                                                                                                                                                                                                          Go.IntKind.wrap
                                                                                                                                                                                                                            Go.IntKind.i64
                                                                                                                                                                                                                            (Go.IntKind.wrap
                                                                                                                                                                                                                                Go.IntKind.i64
                                                                                                                                                                                                                                (Go.IntKind.wrap
                                                                                                                                                                                                                                  Go.IntKind.u16
                                                                                                                                                                                                                                  (List.getD
                                                                                                                                                                                                                                      ys'
                                                                                                                                                                                                                                      ((0 :
                                                                                                                                                                                                                                          Nat) +
                                                                                                                                                                                                                                        x.1)
                                                                                                                                                                                                                                      (0 :
                                                                                                                                                                                                                                        Int) -
                                                                                                                                                                                                                                    List.getD
                                                                                                                                                                                                                                      xs'
                                                                                                                                                                                                                                      ((0 :
                                                                                                                                                                                                                                          Nat) +
                                                                                                                                                                                                                                        x.1)
                                                                                                                                                                                                                                      (0 :
                                                                                                                                                                                                                                        Int))) +
                                                                                                                                                                                                                              (1 :
                                                                                                                                                                                                                                Int))) =
                                                                                                                                                                                                                      y.6 ∧
                                                                                                                                                                                                                    Go.IntKind.wrap
                                                                                                                                                                                                                          Go.IntKind.i64
                                                                                                                                                                                                                          (List.getD
                                                                                                                                                                                                                            ys'
                                                                                                                                                                                                                            ((0 :
                                                                                                                                                                                                                                Nat) +
                                                                                                                                                                                                                              x.1)
                                                                                                                                                                                                                            (0 :
                                                                                                                                                                                                                              Int)) =
                                                                                                                                                                                                                        y.7 ∧
                                                                                                                                                                                                                      ((0 :
                                                                                                                                                                                                                              Nat) =
                                                                                                                                                                                                                            (0 :
                                                                                                                                                                                                                              Nat) ∧
                                                                                                                                                                                                                          List.length
                                                                                                                                                                                                                                (gapsF
                                                                                                                                                                                                                                  x_1.4
                                                                                                                                                                                                                                  x_1.3) =
                                                                                                                                                                                                                              List.length
                                                                                                                                                                                                                                (gapsF
                                                                                                                                                                                                                                  x_1.4
                                                                                                                                                                                                                                  x_1.3) ∧
                                                                                                                                                                                                                            cap' =
                                                                                                                                                                                                                              cap') ∧
                                                                                                                                                                                                                        (↑(List.length
                                                                                                                                                                                                                                  (gapsF
                                                                                                                                                                                                                                    x_1.4
                                                                                                                                                                                                                                    x_1.3)) :
                                                                                                                                                                                                                              Int) =
                                                                                                                                                                                                                            (↑(List.length
                                                                                                                                                                                                                                  (gapsF
                                                                                                                                                                                                                                    x_1.4
                                                                                                                                                                                                                                    x_1.3)) :
                                                                                                                                                                                                                              Int) ∧
                                                                                                                                                                                                                          True) ∧
                                                                                                                                                                                                              (bd =
                                                                                                                                                                                                                    bd ∧
                                                                                                                                                                                                                  bif
                                                                                                                                                                                                                      Nat.beq
                                                                                                                                                                                                                        t
                                                                                                                                                                                                                        t then
                                                                                                                                                                                                                    base =
                                                                                                                                                                                                                        base ∧
                                                                                                                                                                                                                      cap =
                                                                                                                                                                                                                          cap ∧
                                                                                                                                                                                                                        xs =
                                                                                                                                                                                                                            xs ∧
                                                                                                                                                                                                                          True
                                                                                                                                                                                                                  else
                                                                                                                                                                                                                    False) ∧
                                                                                                                                                                                                                L' ++
                                                                                                                                                                                                                      G_4 =
                                                                                                                                                                                                                    y.3 ∧
                                                                                                                                                                                                                  (b' =
                                                                                                                                                                                                                        b' ∧
                                                                                                                                                                                                                      base' =
                                                                                                                                                                                                                          base' ∧
                                                                                                                                                                                                                        cap' =
                                                                                                                                                                                                                            cap' ∧
                                                                                                                                                                                                                          xs' =
                                                                                                                                                                                                                              xs' ∧
                                                                                                                                                                                                                            ys' =
                                                                                                                                                                                                                                ys' ∧
                                                                                                                                                                                                                              True) ∧
                                                                                                                                                                                                                    True) ∧
                                                                                                                                                                                                            rwInv
                                                                                                                                                                                                              x0
                                                                                                                                                                                                              y) ∧
                                                                              (¬(↑x.1 : Int) < (↑(List.length (gapsF x_1.4 x_1.3)) : Int) →
                                                                                ∃ (x_2 : SX),
                                                                                  ∃ (L : List (Nat × Go.Sx.Blk)),
                                                                                    ∃ (G : List (Nat × Go.Sx.Blk)),
                                                                                      List.Perm x.3 (L ++ G) ∧
                                                                                        ([Go.Value.pointer (Option.some { block := x.2, off := (0 : Nat) })] =
                                                                                              [Go.Value.pointer (Option.some { block := x_2.1, off := (0 : Nat) })] ∧
                                                                                            SetRep x_2.1 x_2.2 x_2.3 L ∧ Good x_2.3) ∧
                                                                                          ∀ (a : Int) (L' : List (Nat × Go.Sx.Blk)),
                                                                                            a = lenF x_2.3 ∧ SetRep x_2.1 x_2.2 x_2.3 L' →
                                                                                              x.6 = a ∧
                                                                                                ∃ (x_3 : SX),
                                                                                                  ∃ (L : List (Nat × Go.Sx.Blk)),
                                                                                                    ∃ (G_2 : List (Nat × Go.Sx.Blk)),
                                                                                                      List.Perm (L' ++ G) (L ++ G_2) ∧
                                                                                                        ([Go.Value.pointer (Option.some { block := x.2, off := (0 : Nat) })] =
                                                                                                              [Go.Value.pointer (Option.some { block := x_3.1, off := (0 : Nat) })] ∧
                                                                                                            SetRep x_3.1 x_3.2 x_3.3 L) ∧
                                                                                                          ∀ (a : Int) (L' : List (Nat × Go.Sx.Blk)),
                                                                                                            a = x_3.2 ∧ SetRep x_3.1 x_3.2 x_3.3 L' →
                                                                                                              ∃ (x_4 : TX),
                                                                                                                ∃ (L : List (Nat × Go.Sx.Blk)),
                                                                                                                  ∃ (G : List (Nat × Go.Sx.Blk)),
                                                                                                                    List.Perm (L' ++ G_2) (L ++ G) ∧
                                                                                                                      ([Go.Value.pointer (Option.some { block := x.2, off := (0 : Nat) }),
                                                                                                                              Go.Value.int Go.IntKind.u32
                                                                                                                                (Go.IntKind.wrap Go.IntKind.u32 (a + (1 : Int)))] =
                                                                                                                            [Go.Value.pointer (Option.some { block := x_4.1, off := (0 : Nat) }),
                                                                                                                              Go.Value.int Go.IntKind.u32 x_4.4] ∧
                                                                                                                          SetRep x_4.1 x_4.2 x_4.3 L ∧
                                                                                                                            Good x_4.3) ∧
                                                                                                                        ∀ (a : Prop) (L' : List (Nat × Go.Sx.Blk)),
                                                                                                                          (a ↔ hasF x_4.2 x_4.3 x_4.4) ∧
                                                                                                                              SetRep x_4.1 x_4.2 x_4.3 L' →
                                                                                                                            ¬a)) := by
  refine ⟨(), [], [], by simp, ⟨by trivial, rfl⟩, fun _ L0 _ => ?_⟩
  refine ⟨mark, [], L0 ++ [], by simp, ⟨rfl, rfl⟩, fun b La rA => ?_⟩
  refine ⟨⟨0, b, La ++ (L0 ++ []), mark, [], 0, 0⟩, ⟨by simp, Nat.zero_le _, La, L0 ++ [], List.Perm.refl _, rA, Tidy.nil⟩, ?_⟩
  rintro ⟨i, b, L, m, rows, n, last⟩ ⟨hi, L1, G, hp, r1, ht⟩
  simp only at hi hp r1 ht
  refine ⟨fun hlt => ?_, fun hge => ?_⟩
  · have hin : i < len := by simp only at hlt; omega
    have hwi := wrapL hin hlen
    refine ⟨⟨by omega, hlt⟩, by simp only; omega, fun h60 => ⟨⟨b, m, rows, _⟩, L1, G, hp, ⟨rfl, r1, ht.1⟩, fun n1 La ⟨m', rows', ha, r1'⟩ => ?_⟩, fun h60 => ?_⟩
    · exact ⟨⟨i + 1, b, La ++ G, m', rows', 0, 0⟩, by simp only; omega, ⟨⟨hwi, by simp⟩, ⟨by trivial, by simp⟩, rfl, trivial⟩, by simp only; omega, La, G, List.Perm.refl _, r1', addS_tidy ha ht⟩
    · exact ⟨⟨i + 1, b, L, m, rows, 0, 0⟩, by simp only; omega, ⟨⟨hwi, by simp⟩, ⟨by trivial, by simp⟩, rfl, trivial⟩, by simp only; omega, L1, G, hp, r1, ht⟩
  · refine ⟨⟨b, m, rows, 5000⟩, L1, G, hp, ⟨rfl, r1, ht.1⟩, ?_⟩
    have hga := gaps_all ht.1
    simp only [hga]
    clear hge hi hp r1
    refine ⟨fun hnil Lg rg => ?_, fun b' base' cap' xs' ys' Lg k0 k1 k2 k3 k4 k5 rg => ?_⟩
    · subst hnil
      refine ⟨⟨0, b, Lg ++ G, m, [], 0, 0⟩, ⟨by simp, rfl, rfl, rfl, Nat.le_refl _, ⟨Lg, G, List.Perm.refl _, rg, ht⟩, rfl, rfl⟩, ?_⟩
      rintro ⟨i, b2, L, m2, rows2, n, last⟩ ⟨e1, e2, e3, hi, ⟨L1, G, hp, r1, ht⟩, hn, hl⟩
      simp only at e1 e2 e3 hi hp r1 ht hn hl
      subst e1 e2 e3
      refine ⟨fun hlt => by simp at hi; subst hi; simp at hlt, fun hge => ?_⟩
      have hge2 := hge
      revert hge
      generalize hrows : ([] : List (Int × Int)) = rows at *
      intro hge
      · refine ⟨⟨b2, m2, rows⟩, L1, G, hp, ⟨rfl, r1, ht.1⟩, fun n1 La ⟨hn1, r1⟩ => ?_⟩
        refine ⟨?_, ⟨b2, m2, rows⟩, La, G, List.Perm.refl _, ⟨rfl, r1⟩, fun n2 Lb ⟨hn2, r1⟩ => ?_⟩
        · have : i = rows.length := by subst hrows; simpa using hi
          rw [hn1, hn, this, List.take_length]
        · have hn2 : n2 = m2 := hn2
          exact ⟨⟨b2, m2, rows, IntKind.wrap .u32 (n2 + 1)⟩, Lb, G, List.Perm.refl _, ⟨rfl, r1, ht.1⟩, fun p Lc ⟨hp, r1⟩ h => one_rel ht (by rw [hn2] at hp; exact hp.1 h)⟩
    · refine ⟨⟨0, b, Lg ++ G, m, rows, 0, 0⟩, ⟨by simp, rfl, rfl, rfl, Nat.zero_le _, ⟨Lg, G, List.Perm.refl _, rg, ht⟩, by simp [lenF], rfl⟩, ?_⟩
      rintro ⟨i, b2, L, m2, rows2, n, last⟩ ⟨e1, e2, e3, hi, ⟨L1, G, hp, r1, ht⟩, hn, hl⟩
      simp only at e1 e2 e3 hi hp r1 ht hn hl
      subst e1 e2 e3
      refine ⟨fun hlt => ?_, fun hge => ?_⟩
      · have hir : i < rows2.length := by simp only at hlt; omega
        have x0 := getD_take (f := (·.1)) k4 hir
        have y0 := getD_take (f := (·.2)) k5 hir
        have hb := ht.1.2 rows2[i] (List.getElem_mem hir)
        have hb2 := ht.2 rows2[i] (List.getElem_mem hir)
        have hl2 := last_lt ht hir
        have hlen9 := ht.1.len'
        have hmem : rows2[i] ∈ rows2 := List.getElem_mem hir
        have hnx := has_next ht.1 hir
        have hbd := lenF_bd (rows2.take i)
        have hlt9 : ((rows2.take i).length : Int) ≤ 1000000 := by rw [List.length_take]; omega
        have hw1 : IntKind.wrap .i64 rows2[i].1 = rows2[i].1 := i64_id (by omega) (by omega)
        have hw2 : IntKind.wrap .i64 rows2[i].2 = rows2[i].2 := i64_id (by omega) (by omega)
        have hw3 : IntKind.wrap .u32 rows2[i].1 = rows2[i].1 := u32_id (by omega) (by omega)
        have hw4 : IntKind.wrap .u32 rows2[i].2 = rows2[i].2 := u32_id (by omega) (by omega)
        have hw5 : IntKind.wrap .i64 (last + 2) = last + 2 := by rw [hl]; exact i64_id (by omega) (by omega)
        have hw6 := wrapI hir (show rows2.length < 1000000 by omega)
        have hw7 : IntKind.wrap .u16 (rows2[i].2 - rows2[i].1) = rows2[i].2 - rows2[i].1 := u16_id (by omega) (by omega)
        have hw8 : IntKind.wrap .u32 (rows2[i].2 - rows2[i].1) = rows2[i].2 - rows2[i].1 := u32_id (by omega) (by omega)
        have hw9 : IntKind.wrap .i64 (rows2[i].2 - rows2[i].1) = rows2[i].2 - rows2[i].1 := i64_id (by omega) (by omega)
        have hw10 : IntKind.wrap .i64 (rows2[i].2 - rows2[i].1 + 1) = rows2[i].2 - rows2[i].1 + 1 := i64_id (by omega) (by omega)
        have hw11 : IntKind.wrap .i64 (n + (rows2[i].2 - rows2[i].1 + 1)) = lenF (rows2.take (i + 1)) := by
          rw [lenF_take hir, hn, hw8]
          exact i64_id (by omega) (by omega)
        simp only [Nat.zero_add, x0, y0, hw1, hw2, hw3, hw4, hw5, hw6, hw7, hw9, hw10, hw11, u32_add]
        have hls := (lastF_succ hir).symm
        generalize rows2[i] = r at *
        have hA : ∀ {t : Int}, t = IntKind.wrap .u32 (m2 + (r.2 + 1)) → ¬ hasF m2 rows2 t := fun ht2 h => hnx ((has_rel ht.1 (by omega) (by omega) ht2).1 h)
        have hB : ∀ {t : Int}, t = IntKind.wrap .u32 (m2 + r.1) → hasF m2 rows2 t := fun ht2 => (has_rel ht.1 (by omega) (by omega) ht2).2 ⟨r, hmem, by omega, by omega⟩
        have hC : ∀ {t : Int}, t = IntKind.wrap .u32 (m2 + r.2) → hasF m2 rows2 t := fun ht2 => (has_rel ht.1 (by omega) (by omega) ht2).2 ⟨r, hmem, by omega, by omega⟩
        refine ⟨⟨by omega, by omega⟩, by omega, by omega, fun b3 => ⟨rfl, rfl, by omega, by omega, ⟨b2, m2, rows2⟩, L1, G, hp, ⟨rfl, r1⟩, fun a La ⟨ha, r1⟩ => ⟨by trivial, by trivial, ?_⟩⟩⟩
        have ha : a = m2 := ha
        subst ha
        refine ⟨⟨b2, a, rows2, IntKind.wrap .u32 (a + (r.2 + 1))⟩, La, G, List.Perm.refl _, ⟨rfl, r1, ht.1⟩, fun p Lb ⟨hp, r1⟩ => ⟨fun h => hA rfl (hp.1 h), ⟨b2, a, rows2⟩, Lb, G, List.Perm.refl _, ⟨rfl, r1⟩, fun c Lc ⟨hc, r1⟩ => ⟨by trivial, by trivial, ?_⟩⟩⟩
        have hc : c = a := hc
        subst hc
        refine ⟨⟨b2, c, rows2, IntKind.wrap .u32 (c + r.1)⟩, Lc, G, List.Perm.refl _, ⟨rfl, r1, ht.1⟩, fun p Lb ⟨hp, r1⟩ => ⟨fun h => h (hp.2 (hB rfl)), ⟨b2, c, rows2⟩, Lb, G, List.Perm.refl _, ⟨rfl, r1⟩, fun d Ld ⟨hd, r1⟩ => ⟨by trivial, by trivial, ?_⟩⟩⟩
        have hd : d = c := hd
        subst hd
        refine ⟨⟨b2, d, rows2, IntKind.wrap .u32 (d + r.2)⟩, Ld, G, List.Perm.refl _, ⟨rfl, r1, ht.1⟩, fun p Lb ⟨hp, r1⟩ => ⟨fun h => h (hp.2 (hC rfl)), ⟨i + 1, b2, Lb ++ G, d, rows2, lenF (rows2.take (i + 1)), r.2⟩, by simp only; omega, ⟨⟨by simp, by simp⟩, ⟨by trivial, by simp⟩, rfl, by simp⟩, rfl, rfl, rfl, hir, ⟨Lb, G, List.Perm.refl _, r1, ht⟩, rfl, hls⟩⟩
      · refine ⟨⟨b2, m2, rows2⟩, L1, G, hp, ⟨rfl, r1, ht.1⟩, fun n1 La ⟨hn1, r1⟩ => ?_⟩
        refine ⟨?_, ⟨b2, m2, rows2⟩, La, G, List.Perm.refl _, ⟨rfl, r1⟩, fun n2 Lb ⟨hn2, r1⟩ => ?_⟩
        · have : i = rows2.length := by simp only at hge; omega
          rw [hn1, hn, this, List.take_length]
        · have hn2 : n2 = m2 := hn2
          exact ⟨⟨b2, m2, rows2, IntKind.wrap .u32 (n2 + 1)⟩, Lb, G, List.Perm.refl _, ⟨rfl, r1, ht.1⟩, fun p Lc ⟨hp, r1⟩ h => one_rel ht (by rw [hn2] at hp; exact hp.1 h)⟩
theorem rwNil_vc (o : Option Addr) (cap : Nat) (mark : Int) (hm0 : 0 ≤ mark) (hm1 : mark < 4294967296) :
    ∃ (x : Unit),
  ∃ (L : List (Nat × Go.Sx.Blk)),
    ∃ (G : List (Nat × Go.Sx.Blk)),
      List.Perm [] (L ++ G) ∧
        ((0 : Nat) = (0 : Nat) ∧ L = []) ∧
          ∀ (a : Unit) (L' : List (Nat × Go.Sx.Blk)),
            a = () →
              ∃ (x : Int),
                ∃ (L : List (Nat × Go.Sx.Blk)),
                  ∃ (G_1 : List (Nat × Go.Sx.Blk)),
                    List.Perm (L' ++ G) (L ++ G_1) ∧
                      ([Go.Value.int Go.IntKind.u32 mark] = [Go.Value.int Go.IntKind.u32 x] ∧ L = []) ∧
                        ∀ (a : Nat) (L' : List (Nat × Go.Sx.Blk)),
                          SetRep a x [] L' →
                            ∃ (x0 : RW),
                              ((((0 : Int) = (↑x0.1 : Int) ∧
                                      Go.Value.pointer (Option.some { block := a, off := (0 : Nat) }) = Go.Value.pointer (Option.some { block := x0.2, off := (0 : Nat) }) ∧
                                        mark = mark ∧
                                          Go.Value.slice o (0 : Nat) cap = Go.Value.slice o (0 : Nat) cap ∧
                                            Go.Value.slice o (0 : Nat) cap = Go.Value.slice o (0 : Nat) cap ∧ (↑(0 : Nat) : Int) = (↑(0 : Nat) : Int) ∧ True) ∧
                                    L' ++ G_1 = x0.3 ∧ True) ∧
                                  x0.1 ≤ (0 : Nat) ∧ rwSet x0) ∧
                                ∀ (x : RW),
                                  x.1 ≤ (0 : Nat) ∧ rwSet x →
                                    ((↑x.1 : Int) < (↑(0 : Nat) : Int) → False) ∧
                                      (¬(↑x.1 : Int) < (↑(0 : Nat) : Int) →
                                        ∃ (x_1 : TX),
                                          ∃ (L : List (Nat × Go.Sx.Blk)),
                                            ∃ (G : List (Nat × Go.Sx.Blk)),
                                              List.Perm x.3 (L ++ G) ∧
                                                ([Go.Value.pointer (Option.some { block := x.2, off := (0 : Nat) }), Go.Value.int Go.IntKind.i64 (5000 : Int)] =
                                                      [Go.Value.pointer (Option.some { block := x_1.1, off := (0 : Nat) }), Go.Value.int Go.IntKind.i64 x_1.4] ∧
                                                    SetRep x_1.1 x_1.2 x_1.3 L ∧ Good x_1.3) ∧
                                                  (gapsF x_1.4 x_1.3 = [] →
                                                      ∀ (L' : List (Nat × Go.Sx.Blk)),
                                                        SetRep x_1.1 x_1.2 x_1.3 L' →
                                                          ∃ (x0 : RW),
                                                            ((((0 : Int) = (↑x0.1 : Int) ∧
                                                                    Go.Value.pointer (Option.some { block := x.2, off := (0 : Nat) }) =
                                                                        Go.Value.pointer (Option.some { block := x0.2, off := (0 : Nat) }) ∧
                                                                      (0 : Int) = x0.6 ∧
                                                                        (0 : Int) = x0.7 ∧
                                                                          Go.Value.slice Option.none (0 : Nat) (0 : Nat) = Go.Value.slice Option.none (0 : Nat) (0 : Nat) ∧
                                                                            (↑(0 : Nat) : Int) = (↑(0 : Nat) : Int) ∧ True) ∧
                                                                  L' ++ G = x0.3 ∧ True) ∧
                                                                rwInv x0 x0) ∧
                                                              ∀ (x : RW),
                                                                rwInv x0 x →
                                                                  ((↑x.1 : Int) < (↑(0 : Nat) : Int) → False) ∧
                                                                    (¬(↑x.1 : Int) < (↑(0 : Nat) : Int) →
                                                                      ∃ (x_2 : SX),
                                                                        ∃ (L : List (Nat × Go.Sx.Blk)),
                                                                          ∃ (G : List (Nat × Go.Sx.Blk)),
                                                                            List.Perm x.3 (L ++ G) ∧
                                                                              ([Go.Value.pointer (Option.some { block := x.2, off := (0 : Nat) })] =
                                                                                    [Go.Value.pointer (Option.some { block := x_2.1, off := (0 : Nat) })] ∧
                                                                                  SetRep x_2.1 x_2.2 x_2.3 L ∧ Good x_2.3) ∧
                                                                                ∀ (a : Int) (L' : List (Nat × Go.Sx.Blk)),
                                                                                  a = lenF x_2.3 ∧ SetRep x_2.1 x_2.2 x_2.3 L' →
                                                                                    x.6 = a ∧
                                                                                      ∃ (x_3 : SX),
                                                                                        ∃ (L : List (Nat × Go.Sx.Blk)),
                                                                                          ∃ (G_2 : List (Nat × Go.Sx.Blk)),
                                                                                            List.Perm (L' ++ G) (L ++ G_2) ∧
                                                                                              ([Go.Value.pointer (Option.some { block := x.2, off := (0 : Nat) })] =
                                                                                                    [Go.Value.pointer (Option.some { block := x_3.1, off := (0 : Nat) })] ∧
                                                                                                  SetRep x_3.1 x_3.2 x_3.3 L) ∧
                                                                                                ∀ (a : Int) (L' : List (Nat × Go.Sx.Blk)),
                                                                                                  a = x_3.2 ∧ SetRep x_3.1 x_3.2 x_3.3 L' →
                                                                                                    ∃ (x_4 : TX),
                                                                                                      ∃ (L : List (Nat × Go.Sx.Blk)),
                                                                                                        ∃ (G : List (Nat × Go.Sx.Blk)),
                                                                                                          List.Perm (L' ++ G_2) (L ++ G) ∧
                                                                                                            ([Go.Value.pointer (Option.some { block := x.2, off := (0 : Nat) }),
                                                                                                                    Go.Value.int Go.IntKind.u32 (Go.IntKind.wrap Go.IntKind.u32 (a + (1 : Int)))] =
                                                                                                                  [Go.Value.pointer (Option.some { block := x_4.1, off := (0 : Nat) }),
                                                                                                                    Go.Value.int Go.IntKind.u32 x_4.4] ∧
                                                                                                                SetRep x_4.1 x_4.2 x_4.3 L ∧
                                                                                                                  Good x_4.3) ∧
                                                                                                              ∀ (a : Prop) (L' : List (Nat × Go.Sx.Blk)),
                                                                                                                (a ↔ hasF x_4.2 x_4.3 x_4.4) ∧
                                                                                                                    SetRep x_4.1 x_4.2 x_4.3 L' →
                                                                                                                  ¬a)) ∧
                                                    ∀ (b' base' cap' : Nat) (xs' ys' : List Int) (L' : List (Nat × Go.Sx.Blk)),
                                                      (0 : Nat) < List.length (gapsF x_1.4 x_1.3) →
                                                        List.length (gapsF x_1.4 x_1.3) ≤ cap' →
                                                          List.length xs' = cap' →
                                                            List.length ys' = cap' →
                                                              List.take (List.length (gapsF x_1.4 x_1.3)) xs' =
                                                                  List.map (fun (x : Int × Int) => x.1) (gapsF x_1.4 x_1.3) →
                                                                List.take (List.length (gapsF x_1.4 x_1.3)) ys' =
                                                                    List.map (fun (x : Int × Int) => x.2) (gapsF x_1.4 x_1.3) →
                                                                  SetRep x_1.1 x_1.2 x_1.3 L' →
                                                                    ∃ (x0 : RW),
                                                                      ((((0 : Int) = (↑x0.1 : Int) ∧
                                                                              Go.Value.pointer (Option.some { block := x.2, off := (0 : Nat) }) =
                                                                                  Go.Value.pointer (Option.some { block := x0.2, off := (0 : Nat) }) ∧
                                                                                (0 : Int) = x0.6 ∧
                                                                                  (0 : Int) = x0.7 ∧
                                                                                    ((0 : Nat) = (0 : Nat) ∧
                                                                                        List.length (gapsF x_1.4 x_1.3) =
                                                                                            List.length (gapsF x_1.4 x_1.3) ∧
                                                                                          cap' = cap') ∧
                                                                                      (↑(List.length (gapsF x_1.4 x_1.3)) : Int) =
                                                                                          (↑(List.length (gapsF x_1.4 x_1.3)) : Int) ∧
                                                                                        True) ∧
                                                                            L' ++ G = x0.3 ∧ (b' = b' ∧ base' = base' ∧ cap' = cap' ∧ xs' = xs' ∧ ys' = ys' ∧ True) ∧ True) ∧
                                                                          rwInv x0 x0) ∧
                                                                        ∀ (x : RW),
                                                                          rwInv x0 x →
                                                                            ((↑x.1 : Int) < (↑(List.length (gapsF x_1.4 x_1.3)) : Int) →
                                                                                ((0 : Int) ≤ (↑x.1 : Int) ∧ (↑x.1 : Int) < (↑(List.length (gapsF x_1.4 x_1.3)) : Int)) ∧
                                                                                  (0 : Nat) + x.1 < cap' ∧
                                                                                    (0 : Nat) + x.1 < cap' ∧
                                                                                      ∀ (b : Nat),
                                                                                        Go.Value.oneCell' (Go.Value.int Go.IntKind.u16 (List.getD xs' ((0 : Nat) + x.1) (0 : Int))) = Bool.true ∧
                                                                                          Go.Value.oneCell' (Go.Value.int Go.IntKind.u16 (List.getD ys' ((0 : Nat) + x.1) (0 : Int))) = Bool.true ∧
                                                                                            ¬Go.IntKind.wrap Go.IntKind.i64 (List.getD xs' ((0 : Nat) + x.1) (0 : Int)) <
                                                                                                  Go.IntKind.wrap Go.IntKind.i64 (x.7 + (2 : Int)) ∧
                                                                                              ¬List.getD ys' ((0 : Nat) + x.1) (0 : Int) < List.getD xs' ((0 : Nat) + x.1) (0 : Int) ∧
                                                                                                ∃ (x_2 : SX),
                                                                                                  ∃ (L : List (Nat × Go.Sx.Blk)),
                                                                                                    ∃ (G : List (Nat × Go.Sx.Blk)),
                                                                                                      List.Perm x.3 (L ++ G) ∧
                                                                                                        ([Go.Value.pointer (Option.some { block := x.2, off := (0 : Nat) })] =
                                                                                                              [Go.Value.pointer (Option.some { block := x_2.1, off := (0 : Nat) })] ∧
                                                                                                            SetRep x_2.1 x_2.2 x_2.3 L) ∧
                                                                                                          ∀ (a : Int) (L' : List (Nat × Go.Sx.Blk)),
                                                                                                            a = x_2.2 ∧ SetRep x_2.1 x_2.2 x_2.3 L' →
                                                                                                              Go.Sx.SV.val
                                                                                                                    (Go.Value.int Go.IntKind.u32
                                                                                                                      (Go.IntKind.wrap Go.IntKind.u32 (List.getD ys' ((0 : Nat) + x.1) (0 : Int)))) =
                                                                                                                  Go.Sx.SV.val
                                                                                                                    (Go.Value.int Go.IntKind.u32
                                                                                                                      (Go.IntKind.wrap Go.IntKind.u32 (List.getD ys' ((0 : Nat) + x.1) (0 : Int)))) ∧
                                                                                                                Go.Sx.SV.val (Go.Value.int Go.IntKind.u16 (List.getD ys' ((0 : Nat) + x.1) (0 : Int))) =
                                                                                                                    Go.Sx.SV.val
                                                                                                                      (Go.Value.int Go.IntKind.u16 (List.getD ys' ((0 : Nat) + x.1) (0 : Int))) ∧
                                                                                                                  ∃ (x_3 : TX),
                                                                                                                    ∃ (L : List (Nat × Go.Sx.Blk)),
                                                                                                                      ∃ (G_2 : List (Nat × Go.Sx.Blk)),
                                                                                                                        List.Perm (L' ++ G) (L ++ G_2) ∧
                                                                                                                          ([Go.Value.pointer (Option.some { block := x.2, off := (0 : Nat) }),
                                                                                                                                  Go.Value.int Go.IntKind.u32
                                                                                                                                    (Go.IntKind.wrap Go.IntKind.u32
                                                                                                                                      (Go.IntKind.wrap Go.IntKind.u32
                                                                                                                                          (a +
                                                                                                                                            Go.IntKind.wrap Go.IntKind.u32
                                                                                                                                              (List.getD ys' ((0 : Nat) + x.1) (0 : Int))) +
                                                                                                                                        (1 : Int)))] =
                                                                                                                                [Go.Value.pointer (Option.some { block := x_3.1, off := (0 : Nat) }),
                                                                                                                                  Go.Value.int Go.IntKind.u32 x_3.4] ∧
                                                                                                                              SetRep x_3.1 x_3.2 x_3.3 L ∧
                                                                                                                                Good x_3.3) ∧
                                                                                                                            ∀ (a : Prop) (L' : List (Nat × Go.Sx.Blk)),
                                                                                                                              (a ↔ hasF x_3.2 x_3.3 x_3.4) ∧
                                                                                                                                  SetRep x_3.1 x_3.2 x_3.3 L' →
                                                                                                                                ¬a ∧
                                                                                                                                  ∃ (x_4 : SX),
                                                                                                                                    ∃ (L : List (Nat × Go.Sx.Blk)),
                                                                                                                                      ∃ (G : List (Nat × Go.Sx.Blk)),
                                                                                                                                        List.Perm (L' ++ G_2) (L ++ G) ∧
                                                                                                                                          ([Go.Value.pointer
                                                                                                                                                    (Option.some { block := x.2, off := (0 : Nat) })] =
                                                                                                                                                [Go.Value.pointer
                                                                                                                                                    (Option.some
                                                                                                                                                      { block := x_4.1, off := (0 : Nat) })] ∧
                                                                                                                                              SetRep x_4.1 x_4.2 x_4.3 L) ∧
                                                                                                                                            ∀ (a : Int) (L' : List (Nat × Go.Sx.Blk)),
                                                                                                                                              a = x_4.2 ∧
                                                                                                                                                  SetRep x_4.1 x_4.2 x_4.3
                                                                                                                                                    L' →
                                                                                                                                                Go.Sx.SV.val
                                                                                                                                                      (Go.Value.int Go.IntKind.u32
                                                                                                                                                        (Go.IntKind.wrap Go.IntKind.u32
                                                                                                                                                          (List.getD xs' ((0 : Nat) + x.1)
                                                                                                                                                            (0 : Int)))) =
                                                                                                                                                    Go.Sx.SV.val
                                                                                                                                                      (Go.Value.int Go.IntKind.u32
                                                                                                                                                        (Go.IntKind.wrap Go.IntKind.u32
                                                                                                                                                          (List.getD xs' ((0 : Nat) + x.1)
                                                                                                                                                            (0 : Int)))) ∧
                                                                                                                                                  Go.Sx.SV.val
                                                                                                                                                        (Go.Value.int Go.IntKind.u16
                                                                                                                                                          (List.getD xs' ((0 : Nat) + x.1) (0 : Int))) =
                                                                                                                                                      Go.Sx.SV.val
                                                                                                                                                        (Go.Value.int Go.IntKind.u16
                                                                                                                                                          (List.getD xs' ((0 : Nat) + x.1) (0 : Int))) ∧
                                                                                                                                                    ∃ (x_5 : TX),
                                                                                                                                                      ∃ (L : List (Nat × Go.Sx.Blk)),
                                                                                                                                                        ∃ (G_3 : List (Nat × Go.Sx.Blk)),
                                                                                                                                                          List.Perm (L' ++ G) (L ++ G_3) ∧
                                                                                                                                                            ([Go.Value.pointer
                                                                                                                                                                      (Option.some
                                                                                                                                                                        { block := x.2,
                                                                                                                                                                          off := (0 : Nat) }),
                                                                                                                                                                    Go.Value.int Go.IntKind.u32
                                                                                                                                                                      (Go.IntKind.wrap Go.IntKind.u32
                                                                                                                                                                        (a +
                                                                                                                                                                          Go.IntKind.wrap Go.IntKind.u32
                                                                                                                                                                            (List.getD xs'
                                                                                                                                                                              ((0 : Nat) + x.1)
                                                                                                                                                                              (0 : Int))))] =
                                                                                                                                                                  [Go.Value.pointer
                                                                                                                                                                      (Option.some
                                                                                                                                                                        { block := x_5.1,
                                                                                                                                                                          off := (0 : Nat) }),
                                                                                                                                                                    Go.Value.int Go.IntKind.u32 x_5.4] ∧
                                                                                                                                                                SetRep x_5.1
                                                                                                                                                                    x_5.2 x_5.3 L ∧
                                                                                                                                                                  Good
                                                                                                                                                                    x_5.3) ∧
                                                                                                                                                              ∀ (a : Prop)
                                                                                                                                                                (L' : List (Nat × Go.Sx.Blk)),
                                                                                                                                                                (a ↔
                                                                                                                                                                      hasF
                                                                                                                                                                        x_5.2 x_5.3 x_5.4) ∧
                                                                                                                                                                    SetRep
                                                                                                                                                                      x_5.1 x_5.2 x_5.3 L' →
                                                                                                                                                                  ¬¬a ∧
                                                                                                                                                                    ∃ (x_6 :
                                                                                                                                                                      SX),
                                                                                                                                                                      ∃ (L : List (Nat × Go.Sx.Blk)),
                                                                                                                                                                        ∃ (G : List (Nat × Go.Sx.Blk)),
                                                                                                                                                                          List.Perm (L' ++ G_3)
                                                                                                                                                                              (L ++ G) ∧
                                                                                                                                                                            ([Go.Value.pointer
                                                                                                                                                                                      (Option.some
                                                                                                                                                                                        { block := x.2,
                                                                                                                                                                                          off :=
                                                                                                                                                                                            (0 :
                                                                                                                                                                                              Nat) })] =
                                                                                                                                                                                  [Go.Value.pointer
                                                                                                                                                                                      (Option.some
                                                                                                                                                                                        {
                                                                                                                                                                                          block :=
                                                                                                                                                                                            x_6.1,
                                                                                                                                                                                          off :=
                                                                                                                                                                                            (0 :
                                                                                                                                                                                              Nat) })] ∧
                                                                                                                                                                                SetRep
                                                                                                                                                                                  x_6.1 x_6.2 x_6.3 L) ∧
                                                                                                                                                                              ∀ (a : Int)
                                                                                                                                                                                (L' :
                                                                                                                                                                                  List
                                                                                                                                                                                    (Nat × Go.Sx.Blk)),
                                                                                                                                                                                a = x_6.2 ∧
                                                                                                                                                                                    SetRep
                                                                                                                                                                                      x_6.1 x_6.2 x_6.3
                                                                                                                                                                                      L' →
                                                                                                                                                                                  Go.Sx.SV.val
                                                                                                                                                                                        (Go.Value.int
                                                                                                                                                                                          Go.IntKind.u32
                                                                                                                                                                                          (Go.IntKind.wrap
                                                                                                                                                                                            Go.IntKind.u32
                                                                                                                                                                                            (List.getD
                                                                                                                                                                                              ys'
                                                                                                                                                                                              ((0 :
                                                                                                                                                                                                  Nat) +
                                                                                                                                                                                                x.1)
                                                                                                                                                                                              (0 :
                                                                                                                                                                                                Int)))) =
                                                                                                                                                                                      Go.Sx.SV.val
                                                                                                                                                                                        (Go.Value.int
                                                                                                                                                                                          Go.IntKind.u32
                                                                                                                                                                                          (Go.IntKind.wrap
                                                                                                                                                                                            Go.IntKind.u32
                                                                                                                                                                                            (List.getD
                                                                                                                                                                                              ys'
                                                                                                                                                                                              ((0 :
                                                                                                                                                                                                  Nat) +
                                                                                                                                                                                                x.1)
                                                                                                                                                                                              (0 :
                                                                                                                                                                                                Int)))) ∧
                                                                                                                                                                                    Go.Sx.SV.val
                                                                                                                                                                                          (Go.Value.int
                                                                                                                                                                                            Go.IntKind.u16
                                                                                                                                                                                            (List.getD
                                                                                                                                                                                              ys'
                                                                                                                                                                                              ((0 :
                                                                                                                                                                                                  Nat) +
                                                                                                                                                                                                x.1)
                                                                                                                                                                                              (0 :
                                                                                                                                                                                                Int))) =
                                                                                                                                                                                        Go.Sx.SV.val
                                                                                                                                                                                          (Go.Value.int
                                                                                                                                                                                            Go.IntKind.u16
                                                                                                                                                                                            (List.getD
                                                                                                                                                                                              ys'
                                                                                                                                                                                              ((0 :
                                                                                                                                                                                                  Nat) +
                                                                                                                                                                                                x.1)
                                                                                                                                                                                              (0 :
                                                                                                                                                                                                Int))) ∧
                                                                                                                                                                                      ∃ (x_7 :
                                                                                                                                                                                        TX),
                                                                                                                                                                                        ∃ (L :
                                                                                                                                                                                          List
                                                                                                                                                                                            (Nat ×
                                                                                                                                                                                              Go.Sx.Blk)),
                                                                                                                                                                                          ∃ (G_4 :
                                                                                                                                                                                            List
                                                                                                                                                                                              (Nat ×
                                                                                                                                                                                                Go.Sx.Blk)),
                                                                                                                                                                                            List.Perm
                                                                                                                                                                                                (L' ++
                                                                                                                                                                                                  G)
                                                                                                                                                                                                (L ++
                                                                                                                                                                                                  G_4) ∧
                                                                                                                                                                                              ([Go.Value.pointer
                                                                                                                                                                                                        (Option.some
                                                                                                                                                                                                          {
                                                                                                                                                                                                            block :=
                                                                                                                                                                                                              x.2,
                                                                                                                                                                                                            off :=
                                                                                                                                                                                                              (0 :
                                                                                                                                                                                                                Nat) }),
                                                                                                                                                                                                      Go.Value.int
                                                                                                                                                                                                        Go.IntKind.u32
                                                                                                                                                                                                        (Go.IntKind.wrap
                                                                                                                                                                                                          Go.IntKind.u32
                                                                                                                                                                                                          (a +
                                                                                                                                                                                                            Go.IntKind.wrap
                                                                                                                                                                                                              Go.IntKind.u32
                                                                                                                                                                                                              (List.getD
                                                                                                                                                                                                                ys'
                                                                                                                                                                                                                ((0 :
                                                                                                                                                                                                                    Nat) +
                                                                                                                                                                                                                  x.1)
                                                                                                                                                                                                                (0 :
                                                                                                                                                                                                                  Int))))] =
                                                                                                                                                                                                    [Go.Value.pointer
                                                                                                                                                                                                        (Option.some
                                                                                                                                                                                                          {
                                                                                                                                                                                                            block :=
                                                                                                                                                                                                              x_7.1,
                                                                                                                                                                                                            off :=
                                                                                                                                                                                                              (0 :
                                                                                                                                                                                                                Nat) }),
                                                                                                                                                                                                      Go.Value.int
                                                                                                                                                                                                        Go.IntKind.u32
                                                                                                                                                                                                        x_7.4] ∧
                                                                                                                                                                                                  SetRep
                                                                                                                                                                                                      x_7.1
                                                                                                                                                                                                      x_7.2
                                                                                                                                                                                                      x_7.3
                                                                                                                                                                                                      L ∧
                                                                                                                                                                                                    Good
                                                                                                                                                                                                      x_7.3) ∧
                                                                                                                                                                                                ∀
                                                                                                                                                                                                  (a :
                                                                                                                                                                                                    Prop)
                                                                                                                                                                                                  (L' :
                                                                                                                                                                                                    List
                                                                                                                                                                                                      (Nat ×
                                                                                                                                                                                                        Go.Sx.Blk)),
                                                                                                                                                                                                  (a ↔
                                                                                                                                                                                                        hasF
                                                                                                                                                                                                          x_7.2
                                                                                                                                                                                                          x_7.3
                                                                                                                                                                                                          x_7.4) ∧
                                                                                                                                                                                                      SetRep
                                                                                                                                                                                                        x_7.1
                                                                                                                                                                                                        x_7.2
                                                                                                                                                                                                        x_7.3
                                                                                                                                                                                                        L' →
                                                                                                                                                                                                    ¬¬a ∧
                                                                                                                                                                                                      ∃
                                                                                                                                                                                                        (y
                                                                                                                                                                                                        :
                                                                                                                                                                                                        RW),
                                                                                                                                                                                                        List.length
                                                                                                                                                                                                                y.5 -
                                                                                                                                                                                                              y.1 <
                                                                                                                                                                                                            List.length
                                                                                                                                                                                                                x.5 -
                                                                                                                                                                                                              x.1 ∧
                                                                                                                                                                                                          ((Go.IntKind.wrap
                                                                                                                                                                                                                    Go.IntKind.i64
                                                                                                                                                                                                                    ((↑x.1 :
                                                                                                                                                                                                                        Int) +
                                                                                                                                                                                                                      (1 :
                                                                                                                                                                                                                        Int)) =
                                                                                                                                                                                                                  (↑y.1 :
                                                                                                                                                                                                                    Int) ∧
                                                                                                                                                                                                                Go.Value.pointer
                                                                                                                                                                                                                      (Option.some
                                                                                                                                                                                                                        {
                                                                                                                                                                                                                          block :=
                                                                                                                                                                                                                            x.2,
                                                                                                                                                                                                                          off :=
                                                                                                                                                                                                                            (0 :
                                                                                                                                                                                                                              Nat) }) =
                                                                                                                                                                                                                    Go.Value.pointer
                                                                                                                                                                                                                      (Option.some
                                                                                                                                                                                                                        {
                                                                                                                                                                                                                          block :=
                                                                                                                                                                                                                            y.2,
                                                                                                                                                                                                                          off :=
                                                                                                                                                                                                                            (0 :
                                                                                                                                                                                                                              Nat) }) ∧
                                                                                                                                                                                                                  Go.IntKind.wrap
                                                                                                                                                                                                                        Go.IntKind.i64
                                                                                                                                                                                                                        (x.6 +
                                                                                                                                                                                                                          Go.IntKind.wrap
                                                                                                                                                                                                                            Go.IntKind.i64
                                                                                                                                                                                                                            (Go.IntKind.wrap
                                                                                                                                                                                                                                Go.IntKind.i64
                                                                                                                                                                                                                                (Go.IntKind.wrap
                                                                                                                                                                                                                                  Go.IntKind.u16
                                                                                                                                                                                                                                  (List.getD
                                                                                                                                                                                                                                      ys'
                                                                                                                                                                                                                                      ((0 :
                                                                                                                                                                                                                                          Nat) +
                                                                                                                                                                                                                                        x.1)
                                                                                                                                                                                                                                      (0 :
                                                                                                                                                                                                                                        Int) -
                                                                                                                                                                                                                                    List.getD
                                                                                                                                                                                                                                      xs'
                                                                                                                                                                                                                                      ((0 :
                                                                                                                                                                                                                                          Nat) +
                                                                                                                                                                                                                                        x.1)
                                                                                                                                                                                                                                      (0 :
                                                                                                                                                                                                                                        Int))) +
                                                                                                                                                                                                                              (1 :
                                                                                                                                                                                                                                Int))) =
                                                                                                                                                                                                                      y.6 ∧
                                                                                                                                                                                                                    Go.IntKind.wrap
                                                                                                                                                                                                                          Go.IntKind.i64
                                                                                                                                                                                                                          (List.getD
                                                                                                                                                                                                                            ys'
                                                                                                                                                                                                                            ((0 :
                                                                                                                                                                                                                                Nat) +
                                                                                                                                                                                                                              x.1)
                                                                                                                                                                                                                            (0 :
                                                                                                                                                                                                                              Int)) =
                                                                                                                                                                                                                        y.7 ∧
                                                                                                                                                                                                                      ((0 :
                                                                                                                                                                                                                              Nat) =
                                                                                                                                                                                                                            (0 :
                                                                                                                                                                                                                              Nat) ∧
                                                                                                                                                                                                                          List.length
                                                                                                                                                                                                                                (gapsF
                                                                                                                                                                                                                                  x_1.4
                                                                                                                                                                                                                                  x_1.3) =
                                                                                                                                                                                                                              List.length
                                                                                                                                                                                                                                (gapsF
                                                                                                                                                                                                                                  x_1.4
                                                                                                                                                                                                                                  x_1.3) ∧
                                                                                                                                                                                                                            cap' =
                                                                                                                                                                                                                              cap') ∧
                                                                                                                                                                                                                        (↑(List.length
                                                                                                                                                                                                                                  (gapsF
                                                                                                                                                                                                                                    x_1.4
                                                                                                                                                                                                                                    x_1.3)) :
                                                                                                                                                                                                                              Int) =
                                                                                                                                                                                                                            (↑(List.length
                                                                                                                                                                                                                                  (gapsF
                                                                                                                                                                                                                                    x_1.4
                                                                                                                                                                                                                                    x_1.3)) :
                                                                                                                                                                                                                              Int) ∧
                                                                                                                                                                                                                          True) ∧
                                                                                                                                                                                                              L' ++
                                                                                                                                                                                                                    G_4 =
                                                                                                                                                                                                                  y.3 ∧
                                                                                                                                                                                                                (b' =
                                                                                                                                                                                                                      b' ∧
                                                                                                                                                                                                                    base' =
                                                                                                                                                                                                                        base' ∧
                                                                                                                                                                                                                      cap' =
                                                                                                                                                                                                                          cap' ∧
                                                                                                                                                                                                                        xs' =
                                                                                                                                                                                                                            xs' ∧
                                                                                                                                                                                                                          ys' =
                                                                                                                                                                                                                              ys' ∧
                                                                                                                                                                                                                            True) ∧
                                                                                                                                                                                                                  True) ∧
                                                                                                                                                                                                            rwInv
                                                                                                                                                                                                              x0
                                                                                                                                                                                                              y) ∧
                                                                              (¬(↑x.1 : Int) < (↑(List.length (gapsF x_1.4 x_1.3)) : Int) →
                                                                                ∃ (x_2 : SX),
                                                                                  ∃ (L : List (Nat × Go.Sx.Blk)),
                                                                                    ∃ (G : List (Nat × Go.Sx.Blk)),
                                                                                      List.Perm x.3 (L ++ G) ∧
                                                                                        ([Go.Value.pointer (Option.some { block := x.2, off := (0 : Nat) })] =
                                                                                              [Go.Value.pointer (Option.some { block := x_2.1, off := (0 : Nat) })] ∧
                                                                                            SetRep x_2.1 x_2.2 x_2.3 L ∧ Good x_2.3) ∧
                                                                                          ∀ (a : Int) (L' : List (Nat × Go.Sx.Blk)),
                                                                                            a = lenF x_2.3 ∧ SetRep x_2.1 x_2.2 x_2.3 L' →
                                                                                              x.6 = a ∧
                                                                                                ∃ (x_3 : SX),
                                                                                                  ∃ (L : List (Nat × Go.Sx.Blk)),
                                                                                                    ∃ (G_2 : List (Nat × Go.Sx.Blk)),
                                                                                                      List.Perm (L' ++ G) (L ++ G_2) ∧
                                                                                                        ([Go.Value.pointer (Option.some { block := x.2, off := (0 : Nat) })] =
                                                                                                              [Go.Value.pointer (Option.some { block := x_3.1, off := (0 : Nat) })] ∧
                                                                                                            SetRep x_3.1 x_3.2 x_3.3 L) ∧
                                                                                                          ∀ (a : Int) (L' : List (Nat × Go.Sx.Blk)),
                                                                                                            a = x_3.2 ∧ SetRep x_3.1 x_3.2 x_3.3 L' →
                                                                                                              ∃ (x_4 : TX),
                                                                                                                ∃ (L : List (Nat × Go.Sx.Blk)),
                                                                                                                  ∃ (G : List (Nat × Go.Sx.Blk)),
                                                                                                                    List.Perm (L' ++ G_2) (L ++ G) ∧
                                                                                                                      ([Go.Value.pointer (Option.some { block := x.2, off := (0 : Nat) }),
                                                                                                                              Go.Value.int Go.IntKind.u32
                                                                                                                                (Go.IntKind.wrap Go.IntKind.u32 (a + (1 : Int)))] =
                                                                                                                            [Go.Value.pointer (Option.some { block := x_4.1, off := (0 : Nat) }),
                                                                                                                              Go.Value.int Go.IntKind.u32 x_4.4] ∧
                                                                                                                          SetRep x_4.1 x_4.2 x_4.3 L ∧
                                                                                                                            Good x_4.3) ∧
                                                                                                                        ∀ (a : Prop) (L' : List (Nat × Go.Sx.Blk)),
                                                                                                                          (a ↔ hasF x_4.2 x_4.3 x_4.4) ∧
                                                                                                                              SetRep x_4.1 x_4.2 x_4.3 L' →
                                                                                                                            ¬a)) := by
  refine ⟨(), [], [], by simp, ⟨by trivial, rfl⟩, fun _ L0 _ => ?_⟩
  refine ⟨mark, [], L0 ++ [], by simp, ⟨rfl, rfl⟩, fun b La rA => ?_⟩
  refine ⟨⟨0, b, La ++ (L0 ++ []), mark, [], 0, 0⟩, ⟨by simp, Nat.zero_le _, La, L0 ++ [], List.Perm.refl _, rA, Tidy.nil⟩, ?_⟩
  rintro ⟨i, b, L, m, rows, n, last⟩ ⟨hi, L1, G, hp, r1, ht⟩
  simp only at hi hp r1 ht
  refine ⟨fun hlt => by simp only at hlt; omega, fun hge => ?_⟩
  refine ⟨⟨b, m, rows, 5000⟩, L1, G, hp, ⟨rfl, r1, ht.1⟩, ?_⟩
  have hga := gaps_all ht.1
  simp only [hga]
  clear hge hi hp r1
  refine ⟨fun hnil Lg rg => ?_, fun b' base' cap' xs' ys' Lg k0 k1 k2 k3 k4 k5 rg => ?_⟩
  · subst hnil
    refine ⟨⟨0, b, Lg ++ G, m, [], 0, 0⟩, ⟨by simp, rfl, rfl, rfl, Nat.le_refl _, ⟨Lg, G, List.Perm.refl _, rg, ht⟩, rfl, rfl⟩, ?_⟩
    rintro ⟨i, b2, L, m2, rows2, n, last⟩ ⟨e1, e2, e3, hi, ⟨L1, G, hp, r1, ht⟩, hn, hl⟩
    simp only at e1 e2 e3 hi hp r1 ht hn hl
    subst e1 e2 e3
    refine ⟨fun hlt => by simp at hi; subst hi; simp at hlt, fun hge => ?_⟩
    have hge2 := hge
    revert hge
    generalize hrows : ([] : List (Int × Int)) = rows at *
    intro hge
    · refine ⟨⟨b2, m2, rows⟩, L1, G, hp, ⟨rfl, r1, ht.1⟩, fun n1 La ⟨hn1, r1⟩ => ?_⟩
      refine ⟨?_, ⟨b2, m2, rows⟩, La, G, List.Perm.refl _, ⟨rfl, r1⟩, fun n2 Lb ⟨hn2, r1⟩ => ?_⟩
      · have : i = rows.length := by subst hrows; simpa using hi
        rw [hn1, hn, this, List.take_length]
      · have hn2 : n2 = m2 := hn2
        exact ⟨⟨b2, m2, rows, IntKind.wrap .u32 (n2 + 1)⟩, Lb, G, List.Perm.refl _, ⟨rfl, r1, ht.1⟩, fun p Lc ⟨hp, r1⟩ h => one_rel ht (by rw [hn2] at hp; exact hp.1 h)⟩
  · refine ⟨⟨0, b, Lg ++ G, m, rows, 0, 0⟩, ⟨by simp, rfl, rfl, rfl, Nat.zero_le _, ⟨Lg, G, List.Perm.refl _, rg, ht⟩, by simp [lenF], rfl⟩, ?_⟩
    rintro ⟨i, b2, L, m2, rows2, n, last⟩ ⟨e1, e2, e3, hi, ⟨L1, G, hp, r1, ht⟩, hn, hl⟩
    simp only at e1 e2 e3 hi hp r1 ht hn hl
    subst e1 e2 e3
    refine ⟨fun hlt => ?_, fun hge => ?_⟩
    · have hir : i < rows2.length := by simp only at hlt; omega
      have x0 := getD_take (f := (·.1)) k4 hir
      have y0 := getD_take (f := (·.2)) k5 hir
      have hb := ht.1.2 rows2[i] (List.getElem_mem hir)
      have hb2 := ht.2 rows2[i] (List.getElem_mem hir)
      have hl2 := last_lt ht hir
      have hlen9 := ht.1.len'
      have hmem : rows2[i] ∈ rows2 := List.getElem_mem hir
      have hnx := has_next ht.1 hir
      have hbd := lenF_bd (rows2.take i)
      have hlt9 : ((rows2.take i).length : Int) ≤ 1000000 := by rw [List.length_take]; omega
      have hw1 : IntKind.wrap .i64 rows2[i].1 = rows2[i].1 := i64_id (by omega) (by omega)
      have hw2 : IntKind.wrap .i64 rows2[i].2 = rows2[i].2 := i64_id (by omega) (by omega)
      have hw3 : IntKind.wrap .u32 rows2[i].1 = rows2[i].1 := u32_id (by omega) (by omega)
      have hw4 : IntKind.wrap .u32 rows2[i].2 = rows2[i].2 := u32_id (by omega) (by omega)
      have hw5 : IntKind.wrap .i64 (last + 2) = last + 2 := by rw [hl]; exact i64_id (by omega) (by omega)
      have hw6 := wrapI hir (show rows2.length < 1000000 by omega)
      have hw7 : IntKind.wrap .u16 (rows2[i].2 - rows2[i].1) = rows2[i].2 - rows2[i].1 := u16_id (by omega) (by omega)
      have hw8 : IntKind.wrap .u32 (rows2[i].2 - rows2[i].1) = rows2[i].2 - rows2[i].1 := u32_id (by omega) (by omega)
      have hw9 : IntKind.wrap .i64 (rows2[i].2 - rows2[i].1) = rows2[i].2 - rows2[i].1 := i64_id (by omega) (by omega)
      have hw10 : IntKind.wrap .i64 (rows2[i].2 - rows2[i].1 + 1) = rows2[i].2 - rows2[i].1 + 1 := i64_id (by omega) (by omega)
      have hw11 : IntKind.wrap .i64 (n + (rows2[i].2 - rows2[i].1 + 1)) = lenF (rows2.take (i + 1)) := by
        rw [lenF_take hir, hn, hw8]
        exact i64_id (by omega) (by omega)
      simp only [Nat.zero_add, x0, y0, hw1, hw2, hw3, hw4, hw5, hw6, hw7, hw9, hw10, hw11, u32_add]
      have hls := (lastF_succ hir).symm
      generalize rows2[i] = r at *
      have hA : ∀ {t : Int}, t = IntKind.wrap .u32 (m2 + (r.2 + 1)) → ¬ hasF m2 rows2 t := fun ht2 h => hnx ((has_rel ht.1 (by omega) (by omega) ht2).1 h)
      have hB : ∀ {t : Int}, t = IntKind.wrap .u32 (m2 + r.1) → hasF m2 rows2 t := fun ht2 => (has_rel ht.1 (by omega) (by omega) ht2).2 ⟨r, hmem, by omega, by omega⟩
      have hC : ∀ {t : Int}, t = IntKind.wrap .u32 (m2 + r.2) → hasF m2 rows2 t := fun ht2 => (has_rel ht.1 (by omega) (by omega) ht2).2 ⟨r, hmem, by omega, by omega⟩
      refine ⟨⟨by omega, by omega⟩, by omega, by omega, fun b3 => ⟨rfl, rfl, by omega, by omega, ⟨b2, m2, rows2⟩, L1, G, hp, ⟨rfl, r1⟩, fun a La ⟨ha, r1⟩ => ⟨by trivial, by trivial, ?_⟩⟩⟩
      have ha : a = m2 := ha
      subst ha
      refine ⟨⟨b2, a, rows2, IntKind.wrap .u32 (a + (r.2 + 1))⟩, La, G, List.Perm.refl _, ⟨rfl, r1, ht.1⟩, fun p Lb ⟨hp, r1⟩ => ⟨fun h => hA rfl (hp.1 h), ⟨b2, a, rows2⟩, Lb, G, List.Perm.refl _, ⟨rfl, r1⟩, fun c Lc ⟨hc, r1⟩ => ⟨by trivial, by trivial, ?_⟩⟩⟩
      have hc : c = a := hc
      subst hc
      refine ⟨⟨b2, c, rows2, IntKind.wrap .u32 (c + r.1)⟩, Lc, G, List.Perm.refl _, ⟨rfl, r1, ht.1⟩, fun p Lb ⟨hp, r1⟩ => ⟨fun h => h (hp.2 (hB rfl)), ⟨b2, c, rows2⟩, Lb, G, List.Perm.refl _, ⟨rfl, r1⟩, fun d Ld ⟨hd, r1⟩ => ⟨by trivial, by trivial, ?_⟩⟩⟩
      have hd : d = c := hd
      subst hd
      refine ⟨⟨b2, d, rows2, IntKind.wrap .u32 (d + r.2)⟩, Ld, G, List.Perm.refl _, ⟨rfl, r1, ht.1⟩, fun p Lb ⟨hp, r1⟩ => ⟨fun h => h (hp.2 (hC rfl)), ⟨i + 1, b2, Lb ++ G, d, rows2, lenF (rows2.take (i + 1)), r.2⟩, by simp only; omega, ⟨⟨by simp, by simp⟩,  rfl, by simp⟩, rfl, rfl, rfl, hir, ⟨Lb, G, List.Perm.refl _, r1, ht⟩, rfl, hls⟩⟩
    · refine ⟨⟨b2, m2, rows2⟩, L1, G, hp, ⟨rfl, r1, ht.1⟩, fun n1 La ⟨hn1, r1⟩ => ?_⟩
      refine ⟨?_, ⟨b2, m2, rows2⟩, La, G, List.Perm.refl _, ⟨rfl, r1⟩, fun n2 Lb ⟨hn2, r1⟩ => ?_⟩
      · have : i = rows2.length := by simp only at hge; omega
        rw [hn1, hn, this, List.take_length]
      · have hn2 : n2 = m2 := hn2
        exact ⟨⟨b2, m2, rows2, IntKind.wrap .u32 (n2 + 1)⟩, Lb, G, List.Perm.refl _, ⟨rfl, r1, ht.1⟩, fun p Lc ⟨hp, r1⟩ h => one_rel ht (by rw [hn2] at hp; exact hp.1 h)⟩
theorem rw_goal (bd t base len cap : Nat) (xs : List Int) (mark : Int) (hlc : len ≤ cap) (hlen : len ≤ 9223372036854775807) (hm0 : 0 ≤ mark) (hm1 : mark < 4294967296) (hx : ∀ z ∈ xs, 0 ≤ z ∧ z < 65536) :
    rwGoal bd t base len cap xs mark := Eq.mpr (by kernel_rfl) (rw_vc bd t base len cap xs mark hlc hlen hm0 hm1 hx)
theorem rwNil_goal (o : Option Addr) (cap : Nat) (mark : Int) (hm0 : 0 ≤ mark) (hm1 : mark < 4294967296) : rwNilGoal o cap mark := Eq.mpr (by kernel_rfl) (rwNil_vc o cap mark hm0 hm1)
end Go.Proofs.Ytmjhfnmkegdafaa
