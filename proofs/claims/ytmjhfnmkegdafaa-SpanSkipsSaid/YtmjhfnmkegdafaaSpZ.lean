/- Span: the law SpanSkips. -/
import Derived.Test.YtmjhfnmkegdafaaSpX


set_option maxRecDepth 100000
set_option linter.unusedVariables false
set_option linter.unusedSimpArgs false
namespace Go.Proofs.Ytmjhfnmkegdafaa
open Go Go.Sx

structure KX where
  i : Nat
  b : Nat
  L : Blks
  m : Int
  rows : List (Int × Int)
  bb : Nat
  bs : List Bool
def gF (xs : List Int) (j : Nat) : Int := Int.tmod (xs.getD j 0) 4000
def skSet (mark : Int) (x : KX) : Prop := ∃ L1 G, x.L.Perm (L1 ++ G) ∧ SetRep x.b x.m x.rows L1 ∧ ∃ K, St mark x.m x.rows K
def ksInv2 (mark : Int) (xs : List Int) (n : Nat) (x0 x : KX) : Prop := x.b = x0.b ∧ x.m = x0.m ∧ x.rows = x0.rows ∧ x.i ≤ n ∧ skSet mark x ∧ x.bs.length = 40 ∧ ∀ j, j < x.i → (x.bs.getD j false = true ↔ hasF x.m x.rows (IntKind.wrap .u32 (mark + gF xs j)))
def ksInv3 (mark : Int) (n : Nat) (x0 x : KX) : Prop := x.b = x0.b ∧ x.m = x0.m ∧ x.rows = x0.rows ∧ x.i ≤ n ∧ skSet mark x
noncomputable def Ann.ks (mark : Int) (xs : List Int) (len n : Nat) (q : Nat) : FnAnn := ⟨[], [
  (5, ⟨KX, [(fun σ x => ⟨σ.n, (22, .val (.int .i64 x.i)) :: (7, .val (.pointer (some ⟨x.b, 0, none⟩))) :: keepE σ.env [0, 1, 2, 20, 21], Ann.chunk σ.heap x.L⟩, fun _ x => x.i ≤ len ∧ skSet mark x)], fun x => len - x.i⟩),
  (14, ⟨KX, [(fun σ x => ⟨σ.n, (47, .val (.int .i64 x.i)) :: (7, .val (.pointer (some ⟨x.b, 0, none⟩))) :: keepE σ.env [0, 1, 2, 10, 11, 12, 46], (Ann.chunk σ.heap x.L).set q (.own x.bb (.tab 31 0 40 [.bools x.bs]))⟩, ksInv2 mark xs n)], fun x => n - x.i⟩),
  (22, ⟨KX, [(fun σ x => ⟨σ.n, (92, .val (.int .i64 x.i)) :: (7, .val (.pointer (some ⟨x.b, 0, none⟩))) :: keepE σ.env [0, 1, 12, 91], Ann.chunk σ.heap x.L⟩, ksInv3 mark n)], fun x => n - x.i⟩)]⟩
noncomputable def ksGoal (bd t base len cap n : Nat) (xs : List Int) (mark to : Int) : Prop :=
  xrun Go.Proofs.Try.prog tbl2T [(3, Ann.ks mark xs len n 2)] [([], (17, false)), ([], (77, false)), ([], (83, false)), ([], (88, false)), ([], (110, false))] 9 [] 3 [.val (.int .u32 mark), .slc 0 0 len cap, .val (.int .u16 to)] [.ro bd (.tab t base cap [.ints .u16 xs]), .chunk []] fun s h => bOf s fun p => p
noncomputable def ksNilGoal (o : Option Addr) (cap : Nat) (mark to : Int) : Prop :=
  xrun Go.Proofs.Try.prog tbl2T [(3, Ann.ks mark [] 0 0 1)] [([], (17, false)), ([], (77, false)), ([], (83, false)), ([], (88, false)), ([], (110, false))] 9 [] 3 [.val (.int .u32 mark), .val (.slice o 0 cap), .val (.int .u16 to)] [.chunk []] fun s h => bOf s fun p => p

theorem St.range {m0 m : Int} {rows : List (Int × Int)} {K : Int → Prop} (h : St m0 m rows K) : 0 ≤ m ∧ m < 4294967296 := by
  obtain ⟨o, _, h1, _⟩ := h
  rw [h1]
  exact wrap_u32_bd _
theorem tmod_bd {z q : Int} (hz : 0 ≤ z) (hq : 0 < q) : 0 ≤ Int.tmod z q ∧ Int.tmod z q < q := by
  rw [Int.tmod_eq_emod_of_nonneg hz]
  exact ⟨Int.emod_nonneg _ (by omega), Int.emod_lt_of_pos _ hq⟩
theorem gF_bd {xs : List Int} (hx : ∀ z ∈ xs, 0 ≤ z ∧ z < 65536) (j : Nat) : 0 ≤ gF xs j ∧ gF xs j < 4000 := tmod_bd (getD_bd (by omega) hx j).1 (by omega)
theorem pbool_iff (p : Prop) : pbool p = true ↔ p := by simp [pbool]
/-- A number that is known is there twice. -/
theorem St.twice {m0 m x n m' : Int} {rows rows' : List (Int × Int)} {K : Int → Prop} (h : St m0 m rows K) (h0 : 0 ≤ x) (h1 : x ≤ 70000) (hk : ∀ y, 0 ≤ y → y ≤ x → K y)
    (ha : AddS m rows (IntKind.wrap .u32 (m0 + x)) n m' rows') : n = 1 ∧ St m0 m' rows' K := by
  obtain ⟨k1, k2, k3, k4, k5⟩ := h.add h0 h1 ha
  have hn : n = 1 := by
    rcases k5 with k5 | k5 | k5
    · exact absurd (hk x h0 (Int.le_refl _)) (k2 k5)
    · exact k5
    · obtain ⟨o, g1, g2, g3⟩ := k4 k5
      exact absurd (hk (o + 1) (by omega) (by omega)) g3
  refine ⟨hn, k1.congr fun y => ⟨fun h => ?_, fun h => .inl h⟩⟩
  rcases h with h | ⟨-, rfl⟩
  · exact h
  · exact hk y h0 (Int.le_refl _)
theorem skip_says {m t : Int} {p : Prop} (hm : 0 ≤ m ∧ m < 4294967296) (ht : 0 ≤ t ∧ t < 4294967296) (hp : p ↔ lessF m t) : (t ≠ m → (p ↔ IntKind.wrap .u32 (t - m) < 2147483648)) ∧ (¬ t ≠ m → (p ↔ False)) := by
  rw [less_iff] at hp
  rw [u32_eq]
  constructor
  · intro h
    rw [hp]
    constructor <;> intro h2 <;> omega
  · intro h
    have h : t = m := Decidable.not_not.1 h
    subst h
    rw [hp]
    constructor
    · intro h2; omega
    · intro h2; exact h2.elim

theorem ks_vc (bd t base len cap n : Nat) (xs : List Int) (mark to : Int) (hlc : len ≤ cap) (hlen : len ≤ 9223372036854775807) (hm0 : 0 ≤ mark) (hm1 : mark < 4294967296) (hto : 0 ≤ to) (hx : ∀ z ∈ xs, 0 ≤ z ∧ z < 65536) (hn : min (len : Int) 40 = (n : Int)) :
    ∃ (x : Unit),
  ∃ (L : List (Nat × Go.Sx.Blk)),
    ∃ (G : List (Nat × Go.Sx.Blk)),
      List.Perm [] (L ++ G) ∧
        ((0 : Nat) = (0 : Nat) ∧ L = []) ∧
          ∀ (a : Unit) (L' : List (Nat × Go.Sx.Blk)),
            a = () →
              ∃ (x : Int),
                ∃ (L : List (Nat × Go.Sx.Blk)),
                  ∃ (G_1 : List (Nat × Go.Sx.Blk)),
                    List.Perm (L' ++ G) (L ++ G_1) ∧
                      ([Go.Value.int Go.IntKind.u32 mark] = [Go.Value.int Go.IntKind.u32 x] ∧ L = []) ∧
                        ∀ (a : Nat) (L' : List (Nat × Go.Sx.Blk)),
                          SetRep a x [] L' →
                            ∃ (x0 : KX),
                              ((((0 : Int) = (↑x0.1 : Int) ∧
                                      Go.Value.pointer (Option.some { block := a, off := (0 : Nat) }) = Go.Value.pointer (Option.some { block := x0.2, off := (0 : Nat) }) ∧
                                        mark = mark ∧
                                          ((0 : Nat) = (0 : Nat) ∧ len = len ∧ cap = cap) ∧ to = to ∧ ((0 : Nat) = (0 : Nat) ∧ len = len ∧ cap = cap) ∧ (↑len : Int) = (↑len : Int) ∧ True) ∧
                                    (bd = bd ∧ bif Nat.beq t t then base = base ∧ cap = cap ∧ xs = xs ∧ True else False) ∧ L' ++ G_1 = x0.3 ∧ True) ∧
                                  x0.1 ≤ len ∧ skSet mark x0) ∧
                                ∀ (x : KX),
                                  x.1 ≤ len ∧ skSet mark x →
                                    ((↑x.1 : Int) < (↑len : Int) →
                                        ((0 : Int) ≤ (↑x.1 : Int) ∧ (↑x.1 : Int) < (↑len : Int)) ∧
                                          (0 : Nat) + x.1 < cap ∧
                                            ((↑x.1 : Int) < (40 : Int) →
                                                (4000 : Int) ≠ (0 : Int) ∧
                                                  ∃ (x_1 : TX),
                                                    ∃ (L : List (Nat × Go.Sx.Blk)),
                                                      ∃ (G : List (Nat × Go.Sx.Blk)),
                                                        List.Perm x.3 (L ++ G) ∧
                                                          ([Go.Value.pointer (Option.some { block := x.2, off := (0 : Nat) }),
                                                                  Go.Value.int Go.IntKind.u32
                                                                    (Go.IntKind.wrap Go.IntKind.u32
                                                                      (mark + Go.IntKind.wrap Go.IntKind.u32 (Int.tmod (List.getD xs ((0 : Nat) + x.1) (0 : Int)) (4000 : Int))))] =
                                                                [Go.Value.pointer (Option.some { block := x_1.1, off := (0 : Nat) }), Go.Value.int Go.IntKind.u32 x_1.4] ∧
                                                              SetRep x_1.1 x_1.2 x_1.3 L ∧ Good x_1.3) ∧
                                                            ∀ (a : Int) (L' : List (Nat × Go.Sx.Blk)),
                                                              (∃ (mark' : Int),
                                                                  ∃ (rows' : List (Int × Int)),
                                                                    AddS x_1.2 x_1.3 x_1.4 a mark' rows' ∧ SetRep x_1.1 mark' rows' L') →
                                                                ∃ (y : KX),
                                                                  len - y.1 < len - x.1 ∧
                                                                    ((Go.IntKind.wrap Go.IntKind.i64 ((↑x.1 : Int) + (1 : Int)) = (↑y.1 : Int) ∧
                                                                          Go.Value.pointer (Option.some { block := x.2, off := (0 : Nat) }) =
                                                                              Go.Value.pointer (Option.some { block := y.2, off := (0 : Nat) }) ∧
                                                                            mark = mark ∧
                                                                              ((0 : Nat) = (0 : Nat) ∧ len = len ∧ cap = cap) ∧
                                                                                to = to ∧ ((0 : Nat) = (0 : Nat) ∧ len = len ∧ cap = cap) ∧ (↑len : Int) = (↑len : Int) ∧ True) ∧
                                                                        (bd = bd ∧ bif Nat.beq t t then base = base ∧ cap = cap ∧ xs = xs ∧ True else False) ∧ L' ++ G = y.3 ∧ True) ∧
                                                                      y.1 ≤ len ∧ skSet mark y) ∧
                                              (¬(↑x.1 : Int) < (40 : Int) →
                                                ∃ (y : KX),
                                                  len - y.1 < len - x.1 ∧
                                                    ((Go.IntKind.wrap Go.IntKind.i64 ((↑x.1 : Int) + (1 : Int)) = (↑y.1 : Int) ∧
                                                          Go.Value.pointer (Option.some { block := x.2, off := (0 : Nat) }) = Go.Value.pointer (Option.some { block := y.2, off := (0 : Nat) }) ∧
                                                            mark = mark ∧
                                                              ((0 : Nat) = (0 : Nat) ∧ len = len ∧ cap = cap) ∧
                                                                to = to ∧ ((0 : Nat) = (0 : Nat) ∧ len = len ∧ cap = cap) ∧ (↑len : Int) = (↑len : Int) ∧ True) ∧
                                                        (bd = bd ∧ bif Nat.beq t t then base = base ∧ cap = cap ∧ xs = xs ∧ True else False) ∧ x.3 = y.3 ∧ True) ∧
                                                      y.1 ≤ len ∧ skSet mark y)) ∧
                                      (¬(↑x.1 : Int) < (↑len : Int) →
                                        ∃ (x_1 : SX),
                                          ∃ (L : List (Nat × Go.Sx.Blk)),
                                            ∃ (G : List (Nat × Go.Sx.Blk)),
                                              List.Perm x.3 (L ++ G) ∧
                                                ([Go.Value.pointer (Option.some { block := x.2, off := (0 : Nat) })] = [Go.Value.pointer (Option.some { block := x_1.1, off := (0 : Nat) })] ∧
                                                    SetRep x_1.1 x_1.2 x_1.3 L) ∧
                                                  ∀ (a : Int) (L' : List (Nat × Go.Sx.Blk)),
                                                    a = x_1.2 ∧ SetRep x_1.1 x_1.2 x_1.3 L' →
                                                      (5000 : Int) ≠ (0 : Int) ∧
                                                        ∀ (b : Nat),
                                                          ∃ (x0 : KX),
                                                            ((((0 : Int) = (↑x0.1 : Int) ∧
                                                                    Go.Value.pointer (Option.some { block := x.2, off := (0 : Nat) }) =
                                                                        Go.Value.pointer (Option.some { block := x0.2, off := (0 : Nat) }) ∧
                                                                      mark = mark ∧
                                                                        ((0 : Nat) = (0 : Nat) ∧ len = len ∧ cap = cap) ∧
                                                                          to = to ∧
                                                                            a = a ∧
                                                                              Go.IntKind.wrap Go.IntKind.u32 (mark + Go.IntKind.wrap Go.IntKind.u32 (Int.tmod to (5000 : Int))) =
                                                                                  Go.IntKind.wrap Go.IntKind.u32 (mark + Go.IntKind.wrap Go.IntKind.u32 (Int.tmod to (5000 : Int))) ∧
                                                                                ((0 : Nat) = (0 : Nat) ∧ (0 : Nat) = (0 : Nat)) ∧
                                                                                  Min.min (↑len : Int) (40 : Int) = Min.min (↑len : Int) (40 : Int) ∧ True) ∧
                                                                  (bd = bd ∧ bif Nat.beq t t then base = base ∧ cap = cap ∧ xs = xs ∧ True else False) ∧
                                                                    L' ++ G = x0.3 ∧
                                                                      (b = x0.6 ∧ (0 : Nat) = (0 : Nat) ∧ (40 : Nat) = (40 : Nat) ∧ List.replicate (40 : Nat) Bool.false = x0.7 ∧ True) ∧ True) ∧
                                                                ksInv2 mark xs n x0 x0) ∧
                                                              ∀ (x : KX),
                                                                ksInv2 mark xs n x0 x →
                                                                  ((↑x.1 : Int) < Min.min (↑len : Int) (40 : Int) →
                                                                      ((0 : Int) ≤ (↑x.1 : Int) ∧ (↑x.1 : Int) < (↑len : Int)) ∧
                                                                        (0 : Nat) + x.1 < cap ∧
                                                                          (4000 : Int) ≠ (0 : Int) ∧
                                                                            ∃ (x_2 : TX),
                                                                              ∃ (L : List (Nat × Go.Sx.Blk)),
                                                                                ∃ (G : List (Nat × Go.Sx.Blk)),
                                                                                  List.Perm x.3 (L ++ G) ∧
                                                                                    ([Go.Value.pointer (Option.some { block := x.2, off := (0 : Nat) }),
                                                                                            Go.Value.int Go.IntKind.u32
                                                                                              (Go.IntKind.wrap Go.IntKind.u32
                                                                                                (mark +
                                                                                                  Go.IntKind.wrap Go.IntKind.u32 (Int.tmod (List.getD xs ((0 : Nat) + x.1) (0 : Int)) (4000 : Int))))] =
                                                                                          [Go.Value.pointer (Option.some { block := x_2.1, off := (0 : Nat) }), Go.Value.int Go.IntKind.u32 x_2.4] ∧
                                                                                        SetRep x_2.1 x_2.2 x_2.3 L ∧ Good x_2.3) ∧
                                                                                      ∀ (a_5 : Prop) (L' : List (Nat × Go.Sx.Blk)),
                                                                                        (a_5 ↔ hasF x_2.2 x_2.3 x_2.4) ∧
                                                                                            SetRep x_2.1 x_2.2 x_2.3 L' →
                                                                                          ((0 : Int) ≤ (↑x.1 : Int) ∧ (↑x.1 : Int) < (↑(40 : Nat) : Int)) ∧
                                                                                            (0 : Nat) + x.1 < (40 : Nat) ∧
                                                                                              ∃ (y : KX),
                                                                                                n - y.1 < n - x.1 ∧
                                                                                                  ((Go.IntKind.wrap Go.IntKind.i64 ((↑x.1 : Int) + (1 : Int)) = (↑y.1 : Int) ∧
                                                                                                        Go.Value.pointer (Option.some { block := x.2, off := (0 : Nat) }) =
                                                                                                            Go.Value.pointer (Option.some { block := y.2, off := (0 : Nat) }) ∧
                                                                                                          mark = mark ∧
                                                                                                            ((0 : Nat) = (0 : Nat) ∧ len = len ∧ cap = cap) ∧
                                                                                                              to = to ∧
                                                                                                                a = a ∧
                                                                                                                  Go.IntKind.wrap Go.IntKind.u32
                                                                                                                        (mark + Go.IntKind.wrap Go.IntKind.u32 (Int.tmod to (5000 : Int))) =
                                                                                                                      Go.IntKind.wrap Go.IntKind.u32
                                                                                                                        (mark + Go.IntKind.wrap Go.IntKind.u32 (Int.tmod to (5000 : Int))) ∧
                                                                                                                    ((0 : Nat) = (0 : Nat) ∧ (0 : Nat) = (0 : Nat)) ∧
                                                                                                                      Min.min (↑len : Int) (40 : Int) = Min.min (↑len : Int) (40 : Int) ∧ True) ∧
                                                                                                      (bd = bd ∧ bif Nat.beq t t then base = base ∧ cap = cap ∧ xs = xs ∧ True else False) ∧
                                                                                                        L' ++ G = y.3 ∧
                                                                                                          (x.6 = y.6 ∧
                                                                                                              (0 : Nat) = (0 : Nat) ∧
                                                                                                                (40 : Nat) = (40 : Nat) ∧
                                                                                                                  List.set x.7 ((0 : Nat) + x.1) (Go.Sx.pbool a_5) = y.7 ∧ True) ∧
                                                                                                            True) ∧
                                                                                                    ksInv2 mark xs n x0 y) ∧
                                                                    (¬(↑x.1 : Int) < Min.min (↑len : Int) (40 : Int) →
                                                                      ∃ (x_2 : TX),
                                                                        ∃ (L : List (Nat × Go.Sx.Blk)),
                                                                          ∃ (G : List (Nat × Go.Sx.Blk)),
                                                                            List.Perm x.3 (L ++ G) ∧
                                                                              ([Go.Value.pointer (Option.some { block := x.2, off := (0 : Nat) }),
                                                                                      Go.Value.int Go.IntKind.u32
                                                                                        (Go.IntKind.wrap Go.IntKind.u32 (mark + Go.IntKind.wrap Go.IntKind.u32 (Int.tmod to (5000 : Int))))] =
                                                                                    [Go.Value.pointer (Option.some { block := x_2.1, off := (0 : Nat) }), Go.Value.int Go.IntKind.u32 x_2.4] ∧
                                                                                  SetRep x_2.1 x_2.2 x_2.3 L ∧ Good x_2.3) ∧
                                                                                ∀ (a_5 : Prop) (L' : List (Nat × Go.Sx.Blk)),
                                                                                  (∃ (mark' : Int),
                                                                                      ∃ (rows' : List (Int × Int)),
                                                                                        SkipS x_2.2 x_2.3 x_2.4 a_5 mark' rows' ∧
                                                                                          SetRep x_2.1 mark' rows' L') →
                                                                                    (Go.IntKind.wrap Go.IntKind.u32 (mark + Go.IntKind.wrap Go.IntKind.u32 (Int.tmod to (5000 : Int))) ≠ a →
                                                                                        ¬¬(a_5 ↔
                                                                                                Go.IntKind.wrap Go.IntKind.u32
                                                                                                    (Go.IntKind.wrap Go.IntKind.u32 (mark + Go.IntKind.wrap Go.IntKind.u32 (Int.tmod to (5000 : Int))) -
                                                                                                      a) <
                                                                                                  (2147483648 : Int)) ∧
                                                                                          ∃ (x_3 : TX),
                                                                                            ∃ (L : List (Nat × Go.Sx.Blk)),
                                                                                              ∃ (G_2 : List (Nat × Go.Sx.Blk)),
                                                                                                List.Perm (L' ++ G) (L ++ G_2) ∧
                                                                                                  ([Go.Value.pointer (Option.some { block := x.2, off := (0 : Nat) }),
                                                                                                          Go.Value.int Go.IntKind.u32
                                                                                                            (Go.IntKind.wrap Go.IntKind.u32
                                                                                                              (mark + Go.IntKind.wrap Go.IntKind.u32 (Int.tmod to (5000 : Int))))] =
                                                                                                        [Go.Value.pointer (Option.some { block := x_3.1, off := (0 : Nat) }),
                                                                                                          Go.Value.int Go.IntKind.u32 x_3.4] ∧
                                                                                                      SetRep x_3.1 x_3.2 x_3.3 L ∧ Good x_3.3) ∧
                                                                                                    ∀ (a : Prop) (L' : List (Nat × Go.Sx.Blk)),
                                                                                                      (a ↔ hasF x_3.2 x_3.3 x_3.4) ∧
                                                                                                          SetRep x_3.1 x_3.2 x_3.3 L' →
                                                                                                        ¬¬a ∧
                                                                                                          ∃ (x_4 : TX),
                                                                                                            ∃ (L : List (Nat × Go.Sx.Blk)),
                                                                                                              ∃ (G : List (Nat × Go.Sx.Blk)),
                                                                                                                List.Perm (L' ++ G_2) (L ++ G) ∧
                                                                                                                  ([Go.Value.pointer (Option.some { block := x.2, off := (0 : Nat) }),
                                                                                                                          Go.Value.int Go.IntKind.u32
                                                                                                                            (Go.IntKind.wrap Go.IntKind.u32
                                                                                                                              (mark + Go.IntKind.wrap Go.IntKind.u32 (Int.tmod to (5000 : Int))))] =
                                                                                                                        [Go.Value.pointer (Option.some { block := x_4.1, off := (0 : Nat) }),
                                                                                                                          Go.Value.int Go.IntKind.u32 x_4.4] ∧
                                                                                                                      SetRep x_4.1 x_4.2 x_4.3 L ∧
                                                                                                                        Good x_4.3) ∧
                                                                                                                    ∀ (a : Int) (L' : List (Nat × Go.Sx.Blk)),
                                                                                                                      (∃ (mark' : Int),
                                                                                                                          ∃ (rows' : List (Int × Int)),
                                                                                                                            AddS x_4.2 x_4.3 x_4.4 a mark' rows' ∧
                                                                                                                              SetRep x_4.1 mark' rows' L') →
                                                                                                                        ¬a ≠ (1 : Int) ∧
                                                                                                                          ∃ (x0 : KX),
                                                                                                                            ((((0 : Int) = (↑x0.1 : Int) ∧
                                                                                                                                    Go.Value.pointer (Option.some { block := x.2, off := (0 : Nat) }) =
                                                                                                                                        Go.Value.pointer
                                                                                                                                          (Option.some { block := x0.2, off := (0 : Nat) }) ∧
                                                                                                                                      mark = mark ∧
                                                                                                                                        ((0 : Nat) = (0 : Nat) ∧ len = len ∧ cap = cap) ∧
                                                                                                                                          ((0 : Nat) = (0 : Nat) ∧ (0 : Nat) = (0 : Nat)) ∧
                                                                                                                                            Min.min (↑len : Int) (40 : Int) =
                                                                                                                                                Min.min (↑len : Int) (40 : Int) ∧
                                                                                                                                              True) ∧
                                                                                                                                  (bd = bd ∧
                                                                                                                                      bif Nat.beq t t then base = base ∧ cap = cap ∧ xs = xs ∧ True
                                                                                                                                      else False) ∧
                                                                                                                                    L' ++ G = x0.3 ∧
                                                                                                                                      (x.6 = x.6 ∧
                                                                                                                                          (0 : Nat) = (0 : Nat) ∧
                                                                                                                                            (40 : Nat) = (40 : Nat) ∧ x.7 = x.7 ∧ True) ∧
                                                                                                                                        True) ∧
                                                                                                                                ksInv3 mark n x0 x0) ∧
                                                                                                                              ∀ (x_5 : KX),
                                                                                                                                ksInv3 mark n x0 x_5 →
                                                                                                                                  ((↑x_5.1 : Int) < Min.min (↑len : Int) (40 : Int) →
                                                                                                                                      ((0 : Int) ≤ (↑x_5.1 : Int) ∧
                                                                                                                                          (↑x_5.1 : Int) < (↑(40 : Nat) : Int)) ∧
                                                                                                                                        (0 : Nat) + x_5.1 < (40 : Nat) ∧
                                                                                                                                          (List.getD x.7 ((0 : Nat) + x_5.1) Bool.false = Bool.true →
                                                                                                                                              ((0 : Int) ≤ (↑x_5.1 : Int) ∧
                                                                                                                                                  (↑x_5.1 : Int) < (↑len : Int)) ∧
                                                                                                                                                (0 : Nat) + x_5.1 < cap ∧
                                                                                                                                                  (4000 : Int) ≠ (0 : Int) ∧
                                                                                                                                                    ∃ (x_6 : TX),
                                                                                                                                                      ∃ (L : List (Nat × Go.Sx.Blk)),
                                                                                                                                                        ∃ (G : List (Nat × Go.Sx.Blk)),
                                                                                                                                                          List.Perm x_5.3 (L ++ G) ∧
                                                                                                                                                            ([Go.Value.pointer
                                                                                                                                                                      (Option.some
                                                                                                                                                                        { block := x_5.2,
                                                                                                                                                                          off := (0 : Nat) }),
                                                                                                                                                                    Go.Value.int Go.IntKind.u32
                                                                                                                                                                      (Go.IntKind.wrap Go.IntKind.u32
                                                                                                                                                                        (mark +
                                                                                                                                                                          Go.IntKind.wrap Go.IntKind.u32
                                                                                                                                                                            (Int.tmod
                                                                                                                                                                              (List.getD xs
                                                                                                                                                                                ((0 : Nat) + x_5.1)
                                                                                                                                                                                (0 : Int))
                                                                                                                                                                              (4000 : Int))))] =
                                                                                                                                                                  [Go.Value.pointer
                                                                                                                                                                      (Option.some
                                                                                                                                                                        { block := x_6.1,
                                                                                                                                                                          off := (0 : Nat) }),
                                                                                                                                                                    Go.Value.int Go.IntKind.u32 x_6.4] ∧
                                                                                                                                                                SetRep x_6.1
                                                                                                                                                                    x_6.2 x_6.3 L ∧
                                                                                                                                                                  Good
                                                                                                                                                                    x_6.3) ∧
                                                                                                                                                              ∀ (a : Prop)
                                                                                                                                                                (L' : List (Nat × Go.Sx.Blk)),
                                                                                                                                                                (a ↔
                                                                                                                                                                      hasF
                                                                                                                                                                        x_6.2 x_6.3 x_6.4) ∧
                                                                                                                                                                    SetRep
                                                                                                                                                                      x_6.1 x_6.2 x_6.3 L' →
                                                                                                                                                                  ¬¬a ∧
                                                                                                                                                                    ∃ (y : KX),
                                                                                                                                                                      n - y.1 < n - x_5.1 ∧
                                                                                                                                                                        ((Go.IntKind.wrap Go.IntKind.i64
                                                                                                                                                                                  ((↑x_5.1 : Int) +
                                                                                                                                                                                    (1 : Int)) =
                                                                                                                                                                                (↑y.1 : Int) ∧
                                                                                                                                                                              Go.Value.pointer
                                                                                                                                                                                    (Option.some
                                                                                                                                                                                      { block := x_5.2,
                                                                                                                                                                                        off :=
                                                                                                                                                                                          (0 : Nat) }) =
                                                                                                                                                                                  Go.Value.pointer
                                                                                                                                                                                    (Option.some
                                                                                                                                                                                      { block := y.2,
                                                                                                                                                                                        off :=
                                                                                                                                                                                          (0 : Nat) }) ∧
                                                                                                                                                                                mark = mark ∧
                                                                                                                                                                                  ((0 : Nat) =
                                                                                                                                                                                        (0 : Nat) ∧
                                                                                                                                                                                      len = len ∧
                                                                                                                                                                                        cap = cap) ∧
                                                                                                                                                                                    ((0 : Nat) =
                                                                                                                                                                                          (0 : Nat) ∧
                                                                                                                                                                                        (0 : Nat) =
                                                                                                                                                                                          (0 : Nat)) ∧
                                                                                                                                                                                      Min.min
                                                                                                                                                                                            (↑len : Int)
                                                                                                                                                                                            (40 : Int) =
                                                                                                                                                                                          Min.min
                                                                                                                                                                                            (↑len : Int)
                                                                                                                                                                                            (40 : Int) ∧
                                                                                                                                                                                        True) ∧
                                                                                                                                                                            (bd = bd ∧
                                                                                                                                                                                bif Nat.beq t t then
                                                                                                                                                                                  base = base ∧
                                                                                                                                                                                    cap = cap ∧
                                                                                                                                                                                      xs = xs ∧ True
                                                                                                                                                                                else False) ∧
                                                                                                                                                                              L' ++ G = y.3 ∧
                                                                                                                                                                                (x.6 = x.6 ∧
                                                                                                                                                                                    (0 : Nat) =
                                                                                                                                                                                        (0 : Nat) ∧
                                                                                                                                                                                      (40 : Nat) =
                                                                                                                                                                                          (40 : Nat) ∧
                                                                                                                                                                                        x.7 = x.7 ∧
                                                                                                                                                                                          True) ∧
                                                                                                                                                                                  True) ∧
                                                                                                                                                                          ksInv3 mark n x0 y) ∧
                                                                                                                                            (¬List.getD x.7 ((0 : Nat) + x_5.1) Bool.false = Bool.true →
                                                                                                                                              ∃ (y : KX),
                                                                                                                                                n - y.1 < n - x_5.1 ∧
                                                                                                                                                  ((Go.IntKind.wrap Go.IntKind.i64
                                                                                                                                                            ((↑x_5.1 : Int) + (1 : Int)) =
                                                                                                                                                          (↑y.1 : Int) ∧
                                                                                                                                                        Go.Value.pointer
                                                                                                                                                              (Option.some
                                                                                                                                                                { block := x_5.2, off := (0 : Nat) }) =
                                                                                                                                                            Go.Value.pointer
                                                                                                                                                              (Option.some
                                                                                                                                                                { block := y.2, off := (0 : Nat) }) ∧
                                                                                                                                                          mark = mark ∧
                                                                                                                                                            ((0 : Nat) = (0 : Nat) ∧
                                                                                                                                                                len = len ∧ cap = cap) ∧
                                                                                                                                                              ((0 : Nat) = (0 : Nat) ∧
                                                                                                                                                                  (0 : Nat) = (0 : Nat)) ∧
                                                                                                                                                                Min.min (↑len : Int) (40 : Int) =
                                                                                                                                                                    Min.min (↑len : Int) (40 : Int) ∧
                                                                                                                                                                  True) ∧
                                                                                                                                                      (bd = bd ∧
                                                                                                                                                          bif Nat.beq t t then
                                                                                                                                                            base = base ∧ cap = cap ∧ xs = xs ∧ True
                                                                                                                                                          else False) ∧
                                                                                                                                                        x_5.3 = y.3 ∧
                                                                                                                                                          (x.6 = x.6 ∧
                                                                                                                                                              (0 : Nat) = (0 : Nat) ∧
                                                                                                                                                                (40 : Nat) = (40 : Nat) ∧
                                                                                                                                                                  x.7 = x.7 ∧ True) ∧
                                                                                                                                                            True) ∧
                                                                                                                                                    ksInv3 mark n x0 y)) ∧
                                                                                                                                    (¬(↑x_5.1 : Int) < Min.min (↑len : Int) (40 : Int) → True)) ∧
                                                                                      (¬Go.IntKind.wrap Go.IntKind.u32 (mark + Go.IntKind.wrap Go.IntKind.u32 (Int.tmod to (5000 : Int))) ≠ a →
                                                                                        ¬¬(a_5 ↔ False) ∧
                                                                                          ∃ (x_3 : TX),
                                                                                            ∃ (L : List (Nat × Go.Sx.Blk)),
                                                                                              ∃ (G_2 : List (Nat × Go.Sx.Blk)),
                                                                                                List.Perm (L' ++ G) (L ++ G_2) ∧
                                                                                                  ([Go.Value.pointer (Option.some { block := x.2, off := (0 : Nat) }),
                                                                                                          Go.Value.int Go.IntKind.u32
                                                                                                            (Go.IntKind.wrap Go.IntKind.u32
                                                                                                              (mark + Go.IntKind.wrap Go.IntKind.u32 (Int.tmod to (5000 : Int))))] =
                                                                                                        [Go.Value.pointer (Option.some { block := x_3.1, off := (0 : Nat) }),
                                                                                                          Go.Value.int Go.IntKind.u32 x_3.4] ∧
                                                                                                      SetRep x_3.1 x_3.2 x_3.3 L ∧ Good x_3.3) ∧
                                                                                                    ∀ (a : Prop) (L' : List (Nat × Go.Sx.Blk)),
                                                                                                      (a ↔ hasF x_3.2 x_3.3 x_3.4) ∧
                                                                                                          SetRep x_3.1 x_3.2 x_3.3 L' →
                                                                                                        ¬¬a ∧
                                                                                                          ∃ (x_4 : TX),
                                                                                                            ∃ (L : List (Nat × Go.Sx.Blk)),
                                                                                                              ∃ (G : List (Nat × Go.Sx.Blk)),
                                                                                                                List.Perm (L' ++ G_2) (L ++ G) ∧
                                                                                                                  ([Go.Value.pointer (Option.some { block := x.2, off := (0 : Nat) }),
                                                                                                                          Go.Value.int Go.IntKind.u32
                                                                                                                            (Go.IntKind.wrap Go.IntKind.u32
                                                                                                                              (mark + Go.IntKind.wrap Go.IntKind.u32 (Int.tmod to (5000 : Int))))] =
                                                                                                                        [Go.Value.pointer (Option.some { block := x_4.1, off := (0 : Nat) }),
                                                                                                                          Go.Value.int Go.IntKind.u32 x_4.4] ∧
                                                                                                                      SetRep x_4.1 x_4.2 x_4.3 L ∧
                                                                                                                        Good x_4.3) ∧
                                                                                                                    ∀ (a : Int) (L' : List (Nat × Go.Sx.Blk)),
                                                                                                                      (∃ (mark' : Int),
                                                                                                                          ∃ (rows' : List (Int × Int)),
                                                                                                                            AddS x_4.2 x_4.3 x_4.4 a mark' rows' ∧
                                                                                                                              SetRep x_4.1 mark' rows' L') →
                                                                                                                        ¬a ≠ (1 : Int) ∧
                                                                                                                          ∃ (x0 : KX),
                                                                                                                            ((((0 : Int) = (↑x0.1 : Int) ∧
                                                                                                                                    Go.Value.pointer (Option.some { block := x.2, off := (0 : Nat) }) =
                                                                                                                                        Go.Value.pointer
                                                                                                                                          (Option.some { block := x0.2, off := (0 : Nat) }) ∧
                                                                                                                                      mark = mark ∧
                                                                                                                                        ((0 : Nat) = (0 : Nat) ∧ len = len ∧ cap = cap) ∧
                                                                                                                                          ((0 : Nat) = (0 : Nat) ∧ (0 : Nat) = (0 : Nat)) ∧
                                                                                                                                            Min.min (↑len : Int) (40 : Int) =
                                                                                                                                                Min.min (↑len : Int) (40 : Int) ∧
                                                                                                                                              True) ∧
                                                                                                                                  (bd = bd ∧
                                                                                                                                      bif Nat.beq t t then base = base ∧ cap = cap ∧ xs = xs ∧ True
                                                                                                                                      else False) ∧
                                                                                                                                    L' ++ G = x0.3 ∧
                                                                                                                                      (x.6 = x.6 ∧
                                                                                                                                          (0 : Nat) = (0 : Nat) ∧
                                                                                                                                            (40 : Nat) = (40 : Nat) ∧ x.7 = x.7 ∧ True) ∧
                                                                                                                                        True) ∧
                                                                                                                                ksInv3 mark n x0 x0) ∧
                                                                                                                              ∀ (x_5 : KX),
                                                                                                                                ksInv3 mark n x0 x_5 →
                                                                                                                                  ((↑x_5.1 : Int) < Min.min (↑len : Int) (40 : Int) →
                                                                                                                                      ((0 : Int) ≤ (↑x_5.1 : Int) ∧
                                                                                                                                          (↑x_5.1 : Int) < (↑(40 : Nat) : Int)) ∧
                                                                                                                                        (0 : Nat) + x_5.1 < (40 : Nat) ∧
                                                                                                                                          (List.getD x.7 ((0 : Nat) + x_5.1) Bool.false = Bool.true →
                                                                                                                                              ((0 : Int) ≤ (↑x_5.1 : Int) ∧
                                                                                                                                                  (↑x_5.1 : Int) < (↑len : Int)) ∧
                                                                                                                                                (0 : Nat) + x_5.1 < cap ∧
                                                                                                                                                  (4000 : Int) ≠ (0 : Int) ∧
                                                                                                                                                    ∃ (x_6 : TX),
                                                                                                                                                      ∃ (L : List (Nat × Go.Sx.Blk)),
                                                                                                                                                        ∃ (G : List (Nat × Go.Sx.Blk)),
                                                                                                                                                          List.Perm x_5.3 (L ++ G) ∧
                                                                                                                                                            ([Go.Value.pointer
                                                                                                                                                                      (Option.some
                                                                                                                                                                        { block := x_5.2,
                                                                                                                                                                          off := (0 : Nat) }),
                                                                                                                                                                    Go.Value.int Go.IntKind.u32
                                                                                                                                                                      (Go.IntKind.wrap Go.IntKind.u32
                                                                                                                                                                        (mark +
                                                                                                                                                                          Go.IntKind.wrap Go.IntKind.u32
                                                                                                                                                                            (Int.tmod
                                                                                                                                                                              (List.getD xs
                                                                                                                                                                                ((0 : Nat) + x_5.1)
                                                                                                                                                                                (0 : Int))
                                                                                                                                                                              (4000 : Int))))] =
                                                                                                                                                                  [Go.Value.pointer
                                                                                                                                                                      (Option.some
                                                                                                                                                                        { block := x_6.1,
                                                                                                                                                                          off := (0 : Nat) }),
                                                                                                                                                                    Go.Value.int Go.IntKind.u32 x_6.4] ∧
                                                                                                                                                                SetRep x_6.1
                                                                                                                                                                    x_6.2 x_6.3 L ∧
                                                                                                                                                                  Good
                                                                                                                                                                    x_6.3) ∧
                                                                                                                                                              ∀ (a : Prop)
                                                                                                                                                                (L' : List (Nat × Go.Sx.Blk)),
                                                                                                                                                                (a ↔
                                                                                                                                                                      hasF
                                                                                                                                                                        x_6.2 x_6.3 x_6.4) ∧
                                                                                                                                                                    SetRep
                                                                                                                                                                      x_6.1 x_6.2 x_6.3 L' →
                                                                                                                                                                  ¬¬a ∧
                                                                                                                                                                    ∃ (y : KX),
                                                                                                                                                                      n - y.1 < n - x_5.1 ∧
                                                                                                                                                                        ((Go.IntKind.wrap Go.IntKind.i64
                                                                                                                                                                                  ((↑x_5.1 : Int) +
                                                                                                                                                                                    (1 : Int)) =
                                                                                                                                                                                (↑y.1 : Int) ∧
                                                                                                                                                                              Go.Value.pointer
                                                                                                                                                                                    (Option.some
                                                                                                                                                                                      { block := x_5.2,
                                                                                                                                                                                        off :=
                                                                                                                                                                                          (0 : Nat) }) =
                                                                                                                                                                                  Go.Value.pointer
                                                                                                                                                                                    (Option.some
                                                                                                                                                                                      { block := y.2,
                                                                                                                                                                                        off :=
                                                                                                                                                                                          (0 : Nat) }) ∧
                                                                                                                                                                                mark = mark ∧
                                                                                                                                                                                  ((0 : Nat) =
                                                                                                                                                                                        (0 : Nat) ∧
                                                                                                                                                                                      len = len ∧
                                                                                                                                                                                        cap = cap) ∧
                                                                                                                                                                                    ((0 : Nat) =
                                                                                                                                                                                          (0 : Nat) ∧
                                                                                                                                                                                        (0 : Nat) =
                                                                                                                                                                                          (0 : Nat)) ∧
                                                                                                                                                                                      Min.min
                                                                                                                                                                                            (↑len : Int)
                                                                                                                                                                                            (40 : Int) =
                                                                                                                                                                                          Min.min
                                                                                                                                                                                            (↑len : Int)
                                                                                                                                                                                            (40 : Int) ∧
                                                                                                                                                                                        True) ∧
                                                                                                                                                                            (bd = bd ∧
                                                                                                                                                                                bif Nat.beq t t then
                                                                                                                                                                                  base = base ∧
                                                                                                                                                                                    cap = cap ∧
                                                                                                                                                                                      xs = xs ∧ True
                                                                                                                                                                                else False) ∧
                                                                                                                                                                              L' ++ G = y.3 ∧
                                                                                                                                                                                (x.6 = x.6 ∧
                                                                                                                                                                                    (0 : Nat) =
                                                                                                                                                                                        (0 : Nat) ∧
                                                                                                                                                                                      (40 : Nat) =
                                                                                                                                                                                          (40 : Nat) ∧
                                                                                                                                                                                        x.7 = x.7 ∧
                                                                                                                                                                                          True) ∧
                                                                                                                                                                                  True) ∧
                                                                                                                                                                          ksInv3 mark n x0 y) ∧
                                                                                                                                            (¬List.getD x.7 ((0 : Nat) + x_5.1) Bool.false = Bool.true →
                                                                                                                                              ∃ (y : KX),
                                                                                                                                                n - y.1 < n - x_5.1 ∧
                                                                                                                                                  ((Go.IntKind.wrap Go.IntKind.i64
                                                                                                                                                            ((↑x_5.1 : Int) + (1 : Int)) =
                                                                                                                                                          (↑y.1 : Int) ∧
                                                                                                                                                        Go.Value.pointer
                                                                                                                                                              (Option.some
                                                                                                                                                                { block := x_5.2, off := (0 : Nat) }) =
                                                                                                                                                            Go.Value.pointer
                                                                                                                                                              (Option.some
                                                                                                                                                                { block := y.2, off := (0 : Nat) }) ∧
                                                                                                                                                          mark = mark ∧
                                                                                                                                                            ((0 : Nat) = (0 : Nat) ∧
                                                                                                                                                                len = len ∧ cap = cap) ∧
                                                                                                                                                              ((0 : Nat) = (0 : Nat) ∧
                                                                                                                                                                  (0 : Nat) = (0 : Nat)) ∧
                                                                                                                                                                Min.min (↑len : Int) (40 : Int) =
                                                                                                                                                                    Min.min (↑len : Int) (40 : Int) ∧
                                                                                                                                                                  True) ∧
                                                                                                                                                      (bd = bd ∧
                                                                                                                                                          bif Nat.beq t t then
                                                                                                                                                            base = base ∧ cap = cap ∧ xs = xs ∧ True
                                                                                                                                                          else False) ∧
                                                                                                                                                        x_5.3 = y.3 ∧
                                                                                                                                                          (x.6 = x.6 ∧
                                                                                                                                                              (0 : Nat) = (0 : Nat) ∧
                                                                                                                                                                (40 : Nat) = (40 : Nat) ∧
                                                                                                                                                                  x.7 = x.7 ∧ True) ∧
                                                                                                                                                            True) ∧
                                                                                                                                                    ksInv3 mark n x0 y)) ∧
                                                                                                                                    (¬(↑x_5.1 : Int) < Min.min (↑len : Int) (40 : Int) → True)))) := by
  have hbd := @gF_bd xs hx
  have hw : ∀ j, IntKind.wrap .u32 (Int.tmod (List.getD xs j (0 : Int)) (4000 : Int)) = gF xs j := fun j => u32_id (hbd j).1 (by have := (hbd j).2; simp only [gF] at this; omega)
  have hT := tmod_bd hto (show (0 : Int) < 5000 by omega)
  have hwT : IntKind.wrap .u32 (Int.tmod to 5000) = Int.tmod to 5000 := u32_id hT.1 (by omega)
  simp only [hn, hw, hwT, Nat.zero_add]
  generalize Int.tmod to 5000 = T at *
  refine ⟨(), [], [], by simp, ⟨by trivial, rfl⟩, fun _ L0 _ => ?_⟩
  refine ⟨mark, [], L0 ++ [], by simp, ⟨rfl, rfl⟩, fun b La rA => ?_⟩
  refine ⟨⟨0, b, La ++ (L0 ++ []), mark, [], 0, []⟩, ⟨by simp, Nat.zero_le _, La, L0 ++ [], List.Perm.refl _, rA, _, St.start hm0 hm1⟩, ?_⟩
  rintro ⟨i, b, L, m, rows, b0, bs⟩ ⟨hi, L1, G, hp, r1, K, sk⟩
  simp only at hi hp r1 sk ⊢
  refine ⟨fun hlt => ?_, fun hge => ?_⟩
  · have hin : i < len := by omega
    have hwi := wrapL hin hlen
    refine ⟨⟨by omega, hlt⟩, by omega, fun h40 => ⟨by first | trivial | decide, ⟨b, m, rows, IntKind.wrap .u32 (mark + gF xs i)⟩, L1, G, hp, ⟨rfl, r1, sk.tidy.1⟩, fun n1 La ⟨m', rows', ha, r1'⟩ => ?_⟩, fun h40 => ?_⟩
    · exact ⟨⟨i + 1, b, La ++ G, m', rows', 0, []⟩, by simp only; omega, ⟨⟨hwi, by simp⟩, ⟨by trivial, by simp⟩, rfl, trivial⟩, by simp only; omega, La, G, List.Perm.refl _, r1', _, (sk.add (hbd i).1 (by have := (hbd i).2; omega) ha).1⟩
    · exact ⟨⟨i + 1, b, L, m, rows, 0, []⟩, by simp only; omega, ⟨⟨hwi, by simp⟩, ⟨by trivial, by simp⟩, rfl, trivial⟩, by simp only; omega, L1, G, hp, r1, K, sk⟩
  · clear hge hi
    refine ⟨⟨b, m, rows⟩, L1, G, hp, ⟨rfl, r1⟩, fun a La ⟨ha, rm⟩ => ⟨by first | trivial | decide, fun b3 => ?_⟩⟩
    have ha : a = m := ha
    subst ha
    refine ⟨⟨0, b, La ++ G, a, rows, b3, List.replicate 40 false⟩, ⟨by simp, rfl, rfl, rfl, Nat.zero_le _, ⟨La, G, List.Perm.refl _, rm, K, sk⟩, by simp, fun j hj => by simp only at hj; omega⟩, ?_⟩
    clear hp
    rintro ⟨i, b2, L, m2, rows2, b4, bs⟩ ⟨e1, e2, e3, hi, ⟨L1, G, hp, rk, -⟩, hbl, hbs⟩
    simp only at e1 e2 e3 hi hp rk hbl hbs ⊢
    subst e1 e2 e3
    refine ⟨fun hlt => ?_, fun hge => ?_⟩
    · have hin : i < n := by omega
      have hwi : IntKind.wrap .i64 ((i : Int) + 1) = ((i + 1 : Nat) : Int) := wrapL hin (by omega)
      refine ⟨⟨by omega, by omega⟩, by omega, by first | trivial | decide, ⟨b2, m2, rows2, IntKind.wrap .u32 (mark + gF xs i)⟩, L1, G, hp, ⟨rfl, rk, sk.tidy.1⟩, fun p La ⟨hpp, rk2⟩ => ⟨⟨by omega, by omega⟩, by omega, ?_⟩⟩
      refine ⟨⟨i + 1, b2, La ++ G, m2, rows2, b4, bs.set i (pbool p)⟩, by simp only; omega, ⟨⟨hwi, by simp⟩, ⟨by trivial, by simp⟩, rfl, by simp⟩, rfl, rfl, rfl, by simp only; omega, ⟨La, G, List.Perm.refl _, rk2, K, sk⟩, by simp [hbl], fun j hj => ?_⟩
      simp only at hj ⊢
      by_cases hji : j = i
      · subst hji
        rw [show (bs.set j (pbool p)).getD j false = pbool p by simp [List.getD, show j < bs.length by omega]]
        exact (pbool_iff p).trans hpp
      · rw [show (bs.set i (pbool p)).getD j false = bs.getD j false by simp [List.getD, List.getElem?_set_ne (Ne.symm hji)]]
        exact hbs j (by omega)
    · have hin : i = n := by omega
      subst hin
      refine ⟨⟨b2, m2, rows2, IntKind.wrap .u32 (mark + T)⟩, L1, G, hp, ⟨rfl, rk, sk.tidy.1⟩, fun p La ⟨m', rows', ha, r1'⟩ => ?_⟩
      obtain ⟨sk2, hpl⟩ := sk.skip hT.1 (by omega) ha
      have says := skip_says sk.range (wrap_u32_bd (mark + T)) hpl
      refine ⟨fun heq => ⟨fun h => h (says.1 heq), ?_⟩, fun heq => ⟨fun h => h (says.2 heq), ?_⟩⟩
      · refine ⟨⟨b2, m', rows', IntKind.wrap .u32 (mark + T)⟩, La, G, List.Perm.refl _, ⟨rfl, r1', sk2.tidy.1⟩, fun q Lb ⟨hq, r2⟩ => ?_⟩
        refine ⟨fun h => h (hq.2 ((sk2.has hT.1 (by omega)).2 (.inr ⟨hT.1, Int.le_refl _⟩))), ⟨b2, m', rows', IntKind.wrap .u32 (mark + T)⟩, Lb, G, List.Perm.refl _, ⟨rfl, r2, sk2.tidy.1⟩, fun c Lc ⟨m3, rows3, ha3, r3⟩ => ?_⟩
        obtain ⟨hc, sk3⟩ := sk2.twice hT.1 (by omega) (fun y h1 h2 => .inr ⟨h1, h2⟩) ha3
        refine ⟨fun h => h hc, ⟨0, b2, Lc ++ G, m3, rows3, b4, bs⟩, ⟨by simp, rfl, rfl, rfl, Nat.zero_le _, ⟨Lc, G, List.Perm.refl _, r3, _, sk3⟩⟩, ?_⟩
        rintro ⟨j, b5, L, m5, rows5, b6, bs6⟩ ⟨e1, e2, e3, hj, ⟨L1, G, hp, rz, -⟩⟩
        simp only at e1 e2 e3 hj hp rz ⊢
        subst e1 e2 e3
        refine ⟨fun hlt => ?_, fun hge => by trivial⟩
        have hji : j < i := by omega
        have hwj : IntKind.wrap .i64 ((j : Int) + 1) = ((j + 1 : Nat) : Int) := wrapL hji (by omega)
        refine ⟨⟨by omega, by omega⟩, by omega, fun hbj => ⟨⟨by omega, by omega⟩, by omega, by first | trivial | decide, ⟨b5, m5, rows5, IntKind.wrap .u32 (mark + gF xs j)⟩, L1, G, hp, ⟨rfl, rz, sk3.tidy.1⟩, fun q Ld ⟨hq, r4⟩ => ?_⟩, fun hbj => ?_⟩
        · have h1 := (sk.has (hbd j).1 (by have := (hbd j).2; omega)).1 ((hbs j hji).1 hbj)
          have h2 := (sk3.has (hbd j).1 (by have := (hbd j).2; omega)).2 (.inl h1)
          exact ⟨fun h => h (hq.2 h2), ⟨j + 1, b5, Ld ++ G, m5, rows5, b6, bs6⟩, by simp only; omega, ⟨⟨hwj, by simp⟩, ⟨by trivial, by simp⟩, rfl, by simp⟩, rfl, rfl, rfl, by simp only; omega, Ld, G, List.Perm.refl _, r4, _, sk3⟩
        · exact ⟨⟨j + 1, b5, L, m5, rows5, b6, bs6⟩, by simp only; omega, ⟨⟨hwj, by simp⟩, ⟨by trivial, by simp⟩, rfl, by simp⟩, rfl, rfl, rfl, by simp only; omega, L1, G, hp, rz, _, sk3⟩
      · refine ⟨⟨b2, m', rows', IntKind.wrap .u32 (mark + T)⟩, La, G, List.Perm.refl _, ⟨rfl, r1', sk2.tidy.1⟩, fun q Lb ⟨hq, r2⟩ => ?_⟩
        refine ⟨fun h => h (hq.2 ((sk2.has hT.1 (by omega)).2 (.inr ⟨hT.1, Int.le_refl _⟩))), ⟨b2, m', rows', IntKind.wrap .u32 (mark + T)⟩, Lb, G, List.Perm.refl _, ⟨rfl, r2, sk2.tidy.1⟩, fun c Lc ⟨m3, rows3, ha3, r3⟩ => ?_⟩
        obtain ⟨hc, sk3⟩ := sk2.twice hT.1 (by omega) (fun y h1 h2 => .inr ⟨h1, h2⟩) ha3
        refine ⟨fun h => h hc, ⟨0, b2, Lc ++ G, m3, rows3, b4, bs⟩, ⟨by simp, rfl, rfl, rfl, Nat.zero_le _, ⟨Lc, G, List.Perm.refl _, r3, _, sk3⟩⟩, ?_⟩
        rintro ⟨j, b5, L, m5, rows5, b6, bs6⟩ ⟨e1, e2, e3, hj, ⟨L1, G, hp, rz, -⟩⟩
        simp only at e1 e2 e3 hj hp rz ⊢
        subst e1 e2 e3
        refine ⟨fun hlt => ?_, fun hge => by trivial⟩
        have hji : j < i := by omega
        have hwj : IntKind.wrap .i64 ((j : Int) + 1) = ((j + 1 : Nat) : Int) := wrapL hji (by omega)
        refine ⟨⟨by omega, by omega⟩, by omega, fun hbj => ⟨⟨by omega, by omega⟩, by omega, by first | trivial | decide, ⟨b5, m5, rows5, IntKind.wrap .u32 (mark + gF xs j)⟩, L1, G, hp, ⟨rfl, rz, sk3.tidy.1⟩, fun q Ld ⟨hq, r4⟩ => ?_⟩, fun hbj => ?_⟩
        · have h1 := (sk.has (hbd j).1 (by have := (hbd j).2; omega)).1 ((hbs j hji).1 hbj)
          have h2 := (sk3.has (hbd j).1 (by have := (hbd j).2; omega)).2 (.inl h1)
          exact ⟨fun h => h (hq.2 h2), ⟨j + 1, b5, Ld ++ G, m5, rows5, b6, bs6⟩, by simp only; omega, ⟨⟨hwj, by simp⟩, ⟨by trivial, by simp⟩, rfl, by simp⟩, rfl, rfl, rfl, by simp only; omega, Ld, G, List.Perm.refl _, r4, _, sk3⟩
        · exact ⟨⟨j + 1, b5, L, m5, rows5, b6, bs6⟩, by simp only; omega, ⟨⟨hwj, by simp⟩, ⟨by trivial, by simp⟩, rfl, by simp⟩, rfl, rfl, rfl, by simp only; omega, L1, G, hp, rz, _, sk3⟩
theorem ksNil_vc (o : Option Addr) (cap : Nat) (mark to : Int) (hm0 : 0 ≤ mark) (hm1 : mark < 4294967296) (hto : 0 ≤ to) :
    ∃ (x : Unit),
  ∃ (L : List (Nat × Go.Sx.Blk)),
    ∃ (G : List (Nat × Go.Sx.Blk)),
      List.Perm [] (L ++ G) ∧
        ((0 : Nat) = (0 : Nat) ∧ L = []) ∧
          ∀ (a : Unit) (L' : List (Nat × Go.Sx.Blk)),
            a = () →
              ∃ (x : Int),
                ∃ (L : List (Nat × Go.Sx.Blk)),
                  ∃ (G_1 : List (Nat × Go.Sx.Blk)),
                    List.Perm (L' ++ G) (L ++ G_1) ∧
                      ([Go.Value.int Go.IntKind.u32 mark] = [Go.Value.int Go.IntKind.u32 x] ∧ L = []) ∧
                        ∀ (a : Nat) (L' : List (Nat × Go.Sx.Blk)),
                          SetRep a x [] L' →
                            ∃ (x0 : KX),
                              ((((0 : Int) = (↑x0.1 : Int) ∧
                                      Go.Value.pointer (Option.some { block := a, off := (0 : Nat) }) = Go.Value.pointer (Option.some { block := x0.2, off := (0 : Nat) }) ∧
                                        mark = mark ∧
                                          Go.Value.slice o (0 : Nat) cap = Go.Value.slice o (0 : Nat) cap ∧
                                            to = to ∧ Go.Value.slice o (0 : Nat) cap = Go.Value.slice o (0 : Nat) cap ∧ (↑(0 : Nat) : Int) = (↑(0 : Nat) : Int) ∧ True) ∧
                                    L' ++ G_1 = x0.3 ∧ True) ∧
                                  x0.1 ≤ (0 : Nat) ∧ skSet mark x0) ∧
                                ∀ (x : KX),
                                  x.1 ≤ (0 : Nat) ∧ skSet mark x →
                                    ((↑x.1 : Int) < (↑(0 : Nat) : Int) → False) ∧
                                      (¬(↑x.1 : Int) < (↑(0 : Nat) : Int) →
                                        ∃ (x_1 : SX),
                                          ∃ (L : List (Nat × Go.Sx.Blk)),
                                            ∃ (G : List (Nat × Go.Sx.Blk)),
                                              List.Perm x.3 (L ++ G) ∧
                                                ([Go.Value.pointer (Option.some { block := x.2, off := (0 : Nat) })] = [Go.Value.pointer (Option.some { block := x_1.1, off := (0 : Nat) })] ∧
                                                    SetRep x_1.1 x_1.2 x_1.3 L) ∧
                                                  ∀ (a : Int) (L' : List (Nat × Go.Sx.Blk)),
                                                    a = x_1.2 ∧ SetRep x_1.1 x_1.2 x_1.3 L' →
                                                      (5000 : Int) ≠ (0 : Int) ∧
                                                        ∀ (b : Nat),
                                                          ∃ (x0 : KX),
                                                            ((((0 : Int) = (↑x0.1 : Int) ∧
                                                                    Go.Value.pointer (Option.some { block := x.2, off := (0 : Nat) }) =
                                                                        Go.Value.pointer (Option.some { block := x0.2, off := (0 : Nat) }) ∧
                                                                      mark = mark ∧
                                                                        Go.Value.slice o (0 : Nat) cap = Go.Value.slice o (0 : Nat) cap ∧
                                                                          to = to ∧
                                                                            a = a ∧
                                                                              Go.IntKind.wrap Go.IntKind.u32 (mark + Go.IntKind.wrap Go.IntKind.u32 (Int.tmod to (5000 : Int))) =
                                                                                  Go.IntKind.wrap Go.IntKind.u32 (mark + Go.IntKind.wrap Go.IntKind.u32 (Int.tmod to (5000 : Int))) ∧
                                                                                ((0 : Nat) = (0 : Nat) ∧ (0 : Nat) = (0 : Nat)) ∧
                                                                                  Min.min (↑(0 : Nat) : Int) (40 : Int) = Min.min (↑(0 : Nat) : Int) (40 : Int) ∧ True) ∧
                                                                  L' ++ G = x0.3 ∧
                                                                    (b = x0.6 ∧ (0 : Nat) = (0 : Nat) ∧ (40 : Nat) = (40 : Nat) ∧ List.replicate (40 : Nat) Bool.false = x0.7 ∧ True) ∧ True) ∧
                                                                ksInv2 mark [] (0 : Nat) x0 x0) ∧
                                                              ∀ (x : KX),
                                                                ksInv2 mark [] (0 : Nat) x0 x →
                                                                  ((↑x.1 : Int) < Min.min (↑(0 : Nat) : Int) (40 : Int) → False) ∧
                                                                    (¬(↑x.1 : Int) < Min.min (↑(0 : Nat) : Int) (40 : Int) →
                                                                      ∃ (x_2 : TX),
                                                                        ∃ (L : List (Nat × Go.Sx.Blk)),
                                                                          ∃ (G : List (Nat × Go.Sx.Blk)),
                                                                            List.Perm x.3 (L ++ G) ∧
                                                                              ([Go.Value.pointer (Option.some { block := x.2, off := (0 : Nat) }),
                                                                                      Go.Value.int Go.IntKind.u32
                                                                                        (Go.IntKind.wrap Go.IntKind.u32 (mark + Go.IntKind.wrap Go.IntKind.u32 (Int.tmod to (5000 : Int))))] =
                                                                                    [Go.Value.pointer (Option.some { block := x_2.1, off := (0 : Nat) }), Go.Value.int Go.IntKind.u32 x_2.4] ∧
                                                                                  SetRep x_2.1 x_2.2 x_2.3 L ∧ Good x_2.3) ∧
                                                                                ∀ (a_5 : Prop) (L' : List (Nat × Go.Sx.Blk)),
                                                                                  (∃ (mark' : Int),
                                                                                      ∃ (rows' : List (Int × Int)),
                                                                                        SkipS x_2.2 x_2.3 x_2.4 a_5 mark' rows' ∧
                                                                                          SetRep x_2.1 mark' rows' L') →
                                                                                    (Go.IntKind.wrap Go.IntKind.u32 (mark + Go.IntKind.wrap Go.IntKind.u32 (Int.tmod to (5000 : Int))) ≠ a →
                                                                                        ¬¬(a_5 ↔
                                                                                                Go.IntKind.wrap Go.IntKind.u32
                                                                                                    (Go.IntKind.wrap Go.IntKind.u32 (mark + Go.IntKind.wrap Go.IntKind.u32 (Int.tmod to (5000 : Int))) -
                                                                                                      a) <
                                                                                                  (2147483648 : Int)) ∧
                                                                                          ∃ (x_3 : TX),
                                                                                            ∃ (L : List (Nat × Go.Sx.Blk)),
                                                                                              ∃ (G_2 : List (Nat × Go.Sx.Blk)),
                                                                                                List.Perm (L' ++ G) (L ++ G_2) ∧
                                                                                                  ([Go.Value.pointer (Option.some { block := x.2, off := (0 : Nat) }),
                                                                                                          Go.Value.int Go.IntKind.u32
                                                                                                            (Go.IntKind.wrap Go.IntKind.u32
                                                                                                              (mark + Go.IntKind.wrap Go.IntKind.u32 (Int.tmod to (5000 : Int))))] =
                                                                                                        [Go.Value.pointer (Option.some { block := x_3.1, off := (0 : Nat) }),
                                                                                                          Go.Value.int Go.IntKind.u32 x_3.4] ∧
                                                                                                      SetRep x_3.1 x_3.2 x_3.3 L ∧ Good x_3.3) ∧
                                                                                                    ∀ (a : Prop) (L' : List (Nat × Go.Sx.Blk)),
                                                                                                      (a ↔ hasF x_3.2 x_3.3 x_3.4) ∧
                                                                                                          SetRep x_3.1 x_3.2 x_3.3 L' →
                                                                                                        ¬¬a ∧
                                                                                                          ∃ (x_4 : TX),
                                                                                                            ∃ (L : List (Nat × Go.Sx.Blk)),
                                                                                                              ∃ (G : List (Nat × Go.Sx.Blk)),
                                                                                                                List.Perm (L' ++ G_2) (L ++ G) ∧
                                                                                                                  ([Go.Value.pointer (Option.some { block := x.2, off := (0 : Nat) }),
                                                                                                                          Go.Value.int Go.IntKind.u32
                                                                                                                            (Go.IntKind.wrap Go.IntKind.u32
                                                                                                                              (mark + Go.IntKind.wrap Go.IntKind.u32 (Int.tmod to (5000 : Int))))] =
                                                                                                                        [Go.Value.pointer (Option.some { block := x_4.1, off := (0 : Nat) }),
                                                                                                                          Go.Value.int Go.IntKind.u32 x_4.4] ∧
                                                                                                                      SetRep x_4.1 x_4.2 x_4.3 L ∧
                                                                                                                        Good x_4.3) ∧
                                                                                                                    ∀ (a : Int) (L' : List (Nat × Go.Sx.Blk)),
                                                                                                                      (∃ (mark' : Int),
                                                                                                                          ∃ (rows' : List (Int × Int)),
                                                                                                                            AddS x_4.2 x_4.3 x_4.4 a mark' rows' ∧
                                                                                                                              SetRep x_4.1 mark' rows' L') →
                                                                                                                        ¬a ≠ (1 : Int) ∧
                                                                                                                          ∃ (x0 : KX),
                                                                                                                            ((((0 : Int) = (↑x0.1 : Int) ∧
                                                                                                                                    Go.Value.pointer (Option.some { block := x.2, off := (0 : Nat) }) =
                                                                                                                                        Go.Value.pointer
                                                                                                                                          (Option.some { block := x0.2, off := (0 : Nat) }) ∧
                                                                                                                                      mark = mark ∧
                                                                                                                                        Go.Value.slice o (0 : Nat) cap =
                                                                                                                                            Go.Value.slice o (0 : Nat) cap ∧
                                                                                                                                          ((0 : Nat) = (0 : Nat) ∧ (0 : Nat) = (0 : Nat)) ∧
                                                                                                                                            Min.min (↑(0 : Nat) : Int) (40 : Int) =
                                                                                                                                                Min.min (↑(0 : Nat) : Int) (40 : Int) ∧
                                                                                                                                              True) ∧
                                                                                                                                  L' ++ G = x0.3 ∧
                                                                                                                                    (x.6 = x.6 ∧
                                                                                                                                        (0 : Nat) = (0 : Nat) ∧
                                                                                                                                          (40 : Nat) = (40 : Nat) ∧ x.7 = x.7 ∧ True) ∧
                                                                                                                                      True) ∧
                                                                                                                                ksInv3 mark (0 : Nat) x0 x0) ∧
                                                                                                                              ∀ (x_5 : KX),
                                                                                                                                ksInv3 mark (0 : Nat) x0 x_5 →
                                                                                                                                  ((↑x_5.1 : Int) < Min.min (↑(0 : Nat) : Int) (40 : Int) →
                                                                                                                                      ((0 : Int) ≤ (↑x_5.1 : Int) ∧
                                                                                                                                          (↑x_5.1 : Int) < (↑(40 : Nat) : Int)) ∧
                                                                                                                                        (0 : Nat) + x_5.1 < (40 : Nat) ∧
                                                                                                                                          (List.getD x.7 ((0 : Nat) + x_5.1) Bool.false = Bool.true →
                                                                                                                                              False) ∧
                                                                                                                                            (¬List.getD x.7 ((0 : Nat) + x_5.1) Bool.false = Bool.true →
                                                                                                                                              ∃ (y : KX),
                                                                                                                                                (0 : Nat) - y.1 < (0 : Nat) - x_5.1 ∧
                                                                                                                                                  ((Go.IntKind.wrap Go.IntKind.i64
                                                                                                                                                            ((↑x_5.1 : Int) + (1 : Int)) =
                                                                                                                                                          (↑y.1 : Int) ∧
                                                                                                                                                        Go.Value.pointer
                                                                                                                                                              (Option.some
                                                                                                                                                                { block := x_5.2, off := (0 : Nat) }) =
                                                                                                                                                            Go.Value.pointer
                                                                                                                                                              (Option.some
                                                                                                                                                                { block := y.2, off := (0 : Nat) }) ∧
                                                                                                                                                          mark = mark ∧
                                                                                                                                                            Go.Value.slice o (0 : Nat) cap =
                                                                                                                                                                Go.Value.slice o (0 : Nat) cap ∧
                                                                                                                                                              ((0 : Nat) = (0 : Nat) ∧
                                                                                                                                                                  (0 : Nat) = (0 : Nat)) ∧
                                                                                                                                                                Min.min (↑(0 : Nat) : Int) (40 : Int) =
                                                                                                                                                                    Min.min (↑(0 : Nat) : Int)
                                                                                                                                                                      (40 : Int) ∧
                                                                                                                                                                  True) ∧
                                                                                                                                                      x_5.3 = y.3 ∧
                                                                                                                                                        (x.6 = x.6 ∧
                                                                                                                                                            (0 : Nat) = (0 : Nat) ∧
                                                                                                                                                              (40 : Nat) = (40 : Nat) ∧
                                                                                                                                                                x.7 = x.7 ∧ True) ∧
                                                                                                                                                          True) ∧
                                                                                                                                                    ksInv3 mark (0 : Nat) x0 y)) ∧
                                                                                                                                    (¬(↑x_5.1 : Int) < Min.min (↑(0 : Nat) : Int) (40 : Int) → True)) ∧
                                                                                      (¬Go.IntKind.wrap Go.IntKind.u32 (mark + Go.IntKind.wrap Go.IntKind.u32 (Int.tmod to (5000 : Int))) ≠ a →
                                                                                        ¬¬(a_5 ↔ False) ∧
                                                                                          ∃ (x_3 : TX),
                                                                                            ∃ (L : List (Nat × Go.Sx.Blk)),
                                                                                              ∃ (G_2 : List (Nat × Go.Sx.Blk)),
                                                                                                List.Perm (L' ++ G) (L ++ G_2) ∧
                                                                                                  ([Go.Value.pointer (Option.some { block := x.2, off := (0 : Nat) }),
                                                                                                          Go.Value.int Go.IntKind.u32
                                                                                                            (Go.IntKind.wrap Go.IntKind.u32
                                                                                                              (mark + Go.IntKind.wrap Go.IntKind.u32 (Int.tmod to (5000 : Int))))] =
                                                                                                        [Go.Value.pointer (Option.some { block := x_3.1, off := (0 : Nat) }),
                                                                                                          Go.Value.int Go.IntKind.u32 x_3.4] ∧
                                                                                                      SetRep x_3.1 x_3.2 x_3.3 L ∧ Good x_3.3) ∧
                                                                                                    ∀ (a : Prop) (L' : List (Nat × Go.Sx.Blk)),
                                                                                                      (a ↔ hasF x_3.2 x_3.3 x_3.4) ∧
                                                                                                          SetRep x_3.1 x_3.2 x_3.3 L' →
                                                                                                        ¬¬a ∧
                                                                                                          ∃ (x_4 : TX),
                                                                                                            ∃ (L : List (Nat × Go.Sx.Blk)),
                                                                                                              ∃ (G : List (Nat × Go.Sx.Blk)),
                                                                                                                List.Perm (L' ++ G_2) (L ++ G) ∧
                                                                                                                  ([Go.Value.pointer (Option.some { block := x.2, off := (0 : Nat) }),
                                                                                                                          Go.Value.int Go.IntKind.u32
                                                                                                                            (Go.IntKind.wrap Go.IntKind.u32
                                                                                                                              (mark + Go.IntKind.wrap Go.IntKind.u32 (Int.tmod to (5000 : Int))))] =
                                                                                                                        [Go.Value.pointer (Option.some { block := x_4.1, off := (0 : Nat) }),
                                                                                                                          Go.Value.int Go.IntKind.u32 x_4.4] ∧
                                                                                                                      SetRep x_4.1 x_4.2 x_4.3 L ∧
                                                                                                                        Good x_4.3) ∧
                                                                                                                    ∀ (a : Int) (L' : List (Nat × Go.Sx.Blk)),
                                                                                                                      (∃ (mark' : Int),
                                                                                                                          ∃ (rows' : List (Int × Int)),
                                                                                                                            AddS x_4.2 x_4.3 x_4.4 a mark' rows' ∧
                                                                                                                              SetRep x_4.1 mark' rows' L') →
                                                                                                                        ¬a ≠ (1 : Int) ∧
                                                                                                                          ∃ (x0 : KX),
                                                                                                                            ((((0 : Int) = (↑x0.1 : Int) ∧
                                                                                                                                    Go.Value.pointer (Option.some { block := x.2, off := (0 : Nat) }) =
                                                                                                                                        Go.Value.pointer
                                                                                                                                          (Option.some { block := x0.2, off := (0 : Nat) }) ∧
                                                                                                                                      mark = mark ∧
                                                                                                                                        Go.Value.slice o (0 : Nat) cap =
                                                                                                                                            Go.Value.slice o (0 : Nat) cap ∧
                                                                                                                                          ((0 : Nat) = (0 : Nat) ∧ (0 : Nat) = (0 : Nat)) ∧
                                                                                                                                            Min.min (↑(0 : Nat) : Int) (40 : Int) =
                                                                                                                                                Min.min (↑(0 : Nat) : Int) (40 : Int) ∧
                                                                                                                                              True) ∧
                                                                                                                                  L' ++ G = x0.3 ∧
                                                                                                                                    (x.6 = x.6 ∧
                                                                                                                                        (0 : Nat) = (0 : Nat) ∧
                                                                                                                                          (40 : Nat) = (40 : Nat) ∧ x.7 = x.7 ∧ True) ∧
                                                                                                                                      True) ∧
                                                                                                                                ksInv3 mark (0 : Nat) x0 x0) ∧
                                                                                                                              ∀ (x_5 : KX),
                                                                                                                                ksInv3 mark (0 : Nat) x0 x_5 →
                                                                                                                                  ((↑x_5.1 : Int) < Min.min (↑(0 : Nat) : Int) (40 : Int) →
                                                                                                                                      ((0 : Int) ≤ (↑x_5.1 : Int) ∧
                                                                                                                                          (↑x_5.1 : Int) < (↑(40 : Nat) : Int)) ∧
                                                                                                                                        (0 : Nat) + x_5.1 < (40 : Nat) ∧
                                                                                                                                          (List.getD x.7 ((0 : Nat) + x_5.1) Bool.false = Bool.true →
                                                                                                                                              False) ∧
                                                                                                                                            (¬List.getD x.7 ((0 : Nat) + x_5.1) Bool.false = Bool.true →
                                                                                                                                              ∃ (y : KX),
                                                                                                                                                (0 : Nat) - y.1 < (0 : Nat) - x_5.1 ∧
                                                                                                                                                  ((Go.IntKind.wrap Go.IntKind.i64
                                                                                                                                                            ((↑x_5.1 : Int) + (1 : Int)) =
                                                                                                                                                          (↑y.1 : Int) ∧
                                                                                                                                                        Go.Value.pointer
                                                                                                                                                              (Option.some
                                                                                                                                                                { block := x_5.2, off := (0 : Nat) }) =
                                                                                                                                                            Go.Value.pointer
                                                                                                                                                              (Option.some
                                                                                                                                                                { block := y.2, off := (0 : Nat) }) ∧
                                                                                                                                                          mark = mark ∧
                                                                                                                                                            Go.Value.slice o (0 : Nat) cap =
                                                                                                                                                                Go.Value.slice o (0 : Nat) cap ∧
                                                                                                                                                              ((0 : Nat) = (0 : Nat) ∧
                                                                                                                                                                  (0 : Nat) = (0 : Nat)) ∧
                                                                                                                                                                Min.min (↑(0 : Nat) : Int) (40 : Int) =
                                                                                                                                                                    Min.min (↑(0 : Nat) : Int)
                                                                                                                                                                      (40 : Int) ∧
                                                                                                                                                                  True) ∧
                                                                                                                                                      x_5.3 = y.3 ∧
                                                                                                                                                        (x.6 = x.6 ∧
                                                                                                                                                            (0 : Nat) = (0 : Nat) ∧
                                                                                                                                                              (40 : Nat) = (40 : Nat) ∧
                                                                                                                                                                x.7 = x.7 ∧ True) ∧
                                                                                                                                                          True) ∧
                                                                                                                                                    ksInv3 mark (0 : Nat) x0 y)) ∧
                                                                                                                                    (¬(↑x_5.1 : Int) < Min.min (↑(0 : Nat) : Int) (40 : Int) → True)))) := by
  have hn : min ((0 : Nat) : Int) 40 = ((0 : Nat) : Int) := by omega
  have hT := tmod_bd hto (show (0 : Int) < 5000 by omega)
  have hwT : IntKind.wrap .u32 (Int.tmod to 5000) = Int.tmod to 5000 := u32_id hT.1 (by omega)
  simp only [hn, hwT, Nat.zero_add]
  generalize Int.tmod to 5000 = T at *
  refine ⟨(), [], [], by simp, ⟨by trivial, rfl⟩, fun _ L0 _ => ?_⟩
  refine ⟨mark, [], L0 ++ [], by simp, ⟨rfl, rfl⟩, fun b La rA => ?_⟩
  refine ⟨⟨0, b, La ++ (L0 ++ []), mark, [], 0, []⟩, ⟨by simp, Nat.zero_le _, La, L0 ++ [], List.Perm.refl _, rA, _, St.start hm0 hm1⟩, ?_⟩
  rintro ⟨i, b, L, m, rows, b0, bs⟩ ⟨hi, L1, G, hp, r1, K, sk⟩
  simp only at hi hp r1 sk ⊢
  refine ⟨fun hlt => by omega, fun hge => ?_⟩
  clear hge hi
  refine ⟨⟨b, m, rows⟩, L1, G, hp, ⟨rfl, r1⟩, fun a La ⟨ha, rm⟩ => ⟨by first | trivial | decide, fun b3 => ?_⟩⟩
  have ha : a = m := ha
  subst ha
  refine ⟨⟨0, b, La ++ G, a, rows, b3, List.replicate 40 false⟩, ⟨by simp, rfl, rfl, rfl, Nat.zero_le _, ⟨La, G, List.Perm.refl _, rm, K, sk⟩, by simp, fun j hj => by simp only at hj; omega⟩, ?_⟩
  clear hp
  rintro ⟨i, b2, L, m2, rows2, b4, bs⟩ ⟨e1, e2, e3, hi, ⟨L1, G, hp, rk, -⟩, hbl, hbs⟩
  simp only at e1 e2 e3 hi hp rk hbl hbs ⊢
  subst e1 e2 e3
  refine ⟨fun hlt => by omega, fun hge => ?_⟩
  refine ⟨⟨b2, m2, rows2, IntKind.wrap .u32 (mark + T)⟩, L1, G, hp, ⟨rfl, rk, sk.tidy.1⟩, fun p La ⟨m', rows', ha, r1'⟩ => ?_⟩
  obtain ⟨sk2, hpl⟩ := sk.skip hT.1 (by omega) ha
  have says := skip_says sk.range (wrap_u32_bd (mark + T)) hpl
  refine ⟨fun heq => ⟨fun h => h (says.1 heq), ?_⟩, fun heq => ⟨fun h => h (says.2 heq), ?_⟩⟩
  · refine ⟨⟨b2, m', rows', IntKind.wrap .u32 (mark + T)⟩, La, G, List.Perm.refl _, ⟨rfl, r1', sk2.tidy.1⟩, fun q Lb ⟨hq, r2⟩ => ?_⟩
    refine ⟨fun h => h (hq.2 ((sk2.has hT.1 (by omega)).2 (.inr ⟨hT.1, Int.le_refl _⟩))), ⟨b2, m', rows', IntKind.wrap .u32 (mark + T)⟩, Lb, G, List.Perm.refl _, ⟨rfl, r2, sk2.tidy.1⟩, fun c Lc ⟨m3, rows3, ha3, r3⟩ => ?_⟩
    obtain ⟨hc, sk3⟩ := sk2.twice hT.1 (by omega) (fun y h1 h2 => .inr ⟨h1, h2⟩) ha3
    refine ⟨fun h => h hc, ⟨0, b2, Lc ++ G, m3, rows3, b4, bs⟩, ⟨by simp, rfl, rfl, rfl, Nat.zero_le _, ⟨Lc, G, List.Perm.refl _, r3, _, sk3⟩⟩, ?_⟩
    rintro ⟨j, b5, L, m5, rows5, b6, bs6⟩ ⟨e1, e2, e3, hj, ⟨L1, G, hp, rz, -⟩⟩
    simp only at e1 e2 e3 hj hp rz ⊢
    subst e1 e2 e3
    exact ⟨fun hlt => by omega, fun hge => by trivial⟩
  · refine ⟨⟨b2, m', rows', IntKind.wrap .u32 (mark + T)⟩, La, G, List.Perm.refl _, ⟨rfl, r1', sk2.tidy.1⟩, fun q Lb ⟨hq, r2⟩ => ?_⟩
    refine ⟨fun h => h (hq.2 ((sk2.has hT.1 (by omega)).2 (.inr ⟨hT.1, Int.le_refl _⟩))), ⟨b2, m', rows', IntKind.wrap .u32 (mark + T)⟩, Lb, G, List.Perm.refl _, ⟨rfl, r2, sk2.tidy.1⟩, fun c Lc ⟨m3, rows3, ha3, r3⟩ => ?_⟩
    obtain ⟨hc, sk3⟩ := sk2.twice hT.1 (by omega) (fun y h1 h2 => .inr ⟨h1, h2⟩) ha3
    refine ⟨fun h => h hc, ⟨0, b2, Lc ++ G, m3, rows3, b4, bs⟩, ⟨by simp, rfl, rfl, rfl, Nat.zero_le _, ⟨Lc, G, List.Perm.refl _, r3, _, sk3⟩⟩, ?_⟩
    rintro ⟨j, b5, L, m5, rows5, b6, bs6⟩ ⟨e1, e2, e3, hj, ⟨L1, G, hp, rz, -⟩⟩
    simp only at e1 e2 e3 hj hp rz ⊢
    subst e1 e2 e3
    exact ⟨fun hlt => by omega, fun hge => by trivial⟩
theorem ks_goal (bd t base len cap n : Nat) (xs : List Int) (mark to : Int) (hlc : len ≤ cap) (hlen : len ≤ 9223372036854775807) (hm0 : 0 ≤ mark) (hm1 : mark < 4294967296) (hto : 0 ≤ to) (hx : ∀ z ∈ xs, 0 ≤ z ∧ z < 65536) (hn : min (len : Int) 40 = (n : Int)) :
    ksGoal bd t base len cap n xs mark to := Eq.mpr (by kernel_rfl) (ks_vc bd t base len cap n xs mark to hlc hlen hm0 hm1 hto hx hn)
theorem ksNil_goal (o : Option Addr) (cap : Nat) (mark to : Int) (hm0 : 0 ≤ mark) (hm1 : mark < 4294967296) (hto : 0 ≤ to) : ksNilGoal o cap mark to := Eq.mpr (by kernel_rfl) (ksNil_vc o cap mark to hm0 hm1 hto)
end Go.Proofs.Ytmjhfnmkegdafaa
