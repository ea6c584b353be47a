/- Span: the law SpanRound. -/
import Derived.Test.YtmjhfnmkegdafaaSpQ


set_option maxRecDepth 100000
set_option linter.unusedVariables false
set_option linter.unusedSimpArgs false
namespace Go.Proofs.Ytmjhfnmkegdafaa
open Go Go.Sx

def Ann.chunk : List Ent → Blks → List Ent
  | [], _ => []
  | .chunk _ :: r, L => .chunk L :: r
  | e :: r, L => e :: Ann.chunk r L
structure RX where
  i : Nat
  ba : Nat
  bb : Nat
  L : Blks
  ma : Int
  rows : List (Int × Int)
/-- Two sets in step: the same rows, the marks apart by the same. -/
def rdInv (n : Nat) (by_ : Int) (x : RX) : Prop := x.i ≤ n ∧ ∃ L1 L2 G, x.L.Perm (L1 ++ (L2 ++ G)) ∧ SetRep x.ba x.ma x.rows L1 ∧ SetRep x.bb (IntKind.wrap .u32 (x.ma + by_)) x.rows L2 ∧ Tidy x.rows
noncomputable def Ann.rd (n : Nat) (by_ : Int) : FnAnn := ⟨[], [(5, ⟨RX, [
  (fun σ x => ⟨σ.n, (21, .val (.int .i64 x.i)) :: (7, .val (.pointer (some ⟨x.ba, 0, none⟩))) :: (8, .val (.pointer (some ⟨x.bb, 0, none⟩))) :: keepE σ.env [0, 1, 2, 19, 20], Ann.chunk σ.heap x.L⟩, fun _ x => rdInv n by_ x)], fun x => n - x.i⟩)]⟩
noncomputable def rdGoal (bd t base len cap : Nat) (xs : List Int) (mark by_ : Int) : Prop :=
  xrun Go.Proofs.Try.prog tbl2T [(6, Ann.rd len by_)] [([], (12, false)), ([], (65, true)), ([], (43, false)), ([], (56, false))] 9 [] 6 [.val (.int .u32 mark), .val (.int .u32 by_), .slc 0 0 len cap] [.ro bd (.tab t base cap [.ints .u32 xs]), .chunk []] fun s h => bOf s fun p => p
noncomputable def rdNilGoal (o : Option Addr) (cap : Nat) (mark by_ : Int) : Prop :=
  xrun Go.Proofs.Try.prog tbl2T [(6, Ann.rd 0 by_)] [([], (12, false)), ([], (65, true)), ([], (43, false)), ([], (56, false))] 9 [] 6 [.val (.int .u32 mark), .val (.int .u32 by_), .val (.slice o 0 cap)] [.chunk []] fun s h => bOf s fun p => p

/-! Two sets whose marks are apart by the same. -/
theorem dist_shift (m t s : Int) : distF (IntKind.wrap .u32 (m + s)) (IntKind.wrap .u32 (t + s)) = distF m t := by
  unfold distF
  simp only [u32_eq]
  omega
theorem less_shift (m t s : Int) : lessF (IntKind.wrap .u32 (m + s)) (IntKind.wrap .u32 (t + s)) ↔ lessF m t := by
  have := dist_shift m t s
  unfold distF at this
  unfold lessF
  rw [this]
theorem settle_shift (m s : Int) (rows : List (Int × Int)) : settleF (IntKind.wrap .u32 (m + s)) rows = (IntKind.wrap .u32 ((settleF m rows).1 + s), (settleF m rows).2) := by
  cases rows with
  | nil => rfl
  | cons r l =>
    obtain ⟨f, e⟩ := r
    simp only [settleF]
    by_cases hf : f = 1
    · simp only [if_pos hf, u32_eq, Prod.mk.injEq, and_true]
      omega
    · simp only [if_neg hf]
theorem less_dist {m t : Int} (h : lessF m t) : 1 ≤ distF m t := by
  unfold lessF at h
  unfold distF
  have := wrap_u32_bd (t - m)
  rcases Int.lt_or_le 0 (IntKind.wrap .u32 (t - m)) with h1 | h1
  · omega
  · have : IntKind.wrap .u32 (t - m) = 0 := by omega
    rw [this] at h
    exact absurd h (by decide)
theorem addS_tidy {m t n m' : Int} {rows rows' : List (Int × Int)} (h : AddS m rows t n m' rows') (ht : Tidy rows) : Tidy rows' := by
  rcases h with ⟨-, -, -, rfl⟩ | ⟨-, -, -, -, rfl⟩ | ⟨-, -, -, -, -, rfl⟩ | ⟨hl, hd, -, -, i, hp, -, rfl⟩
  · exact ht
  · exact ht
  · exact ht
  · exact (settle_good (add_good hp ht.1 (less_dist hl) hd).1).1
theorem skipS_tidy {m t m' : Int} {p : Prop} {rows rows' : List (Int × Int)} (h : SkipS m rows t p m' rows') (ht : Tidy rows) : Tidy rows' := by
  rcases h with ⟨-, -, -, rfl⟩ | ⟨hl, -, -, rfl⟩
  · exact ht
  · exact (settle_good (mv_good (by have := less_dist hl; omega) ht.1).1).1
theorem add_step {m t s n m' n2 m2 : Int} {rows r1 r2 : List (Int × Int)} (h1 : AddS m rows t n m' r1) (h2 : AddS (IntKind.wrap .u32 (m + s)) rows (IntKind.wrap .u32 (t + s)) n2 m2 r2) :
    n = n2 ∧ m2 = IntKind.wrap .u32 (m' + s) ∧ r2 = r1 := by
  unfold AddS at h2
  rw [less_shift, dist_shift] at h2
  rcases h1 with ⟨a, rfl, rfl, rfl⟩ | ⟨a, b, rfl, rfl, rfl⟩ | ⟨a, b, c, rfl, rfl, rfl⟩ | ⟨a, b, c, rfl, i, hp, rfl, rfl⟩ <;>
  rcases h2 with ⟨a', rfl, rfl, rfl⟩ | ⟨a', b', rfl, rfl, rfl⟩ | ⟨a', b', c', rfl, rfl, rfl⟩ | ⟨a', b', c', rfl, j, hq, rfl, rfl⟩
  all_goals first
    | exact ⟨rfl, rfl, rfl⟩
    | exact absurd a' a
    | exact absurd a a'
    | exact absurd c c'
    | exact absurd c' c
    | (exfalso; omega)
    | skip
  have := place_one hp hq
  subst this
  rw [settle_shift]
  exact ⟨rfl, rfl, rfl⟩
theorem skip_step {m t s m' m2 : Int} {p q : Prop} {rows r1 r2 : List (Int × Int)} (h1 : SkipS m rows t p m' r1) (h2 : SkipS (IntKind.wrap .u32 (m + s)) rows (IntKind.wrap .u32 (t + s)) q m2 r2) :
    (p ↔ q) ∧ m2 = IntKind.wrap .u32 (m' + s) ∧ r2 = r1 := by
  unfold SkipS at h2
  rw [less_shift, dist_shift] at h2
  rcases h1 with ⟨a, b, rfl, rfl⟩ | ⟨a, b, rfl, rfl⟩ <;> rcases h2 with ⟨a', b', rfl, rfl⟩ | ⟨a', b', rfl, rfl⟩
  · exact ⟨b.trans b'.symm, rfl, rfl⟩
  · exact absurd a' a
  · exact absurd a a'
  · refine ⟨b.trans b'.symm, ?_⟩
    have : IntKind.wrap .u32 (IntKind.wrap .u32 (m + s) + distF m t) = IntKind.wrap .u32 (IntKind.wrap .u32 (m + distF m t) + s) := by simp only [u32_eq]; omega
    rw [this, settle_shift]
    exact ⟨rfl, rfl⟩
theorem arg_shift (m s d : Int) : IntKind.wrap .u32 (IntKind.wrap .u32 (m + s) + d) = IntKind.wrap .u32 (IntKind.wrap .u32 (m + d) + s) := by simp only [u32_eq]; omega

theorem gaps_len (most : Int) (rows : List (Int × Int)) (h : rows.length < 1000000) : (gapsF most rows).length < 1000000 := by
  unfold gapsF
  rw [List.length_map, List.length_take]
  omega
open Classical in
theorem last_perm {La Lb P1 P2 Q1 Q2 G : Blks} (p1 : La.Perm (P1 ++ P2)) (p2 : Lb.Perm (Q1 ++ Q2)) : (Lb ++ (La ++ G)).Perm ((P2 ++ Q2) ++ (P1 ++ Q1 ++ G)) := by
  rw [List.perm_iff_count] at *
  intro a
  have h1 := p1 a
  have h2 := p2 a
  simp only [List.count_append] at *
  omega

theorem wrapL {i n : Nat} (h : i < n) (hn : n ≤ 9223372036854775807) : IntKind.wrap .i64 ((i : Int) + (1 : Int)) = ((i + 1 : Nat) : Int) := by rw [IntKind.wrap_i64]; omega
theorem rd_vc (bd t base len cap : Nat) (xs : List Int) (mark by_ : Int) (hlc : len ≤ cap) (hlen : len ≤ 9223372036854775807) :
    ∃ (x : Unit),
  ∃ (L : List (Nat × Go.Sx.Blk)),
    ∃ (G : List (Nat × Go.Sx.Blk)),
      List.Perm [] (L ++ G) ∧
        ((0 : Nat) = (0 : Nat) ∧ L = []) ∧
          ∀ (a : Unit) (L' : List (Nat × Go.Sx.Blk)),
            a = () →
              ∃ (x : Int),
                ∃ (L : List (Nat × Go.Sx.Blk)),
                  ∃ (G_1 : List (Nat × Go.Sx.Blk)),
                    List.Perm (L' ++ G) (L ++ G_1) ∧
                      ([Go.Value.int Go.IntKind.u32 mark] = [Go.Value.int Go.IntKind.u32 x] ∧ L = []) ∧
                        ∀ (a : Nat) (L' : List (Nat × Go.Sx.Blk)),
                          SetRep a x [] L' →
                            ∃ (x : Int),
                              ∃ (L : List (Nat × Go.Sx.Blk)),
                                ∃ (G : List (Nat × Go.Sx.Blk)),
                                  List.Perm (L' ++ G_1) (L ++ G) ∧
                                    ([Go.Value.int Go.IntKind.u32 (Go.IntKind.wrap Go.IntKind.u32 (mark + by_))] = [Go.Value.int Go.IntKind.u32 x] ∧ L = []) ∧
                                      ∀ (a_2 : Nat) (L' : List (Nat × Go.Sx.Blk)),
                                        SetRep a_2 x [] L' →
                                          ∃ (x0 : RX),
                                            ((((0 : Int) = (↑x0.1 : Int) ∧
                                                    Go.Value.pointer (Option.some { block := a, off := (0 : Nat) }) = Go.Value.pointer (Option.some { block := x0.2, off := (0 : Nat) }) ∧
                                                      Go.Value.pointer (Option.some { block := a_2, off := (0 : Nat) }) = Go.Value.pointer (Option.some { block := x0.3, off := (0 : Nat) }) ∧
                                                        mark = mark ∧
                                                          by_ = by_ ∧
                                                            ((0 : Nat) = (0 : Nat) ∧ len = len ∧ cap = cap) ∧ ((0 : Nat) = (0 : Nat) ∧ len = len ∧ cap = cap) ∧ (↑len : Int) = (↑len : Int) ∧ True) ∧
                                                  (bd = bd ∧ bif Nat.beq t t then base = base ∧ cap = cap ∧ xs = xs ∧ True else False) ∧ L' ++ G = x0.4 ∧ True) ∧
                                                rdInv len by_ x0) ∧
                                              ∀ (x : RX),
                                                rdInv len by_ x →
                                                  ((↑x.1 : Int) < (↑len : Int) →
                                                      ((0 : Int) ≤ (↑x.1 : Int) ∧ (↑x.1 : Int) < (↑len : Int)) ∧
                                                        (0 : Nat) + x.1 < cap ∧
                                                          ((40 : Int) ≤ (↑x.1 : Int) →
                                                              ∃ (x_1 : SX),
                                                                ∃ (L : List (Nat × Go.Sx.Blk)),
                                                                  ∃ (G : List (Nat × Go.Sx.Blk)),
                                                                    List.Perm x.4 (L ++ G) ∧
                                                                      ([Go.Value.pointer (Option.some { block := x.2, off := (0 : Nat) })] =
                                                                            [Go.Value.pointer (Option.some { block := x_1.1, off := (0 : Nat) })] ∧
                                                                          SetRep x_1.1 x_1.2 x_1.3 L) ∧
                                                                        ∀ (a : Int) (L' : List (Nat × Go.Sx.Blk)),
                                                                          a = x_1.2 ∧ SetRep x_1.1 x_1.2 x_1.3 L' →
                                                                            ∃ (x_2 : SX),
                                                                              ∃ (L : List (Nat × Go.Sx.Blk)),
                                                                                ∃ (G_2 : List (Nat × Go.Sx.Blk)),
                                                                                  List.Perm (L' ++ G) (L ++ G_2) ∧
                                                                                    ([Go.Value.pointer (Option.some { block := x.3, off := (0 : Nat) })] =
                                                                                          [Go.Value.pointer (Option.some { block := x_2.1, off := (0 : Nat) })] ∧
                                                                                        SetRep x_2.1 x_2.2 x_2.3 L) ∧
                                                                                      ∀ (a_5 : Int) (L' : List (Nat × Go.Sx.Blk)),
                                                                                        a_5 = x_2.2 ∧ SetRep x_2.1 x_2.2 x_2.3 L' →
                                                                                          Go.IntKind.wrap Go.IntKind.u32 (a + by_) = a_5 ∧
                                                                                            ∃ (x_3 : TX),
                                                                                              ∃ (L : List (Nat × Go.Sx.Blk)),
                                                                                                ∃ (G : List (Nat × Go.Sx.Blk)),
                                                                                                  List.Perm (L' ++ G_2) (L ++ G) ∧
                                                                                                    ([Go.Value.pointer (Option.some { block := x.2, off := (0 : Nat) }),
                                                                                                            Go.Value.int Go.IntKind.i64 (999 : Int)] =
                                                                                                          [Go.Value.pointer (Option.some { block := x_3.1, off := (0 : Nat) }),
                                                                                                            Go.Value.int Go.IntKind.i64 x_3.4] ∧
                                                                                                        SetRep x_3.1 x_3.2 x_3.3 L ∧ Good x_3.3) ∧
                                                                                                      ∀ (a : VS) (L' : List (Nat × Go.Sx.Blk)),
                                                                                                        GpR x_3.1 x_3.2 x_3.4 x_3.3 (Go.Value.slice a.1 a.2 a.3) L' →
                                                                                                          ∃ (x_4 : TX),
                                                                                                            ∃ (L : List (Nat × Go.Sx.Blk)),
                                                                                                              ∃ (G_3 : List (Nat × Go.Sx.Blk)),
                                                                                                                List.Perm (L' ++ G) (L ++ G_3) ∧
                                                                                                                  ([Go.Value.pointer (Option.some { block := x.3, off := (0 : Nat) }),
                                                                                                                          Go.Value.int Go.IntKind.i64 (999 : Int)] =
                                                                                                                        [Go.Value.pointer (Option.some { block := x_4.1, off := (0 : Nat) }),
                                                                                                                          Go.Value.int Go.IntKind.i64 x_4.4] ∧
                                                                                                                      SetRep x_4.1 x_4.2 x_4.3 L ∧
                                                                                                                        Good x_4.3) ∧
                                                                                                                    ∀ (a_8 : VS) (L' : List (Nat × Go.Sx.Blk)),
                                                                                                                      GpR x_4.1 x_4.2 x_4.4 x_4.3
                                                                                                                          (Go.Value.slice a_8.1 a_8.2 a_8.3) L' →
                                                                                                                        ∃ (x : WX),
                                                                                                                          ∃ (L : List (Nat × Go.Sx.Blk)),
                                                                                                                            ∃ (G : List (Nat × Go.Sx.Blk)),
                                                                                                                              List.Perm (L' ++ G_3) (L ++ G) ∧
                                                                                                                                ([Go.Value.slice a.1 a.2 a.3, Go.Value.slice a_8.1 a_8.2 a_8.3] =
                                                                                                                                      [x.3, x.4] ∧
                                                                                                                                    List.length x.1 < (1000000 : Nat) ∧
                                                                                                                                      ∃ (L1 : List (Nat × Go.Sx.Blk)),
                                                                                                                                        ∃ (L2 : List (Nat × Go.Sx.Blk)),
                                                                                                                                          L = L1 ++ L2 ∧
                                                                                                                                            GapsAt x.1 x.3 L1 ∧
                                                                                                                                              GapsAt x.2 x.4 L2) ∧
                                                                                                                                  ∀ (a : Prop) (L' : List (Nat × Go.Sx.Blk)), (a ↔ x.1 = x.2) → a) ∧
                                                            (¬(40 : Int) ≤ (↑x.1 : Int) →
                                                              (7 : Int) ≠ (0 : Int) ∧
                                                                (Int.tmod (List.getD xs ((0 : Nat) + x.1) (0 : Int)) (7 : Int) = (0 : Int) →
                                                                    ∃ (x_1 : TX),
                                                                      ∃ (L : List (Nat × Go.Sx.Blk)),
                                                                        ∃ (G : List (Nat × Go.Sx.Blk)),
                                                                          List.Perm x.4 (L ++ G) ∧
                                                                            ([Go.Value.pointer (Option.some { block := x.2, off := (0 : Nat) }),
                                                                                    Go.Value.int Go.IntKind.u32 (Go.IntKind.wrap Go.IntKind.u32 (mark + List.getD xs ((0 : Nat) + x.1) (0 : Int)))] =
                                                                                  [Go.Value.pointer (Option.some { block := x_1.1, off := (0 : Nat) }), Go.Value.int Go.IntKind.u32 x_1.4] ∧
                                                                                SetRep x_1.1 x_1.2 x_1.3 L ∧ Good x_1.3) ∧
                                                                              ∀ (a : Prop) (L' : List (Nat × Go.Sx.Blk)),
                                                                                (∃ (mark' : Int),
                                                                                    ∃ (rows' : List (Int × Int)),
                                                                                      SkipS x_1.2 x_1.3 x_1.4 a mark' rows' ∧
                                                                                        SetRep x_1.1 mark' rows' L') →
                                                                                  ∃ (x_2 : TX),
                                                                                    ∃ (L : List (Nat × Go.Sx.Blk)),
                                                                                      ∃ (G_2 : List (Nat × Go.Sx.Blk)),
                                                                                        List.Perm (L' ++ G) (L ++ G_2) ∧
                                                                                          ([Go.Value.pointer (Option.some { block := x.3, off := (0 : Nat) }),
                                                                                                  Go.Value.int Go.IntKind.u32
                                                                                                    (Go.IntKind.wrap Go.IntKind.u32
                                                                                                      (Go.IntKind.wrap Go.IntKind.u32 (mark + by_) + List.getD xs ((0 : Nat) + x.1) (0 : Int)))] =
                                                                                                [Go.Value.pointer (Option.some { block := x_2.1, off := (0 : Nat) }),
                                                                                                  Go.Value.int Go.IntKind.u32 x_2.4] ∧
                                                                                              SetRep x_2.1 x_2.2 x_2.3 L ∧ Good x_2.3) ∧
                                                                                            ∀ (a_5 : Prop) (L' : List (Nat × Go.Sx.Blk)),
                                                                                              (∃ (mark' : Int),
                                                                                                  ∃ (rows' : List (Int × Int)),
                                                                                                    SkipS x_2.2 x_2.3 x_2.4 a_5 mark' rows' ∧
                                                                                                      SetRep x_2.1 mark' rows' L') →
                                                                                                ¬¬(a ↔ a_5) ∧
                                                                                                  ∃ (y : RX),
                                                                                                    len - y.1 < len - x.1 ∧
                                                                                                      ((Go.IntKind.wrap Go.IntKind.i64 ((↑x.1 : Int) + (1 : Int)) = (↑y.1 : Int) ∧
                                                                                                            Go.Value.pointer (Option.some { block := x.2, off := (0 : Nat) }) =
                                                                                                                Go.Value.pointer (Option.some { block := y.2, off := (0 : Nat) }) ∧
                                                                                                              Go.Value.pointer (Option.some { block := x.3, off := (0 : Nat) }) =
                                                                                                                  Go.Value.pointer (Option.some { block := y.3, off := (0 : Nat) }) ∧
                                                                                                                mark = mark ∧
                                                                                                                  by_ = by_ ∧
                                                                                                                    ((0 : Nat) = (0 : Nat) ∧ len = len ∧ cap = cap) ∧
                                                                                                                      ((0 : Nat) = (0 : Nat) ∧ len = len ∧ cap = cap) ∧
                                                                                                                        (↑len : Int) = (↑len : Int) ∧ True) ∧
                                                                                                          (bd = bd ∧ bif Nat.beq t t then base = base ∧ cap = cap ∧ xs = xs ∧ True else False) ∧
                                                                                                            L' ++ G_2 = y.4 ∧ True) ∧
                                                                                                        rdInv len by_ y) ∧
                                                                  (¬Int.tmod (List.getD xs ((0 : Nat) + x.1) (0 : Int)) (7 : Int) = (0 : Int) →
                                                                    ∃ (x_1 : TX),
                                                                      ∃ (L : List (Nat × Go.Sx.Blk)),
                                                                        ∃ (G : List (Nat × Go.Sx.Blk)),
                                                                          List.Perm x.4 (L ++ G) ∧
                                                                            ([Go.Value.pointer (Option.some { block := x.2, off := (0 : Nat) }),
                                                                                    Go.Value.int Go.IntKind.u32 (Go.IntKind.wrap Go.IntKind.u32 (mark + List.getD xs ((0 : Nat) + x.1) (0 : Int)))] =
                                                                                  [Go.Value.pointer (Option.some { block := x_1.1, off := (0 : Nat) }), Go.Value.int Go.IntKind.u32 x_1.4] ∧
                                                                                SetRep x_1.1 x_1.2 x_1.3 L ∧ Good x_1.3) ∧
                                                                              ∀ (a : Int) (L' : List (Nat × Go.Sx.Blk)),
                                                                                (∃ (mark' : Int),
                                                                                    ∃ (rows' : List (Int × Int)),
                                                                                      AddS x_1.2 x_1.3 x_1.4 a mark' rows' ∧
                                                                                        SetRep x_1.1 mark' rows' L') →
                                                                                  ∃ (x_2 : TX),
                                                                                    ∃ (L : List (Nat × Go.Sx.Blk)),
                                                                                      ∃ (G_2 : List (Nat × Go.Sx.Blk)),
                                                                                        List.Perm (L' ++ G) (L ++ G_2) ∧
                                                                                          ([Go.Value.pointer (Option.some { block := x.3, off := (0 : Nat) }),
                                                                                                  Go.Value.int Go.IntKind.u32
                                                                                                    (Go.IntKind.wrap Go.IntKind.u32
                                                                                                      (Go.IntKind.wrap Go.IntKind.u32 (mark + by_) + List.getD xs ((0 : Nat) + x.1) (0 : Int)))] =
                                                                                                [Go.Value.pointer (Option.some { block := x_2.1, off := (0 : Nat) }),
                                                                                                  Go.Value.int Go.IntKind.u32 x_2.4] ∧
                                                                                              SetRep x_2.1 x_2.2 x_2.3 L ∧ Good x_2.3) ∧
                                                                                            ∀ (a_5 : Int) (L' : List (Nat × Go.Sx.Blk)),
                                                                                              (∃ (mark' : Int),
                                                                                                  ∃ (rows' : List (Int × Int)),
                                                                                                    AddS x_2.2 x_2.3 x_2.4 a_5 mark' rows' ∧
                                                                                                      SetRep x_2.1 mark' rows' L') →
                                                                                                ¬a ≠ a_5 ∧
                                                                                                  ∃ (y : RX),
                                                                                                    len - y.1 < len - x.1 ∧
                                                                                                      ((Go.IntKind.wrap Go.IntKind.i64 ((↑x.1 : Int) + (1 : Int)) = (↑y.1 : Int) ∧
                                                                                                            Go.Value.pointer (Option.some { block := x.2, off := (0 : Nat) }) =
                                                                                                                Go.Value.pointer (Option.some { block := y.2, off := (0 : Nat) }) ∧
                                                                                                              Go.Value.pointer (Option.some { block := x.3, off := (0 : Nat) }) =
                                                                                                                  Go.Value.pointer (Option.some { block := y.3, off := (0 : Nat) }) ∧
                                                                                                                mark = mark ∧
                                                                                                                  by_ = by_ ∧
                                                                                                                    ((0 : Nat) = (0 : Nat) ∧ len = len ∧ cap = cap) ∧
                                                                                                                      ((0 : Nat) = (0 : Nat) ∧ len = len ∧ cap = cap) ∧
                                                                                                                        (↑len : Int) = (↑len : Int) ∧ True) ∧
                                                                                                          (bd = bd ∧ bif Nat.beq t t then base = base ∧ cap = cap ∧ xs = xs ∧ True else False) ∧
                                                                                                            L' ++ G_2 = y.4 ∧ True) ∧
                                                                                                        rdInv len by_ y))) ∧
                                                    (¬(↑x.1 : Int) < (↑len : Int) →
                                                      ∃ (x_1 : SX),
                                                        ∃ (L : List (Nat × Go.Sx.Blk)),
                                                          ∃ (G : List (Nat × Go.Sx.Blk)),
                                                            List.Perm x.4 (L ++ G) ∧
                                                              ([Go.Value.pointer (Option.some { block := x.2, off := (0 : Nat) })] =
                                                                    [Go.Value.pointer (Option.some { block := x_1.1, off := (0 : Nat) })] ∧
                                                                  SetRep x_1.1 x_1.2 x_1.3 L) ∧
                                                                ∀ (a : Int) (L' : List (Nat × Go.Sx.Blk)),
                                                                  a = x_1.2 ∧ SetRep x_1.1 x_1.2 x_1.3 L' →
                                                                    ∃ (x_2 : SX),
                                                                      ∃ (L : List (Nat × Go.Sx.Blk)),
                                                                        ∃ (G_2 : List (Nat × Go.Sx.Blk)),
                                                                          List.Perm (L' ++ G) (L ++ G_2) ∧
                                                                            ([Go.Value.pointer (Option.some { block := x.3, off := (0 : Nat) })] =
                                                                                  [Go.Value.pointer (Option.some { block := x_2.1, off := (0 : Nat) })] ∧
                                                                                SetRep x_2.1 x_2.2 x_2.3 L) ∧
                                                                              ∀ (a_5 : Int) (L' : List (Nat × Go.Sx.Blk)),
                                                                                a_5 = x_2.2 ∧ SetRep x_2.1 x_2.2 x_2.3 L' →
                                                                                  Go.IntKind.wrap Go.IntKind.u32 (a + by_) = a_5 ∧
                                                                                    ∃ (x_3 : TX),
                                                                                      ∃ (L : List (Nat × Go.Sx.Blk)),
                                                                                        ∃ (G : List (Nat × Go.Sx.Blk)),
                                                                                          List.Perm (L' ++ G_2) (L ++ G) ∧
                                                                                            ([Go.Value.pointer (Option.some { block := x.2, off := (0 : Nat) }),
                                                                                                    Go.Value.int Go.IntKind.i64 (999 : Int)] =
                                                                                                  [Go.Value.pointer (Option.some { block := x_3.1, off := (0 : Nat) }),
                                                                                                    Go.Value.int Go.IntKind.i64 x_3.4] ∧
                                                                                                SetRep x_3.1 x_3.2 x_3.3 L ∧ Good x_3.3) ∧
                                                                                              ∀ (a : VS) (L' : List (Nat × Go.Sx.Blk)),
                                                                                                GpR x_3.1 x_3.2 x_3.4 x_3.3 (Go.Value.slice a.1 a.2 a.3) L' →
                                                                                                  ∃ (x_4 : TX),
                                                                                                    ∃ (L : List (Nat × Go.Sx.Blk)),
                                                                                                      ∃ (G_3 : List (Nat × Go.Sx.Blk)),
                                                                                                        List.Perm (L' ++ G) (L ++ G_3) ∧
                                                                                                          ([Go.Value.pointer (Option.some { block := x.3, off := (0 : Nat) }),
                                                                                                                  Go.Value.int Go.IntKind.i64 (999 : Int)] =
                                                                                                                [Go.Value.pointer (Option.some { block := x_4.1, off := (0 : Nat) }),
                                                                                                                  Go.Value.int Go.IntKind.i64 x_4.4] ∧
                                                                                                              SetRep x_4.1 x_4.2 x_4.3 L ∧
                                                                                                                Good x_4.3) ∧
                                                                                                            ∀ (a_8 : VS) (L' : List (Nat × Go.Sx.Blk)),
                                                                                                              GpR x_4.1 x_4.2 x_4.4 x_4.3 (Go.Value.slice a_8.1 a_8.2 a_8.3)
                                                                                                                  L' →
                                                                                                                ∃ (x : WX),
                                                                                                                  ∃ (L : List (Nat × Go.Sx.Blk)),
                                                                                                                    ∃ (G : List (Nat × Go.Sx.Blk)),
                                                                                                                      List.Perm (L' ++ G_3) (L ++ G) ∧
                                                                                                                        ([Go.Value.slice a.1 a.2 a.3, Go.Value.slice a_8.1 a_8.2 a_8.3] = [x.3, x.4] ∧
                                                                                                                            List.length x.1 < (1000000 : Nat) ∧
                                                                                                                              ∃ (L1 : List (Nat × Go.Sx.Blk)),
                                                                                                                                ∃ (L2 : List (Nat × Go.Sx.Blk)),
                                                                                                                                  L = L1 ++ L2 ∧
                                                                                                                                    GapsAt x.1 x.3 L1 ∧
                                                                                                                                      GapsAt x.2 x.4 L2) ∧
                                                                                                                          ∀ (a : Prop) (L' : List (Nat × Go.Sx.Blk)), (a ↔ x.1 = x.2) → a) := by
  refine ⟨(), [], [], by simp, ⟨rfl, rfl⟩, fun _ L0 _ => ?_⟩
  refine ⟨mark, [], L0 ++ [], by simp, ⟨rfl, rfl⟩, fun ba La ra => ?_⟩
  refine ⟨_, [], La ++ (L0 ++ []), by simp, ⟨rfl, rfl⟩, fun bb Lb rb => ?_⟩
  refine ⟨⟨0, ba, bb, _, mark, []⟩, ⟨⟨⟨rfl, rfl, rfl, rfl, rfl, ⟨rfl, rfl, rfl⟩, ⟨rfl, rfl, rfl⟩, rfl, trivial⟩, ⟨rfl, by simp⟩, rfl, trivial⟩, Nat.zero_le _, La, Lb, L0 ++ [], ?_, ra, rb, Tidy.nil⟩, ?_⟩
  · exact List.perm_append_comm_assoc _ _ _
  rintro ⟨i, ba, bb, L, ma, rows⟩ ⟨hi, L1, L2, G, hp, r1, r2, ht⟩
  simp only at hi hp r1 r2 ht
  refine ⟨fun hlt => ⟨⟨by simp only; omega, hlt⟩, by simp only at hlt ⊢; omega, fun h40 => ?_, fun h40 => ⟨by decide, fun h7 => ?_, fun h7 => ?_⟩⟩, fun hge => ?_⟩
  · refine ⟨⟨ba, ma, rows⟩, L1, L2 ++ G, hp, ⟨rfl, r1⟩, fun n La ⟨hn, ra⟩ => ?_⟩
    refine ⟨⟨bb, IntKind.wrap .u32 (ma + by_), rows⟩, L2, La ++ G, List.perm_append_comm_assoc _ _ _, ⟨rfl, r2⟩, fun n2 Lb ⟨hn2, rb⟩ => ?_⟩
    refine ⟨by rw [hn, hn2], ⟨ba, ma, rows, 999⟩, La, Lb ++ G, List.perm_append_comm_assoc _ _ _, ⟨rfl, ra, ht.1⟩, fun v Lc ⟨P1, P2, s1, g1, p1⟩ => ?_⟩
    refine ⟨⟨bb, IntKind.wrap .u32 (ma + by_), rows, 999⟩, Lb, Lc ++ G, List.perm_append_comm_assoc _ _ _, ⟨rfl, rb, ht.1⟩, fun v2 Ld ⟨Q1, Q2, s2, g2, p2⟩ => ?_⟩
    exact ⟨⟨gapsF 999 rows, gapsF 999 rows, .slice v.a v.n v.c, .slice v2.a v2.n v2.c⟩, P2 ++ Q2, P1 ++ Q1 ++ G, last_perm p1 p2, ⟨rfl, gaps_len _ _ (by have := ht.1.len'; omega), P2, Q2, rfl, g1, g2⟩, fun p _ h => h.2 rfl⟩
  · refine ⟨⟨ba, ma, rows, IntKind.wrap .u32 (mark + xs.getD (0 + i) 0)⟩, L1, L2 ++ G, hp, ⟨rfl, r1, ht.1⟩, fun p La ⟨ma', rows', hs, ra⟩ => ?_⟩
    refine ⟨⟨bb, IntKind.wrap .u32 (ma + by_), rows, IntKind.wrap .u32 (IntKind.wrap .u32 (mark + by_) + xs.getD (0 + i) 0)⟩, L2, La ++ G, List.perm_append_comm_assoc _ _ _, ⟨rfl, r2, ht.1⟩, fun q Lb ⟨mb', rows2, hs2, rb⟩ => ?_⟩
    simp only at hs hs2 ra rb
    rw [arg_shift] at hs2
    obtain ⟨e1, rfl, rfl⟩ := skip_step hs hs2
    refine ⟨fun h => h e1, ⟨i + 1, ba, bb, _, ma', _⟩, ?_, ⟨⟨?_, rfl, rfl, rfl, rfl, ⟨rfl, rfl, rfl⟩, ⟨rfl, rfl, rfl⟩, rfl, trivial⟩, ⟨rfl, by simp⟩, rfl, trivial⟩, ?_, La, Lb, G, List.perm_append_comm_assoc _ _ _, ra, rb, skipS_tidy hs ht⟩
    · simp only at hlt ⊢; omega
    · exact wrapL (Int.ofNat_lt.1 hlt) hlen
    · simp only at hlt ⊢; omega
  · refine ⟨⟨ba, ma, rows, IntKind.wrap .u32 (mark + xs.getD (0 + i) 0)⟩, L1, L2 ++ G, hp, ⟨rfl, r1, ht.1⟩, fun p La ⟨ma', rows', hs, ra⟩ => ?_⟩
    refine ⟨⟨bb, IntKind.wrap .u32 (ma + by_), rows, IntKind.wrap .u32 (IntKind.wrap .u32 (mark + by_) + xs.getD (0 + i) 0)⟩, L2, La ++ G, List.perm_append_comm_assoc _ _ _, ⟨rfl, r2, ht.1⟩, fun q Lb ⟨mb', rows2, hs2, rb⟩ => ?_⟩
    simp only at hs hs2 ra rb
    rw [arg_shift] at hs2
    obtain ⟨e1, rfl, rfl⟩ := add_step hs hs2
    refine ⟨fun h => h e1, ⟨i + 1, ba, bb, _, ma', _⟩, ?_, ⟨⟨?_, rfl, rfl, rfl, rfl, ⟨rfl, rfl, rfl⟩, ⟨rfl, rfl, rfl⟩, rfl, trivial⟩, ⟨rfl, by simp⟩, rfl, trivial⟩, ?_, La, Lb, G, List.perm_append_comm_assoc _ _ _, ra, rb, addS_tidy hs ht⟩
    · simp only at hlt ⊢; omega
    · exact wrapL (Int.ofNat_lt.1 hlt) hlen
    · simp only at hlt ⊢; omega
  · refine ⟨⟨ba, ma, rows⟩, L1, L2 ++ G, hp, ⟨rfl, r1⟩, fun n La ⟨hn, ra⟩ => ?_⟩
    refine ⟨⟨bb, IntKind.wrap .u32 (ma + by_), rows⟩, L2, La ++ G, List.perm_append_comm_assoc _ _ _, ⟨rfl, r2⟩, fun n2 Lb ⟨hn2, rb⟩ => ?_⟩
    refine ⟨by rw [hn, hn2], ⟨ba, ma, rows, 999⟩, La, Lb ++ G, List.perm_append_comm_assoc _ _ _, ⟨rfl, ra, ht.1⟩, fun v Lc ⟨P1, P2, s1, g1, p1⟩ => ?_⟩
    refine ⟨⟨bb, IntKind.wrap .u32 (ma + by_), rows, 999⟩, Lb, Lc ++ G, List.perm_append_comm_assoc _ _ _, ⟨rfl, rb, ht.1⟩, fun v2 Ld ⟨Q1, Q2, s2, g2, p2⟩ => ?_⟩
    exact ⟨⟨gapsF 999 rows, gapsF 999 rows, .slice v.a v.n v.c, .slice v2.a v2.n v2.c⟩, P2 ++ Q2, P1 ++ Q1 ++ G, last_perm p1 p2, ⟨rfl, gaps_len _ _ (by have := ht.1.len'; omega), P2, Q2, rfl, g1, g2⟩, fun p _ h => h.2 rfl⟩
theorem rdNil_vc (o : Option Addr) (cap : Nat) (mark by_ : Int) :
    ∃ (x : Unit),
  ∃ (L : List (Nat × Go.Sx.Blk)),
    ∃ (G : List (Nat × Go.Sx.Blk)),
      List.Perm [] (L ++ G) ∧
        ((0 : Nat) = (0 : Nat) ∧ L = []) ∧
          ∀ (a : Unit) (L' : List (Nat × Go.Sx.Blk)),
            a = () →
              ∃ (x : Int),
                ∃ (L : List (Nat × Go.Sx.Blk)),
                  ∃ (G_1 : List (Nat × Go.Sx.Blk)),
                    List.Perm (L' ++ G) (L ++ G_1) ∧
                      ([Go.Value.int Go.IntKind.u32 mark] = [Go.Value.int Go.IntKind.u32 x] ∧ L = []) ∧
                        ∀ (a : Nat) (L' : List (Nat × Go.Sx.Blk)),
                          SetRep a x [] L' →
                            ∃ (x : Int),
                              ∃ (L : List (Nat × Go.Sx.Blk)),
                                ∃ (G : List (Nat × Go.Sx.Blk)),
                                  List.Perm (L' ++ G_1) (L ++ G) ∧
                                    ([Go.Value.int Go.IntKind.u32 (Go.IntKind.wrap Go.IntKind.u32 (mark + by_))] = [Go.Value.int Go.IntKind.u32 x] ∧ L = []) ∧
                                      ∀ (a_2 : Nat) (L' : List (Nat × Go.Sx.Blk)),
                                        SetRep a_2 x [] L' →
                                          ∃ (x0 : RX),
                                            ((((0 : Int) = (↑x0.1 : Int) ∧
                                                    Go.Value.pointer (Option.some { block := a, off := (0 : Nat) }) = Go.Value.pointer (Option.some { block := x0.2, off := (0 : Nat) }) ∧
                                                      Go.Value.pointer (Option.some { block := a_2, off := (0 : Nat) }) = Go.Value.pointer (Option.some { block := x0.3, off := (0 : Nat) }) ∧
                                                        mark = mark ∧
                                                          by_ = by_ ∧
                                                            Go.Value.slice o (0 : Nat) cap = Go.Value.slice o (0 : Nat) cap ∧
                                                              Go.Value.slice o (0 : Nat) cap = Go.Value.slice o (0 : Nat) cap ∧ (↑(0 : Nat) : Int) = (↑(0 : Nat) : Int) ∧ True) ∧
                                                  L' ++ G = x0.4 ∧ True) ∧
                                                rdInv (0 : Nat) by_ x0) ∧
                                              ∀ (x : RX),
                                                rdInv (0 : Nat) by_ x →
                                                  ((↑x.1 : Int) < (↑(0 : Nat) : Int) → False) ∧
                                                    (¬(↑x.1 : Int) < (↑(0 : Nat) : Int) →
                                                      ∃ (x_1 : SX),
                                                        ∃ (L : List (Nat × Go.Sx.Blk)),
                                                          ∃ (G : List (Nat × Go.Sx.Blk)),
                                                            List.Perm x.4 (L ++ G) ∧
                                                              ([Go.Value.pointer (Option.some { block := x.2, off := (0 : Nat) })] =
                                                                    [Go.Value.pointer (Option.some { block := x_1.1, off := (0 : Nat) })] ∧
                                                                  SetRep x_1.1 x_1.2 x_1.3 L) ∧
                                                                ∀ (a : Int) (L' : List (Nat × Go.Sx.Blk)),
                                                                  a = x_1.2 ∧ SetRep x_1.1 x_1.2 x_1.3 L' →
                                                                    ∃ (x_2 : SX),
                                                                      ∃ (L : List (Nat × Go.Sx.Blk)),
                                                                        ∃ (G_2 : List (Nat × Go.Sx.Blk)),
                                                                          List.Perm (L' ++ G) (L ++ G_2) ∧
                                                                            ([Go.Value.pointer (Option.some { block := x.3, off := (0 : Nat) })] =
                                                                                  [Go.Value.pointer (Option.some { block := x_2.1, off := (0 : Nat) })] ∧
                                                                                SetRep x_2.1 x_2.2 x_2.3 L) ∧
                                                                              ∀ (a_5 : Int) (L' : List (Nat × Go.Sx.Blk)),
                                                                                a_5 = x_2.2 ∧ SetRep x_2.1 x_2.2 x_2.3 L' →
                                                                                  Go.IntKind.wrap Go.IntKind.u32 (a + by_) = a_5 ∧
                                                                                    ∃ (x_3 : TX),
                                                                                      ∃ (L : List (Nat × Go.Sx.Blk)),
                                                                                        ∃ (G : List (Nat × Go.Sx.Blk)),
                                                                                          List.Perm (L' ++ G_2) (L ++ G) ∧
                                                                                            ([Go.Value.pointer (Option.some { block := x.2, off := (0 : Nat) }),
                                                                                                    Go.Value.int Go.IntKind.i64 (999 : Int)] =
                                                                                                  [Go.Value.pointer (Option.some { block := x_3.1, off := (0 : Nat) }),
                                                                                                    Go.Value.int Go.IntKind.i64 x_3.4] ∧
                                                                                                SetRep x_3.1 x_3.2 x_3.3 L ∧ Good x_3.3) ∧
                                                                                              ∀ (a : VS) (L' : List (Nat × Go.Sx.Blk)),
                                                                                                GpR x_3.1 x_3.2 x_3.4 x_3.3 (Go.Value.slice a.1 a.2 a.3) L' →
                                                                                                  ∃ (x_4 : TX),
                                                                                                    ∃ (L : List (Nat × Go.Sx.Blk)),
                                                                                                      ∃ (G_3 : List (Nat × Go.Sx.Blk)),
                                                                                                        List.Perm (L' ++ G) (L ++ G_3) ∧
                                                                                                          ([Go.Value.pointer (Option.some { block := x.3, off := (0 : Nat) }),
                                                                                                                  Go.Value.int Go.IntKind.i64 (999 : Int)] =
                                                                                                                [Go.Value.pointer (Option.some { block := x_4.1, off := (0 : Nat) }),
                                                                                                                  Go.Value.int Go.IntKind.i64 x_4.4] ∧
                                                                                                              SetRep x_4.1 x_4.2 x_4.3 L ∧
                                                                                                                Good x_4.3) ∧
                                                                                                            ∀ (a_8 : VS) (L' : List (Nat × Go.Sx.Blk)),
                                                                                                              GpR x_4.1 x_4.2 x_4.4 x_4.3 (Go.Value.slice a_8.1 a_8.2 a_8.3)
                                                                                                                  L' →
                                                                                                                ∃ (x : WX),
                                                                                                                  ∃ (L : List (Nat × Go.Sx.Blk)),
                                                                                                                    ∃ (G : List (Nat × Go.Sx.Blk)),
                                                                                                                      List.Perm (L' ++ G_3) (L ++ G) ∧
                                                                                                                        ([Go.Value.slice a.1 a.2 a.3, Go.Value.slice a_8.1 a_8.2 a_8.3] = [x.3, x.4] ∧
                                                                                                                            List.length x.1 < (1000000 : Nat) ∧
                                                                                                                              ∃ (L1 : List (Nat × Go.Sx.Blk)),
                                                                                                                                ∃ (L2 : List (Nat × Go.Sx.Blk)),
                                                                                                                                  L = L1 ++ L2 ∧
                                                                                                                                    GapsAt x.1 x.3 L1 ∧
                                                                                                                                      GapsAt x.2 x.4 L2) ∧
                                                                                                                          ∀ (a : Prop) (L' : List (Nat × Go.Sx.Blk)), (a ↔ x.1 = x.2) → a) := by
  refine ⟨(), [], [], by simp, ⟨rfl, rfl⟩, fun _ L0 _ => ?_⟩
  refine ⟨mark, [], L0 ++ [], by simp, ⟨rfl, rfl⟩, fun ba La ra => ?_⟩
  refine ⟨_, [], La ++ (L0 ++ []), by simp, ⟨rfl, rfl⟩, fun bb Lb rb => ?_⟩
  refine ⟨⟨0, ba, bb, _, mark, []⟩, ⟨⟨⟨rfl, rfl, rfl, rfl, rfl, rfl, rfl, rfl, trivial⟩, rfl, trivial⟩, Nat.zero_le _, La, Lb, L0 ++ [], ?_, ra, rb, Tidy.nil⟩, ?_⟩
  · exact List.perm_append_comm_assoc _ _ _
  rintro ⟨i, ba, bb, L, ma, rows⟩ ⟨hi, L1, L2, G, hp, r1, r2, ht⟩
  simp only at hi hp r1 r2 ht
  refine ⟨fun hlt => by simp only at hlt; omega, fun hge => ?_⟩
  refine ⟨⟨ba, ma, rows⟩, L1, L2 ++ G, hp, ⟨rfl, r1⟩, fun n La ⟨hn, ra⟩ => ?_⟩
  refine ⟨⟨bb, IntKind.wrap .u32 (ma + by_), rows⟩, L2, La ++ G, List.perm_append_comm_assoc _ _ _, ⟨rfl, r2⟩, fun n2 Lb ⟨hn2, rb⟩ => ?_⟩
  refine ⟨by rw [hn, hn2], ⟨ba, ma, rows, 999⟩, La, Lb ++ G, List.perm_append_comm_assoc _ _ _, ⟨rfl, ra, ht.1⟩, fun v Lc ⟨P1, P2, s1, g1, p1⟩ => ?_⟩
  refine ⟨⟨bb, IntKind.wrap .u32 (ma + by_), rows, 999⟩, Lb, Lc ++ G, List.perm_append_comm_assoc _ _ _, ⟨rfl, rb, ht.1⟩, fun v2 Ld ⟨Q1, Q2, s2, g2, p2⟩ => ?_⟩
  exact ⟨⟨gapsF 999 rows, gapsF 999 rows, .slice v.a v.n v.c, .slice v2.a v2.n v2.c⟩, P2 ++ Q2, P1 ++ Q1 ++ G, last_perm p1 p2, ⟨rfl, gaps_len _ _ (by have := ht.1.len'; omega), P2, Q2, rfl, g1, g2⟩, fun p _ h => h.2 rfl⟩
theorem rd_goal (bd t base len cap : Nat) (xs : List Int) (mark by_ : Int) (hlc : len ≤ cap) (hlen : len ≤ 9223372036854775807) : rdGoal bd t base len cap xs mark by_ := Eq.mpr (by kernel_rfl) (rd_vc bd t base len cap xs mark by_ hlc hlen)
theorem rdNil_goal (o : Option Addr) (cap : Nat) (mark by_ : Int) : rdNilGoal o cap mark by_ := Eq.mpr (by kernel_rfl) (rdNil_vc o cap mark by_)
end Go.Proofs.Ytmjhfnmkegdafaa
