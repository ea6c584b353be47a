/- Span: the law SpanFill. -/
import Derived.Test.YtmjhfnmkegdafaaSpT


set_option maxRecDepth 100000
set_option linter.unusedVariables false
set_option linter.unusedSimpArgs false
namespace Go.Proofs.Ytmjhfnmkegdafaa
open Go Go.Sx

structure FX where
  i : Nat
  b : Nat
  L : Blks
  m : Int
  rows : List (Int × Int)
  top : Int
def flTop (mark : Int) (x : FX) (d : Int) : Prop := ∃ L1 G, x.L.Perm (L1 ++ G) ∧ SetRep x.b x.m x.rows L1 ∧ 0 ≤ x.top ∧ x.top < 65536 ∧ ∃ K, St mark x.m x.rows K ∧ K x.top ∧ (∀ y, K y → y ≤ x.top) ∧ ∀ y, 0 ≤ y → y < d → K y
noncomputable def Ann.fl (mark : Int) (len : Nat) : FnAnn := ⟨[], [
  (6, ⟨FX, [(fun σ x => ⟨σ.n, (16, .val (.int .i64 x.i)) :: (5, .val (.pointer (some ⟨x.b, 0, none⟩))) :: (6, .val (.int .u32 x.top)) :: keepE σ.env [0, 1, 14, 15], Ann.chunk σ.heap x.L⟩, fun _ x => x.i ≤ len ∧ flTop mark x 0)], fun x => len - x.i⟩),
  (12, ⟨FX, [(fun σ x => ⟨σ.n, (9, .val (.int .u32 x.i)) :: (5, .val (.pointer (some ⟨x.b, 0, none⟩))) :: (6, .val (.int .u32 x.top)) :: keepE σ.env [0], Ann.chunk σ.heap x.L⟩, fun _ x => 1 ≤ x.i ∧ (x.i : Int) ≤ x.top + 1 ∧ flTop mark x x.i)], fun x => x.top.toNat + 1 - x.i⟩)]⟩
noncomputable def flGoal (bd t base len cap : Nat) (xs : List Int) (mark : Int) : Prop :=
  xrun Go.Proofs.Try.prog tbl2T [(7, Ann.fl mark len)] [([], (11, false)), ([], (53, true)), ([], (58, true))] 9 [] 7 [.val (.int .u32 mark), .slc 0 0 len cap] [.ro bd (.tab t base cap [.ints .u16 xs]), .chunk []] fun s h => bOf s fun p => p
noncomputable def flNilGoal (o : Option Addr) (cap : Nat) (mark : Int) : Prop :=
  xrun Go.Proofs.Try.prog tbl2T [(7, Ann.fl mark 0)] [([], (11, false)), ([], (53, true)), ([], (58, true))] 9 [] 7 [.val (.int .u32 mark), .val (.slice o 0 cap)] [.chunk []] fun s h => bOf s fun p => p

theorem top_add {m0 mark x n mark' top : Int} {rows rows' : List (Int × Int)} {K : Int → Prop} (h : St m0 mark rows K) (ht : K top) (hb : ∀ y, K y → y ≤ top) (h0 : 0 ≤ x) (h1 : x ≤ 70000)
    (ha : AddS mark rows (IntKind.wrap .u32 (m0 + x)) n mark' rows') :
    (n = 0 → ∃ K', St m0 mark' rows' K' ∧ K' (max top x) ∧ ∀ y, K' y → y ≤ max top x) ∧ (¬ n = 0 → St m0 mark' rows' K) := by
  obtain ⟨k1, k2, k3, k4, k5⟩ := h.add h0 h1 ha
  refine ⟨fun hn => ⟨_, k1, ?_, fun y hy => ?_⟩, fun hn => k1.congr fun y => ⟨fun h => ?_, fun h => .inl h⟩⟩
  · by_cases hx : x ≤ top
    · exact .inl (by rw [Int.max_eq_left hx]; exact ht)
    · exact .inr ⟨by omega, by omega⟩
  · rcases hy with hy | ⟨-, rfl⟩
    · have := hb y hy; omega
    · omega
  · rcases h with h | ⟨h, rfl⟩
    · exact h
    · exact k3 (by rcases k5 with k5 | k5 | k5 <;> first | exact k5 | exact absurd k5 hn | exact absurd k5 h)
theorem St.full {m0 mark top : Int} {rows : List (Int × Int)} {K : Int → Prop} (h : St m0 mark rows K) (hb : ∀ y, K y → y ≤ top) (ht : K top) (hf : ∀ y, 0 ≤ y → y < top + 1 → K y) :
    mark = IntKind.wrap .u32 (m0 + top) ∧ rows = [] := by
  obtain ⟨o, ho, hm, hti, hk, -⟩ := h
  have h1 := hb o ((hk o).2 (.inl ⟨ho, Int.le_refl _⟩))
  have h2 : o = top := by
    rcases Int.lt_or_le o top with h2 | h2
    · rcases (hk _).1 (hf (o + 1) (by omega) (by omega)) with h3 | ⟨-, h3⟩
      · omega
      · rw [show o + 1 - o = 1 by omega] at h3
        exact absurd h3 hti.not_one
    · omega
  subst h2
  refine ⟨hm, List.eq_nil_iff_forall_not_mem.2 fun r hr => ?_⟩
  have h3 := hti.2 r hr
  have h4 := (hti.1.2 r hr).2.1
  have := hb (o + r.1) ((hk _).2 (.inr ⟨by omega, r, hr, by omega, by omega⟩))
  omega
theorem getD_bd {xs : List Int} {B : Int} (hB : 0 < B) (hx : ∀ z ∈ xs, 0 ≤ z ∧ z < B) (j : Nat) : 0 ≤ xs.getD j 0 ∧ xs.getD j 0 < B := by
  rw [List.getD_eq_getElem?_getD]
  cases h : xs[j]? with
  | none => simpa using hB
  | some z => exact hx z (List.mem_of_getElem? h)
theorem gaps_none {most : Int} {v : VS} {L : Blks} {b : Nat} {mark : Int} (h : GpR b mark most [] (.slice v.a v.n v.c) L) : v.n = 0 := by
  obtain ⟨L1, L2, -, h2, -⟩ := h
  have hg : gapsF most [] = [] := by simp [gapsF]
  rw [hg] at h2
  rcases h2 with ⟨-, h2⟩ | ⟨b1, base, cap, xs, ys, G, -, h2, -⟩
  · simp at h2; exact h2.2.1
  · simp at h2

theorem fl_vc (bd t base len cap : Nat) (xs : List Int) (mark : Int) (hlc : len ≤ cap) (hlen : len ≤ 9223372036854775807) (hm0 : 0 ≤ mark) (hm1 : mark < 4294967296) (hx : ∀ z ∈ xs, 0 ≤ z ∧ z < 65536) :
    ∃ (x : Unit),
  ∃ (L : List (Nat × Go.Sx.Blk)),
    ∃ (G : List (Nat × Go.Sx.Blk)),
      List.Perm [] (L ++ G) ∧
        ((0 : Nat) = (0 : Nat) ∧ L = []) ∧
          ∀ (a : Unit) (L' : List (Nat × Go.Sx.Blk)),
            a = () →
              ∃ (x : Int),
                ∃ (L : List (Nat × Go.Sx.Blk)),
                  ∃ (G_1 : List (Nat × Go.Sx.Blk)),
                    List.Perm (L' ++ G) (L ++ G_1) ∧
                      ([Go.Value.int Go.IntKind.u32 mark] = [Go.Value.int Go.IntKind.u32 x] ∧ L = []) ∧
                        ∀ (a : Nat) (L' : List (Nat × Go.Sx.Blk)),
                          SetRep a x [] L' →
                            ∃ (x0 : FX),
                              ((((0 : Int) = (↑x0.1 : Int) ∧
                                      Go.Value.pointer (Option.some { block := a, off := (0 : Nat) }) = Go.Value.pointer (Option.some { block := x0.2, off := (0 : Nat) }) ∧
                                        (0 : Int) = x0.6 ∧
                                          mark = mark ∧ ((0 : Nat) = (0 : Nat) ∧ len = len ∧ cap = cap) ∧ ((0 : Nat) = (0 : Nat) ∧ len = len ∧ cap = cap) ∧ (↑len : Int) = (↑len : Int) ∧ True) ∧
                                    (bd = bd ∧ bif Nat.beq t t then base = base ∧ cap = cap ∧ xs = xs ∧ True else False) ∧ L' ++ G_1 = x0.3 ∧ True) ∧
                                  x0.1 ≤ len ∧ flTop mark x0 (0 : Int)) ∧
                                ∀ (x : FX),
                                  x.1 ≤ len ∧ flTop mark x (0 : Int) →
                                    ((↑x.1 : Int) < (↑len : Int) →
                                        ((0 : Int) ≤ (↑x.1 : Int) ∧ (↑x.1 : Int) < (↑len : Int)) ∧
                                          (0 : Nat) + x.1 < cap ∧
                                            ((↑x.1 : Int) < (40 : Int) →
                                                ∃ (x_1 : TX),
                                                  ∃ (L : List (Nat × Go.Sx.Blk)),
                                                    ∃ (G : List (Nat × Go.Sx.Blk)),
                                                      List.Perm x.3 (L ++ G) ∧
                                                        ([Go.Value.pointer (Option.some { block := x.2, off := (0 : Nat) }),
                                                                Go.Value.int Go.IntKind.u32
                                                                  (Go.IntKind.wrap Go.IntKind.u32 (mark + Go.IntKind.wrap Go.IntKind.u32 (List.getD xs ((0 : Nat) + x.1) (0 : Int))))] =
                                                              [Go.Value.pointer (Option.some { block := x_1.1, off := (0 : Nat) }), Go.Value.int Go.IntKind.u32 x_1.4] ∧
                                                            SetRep x_1.1 x_1.2 x_1.3 L ∧ Good x_1.3) ∧
                                                          ∀ (a : Int) (L' : List (Nat × Go.Sx.Blk)),
                                                            (∃ (mark' : Int),
                                                                ∃ (rows' : List (Int × Int)),
                                                                  AddS x_1.2 x_1.3 x_1.4 a mark' rows' ∧ SetRep x_1.1 mark' rows' L') →
                                                              (a = (0 : Int) →
                                                                  ∃ (y : FX),
                                                                    len - y.1 < len - x.1 ∧
                                                                      ((Go.IntKind.wrap Go.IntKind.i64 ((↑x.1 : Int) + (1 : Int)) = (↑y.1 : Int) ∧
                                                                            Go.Value.pointer (Option.some { block := x.2, off := (0 : Nat) }) =
                                                                                Go.Value.pointer (Option.some { block := y.2, off := (0 : Nat) }) ∧
                                                                              Max.max x.6 (Go.IntKind.wrap Go.IntKind.u32 (List.getD xs ((0 : Nat) + x.1) (0 : Int))) = y.6 ∧
                                                                                mark = mark ∧
                                                                                  ((0 : Nat) = (0 : Nat) ∧ len = len ∧ cap = cap) ∧
                                                                                    ((0 : Nat) = (0 : Nat) ∧ len = len ∧ cap = cap) ∧ (↑len : Int) = (↑len : Int) ∧ True) ∧
                                                                          (bd = bd ∧ bif Nat.beq t t then base = base ∧ cap = cap ∧ xs = xs ∧ True else False) ∧ L' ++ G = y.3 ∧ True) ∧
                                                                        y.1 ≤ len ∧ flTop mark y (0 : Int)) ∧
                                                                (¬a = (0 : Int) →
                                                                  ∃ (y : FX),
                                                                    len - y.1 < len - x.1 ∧
                                                                      ((Go.IntKind.wrap Go.IntKind.i64 ((↑x.1 : Int) + (1 : Int)) = (↑y.1 : Int) ∧
                                                                            Go.Value.pointer (Option.some { block := x.2, off := (0 : Nat) }) =
                                                                                Go.Value.pointer (Option.some { block := y.2, off := (0 : Nat) }) ∧
                                                                              x.6 = y.6 ∧
                                                                                mark = mark ∧
                                                                                  ((0 : Nat) = (0 : Nat) ∧ len = len ∧ cap = cap) ∧
                                                                                    ((0 : Nat) = (0 : Nat) ∧ len = len ∧ cap = cap) ∧ (↑len : Int) = (↑len : Int) ∧ True) ∧
                                                                          (bd = bd ∧ bif Nat.beq t t then base = base ∧ cap = cap ∧ xs = xs ∧ True else False) ∧ L' ++ G = y.3 ∧ True) ∧
                                                                        y.1 ≤ len ∧ flTop mark y (0 : Int))) ∧
                                              (¬(↑x.1 : Int) < (40 : Int) →
                                                ∃ (y : FX),
                                                  len - y.1 < len - x.1 ∧
                                                    ((Go.IntKind.wrap Go.IntKind.i64 ((↑x.1 : Int) + (1 : Int)) = (↑y.1 : Int) ∧
                                                          Go.Value.pointer (Option.some { block := x.2, off := (0 : Nat) }) = Go.Value.pointer (Option.some { block := y.2, off := (0 : Nat) }) ∧
                                                            x.6 = y.6 ∧
                                                              mark = mark ∧
                                                                ((0 : Nat) = (0 : Nat) ∧ len = len ∧ cap = cap) ∧
                                                                  ((0 : Nat) = (0 : Nat) ∧ len = len ∧ cap = cap) ∧ (↑len : Int) = (↑len : Int) ∧ True) ∧
                                                        (bd = bd ∧ bif Nat.beq t t then base = base ∧ cap = cap ∧ xs = xs ∧ True else False) ∧ x.3 = y.3 ∧ True) ∧
                                                      y.1 ≤ len ∧ flTop mark y (0 : Int))) ∧
                                      (¬(↑x.1 : Int) < (↑len : Int) →
                                        ∃ (x0 : FX),
                                          ((((1 : Int) = (↑x0.1 : Int) ∧
                                                  Go.Value.pointer (Option.some { block := x.2, off := (0 : Nat) }) = Go.Value.pointer (Option.some { block := x0.2, off := (0 : Nat) }) ∧
                                                    x.6 = x0.6 ∧ mark = mark ∧ True) ∧
                                                (bd = bd ∧ bif Nat.beq t t then base = base ∧ cap = cap ∧ xs = xs ∧ True else False) ∧ x.3 = x0.3 ∧ True) ∧
                                              (1 : Nat) ≤ x0.1 ∧ (↑x0.1 : Int) ≤ x0.6 + (1 : Int) ∧ flTop mark x0 (↑x0.1 : Int)) ∧
                                            ∀ (x : FX),
                                              (1 : Nat) ≤ x.1 ∧ (↑x.1 : Int) ≤ x.6 + (1 : Int) ∧ flTop mark x (↑x.1 : Int) →
                                                ((↑x.1 : Int) ≤ x.6 →
                                                    ∃ (x_1 : TX),
                                                      ∃ (L : List (Nat × Go.Sx.Blk)),
                                                        ∃ (G : List (Nat × Go.Sx.Blk)),
                                                          List.Perm x.3 (L ++ G) ∧
                                                            ([Go.Value.pointer (Option.some { block := x.2, off := (0 : Nat) }),
                                                                    Go.Value.int Go.IntKind.u32 (Go.IntKind.wrap Go.IntKind.u32 (mark + (↑x.1 : Int)))] =
                                                                  [Go.Value.pointer (Option.some { block := x_1.1, off := (0 : Nat) }), Go.Value.int Go.IntKind.u32 x_1.4] ∧
                                                                SetRep x_1.1 x_1.2 x_1.3 L ∧ Good x_1.3) ∧
                                                              ∀ (a : Int) (L' : List (Nat × Go.Sx.Blk)),
                                                                (∃ (mark' : Int),
                                                                    ∃ (rows' : List (Int × Int)),
                                                                      AddS x_1.2 x_1.3 x_1.4 a mark' rows' ∧ SetRep x_1.1 mark' rows' L') →
                                                                  ∃ (y : FX),
                                                                    Int.toNat y.6 + (1 : Nat) - y.1 < Int.toNat x.6 + (1 : Nat) - x.1 ∧
                                                                      ((Go.IntKind.wrap Go.IntKind.u32 ((↑x.1 : Int) + (1 : Int)) = (↑y.1 : Int) ∧
                                                                            Go.Value.pointer (Option.some { block := x.2, off := (0 : Nat) }) =
                                                                                Go.Value.pointer (Option.some { block := y.2, off := (0 : Nat) }) ∧
                                                                              x.6 = y.6 ∧ mark = mark ∧ True) ∧
                                                                          (bd = bd ∧ bif Nat.beq t t then base = base ∧ cap = cap ∧ xs = xs ∧ True else False) ∧ L' ++ G = y.3 ∧ True) ∧
                                                                        (1 : Nat) ≤ y.1 ∧ (↑y.1 : Int) ≤ y.6 + (1 : Int) ∧ flTop mark y (↑y.1 : Int)) ∧
                                                  (¬(↑x.1 : Int) ≤ x.6 →
                                                    ∃ (x_1 : SX),
                                                      ∃ (L : List (Nat × Go.Sx.Blk)),
                                                        ∃ (G : List (Nat × Go.Sx.Blk)),
                                                          List.Perm x.3 (L ++ G) ∧
                                                            ([Go.Value.pointer (Option.some { block := x.2, off := (0 : Nat) })] =
                                                                  [Go.Value.pointer (Option.some { block := x_1.1, off := (0 : Nat) })] ∧
                                                                SetRep x_1.1 x_1.2 x_1.3 L) ∧
                                                              ∀ (a : Int) (L' : List (Nat × Go.Sx.Blk)),
                                                                a = x_1.2 ∧ SetRep x_1.1 x_1.2 x_1.3 L' →
                                                                  a = Go.IntKind.wrap Go.IntKind.u32 (mark + x.6) ∧
                                                                    ∃ (x_2 : SX),
                                                                      ∃ (L : List (Nat × Go.Sx.Blk)),
                                                                        ∃ (G_2 : List (Nat × Go.Sx.Blk)),
                                                                          List.Perm (L' ++ G) (L ++ G_2) ∧
                                                                            ([Go.Value.pointer (Option.some { block := x.2, off := (0 : Nat) })] =
                                                                                  [Go.Value.pointer (Option.some { block := x_2.1, off := (0 : Nat) })] ∧
                                                                                SetRep x_2.1 x_2.2 x_2.3 L ∧ Good x_2.3) ∧
                                                                              ∀ (a : Int) (L' : List (Nat × Go.Sx.Blk)),
                                                                                a = lenF x_2.3 ∧ SetRep x_2.1 x_2.2 x_2.3 L' →
                                                                                  a = (0 : Int) ∧
                                                                                    ∃ (x_3 : TX),
                                                                                      ∃ (L : List (Nat × Go.Sx.Blk)),
                                                                                        ∃ (G : List (Nat × Go.Sx.Blk)),
                                                                                          List.Perm (L' ++ G_2) (L ++ G) ∧
                                                                                            ([Go.Value.pointer (Option.some { block := x.2, off := (0 : Nat) }),
                                                                                                    Go.Value.int Go.IntKind.i64 (9 : Int)] =
                                                                                                  [Go.Value.pointer (Option.some { block := x_3.1, off := (0 : Nat) }),
                                                                                                    Go.Value.int Go.IntKind.i64 x_3.4] ∧
                                                                                                SetRep x_3.1 x_3.2 x_3.3 L ∧ Good x_3.3) ∧
                                                                                              ∀ (a : VS) (L' : List (Nat × Go.Sx.Blk)),
                                                                                                GpR x_3.1 x_3.2 x_3.4 x_3.3 (Go.Value.slice a.1 a.2 a.3) L' →
                                                                                                  (↑a.2 : Int) = (0 : Int))) := by
  have hbd := getD_bd (by omega) hx
  have hw : ∀ j, IntKind.wrap .u32 (List.getD xs j (0 : Int)) = List.getD xs j (0 : Int) := fun j => u32_id (hbd j).1 (by have := (hbd j).2; omega)
  simp only [hw, Nat.zero_add]
  refine ⟨(), [], [], by simp, ⟨by trivial, rfl⟩, fun _ L0 _ => ?_⟩
  refine ⟨mark, [], L0 ++ [], by simp, ⟨rfl, rfl⟩, fun b La rA => ?_⟩
  refine ⟨⟨0, b, La ++ (L0 ++ []), mark, [], 0⟩, ⟨by simp, Nat.zero_le _, La, L0 ++ [], List.Perm.refl _, rA, by simp only; omega, by simp only; omega, _, St.start hm0 hm1, rfl, fun y hy => by simp only; omega, fun y h1 h2 => by omega⟩, ?_⟩
  rintro ⟨i, b, L, m, rows, top⟩ ⟨hi, L1, G, hp, r1, t0, t1, K, sk, kt, kb, -⟩
  simp only at hi hp r1 t0 t1 sk kt kb ⊢
  refine ⟨fun hlt => ?_, fun hge => ?_⟩
  · have hin : i < len := by omega
    have hwi := wrapL hin hlen
    refine ⟨⟨by omega, by omega⟩, by omega, fun h40 => ⟨⟨b, m, rows, IntKind.wrap .u32 (mark + xs.getD i 0)⟩, L1, G, hp, ⟨rfl, r1, sk.tidy.1⟩, fun n La ⟨m', rows', ha, r1'⟩ => ⟨fun hn => ?_, fun hn => ?_⟩⟩, fun h40 => ?_⟩
    · obtain ⟨K', s1, s2, s3⟩ := (top_add sk kt kb (hbd i).1 (by have := (hbd i).2; omega) ha).1 hn
      have := hbd i
      exact ⟨⟨i + 1, b, La ++ G, m', rows', max top (xs.getD i 0)⟩, by simp only; omega, ⟨⟨hwi, by simp⟩, ⟨by trivial, by simp⟩, rfl, trivial⟩, by simp only; omega, La, G, List.Perm.refl _, r1', by simp only; omega, by simp only; omega, K', s1, s2, s3, fun y h1 h2 => by omega⟩
    · have s1 := (top_add sk kt kb (hbd i).1 (by have := (hbd i).2; omega) ha).2 hn
      exact ⟨⟨i + 1, b, La ++ G, m', rows', top⟩, by simp only; omega, ⟨⟨hwi, by simp⟩, ⟨by trivial, by simp⟩, rfl, trivial⟩, by simp only; omega, La, G, List.Perm.refl _, r1', t0, t1, K, s1, kt, kb, fun y h1 h2 => by omega⟩
    · exact ⟨⟨i + 1, b, L, m, rows, top⟩, by simp only; omega, ⟨⟨hwi, by simp⟩, ⟨by trivial, by simp⟩, rfl, trivial⟩, by simp only; omega, L1, G, hp, r1, t0, t1, K, sk, kt, kb, fun y h1 h2 => by omega⟩
  · refine ⟨⟨1, b, L, m, rows, top⟩, ⟨by simp, by simp only; omega, by simp only; omega, L1, G, hp, r1, t0, t1, K, sk, kt, kb, fun y h1 h2 => ?_⟩, ?_⟩
    · have hy : y = 0 := by simp only at h2; omega
      subst hy
      obtain ⟨o, ho, -, -, hk, -⟩ := sk
      exact (hk 0).2 (.inl ⟨by omega, ho⟩)
    clear hge hp r1 t0 t1 sk kt kb
    rintro ⟨d, b, L, m, rows, top⟩ ⟨hd1, hd2, L1, G, hp, r1, t0, t1, K, sk, kt, kb, kf⟩
    simp only at hd1 hd2 hp r1 t0 t1 sk kt kb kf ⊢
    refine ⟨fun hlt => ⟨⟨b, m, rows, IntKind.wrap .u32 (mark + (d : Int))⟩, L1, G, hp, ⟨rfl, r1, sk.tidy.1⟩, fun n La ⟨m', rows', ha, r1'⟩ => ?_⟩, fun hgt => ?_⟩
    · obtain ⟨k1, k2, k3, k4, k5⟩ := sk.add (by omega) (by omega) ha
      have hn2 : n ≠ 2 := fun h => by
        obtain ⟨o, h1, h2, h3⟩ := k4 h
        exact h3 (kf _ (by omega) (by omega))
      refine ⟨⟨d + 1, b, La ++ G, m', rows', top⟩, by simp only; omega, ⟨⟨?_, by simp⟩, ⟨by trivial, by simp⟩, rfl, trivial⟩, by simp only; omega, by simp only; omega, La, G, List.Perm.refl _, r1', t0, t1, _, k1, .inl kt, fun y hy => ?_, fun y h1 h2 => ?_⟩
      · rw [u32_id (by omega) (by omega)]; rfl
      · rcases hy with hy | ⟨-, rfl⟩
        · exact kb y hy
        · exact hlt
      · by_cases hy : y = d
        · exact .inr ⟨hn2, hy⟩
        · exact .inl (kf y h1 (by simp only at h2; omega))
    · have hdt : (d : Int) = top + 1 := by omega
      rw [hdt] at kf
      obtain ⟨e1, e2⟩ := sk.full kb kt kf
      subst e2
      refine ⟨⟨b, m, []⟩, L1, G, hp, ⟨rfl, r1⟩, fun n La ⟨hn, r1⟩ => ⟨hn.trans e1, ⟨b, m, []⟩, La, G, List.Perm.refl _, ⟨rfl, r1, Good.nil⟩, fun n Lb ⟨hn, r1⟩ => ⟨hn, ⟨b, m, [], 9⟩, Lb, G, List.Perm.refl _, ⟨rfl, r1, Good.nil⟩, fun v Lc hv => ?_⟩⟩⟩
      have := gaps_none hv
      omega
theorem flNil_vc (o : Option Addr) (cap : Nat) (mark : Int) (hm0 : 0 ≤ mark) (hm1 : mark < 4294967296) :
    ∃ (x : Unit),
  ∃ (L : List (Nat × Go.Sx.Blk)),
    ∃ (G : List (Nat × Go.Sx.Blk)),
      List.Perm [] (L ++ G) ∧
        ((0 : Nat) = (0 : Nat) ∧ L = []) ∧
          ∀ (a : Unit) (L' : List (Nat × Go.Sx.Blk)),
            a = () →
              ∃ (x : Int),
                ∃ (L : List (Nat × Go.Sx.Blk)),
                  ∃ (G_1 : List (Nat × Go.Sx.Blk)),
                    List.Perm (L' ++ G) (L ++ G_1) ∧
                      ([Go.Value.int Go.IntKind.u32 mark] = [Go.Value.int Go.IntKind.u32 x] ∧ L = []) ∧
                        ∀ (a : Nat) (L' : List (Nat × Go.Sx.Blk)),
                          SetRep a x [] L' →
                            ∃ (x0 : FX),
                              ((((0 : Int) = (↑x0.1 : Int) ∧
                                      Go.Value.pointer (Option.some { block := a, off := (0 : Nat) }) = Go.Value.pointer (Option.some { block := x0.2, off := (0 : Nat) }) ∧
                                        (0 : Int) = x0.6 ∧
                                          mark = mark ∧
                                            Go.Value.slice o (0 : Nat) cap = Go.Value.slice o (0 : Nat) cap ∧
                                              Go.Value.slice o (0 : Nat) cap = Go.Value.slice o (0 : Nat) cap ∧ (↑(0 : Nat) : Int) = (↑(0 : Nat) : Int) ∧ True) ∧
                                    L' ++ G_1 = x0.3 ∧ True) ∧
                                  x0.1 ≤ (0 : Nat) ∧ flTop mark x0 (0 : Int)) ∧
                                ∀ (x : FX),
                                  x.1 ≤ (0 : Nat) ∧ flTop mark x (0 : Int) →
                                    ((↑x.1 : Int) < (↑(0 : Nat) : Int) → False) ∧
                                      (¬(↑x.1 : Int) < (↑(0 : Nat) : Int) →
                                        ∃ (x0 : FX),
                                          ((((1 : Int) = (↑x0.1 : Int) ∧
                                                  Go.Value.pointer (Option.some { block := x.2, off := (0 : Nat) }) = Go.Value.pointer (Option.some { block := x0.2, off := (0 : Nat) }) ∧
                                                    x.6 = x0.6 ∧ mark = mark ∧ True) ∧
                                                x.3 = x0.3 ∧ True) ∧
                                              (1 : Nat) ≤ x0.1 ∧ (↑x0.1 : Int) ≤ x0.6 + (1 : Int) ∧ flTop mark x0 (↑x0.1 : Int)) ∧
                                            ∀ (x : FX),
                                              (1 : Nat) ≤ x.1 ∧ (↑x.1 : Int) ≤ x.6 + (1 : Int) ∧ flTop mark x (↑x.1 : Int) →
                                                ((↑x.1 : Int) ≤ x.6 →
                                                    ∃ (x_1 : TX),
                                                      ∃ (L : List (Nat × Go.Sx.Blk)),
                                                        ∃ (G : List (Nat × Go.Sx.Blk)),
                                                          List.Perm x.3 (L ++ G) ∧
                                                            ([Go.Value.pointer (Option.some { block := x.2, off := (0 : Nat) }),
                                                                    Go.Value.int Go.IntKind.u32 (Go.IntKind.wrap Go.IntKind.u32 (mark + (↑x.1 : Int)))] =
                                                                  [Go.Value.pointer (Option.some { block := x_1.1, off := (0 : Nat) }), Go.Value.int Go.IntKind.u32 x_1.4] ∧
                                                                SetRep x_1.1 x_1.2 x_1.3 L ∧ Good x_1.3) ∧
                                                              ∀ (a : Int) (L' : List (Nat × Go.Sx.Blk)),
                                                                (∃ (mark' : Int),
                                                                    ∃ (rows' : List (Int × Int)),
                                                                      AddS x_1.2 x_1.3 x_1.4 a mark' rows' ∧ SetRep x_1.1 mark' rows' L') →
                                                                  ∃ (y : FX),
                                                                    Int.toNat y.6 + (1 : Nat) - y.1 < Int.toNat x.6 + (1 : Nat) - x.1 ∧
                                                                      ((Go.IntKind.wrap Go.IntKind.u32 ((↑x.1 : Int) + (1 : Int)) = (↑y.1 : Int) ∧
                                                                            Go.Value.pointer (Option.some { block := x.2, off := (0 : Nat) }) =
                                                                                Go.Value.pointer (Option.some { block := y.2, off := (0 : Nat) }) ∧
                                                                              x.6 = y.6 ∧ mark = mark ∧ True) ∧
                                                                          L' ++ G = y.3 ∧ True) ∧
                                                                        (1 : Nat) ≤ y.1 ∧ (↑y.1 : Int) ≤ y.6 + (1 : Int) ∧ flTop mark y (↑y.1 : Int)) ∧
                                                  (¬(↑x.1 : Int) ≤ x.6 →
                                                    ∃ (x_1 : SX),
                                                      ∃ (L : List (Nat × Go.Sx.Blk)),
                                                        ∃ (G : List (Nat × Go.Sx.Blk)),
                                                          List.Perm x.3 (L ++ G) ∧
                                                            ([Go.Value.pointer (Option.some { block := x.2, off := (0 : Nat) })] =
                                                                  [Go.Value.pointer (Option.some { block := x_1.1, off := (0 : Nat) })] ∧
                                                                SetRep x_1.1 x_1.2 x_1.3 L) ∧
                                                              ∀ (a : Int) (L' : List (Nat × Go.Sx.Blk)),
                                                                a = x_1.2 ∧ SetRep x_1.1 x_1.2 x_1.3 L' →
                                                                  a = Go.IntKind.wrap Go.IntKind.u32 (mark + x.6) ∧
                                                                    ∃ (x_2 : SX),
                                                                      ∃ (L : List (Nat × Go.Sx.Blk)),
                                                                        ∃ (G_2 : List (Nat × Go.Sx.Blk)),
                                                                          List.Perm (L' ++ G) (L ++ G_2) ∧
                                                                            ([Go.Value.pointer (Option.some { block := x.2, off := (0 : Nat) })] =
                                                                                  [Go.Value.pointer (Option.some { block := x_2.1, off := (0 : Nat) })] ∧
                                                                                SetRep x_2.1 x_2.2 x_2.3 L ∧ Good x_2.3) ∧
                                                                              ∀ (a : Int) (L' : List (Nat × Go.Sx.Blk)),
                                                                                a = lenF x_2.3 ∧ SetRep x_2.1 x_2.2 x_2.3 L' →
                                                                                  a = (0 : Int) ∧
                                                                                    ∃ (x_3 : TX),
                                                                                      ∃ (L : List (Nat × Go.Sx.Blk)),
                                                                                        ∃ (G : List (Nat × Go.Sx.Blk)),
                                                                                          List.Perm (L' ++ G_2) (L ++ G) ∧
                                                                                            ([Go.Value.pointer (Option.some { block := x.2, off := (0 : Nat) }),
                                                                                                    Go.Value.int Go.IntKind.i64 (9 : Int)] =
                                                                                                  [Go.Value.pointer (Option.some { block := x_3.1, off := (0 : Nat) }),
                                                                                                    Go.Value.int Go.IntKind.i64 x_3.4] ∧
                                                                                                SetRep x_3.1 x_3.2 x_3.3 L ∧ Good x_3.3) ∧
                                                                                              ∀ (a : VS) (L' : List (Nat × Go.Sx.Blk)),
                                                                                                GpR x_3.1 x_3.2 x_3.4 x_3.3 (Go.Value.slice a.1 a.2 a.3) L' →
                                                                                                  (↑a.2 : Int) = (0 : Int))) := by
  refine ⟨(), [], [], by simp, ⟨by trivial, rfl⟩, fun _ L0 _ => ?_⟩
  refine ⟨mark, [], L0 ++ [], by simp, ⟨rfl, rfl⟩, fun b La rA => ?_⟩
  refine ⟨⟨0, b, La ++ (L0 ++ []), mark, [], 0⟩, ⟨by simp, Nat.zero_le _, La, L0 ++ [], List.Perm.refl _, rA, by simp only; omega, by simp only; omega, _, St.start hm0 hm1, rfl, fun y hy => by simp only; omega, fun y h1 h2 => by omega⟩, ?_⟩
  rintro ⟨i, b, L, m, rows, top⟩ ⟨hi, L1, G, hp, r1, t0, t1, K, sk, kt, kb, -⟩
  simp only at hi hp r1 t0 t1 sk kt kb ⊢
  refine ⟨fun hlt => by omega, fun hge => ?_⟩
  refine ⟨⟨1, b, L, m, rows, top⟩, ⟨by simp, by simp only; omega, by simp only; omega, L1, G, hp, r1, t0, t1, K, sk, kt, kb, fun y h1 h2 => ?_⟩, ?_⟩
  · have hy : y = 0 := by simp only at h2; omega
    subst hy
    obtain ⟨o, ho, -, -, hk, -⟩ := sk
    exact (hk 0).2 (.inl ⟨by omega, ho⟩)
  clear hge hp r1 t0 t1 sk kt kb
  rintro ⟨d, b, L, m, rows, top⟩ ⟨hd1, hd2, L1, G, hp, r1, t0, t1, K, sk, kt, kb, kf⟩
  simp only at hd1 hd2 hp r1 t0 t1 sk kt kb kf ⊢
  refine ⟨fun hlt => ⟨⟨b, m, rows, IntKind.wrap .u32 (mark + (d : Int))⟩, L1, G, hp, ⟨rfl, r1, sk.tidy.1⟩, fun n La ⟨m', rows', ha, r1'⟩ => ?_⟩, fun hgt => ?_⟩
  · obtain ⟨k1, k2, k3, k4, k5⟩ := sk.add (by omega) (by omega) ha
    have hn2 : n ≠ 2 := fun h => by
      obtain ⟨o, h1, h2, h3⟩ := k4 h
      exact h3 (kf _ (by omega) (by omega))
    refine ⟨⟨d + 1, b, La ++ G, m', rows', top⟩, by simp only; omega, ⟨⟨?_, by simp⟩, rfl, trivial⟩, by simp only; omega, by simp only; omega, La, G, List.Perm.refl _, r1', t0, t1, _, k1, .inl kt, fun y hy => ?_, fun y h1 h2 => ?_⟩
    · rw [u32_id (by omega) (by omega)]; rfl
    · rcases hy with hy | ⟨-, rfl⟩
      · exact kb y hy
      · exact hlt
    · by_cases hy : y = d
      · exact .inr ⟨hn2, hy⟩
      · exact .inl (kf y h1 (by simp only at h2; omega))
  · have hdt : (d : Int) = top + 1 := by omega
    rw [hdt] at kf
    obtain ⟨e1, e2⟩ := sk.full kb kt kf
    subst e2
    refine ⟨⟨b, m, []⟩, L1, G, hp, ⟨rfl, r1⟩, fun n La ⟨hn, r1⟩ => ⟨hn.trans e1, ⟨b, m, []⟩, La, G, List.Perm.refl _, ⟨rfl, r1, Good.nil⟩, fun n Lb ⟨hn, r1⟩ => ⟨hn, ⟨b, m, [], 9⟩, Lb, G, List.Perm.refl _, ⟨rfl, r1, Good.nil⟩, fun v Lc hv => ?_⟩⟩⟩
    have := gaps_none hv
    omega
theorem fl_goal (bd t base len cap : Nat) (xs : List Int) (mark : Int) (hlc : len ≤ cap) (hlen : len ≤ 9223372036854775807) (hm0 : 0 ≤ mark) (hm1 : mark < 4294967296) (hx : ∀ z ∈ xs, 0 ≤ z ∧ z < 65536) :
    flGoal bd t base len cap xs mark := Eq.mpr (by kernel_rfl) (fl_vc bd t base len cap xs mark hlc hlen hm0 hm1 hx)
theorem flNil_goal (o : Option Addr) (cap : Nat) (mark : Int) (hm0 : 0 ≤ mark) (hm1 : mark < 4294967296) : flNilGoal o cap mark := Eq.mpr (by kernel_rfl) (flNil_vc o cap mark hm0 hm1)
end Go.Proofs.Ytmjhfnmkegdafaa
