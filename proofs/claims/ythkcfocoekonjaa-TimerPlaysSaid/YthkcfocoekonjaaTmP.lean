/- Timers: the law TimerNext. -/
import Derived.Test.YthkcfocoekonjaaTmO


set_option maxRecDepth 100000
set_option linter.unusedVariables false
set_option linter.unusedSimpArgs false
namespace Go.Proofs.Ythkcfocoekonjaa
open Go Go.Sx
attribute [local irreducible] Go.Sx.xrun

structure ImX where
  i : Nat
  m : Nat
structure NnX where
  k : Nat
  seen : Nat
  va : Sl
  L : Blks
structure NcX where
  S : List Row
  va : Sl
  L : Blks
def nF (xs : List Int) (j : Nat) : Row := (xs.getD j 0, (j : Int) - 25)
def neInv1 (xs : List Int) (n : Nat) (x : OneX) : Prop := x.i ≤ n ∧ ∃ L1 G S, x.L.Perm (L1 ++ G) ∧ QRep S (.slice x.va.o x.va.l x.va.c) L1 ∧ S.length = x.i ∧ ∀ r ∈ S, ∃ j, j < x.i ∧ r = nF xs j
def neInv2 (xs : List Int) (n : Nat) (x : NnX) : Prop := x.k ≤ n ∧ x.k ≤ x.seen ∧ ∃ L1 G S, x.L.Perm (L1 ++ G) ∧ QRep S (.slice x.va.o x.va.l x.va.c) L1 ∧ x.seen + S.length = n ∧ ∀ r ∈ S, ∃ j, j < n ∧ r = nF xs j
noncomputable def Ann.ne (xs : List Int) (n : Nat) : FnAnn := ⟨[], [(6, ⟨OneX, [
  (fun σ x => ⟨σ.n, (20, .val (.int .i64 x.i)) :: keepE σ.env [0, 3, 4, 19], Ann.vals (Ann.chunk σ.heap x.L) [x.va]⟩, fun _ x => neInv1 xs n x)], fun x => n - x.i⟩),
  (1000010, ⟨OneX, [(fun σ x => ⟨σ.n, keepE σ.env [0, 3, 4], Ann.vals (Ann.chunk σ.heap x.L) [x.va]⟩, fun _ x => neInv1 xs n x ∧ x.i = n)], fun _ => 0⟩),
  (12, ⟨NnX, [
  (fun σ x => ⟨σ.n, (32, .val (.int .i64 x.k)) :: (6, .val (.int .i64 x.seen)) :: keepE σ.env [0, 3, 4, 31], Ann.vals (Ann.chunk σ.heap x.L) [x.va]⟩, fun _ x => neInv2 xs n x)], fun x => n - x.k⟩),
  (1000017, ⟨NcX, [(fun σ x => ⟨σ.n, keepE σ.env [0, 3, 4, 6, 7, 31, 32], Ann.vals (Ann.chunk σ.heap x.L) [x.va]⟩, fun x0 x => x.S = x0.S ∧ ∃ L1 G, x.L.Perm (L1 ++ G) ∧ QRep x0.S (.slice x.va.o x.va.l x.va.c) L1)], fun _ => 0⟩),
  (21, ⟨ImX, [(fun σ x => ⟨σ.n, (56, .val (.int .i64 x.i)) :: keepE σ.env [0, 3, 4, 6, 7, 9, 31, 32, 54, 55], σ.heap⟩, fun x0 x => x.m = x0.m ∧ x.i ≤ x.m)], fun x => x.m - x.i⟩),
  (1000028, ⟨OneX, [(fun σ x => ⟨σ.n, (6, .val (.int .i64 n)) :: keepE σ.env [0, 3, 4], Ann.vals (Ann.chunk σ.heap x.L) [x.va]⟩, fun _ x => ∃ L1 G, x.L.Perm (L1 ++ G) ∧ QRep [] (.slice x.va.o x.va.l x.va.c) L1)], fun _ => 0⟩)]⟩
noncomputable def neGoal (bd t base len cap n : Nat) (xs : List Int) : Prop :=
  xrun Go.Proofs.Try.prog tbl2T [(9, Ann.ne xs n)] [([], (48, false)), ([], (53, false)), ([], (66, false)), ([], (80, true)), ([], (84, true))] 9 [] 9
    [.slc 0 0 len cap] [.ro bd (.tab t base cap [.ints .u64 xs]), .chunk []] fun s h => bOf s fun p => p
noncomputable def neNilGoal (o : Option Addr) (cap : Nat) : Prop :=
  xrun Go.Proofs.Try.prog tbl2T [(9, Ann.ne [] 0)] [([], (21, false)), ([], (33, false)), ([], (80, true)), ([], (84, true))] 9 [] 9 [.val (.slice o 0 cap)] [.chunk []] fun s h => bOf s fun p => p

theorem getD_bd {xs : List Int} (hz : ∀ z ∈ xs, 0 ≤ z ∧ z < 18446744073709551616) (j : Nat) : 0 ≤ xs.getD j 0 ∧ xs.getD j 0 < 18446744073709551616 := by
  rw [List.getD_eq_getElem?_getD]
  cases h : xs[j]? with
  | none => simp
  | some z => simpa using hz z (List.mem_of_getElem? h)
theorem due_before {now : Int} {S out S' : List Row} (h : DueP now S out S') (hl : ∀ r ∈ S, now < r.1) : out = [] ∧ S'.Perm S := by
  have h1 : out = [] := by
    cases out with
    | nil => rfl
    | cons a l =>
      have k1 := h.2.2.1 a (by simp)
      have k2 := hl a (h.1.mem_iff.2 (by simp))
      omega
  subst h1
  exact ⟨rfl, h.1.symm⟩
theorem ne_vc (bd t base len cap n : Nat) (xs : List Int) (hn : n = min len 50) (h0 : 0 < len) (hlc : len ≤ cap) (hx : xs.length = cap) (hz : ∀ z ∈ xs, 0 ≤ z ∧ z < 18446744073709551616) :
    ∃ (x : Unit),
  ∃ (L : List (Nat × Go.Sx.Blk)),
    ∃ (G : List (Nat × Go.Sx.Blk)),
      List.Perm [] (L ++ G) ∧
        ((0 : Nat) = (0 : Nat) ∧ L = []) ∧
          ∀ (a : Unit) (L' : List (Nat × Go.Sx.Blk)),
            a = () →
              ∀ (b : Nat),
                ∃ (x0 : OneX),
                  (∃ (x0 : OneX),
                      ((((0 : Int) = (↑x0.1 : Int) ∧
                              ((0 : Nat) = (0 : Nat) ∧ len = len ∧ cap = cap) ∧
                                ((0 : Nat) = (0 : Nat) ∧ (0 : Nat) = (0 : Nat)) ∧
                                  Min.min (↑len : Int) (50 : Int) = Min.min (↑len : Int) (50 : Int) ∧ Min.min (↑len : Int) (50 : Int) = Min.min (↑len : Int) (50 : Int) ∧ True) ∧
                            (bd = bd ∧ bif Nat.beq t t then base = base ∧ cap = cap ∧ xs = xs ∧ True else False) ∧
                              L' ++ G = x0.3 ∧ (b = b ∧ Go.Value.slice Option.none (0 : Nat) (0 : Nat) = Go.Value.slice x0.2.1 x0.2.2 x0.2.3 ∧ True) ∧ True) ∧
                          neInv1 xs n x0) ∧
                        ∀ (x : OneX),
                          neInv1 xs n x →
                            ((↑x.1 : Int) < Min.min (↑len : Int) (50 : Int) →
                                ((0 : Int) ≤ (↑x.1 : Int) ∧ (↑x.1 : Int) < (↑len : Int)) ∧
                                  (0 : Nat) + x.1 < cap ∧
                                    ∃ (x_1 : KX),
                                      ∃ (L : List (Nat × Go.Sx.Blk)),
                                        ∃ (G : List (Nat × Go.Sx.Blk)),
                                          List.Perm x.3 (L ++ G) ∧
                                            ([Go.Value.int Go.IntKind.i64 (Go.IntKind.wrap Go.IntKind.i64 ((↑x.1 : Int) - (25 : Int))),
                                                    Go.Value.int Go.IntKind.u64 (List.getD xs ((0 : Nat) + x.1) (0 : Int))] =
                                                  [Go.Value.int Go.IntKind.i64 x_1.2, Go.Value.int Go.IntKind.u64 x_1.3] ∧
                                                QRep x_1.1 (Go.Value.slice x.2.1 x.2.2 x.2.3) L ∧ List.length x_1.1 + (1 : Nat) < (1000000 : Nat)) ∧
                                              ∀ (a : Unit) (s : Sl) (L' : List (Nat × Go.Sx.Blk)),
                                                (∃ (S' : List Row),
                                                    SetP x_1.2 x_1.3 x_1.1 S' ∧ QRep S' (Go.Value.slice s.1 s.2 s.3) L') →
                                                  ∃ (y : OneX),
                                                    n - y.1 < n - x.1 ∧
                                                      ((Go.IntKind.wrap Go.IntKind.i64 ((↑x.1 : Int) + (1 : Int)) = (↑y.1 : Int) ∧
                                                            ((0 : Nat) = (0 : Nat) ∧ len = len ∧ cap = cap) ∧
                                                              ((0 : Nat) = (0 : Nat) ∧ (0 : Nat) = (0 : Nat)) ∧
                                                                Min.min (↑len : Int) (50 : Int) = Min.min (↑len : Int) (50 : Int) ∧
                                                                  Min.min (↑len : Int) (50 : Int) = Min.min (↑len : Int) (50 : Int) ∧ True) ∧
                                                          (bd = bd ∧ bif Nat.beq t t then base = base ∧ cap = cap ∧ xs = xs ∧ True else False) ∧
                                                            L' ++ G = y.3 ∧ (b = b ∧ Go.Value.slice s.1 s.2 s.3 = Go.Value.slice y.2.1 y.2.2 y.2.3 ∧ True) ∧ True) ∧
                                                        neInv1 xs n y) ∧
                              (¬(↑x.1 : Int) < Min.min (↑len : Int) (50 : Int) →
                                ∃ (y : OneX),
                                  ((((0 : Nat) = (0 : Nat) ∧ len = len ∧ cap = cap) ∧
                                        ((0 : Nat) = (0 : Nat) ∧ (0 : Nat) = (0 : Nat)) ∧ Min.min (↑len : Int) (50 : Int) = Min.min (↑len : Int) (50 : Int) ∧ True) ∧
                                      (bd = bd ∧ bif Nat.beq t t then base = base ∧ cap = cap ∧ xs = xs ∧ True else False) ∧
                                        x.3 = y.3 ∧ (b = b ∧ Go.Value.slice x.2.1 x.2.2 x.2.3 = Go.Value.slice y.2.1 y.2.2 y.2.3 ∧ True) ∧ True) ∧
                                    neInv1 xs n y ∧ y.1 = n)) ∧
                    ∀ (x : OneX),
                      neInv1 xs n x ∧ x.1 = n →
                        ∃ (x0 : OneX),
                          (∃ (x0 : NnX),
                              ((((0 : Int) = (↑x0.1 : Int) ∧
                                      (0 : Int) = (↑x0.2 : Int) ∧
                                        ((0 : Nat) = (0 : Nat) ∧ len = len ∧ cap = cap) ∧
                                          ((0 : Nat) = (0 : Nat) ∧ (0 : Nat) = (0 : Nat)) ∧
                                            Min.min (↑len : Int) (50 : Int) = Min.min (↑len : Int) (50 : Int) ∧ Min.min (↑len : Int) (50 : Int) = Min.min (↑len : Int) (50 : Int) ∧ True) ∧
                                    (bd = bd ∧ bif Nat.beq t t then base = base ∧ cap = cap ∧ xs = xs ∧ True else False) ∧
                                      x.3 = x0.4 ∧ (b = b ∧ Go.Value.slice x.2.1 x.2.2 x.2.3 = Go.Value.slice x0.3.1 x0.3.2 x0.3.3 ∧ True) ∧ True) ∧
                                  neInv2 xs n x0) ∧
                                ∀ (x : NnX),
                                  neInv2 xs n x →
                                    ((↑x.1 : Int) < Min.min (↑len : Int) (50 : Int) →
                                        ∃ (x_1 : List Row),
                                          ∃ (L : List (Nat × Go.Sx.Blk)),
                                            ∃ (G : List (Nat × Go.Sx.Blk)),
                                              List.Perm x.4 (L ++ G) ∧
                                                ((0 : Nat) = (0 : Nat) ∧ QRep x_1 (Go.Value.slice x.3.1 x.3.2 x.3.3) L ∧ List.length x_1 < (1000000 : Nat)) ∧
                                                  ∀ (a : NX) (s : Sl) (L' : List (Nat × Go.Sx.Blk)),
                                                    nxF x_1 a.1 a.2 ∧ QRep x_1 (Go.Value.slice s.1 s.2 s.3) L' →
                                                      (¬a.2 →
                                                          ∃ (y : OneX),
                                                            (((↑x.2 : Int) = (↑n : Int) ∧
                                                                  ((0 : Nat) = (0 : Nat) ∧ len = len ∧ cap = cap) ∧
                                                                    ((0 : Nat) = (0 : Nat) ∧ (0 : Nat) = (0 : Nat)) ∧ Min.min (↑len : Int) (50 : Int) = Min.min (↑len : Int) (50 : Int) ∧ True) ∧
                                                                (bd = bd ∧ bif Nat.beq t t then base = base ∧ cap = cap ∧ xs = xs ∧ True else False) ∧
                                                                  L' ++ G = y.3 ∧ (b = b ∧ Go.Value.slice s.1 s.2 s.3 = Go.Value.slice y.2.1 y.2.2 y.2.3 ∧ True) ∧ True) ∧
                                                              ∃ (L1 : List (Nat × Go.Sx.Blk)),
                                                                ∃ (G : List (Nat × Go.Sx.Blk)), List.Perm y.3 (L1 ++ G) ∧ QRep [] (Go.Value.slice y.2.1 y.2.2 y.2.3) L1) ∧
                                                        (¬¬a.2 →
                                                          ∃ (x0 : NcX),
                                                            (((0 : Int) < a.1 →
                                                                  ∃ (S : List Row),
                                                                    ∃ (L : List (Nat × Go.Sx.Blk)),
                                                                      ∃ (G_1 : List (Nat × Go.Sx.Blk)),
                                                                        List.Perm (L' ++ G) (L ++ G_1) ∧
                                                                          (QRep S (Go.Value.slice s.1 s.2 s.3) L ∧ List.length S < (1000000 : Nat)) ∧
                                                                            (∀ (S' : List Row) (s : Sl) (L' : List (Nat × Go.Sx.Blk)),
                                                                                DueP (Go.IntKind.wrap Go.IntKind.u64 (a.1 - (1 : Int))) S [] S' →
                                                                                  QRep S' (Go.Value.slice s.1 s.2 s.3) L' →
                                                                                    ¬(↑(0 : Nat) : Int) ≠ (0 : Int) ∧
                                                                                      ∃ (y : NcX),
                                                                                        ((((0 : Nat) = (0 : Nat) ∧ len = len ∧ cap = cap) ∧
                                                                                              ((0 : Nat) = (0 : Nat) ∧ (0 : Nat) = (0 : Nat)) ∧
                                                                                                Min.min (↑len : Int) (50 : Int) = Min.min (↑len : Int) (50 : Int) ∧
                                                                                                  (↑x.2 : Int) = (↑x.2 : Int) ∧
                                                                                                    a.1 = a.1 ∧
                                                                                                      Min.min (↑len : Int) (50 : Int) = Min.min (↑len : Int) (50 : Int) ∧
                                                                                                        (↑x.1 : Int) = (↑x.1 : Int) ∧ True) ∧
                                                                                            (bd = bd ∧ bif Nat.beq t t then base = base ∧ cap = cap ∧ xs = xs ∧ True else False) ∧
                                                                                              L' ++ G_1 = y.3 ∧ (b = b ∧ Go.Value.slice s.1 s.2 s.3 = Go.Value.slice y.2.1 y.2.2 y.2.3 ∧ True) ∧ True) ∧
                                                                                          y.1 = x0.1 ∧
                                                                                            ∃ (L1 : List (Nat × Go.Sx.Blk)),
                                                                                              ∃ (G : List (Nat × Go.Sx.Blk)),
                                                                                                List.Perm y.3 (L1 ++ G) ∧ QRep x0.1 (Go.Value.slice y.2.1 y.2.2 y.2.3) L1) ∧
                                                                              ∀ (out S' : List Row) (s : Sl) (L' : List (Nat × Go.Sx.Blk))
                                                                                (b' base' cap' : Nat) (zs' : List Int),
                                                                                DueP (Go.IntKind.wrap Go.IntKind.u64 (a.1 - (1 : Int))) S out S' →
                                                                                  QRep S' (Go.Value.slice s.1 s.2 s.3) L' →
                                                                                    (0 : Nat) < List.length out →
                                                                                      List.length out ≤ cap' →
                                                                                        List.length zs' = cap' →
                                                                                          List.take (List.length out) zs' = List.map (fun (x : Row) => x.2) out →
                                                                                            ¬(↑(List.length out) : Int) ≠ (0 : Int) ∧
                                                                                              ∃ (y : NcX),
                                                                                                ((((0 : Nat) = (0 : Nat) ∧ len = len ∧ cap = cap) ∧
                                                                                                      ((0 : Nat) = (0 : Nat) ∧ (0 : Nat) = (0 : Nat)) ∧
                                                                                                        Min.min (↑len : Int) (50 : Int) = Min.min (↑len : Int) (50 : Int) ∧
                                                                                                          (↑x.2 : Int) = (↑x.2 : Int) ∧
                                                                                                            a.1 = a.1 ∧
                                                                                                              Min.min (↑len : Int) (50 : Int) = Min.min (↑len : Int) (50 : Int) ∧
                                                                                                                (↑x.1 : Int) = (↑x.1 : Int) ∧ True) ∧
                                                                                                    (bd = bd ∧ bif Nat.beq t t then base = base ∧ cap = cap ∧ xs = xs ∧ True else False) ∧
                                                                                                      L' ++ G_1 = y.3 ∧
                                                                                                        (b = b ∧ Go.Value.slice s.1 s.2 s.3 = Go.Value.slice y.2.1 y.2.2 y.2.3 ∧ True) ∧ True) ∧
                                                                                                  y.1 = x0.1 ∧
                                                                                                    ∃ (L1 : List (Nat × Go.Sx.Blk)),
                                                                                                      ∃ (G : List (Nat × Go.Sx.Blk)),
                                                                                                        List.Perm y.3 (L1 ++ G) ∧
                                                                                                          QRep x0.1 (Go.Value.slice y.2.1 y.2.2 y.2.3) L1) ∧
                                                                (¬(0 : Int) < a.1 →
                                                                  ∃ (y : NcX),
                                                                    ((((0 : Nat) = (0 : Nat) ∧ len = len ∧ cap = cap) ∧
                                                                          ((0 : Nat) = (0 : Nat) ∧ (0 : Nat) = (0 : Nat)) ∧
                                                                            Min.min (↑len : Int) (50 : Int) = Min.min (↑len : Int) (50 : Int) ∧
                                                                              (↑x.2 : Int) = (↑x.2 : Int) ∧
                                                                                a.1 = a.1 ∧ Min.min (↑len : Int) (50 : Int) = Min.min (↑len : Int) (50 : Int) ∧ (↑x.1 : Int) = (↑x.1 : Int) ∧ True) ∧
                                                                        (bd = bd ∧ bif Nat.beq t t then base = base ∧ cap = cap ∧ xs = xs ∧ True else False) ∧
                                                                          L' ++ G = y.3 ∧ (b = b ∧ Go.Value.slice s.1 s.2 s.3 = Go.Value.slice y.2.1 y.2.2 y.2.3 ∧ True) ∧ True) ∧
                                                                      y.1 = x0.1 ∧
                                                                        ∃ (L1 : List (Nat × Go.Sx.Blk)),
                                                                          ∃ (G : List (Nat × Go.Sx.Blk)),
                                                                            List.Perm y.3 (L1 ++ G) ∧ QRep x0.1 (Go.Value.slice y.2.1 y.2.2 y.2.3) L1)) ∧
                                                              ∀ (x_2 : NcX),
                                                                (x_2.1 = x0.1 ∧
                                                                    ∃ (L1 : List (Nat × Go.Sx.Blk)),
                                                                      ∃ (G : List (Nat × Go.Sx.Blk)),
                                                                        List.Perm x_2.3 (L1 ++ G) ∧ QRep x0.1 (Go.Value.slice x_2.2.1 x_2.2.2 x_2.2.3) L1) →
                                                                  ∃ (S : List Row),
                                                                    ∃ (L : List (Nat × Go.Sx.Blk)),
                                                                      ∃ (G : List (Nat × Go.Sx.Blk)),
                                                                        List.Perm x_2.3 (L ++ G) ∧
                                                                          (QRep S (Go.Value.slice x_2.2.1 x_2.2.2 x_2.2.3) L ∧ List.length S < (1000000 : Nat)) ∧
                                                                            (∀ (S' : List Row) (s : Sl) (L' : List (Nat × Go.Sx.Blk)),
                                                                                DueP a.1 S [] S' →
                                                                                  QRep S' (Go.Value.slice s.1 s.2 s.3) L' →
                                                                                    ¬(↑(0 : Nat) : Int) = (0 : Int) ∧
                                                                                      ∃ (x0 : ImX),
                                                                                        ((((0 : Int) = (↑x0.1 : Int) ∧
                                                                                                ((0 : Nat) = (0 : Nat) ∧ len = len ∧ cap = cap) ∧
                                                                                                  ((0 : Nat) = (0 : Nat) ∧ (0 : Nat) = (0 : Nat)) ∧
                                                                                                    Min.min (↑len : Int) (50 : Int) = Min.min (↑len : Int) (50 : Int) ∧
                                                                                                      (↑x.2 : Int) = (↑x.2 : Int) ∧
                                                                                                        a.1 = a.1 ∧
                                                                                                          Go.Value.slice Option.none (0 : Nat) (0 : Nat) =
                                                                                                              Go.Value.slice Option.none (0 : Nat) (0 : Nat) ∧
                                                                                                            Min.min (↑len : Int) (50 : Int) = Min.min (↑len : Int) (50 : Int) ∧
                                                                                                              (↑x.1 : Int) = (↑x.1 : Int) ∧
                                                                                                                Go.Value.slice Option.none (0 : Nat) (0 : Nat) =
                                                                                                                    Go.Value.slice Option.none (0 : Nat) (0 : Nat) ∧
                                                                                                                  (↑(0 : Nat) : Int) = (↑(0 : Nat) : Int) ∧ True) ∧
                                                                                              (bd = bd ∧ bif Nat.beq t t then base = base ∧ cap = cap ∧ xs = xs ∧ True else False) ∧
                                                                                                L' ++ G = L' ++ G ∧ (b = b ∧ Go.Value.slice s.1 s.2 s.3 = Go.Value.slice s.1 s.2 s.3 ∧ True) ∧ True) ∧
                                                                                            x0.2 = x0.2 ∧ x0.1 ≤ x0.2) ∧
                                                                                          ∀ (x_3 : ImX),
                                                                                            x_3.2 = x0.2 ∧ x_3.1 ≤ x_3.2 →
                                                                                              ((↑x_3.1 : Int) < (↑(0 : Nat) : Int) → False) ∧
                                                                                                (¬(↑x_3.1 : Int) < (↑(0 : Nat) : Int) →
                                                                                                  ∃ (y : NnX),
                                                                                                    n - y.1 < n - x.1 ∧
                                                                                                      ((Go.IntKind.wrap Go.IntKind.i64 ((↑x.1 : Int) + (1 : Int)) = (↑y.1 : Int) ∧
                                                                                                            Go.IntKind.wrap Go.IntKind.i64 ((↑x.2 : Int) + (↑(0 : Nat) : Int)) = (↑y.2 : Int) ∧
                                                                                                              ((0 : Nat) = (0 : Nat) ∧ len = len ∧ cap = cap) ∧
                                                                                                                ((0 : Nat) = (0 : Nat) ∧ (0 : Nat) = (0 : Nat)) ∧
                                                                                                                  Min.min (↑len : Int) (50 : Int) = Min.min (↑len : Int) (50 : Int) ∧
                                                                                                                    Min.min (↑len : Int) (50 : Int) = Min.min (↑len : Int) (50 : Int) ∧ True) ∧
                                                                                                          (bd = bd ∧ bif Nat.beq t t then base = base ∧ cap = cap ∧ xs = xs ∧ True else False) ∧
                                                                                                            L' ++ G = y.4 ∧
                                                                                                              (b = b ∧ Go.Value.slice s.1 s.2 s.3 = Go.Value.slice y.3.1 y.3.2 y.3.3 ∧ True) ∧ True) ∧
                                                                                                        neInv2 xs n y)) ∧
                                                                              ∀ (out S' : List Row) (s : Sl) (L' : List (Nat × Go.Sx.Blk))
                                                                                (b' base' cap' : Nat) (zs' : List Int),
                                                                                DueP a.1 S out S' →
                                                                                  QRep S' (Go.Value.slice s.1 s.2 s.3) L' →
                                                                                    (0 : Nat) < List.length out →
                                                                                      List.length out ≤ cap' →
                                                                                        List.length zs' = cap' →
                                                                                          List.take (List.length out) zs' = List.map (fun (x : Row) => x.2) out →
                                                                                            ¬(↑(List.length out) : Int) = (0 : Int) ∧
                                                                                              ∃ (x0 : ImX),
                                                                                                ((((0 : Int) = (↑x0.1 : Int) ∧
                                                                                                        ((0 : Nat) = (0 : Nat) ∧ len = len ∧ cap = cap) ∧
                                                                                                          ((0 : Nat) = (0 : Nat) ∧ (0 : Nat) = (0 : Nat)) ∧
                                                                                                            Min.min (↑len : Int) (50 : Int) = Min.min (↑len : Int) (50 : Int) ∧
                                                                                                              (↑x.2 : Int) = (↑x.2 : Int) ∧
                                                                                                                a.1 = a.1 ∧
                                                                                                                  ((0 : Nat) = (0 : Nat) ∧ List.length out = List.length out ∧ cap' = cap') ∧
                                                                                                                    Min.min (↑len : Int) (50 : Int) = Min.min (↑len : Int) (50 : Int) ∧
                                                                                                                      (↑x.1 : Int) = (↑x.1 : Int) ∧
                                                                                                                        ((0 : Nat) = (0 : Nat) ∧ List.length out = List.length out ∧ cap' = cap') ∧
                                                                                                                          (↑(List.length out) : Int) = (↑(List.length out) : Int) ∧ True) ∧
                                                                                                      (bd = bd ∧ bif Nat.beq t t then base = base ∧ cap = cap ∧ xs = xs ∧ True else False) ∧
                                                                                                        L' ++ G = L' ++ G ∧
                                                                                                          (b = b ∧ Go.Value.slice s.1 s.2 s.3 = Go.Value.slice s.1 s.2 s.3 ∧ True) ∧
                                                                                                            (b' = b' ∧ base' = base' ∧ cap' = cap' ∧ zs' = zs' ∧ True) ∧ True) ∧
                                                                                                    x0.2 = x0.2 ∧ x0.1 ≤ x0.2) ∧
                                                                                                  ∀ (x_3 : ImX),
                                                                                                    x_3.2 = x0.2 ∧ x_3.1 ≤ x_3.2 →
                                                                                                      ((↑x_3.1 : Int) < (↑(List.length out) : Int) →
                                                                                                          ((0 : Int) ≤ (↑x_3.1 : Int) ∧ (↑x_3.1 : Int) < (↑(List.length out) : Int)) ∧
                                                                                                            (0 : Nat) + x_3.1 < cap' ∧
                                                                                                              ((0 : Int) ≤
                                                                                                                    Go.IntKind.wrap Go.IntKind.i64
                                                                                                                      (List.getD zs' ((0 : Nat) + x_3.1) (0 : Int) + (25 : Int)) ∧
                                                                                                                  Go.IntKind.wrap Go.IntKind.i64
                                                                                                                      (List.getD zs' ((0 : Nat) + x_3.1) (0 : Int) + (25 : Int)) <
                                                                                                                    (↑len : Int)) ∧
                                                                                                                (0 : Nat) +
                                                                                                                      Int.toNat
                                                                                                                        (Go.IntKind.wrap Go.IntKind.i64
                                                                                                                          (List.getD zs' ((0 : Nat) + x_3.1) (0 : Int) + (25 : Int))) <
                                                                                                                    cap ∧
                                                                                                                  ¬List.getD xs
                                                                                                                          ((0 : Nat) +
                                                                                                                            Int.toNat
                                                                                                                              (Go.IntKind.wrap Go.IntKind.i64
                                                                                                                                (List.getD zs' ((0 : Nat) + x_3.1) (0 : Int) + (25 : Int))))
                                                                                                                          (0 : Int) ≠
                                                                                                                        a.1 ∧
                                                                                                                    ∃ (y : ImX),
                                                                                                                      y.2 - y.1 < x_3.2 - x_3.1 ∧
                                                                                                                        ((Go.IntKind.wrap Go.IntKind.i64 ((↑x_3.1 : Int) + (1 : Int)) = (↑y.1 : Int) ∧
                                                                                                                              ((0 : Nat) = (0 : Nat) ∧ len = len ∧ cap = cap) ∧
                                                                                                                                ((0 : Nat) = (0 : Nat) ∧ (0 : Nat) = (0 : Nat)) ∧
                                                                                                                                  Min.min (↑len : Int) (50 : Int) = Min.min (↑len : Int) (50 : Int) ∧
                                                                                                                                    (↑x.2 : Int) = (↑x.2 : Int) ∧
                                                                                                                                      a.1 = a.1 ∧
                                                                                                                                        ((0 : Nat) = (0 : Nat) ∧
                                                                                                                                            List.length out = List.length out ∧ cap' = cap') ∧
                                                                                                                                          Min.min (↑len : Int) (50 : Int) =
                                                                                                                                              Min.min (↑len : Int) (50 : Int) ∧
                                                                                                                                            (↑x.1 : Int) = (↑x.1 : Int) ∧
                                                                                                                                              ((0 : Nat) = (0 : Nat) ∧
                                                                                                                                                  List.length out = List.length out ∧ cap' = cap') ∧
                                                                                                                                                (↑(List.length out) : Int) =
                                                                                                                                                    (↑(List.length out) : Int) ∧
                                                                                                                                                  True) ∧
                                                                                                                            (bd = bd ∧
                                                                                                                                bif Nat.beq t t then base = base ∧ cap = cap ∧ xs = xs ∧ True
                                                                                                                                else False) ∧
                                                                                                                              L' ++ G = L' ++ G ∧
                                                                                                                                (b = b ∧
                                                                                                                                    Go.Value.slice s.1 s.2 s.3 = Go.Value.slice s.1 s.2 s.3 ∧ True) ∧
                                                                                                                                  (b' = b' ∧ base' = base' ∧ cap' = cap' ∧ zs' = zs' ∧ True) ∧ True) ∧
                                                                                                                          y.2 = x0.2 ∧ y.1 ≤ y.2) ∧
                                                                                                        (¬(↑x_3.1 : Int) < (↑(List.length out) : Int) →
                                                                                                          ∃ (y : NnX),
                                                                                                            n - y.1 < n - x.1 ∧
                                                                                                              ((Go.IntKind.wrap Go.IntKind.i64 ((↑x.1 : Int) + (1 : Int)) = (↑y.1 : Int) ∧
                                                                                                                    Go.IntKind.wrap Go.IntKind.i64 ((↑x.2 : Int) + (↑(List.length out) : Int)) =
                                                                                                                        (↑y.2 : Int) ∧
                                                                                                                      ((0 : Nat) = (0 : Nat) ∧ len = len ∧ cap = cap) ∧
                                                                                                                        ((0 : Nat) = (0 : Nat) ∧ (0 : Nat) = (0 : Nat)) ∧
                                                                                                                          Min.min (↑len : Int) (50 : Int) = Min.min (↑len : Int) (50 : Int) ∧
                                                                                                                            Min.min (↑len : Int) (50 : Int) = Min.min (↑len : Int) (50 : Int) ∧ True) ∧
                                                                                                                  (bd = bd ∧ bif Nat.beq t t then base = base ∧ cap = cap ∧ xs = xs ∧ True else False) ∧
                                                                                                                    L' ++ G = y.4 ∧
                                                                                                                      (b = b ∧ Go.Value.slice s.1 s.2 s.3 = Go.Value.slice y.3.1 y.3.2 y.3.3 ∧ True) ∧
                                                                                                                        True) ∧
                                                                                                                neInv2 xs n y))) ∧
                                      (¬(↑x.1 : Int) < Min.min (↑len : Int) (50 : Int) →
                                        ∃ (y : OneX),
                                          (((↑x.2 : Int) = (↑n : Int) ∧
                                                ((0 : Nat) = (0 : Nat) ∧ len = len ∧ cap = cap) ∧
                                                  ((0 : Nat) = (0 : Nat) ∧ (0 : Nat) = (0 : Nat)) ∧ Min.min (↑len : Int) (50 : Int) = Min.min (↑len : Int) (50 : Int) ∧ True) ∧
                                              (bd = bd ∧ bif Nat.beq t t then base = base ∧ cap = cap ∧ xs = xs ∧ True else False) ∧
                                                x.4 = y.3 ∧ (b = b ∧ Go.Value.slice x.3.1 x.3.2 x.3.3 = Go.Value.slice y.2.1 y.2.2 y.2.3 ∧ True) ∧ True) ∧
                                            ∃ (L1 : List (Nat × Go.Sx.Blk)),
                                              ∃ (G : List (Nat × Go.Sx.Blk)), List.Perm y.3 (L1 ++ G) ∧ QRep [] (Go.Value.slice y.2.1 y.2.2 y.2.3) L1)) ∧
                            ∀ (x : OneX),
                              (∃ (L1 : List (Nat × Go.Sx.Blk)), ∃ (G : List (Nat × Go.Sx.Blk)), List.Perm x.3 (L1 ++ G) ∧ QRep [] (Go.Value.slice x.2.1 x.2.2 x.2.3) L1) →
                                ∃ (x_1 : List Row),
                                  ∃ (L : List (Nat × Go.Sx.Blk)),
                                    ∃ (G : List (Nat × Go.Sx.Blk)),
                                      List.Perm x.3 (L ++ G) ∧
                                        ((0 : Nat) = (0 : Nat) ∧ QRep x_1 (Go.Value.slice x.2.1 x.2.2 x.2.3) L ∧ List.length x_1 < (1000000 : Nat)) ∧
                                          ∀ (a : NX) (s : Sl) (L' : List (Nat × Go.Sx.Blk)),
                                            nxF x_1 a.1 a.2 ∧ QRep x_1 (Go.Value.slice s.1 s.2 s.3) L' →
                                              (↑n : Int) = Min.min (↑len : Int) (50 : Int) ∧
                                                ¬a.2 ∧
                                                  ∃ (x : List Row),
                                                    ∃ (L : List (Nat × Go.Sx.Blk)),
                                                      ∃ (G_1 : List (Nat × Go.Sx.Blk)),
                                                        List.Perm (L' ++ G) (L ++ G_1) ∧
                                                          ((0 : Nat) = (0 : Nat) ∧ QRep x (Go.Value.slice s.1 s.2 s.3) L) ∧
                                                            ∀ (a : Int) (s : Sl) (L' : List (Nat × Go.Sx.Blk)),
                                                              a = (↑(List.length x) : Int) ∧ QRep x (Go.Value.slice s.1 s.2 s.3) L' → a = (0 : Int) := by
  have hmin : Min.min (↑len : Int) (50 : Int) = (n : Int) := by subst hn; omega
  have hnl : n ≤ len := by subst hn; exact Nat.min_le_left _ _
  have hn50 : n ≤ 50 := by subst hn; exact Nat.min_le_right _ _
  have htt : Nat.beq t t = true := Nat.beq_refl t
  simp only [hmin, htt, cond_true, Nat.zero_add]
  refine ⟨(), [], [], by simp, ⟨trivial, rfl⟩, fun _ L' _ b => ?_⟩
  refine ⟨⟨0, ⟨none, 0, 0⟩, []⟩, ⟨⟨0, ⟨none, 0, 0⟩, L' ++ []⟩, ⟨by simp, Nat.zero_le _, [], L', [], by simp, QRep.nil, rfl, by simp⟩, fun x hx1 => ⟨fun hi => ?_, fun hi => ?_⟩⟩, fun x hx1 => ?_⟩
  · obtain ⟨h1, L1, G, S, hp, hq, hl, hS⟩ := hx1
    have w2 : IntKind.wrap .i64 ((x.i : Int) + 1) = ((x.i + 1 : Nat) : Int) := by rw [IntKind.wrap_i64]; omega
    have w3 : IntKind.wrap .i64 ((x.i : Int) - 25) = (x.i : Int) - 25 := by rw [IntKind.wrap_i64]; omega
    simp only [w2, w3]
    refine ⟨⟨by omega, by omega⟩, by omega, ⟨S, (x.i : Int) - 25, xs.getD x.i 0⟩, L1, G, hp, ⟨rfl, hq, by show S.length + 1 < _; omega⟩, fun _ s L2 ⟨S', hs, hq'⟩ => ?_⟩
    have e := set_new hs fun r hr h => by
      obtain ⟨j, hj, rfl⟩ := hS r hr
      simp [nF] at h
      omega
    subst e
    refine ⟨⟨x.i + 1, s, L2 ++ G⟩, by show n - (x.i + 1) < n - x.i; omega, by simp, by show x.i + 1 ≤ n; omega, L2, G, _, List.Perm.refl _, hq', by simp [hl], fun r hr => ?_⟩
    rcases List.mem_cons.1 hr with rfl | hr
    · exact ⟨x.i, Nat.lt_succ_self _, rfl⟩
    · obtain ⟨j, hj, e⟩ := hS r hr
      exact ⟨j, Nat.lt_succ_of_lt hj, e⟩
  · exact ⟨x, by simp, hx1, by have := hx1.1; omega⟩
  · obtain ⟨⟨h1, L1, G, S, hp, hq, hl, hS⟩, hi⟩ := hx1
    rw [hi] at hl hS
    refine ⟨x, ⟨⟨0, 0, x.va, x.L⟩, ⟨by simp, Nat.zero_le _, Nat.zero_le _, L1, G, S, hp, hq, by show 0 + S.length = n; omega, hS⟩, fun y hy => ⟨fun hk => ?_, fun hk => ?_⟩⟩, fun y ⟨L1, G, c1, c2⟩ => ?_⟩
    · obtain ⟨c1, c2, L1, G, S, c3, c4, c5, c6⟩ := hy
      refine ⟨S, L1, G, c3, ⟨trivial, c4, by omega⟩, fun a s L2 ⟨hn1, hq2⟩ => ⟨fun hnp => ?_, fun hnp => ?_⟩⟩
      · obtain ⟨rfl, -⟩ := hn1.1 hnp
        simp at c5
        exact ⟨⟨0, s, L2 ++ G⟩, by simp [c5], L2, G, List.Perm.refl _, hq2⟩
      · obtain ⟨r, r1, r2, r3⟩ := hn1.2 (Classical.not_not.1 hnp)
        have ha : 0 ≤ a.a ∧ a.a < 18446744073709551616 := by
          obtain ⟨j, -, rfl⟩ := c6 r r1
          rw [← r2]
          exact getD_bd hz j
        refine ⟨⟨S, s, []⟩, ⟨fun hpos => ?_, fun _ => ?_⟩, fun z ⟨_, L3, G3, z1, z2⟩ => ?_⟩
        · have w3 : IntKind.wrap .u64 (a.a - 1) = a.a - 1 := u64_id (by omega) (by omega)
          simp only [w3]
          refine ⟨S, L2, G, List.Perm.refl _, ⟨hq2, by omega⟩, fun S' s L4 hd hq4 => ⟨by simp, ⟨S, s, L4 ++ G⟩, by simp, rfl, L4, G, List.Perm.refl _, ?_⟩, fun out S' s L4 b' base' cap' zs' hd hq4 m1 m2 m3 m4 => ?_⟩
          · exact hq4.congr (due_before hd fun c hc => by have := r3 c hc; omega).2
          · rw [(due_before hd fun c hc => by have := r3 c hc; omega).1] at m1
            simp at m1
        · exact ⟨⟨S, s, L2 ++ G⟩, by simp, rfl, L2, G, List.Perm.refl _, hq2⟩
        · refine ⟨S, L3, G3, z1, ⟨z2, by omega⟩, fun S' s L4 hd hq4 => ?_, fun out S' s L4 b' base' cap' zs' hd hq4 m1 m2 m3 m4 => ?_⟩
          · have k1 := hd.1.mem_iff.1 r1
            have k2 := hd.2.2.2 r (by simpa using k1)
            omega
          · have hlen := hd.1.length_eq
            rw [List.length_append] at hlen
            refine ⟨by omega, ⟨0, out.length⟩, ⟨by simp, trivial, Nat.zero_le _⟩, fun v ⟨v1, v2⟩ => ⟨fun hv => ?_, fun hv => ?_⟩⟩
            · have v1 : v.m = out.length := v1
              have hv' : v.i < out.length := by omega
              have hmem : out[v.i] ∈ S := hd.1.mem_iff.2 (List.mem_append_left _ (List.getElem_mem hv'))
              obtain ⟨j, j1, j2⟩ := c6 _ hmem
              have e1 : zs'.getD v.i 0 = (j : Int) - 25 := by
                rw [take_getD m4 hv']
                simp [List.getD, List.getElem?_eq_getElem hv', j2, nF]
              have w4 : IntKind.wrap .i64 ((j : Int) - 25 + 25) = (j : Int) := by rw [IntKind.wrap_i64]; omega
              have w5 : IntKind.wrap .i64 ((v.i : Int) + 1) = ((v.i + 1 : Nat) : Int) := by rw [IntKind.wrap_i64]; omega
              have e2 : xs.getD j 0 = a.a := by
                have k1 := hd.2.2.1 _ (List.getElem_mem hv')
                have k2 := r3 _ hmem
                rw [j2] at k1 k2
                have k3 : (nF xs j).1 = xs.getD j 0 := rfl
                omega
              simp only [e1, w4, w5, Int.toNat_natCast, e2]
              exact ⟨by omega, by omega, by omega, by omega, by simp, ⟨v.i + 1, v.m⟩, by show v.m - (v.i + 1) < v.m - v.i; omega, by simp, v1, by show v.i + 1 ≤ v.m; omega⟩
            · have w5 : IntKind.wrap .i64 ((y.k : Int) + 1) = ((y.k + 1 : Nat) : Int) := by rw [IntKind.wrap_i64]; omega
              have w6 : IntKind.wrap .i64 ((y.seen : Int) + (out.length : Int)) = ((y.seen + out.length : Nat) : Int) := by rw [IntKind.wrap_i64]; omega
              simp only [w5, w6]
              refine ⟨⟨y.k + 1, y.seen + out.length, s, L4 ++ G3⟩, by show n - (y.k + 1) < n - y.k; omega, by simp, by show y.k + 1 ≤ n; omega, by show y.k + 1 ≤ y.seen + out.length; omega, L4, G3, S', List.Perm.refl _, hq4, by show y.seen + out.length + S'.length = n; omega, fun c hc => c6 c (hd.1.mem_iff.2 (List.mem_append_right _ hc))⟩
    · obtain ⟨c1, c2, L1, G, S, c3, c4, c5, c6⟩ := hy
      have : S = [] := List.eq_nil_of_length_eq_zero (by omega)
      subst this
      simp at c5
      exact ⟨⟨0, y.va, y.L⟩, by simp [c5], L1, G, c3, c4⟩
    · refine ⟨[], L1, G, c1, ⟨trivial, c2, by simp⟩, fun a s L2 ⟨k1, k2⟩ => ⟨trivial, fun hp => ?_, [], L2, G, List.Perm.refl _, ⟨trivial, k2⟩, fun a s L' ⟨e, _⟩ => by simp [e]⟩⟩
      obtain ⟨r, hr, -⟩ := k1.2 hp
      simp at hr
theorem neNil_vc (o : Option Addr) (cap : Nat) :
    ∃ (x : Unit),
  ∃ (L : List (Nat × Go.Sx.Blk)),
    ∃ (G : List (Nat × Go.Sx.Blk)),
      List.Perm [] (L ++ G) ∧
        ((0 : Nat) = (0 : Nat) ∧ L = []) ∧
          ∀ (a : Unit) (L' : List (Nat × Go.Sx.Blk)),
            a = () →
              ∀ (b : Nat),
                ∃ (x0 : OneX),
                  (∃ (x0 : OneX),
                      ((((0 : Int) = (↑x0.1 : Int) ∧
                              Go.Value.slice o (0 : Nat) cap = Go.Value.slice o (0 : Nat) cap ∧
                                ((0 : Nat) = (0 : Nat) ∧ (0 : Nat) = (0 : Nat)) ∧
                                  Min.min (↑(0 : Nat) : Int) (50 : Int) = Min.min (↑(0 : Nat) : Int) (50 : Int) ∧
                                    Min.min (↑(0 : Nat) : Int) (50 : Int) = Min.min (↑(0 : Nat) : Int) (50 : Int) ∧ True) ∧
                            L' ++ G = x0.3 ∧ (b = b ∧ Go.Value.slice Option.none (0 : Nat) (0 : Nat) = Go.Value.slice x0.2.1 x0.2.2 x0.2.3 ∧ True) ∧ True) ∧
                          neInv1 [] (0 : Nat) x0) ∧
                        ∀ (x : OneX),
                          neInv1 [] (0 : Nat) x →
                            ¬(↑x.1 : Int) < Min.min (↑(0 : Nat) : Int) (50 : Int) ∧
                              ∃ (y : OneX),
                                ((Go.Value.slice o (0 : Nat) cap = Go.Value.slice o (0 : Nat) cap ∧
                                      ((0 : Nat) = (0 : Nat) ∧ (0 : Nat) = (0 : Nat)) ∧ Min.min (↑(0 : Nat) : Int) (50 : Int) = Min.min (↑(0 : Nat) : Int) (50 : Int) ∧ True) ∧
                                    x.3 = y.3 ∧ (b = b ∧ Go.Value.slice x.2.1 x.2.2 x.2.3 = Go.Value.slice y.2.1 y.2.2 y.2.3 ∧ True) ∧ True) ∧
                                  neInv1 [] (0 : Nat) y ∧ y.1 = (0 : Nat)) ∧
                    ∀ (x : OneX),
                      neInv1 [] (0 : Nat) x ∧ x.1 = (0 : Nat) →
                        ∃ (x0 : OneX),
                          (∃ (x0 : NnX),
                              ((((0 : Int) = (↑x0.1 : Int) ∧
                                      (0 : Int) = (↑x0.2 : Int) ∧
                                        Go.Value.slice o (0 : Nat) cap = Go.Value.slice o (0 : Nat) cap ∧
                                          ((0 : Nat) = (0 : Nat) ∧ (0 : Nat) = (0 : Nat)) ∧
                                            Min.min (↑(0 : Nat) : Int) (50 : Int) = Min.min (↑(0 : Nat) : Int) (50 : Int) ∧
                                              Min.min (↑(0 : Nat) : Int) (50 : Int) = Min.min (↑(0 : Nat) : Int) (50 : Int) ∧ True) ∧
                                    x.3 = x0.4 ∧ (b = b ∧ Go.Value.slice x.2.1 x.2.2 x.2.3 = Go.Value.slice x0.3.1 x0.3.2 x0.3.3 ∧ True) ∧ True) ∧
                                  neInv2 [] (0 : Nat) x0) ∧
                                ∀ (x : NnX),
                                  neInv2 [] (0 : Nat) x →
                                    ¬(↑x.1 : Int) < Min.min (↑(0 : Nat) : Int) (50 : Int) ∧
                                      ∃ (y : OneX),
                                        (((↑x.2 : Int) = (↑(0 : Nat) : Int) ∧
                                              Go.Value.slice o (0 : Nat) cap = Go.Value.slice o (0 : Nat) cap ∧
                                                ((0 : Nat) = (0 : Nat) ∧ (0 : Nat) = (0 : Nat)) ∧ Min.min (↑(0 : Nat) : Int) (50 : Int) = Min.min (↑(0 : Nat) : Int) (50 : Int) ∧ True) ∧
                                            x.4 = y.3 ∧ (b = b ∧ Go.Value.slice x.3.1 x.3.2 x.3.3 = Go.Value.slice y.2.1 y.2.2 y.2.3 ∧ True) ∧ True) ∧
                                          ∃ (L1 : List (Nat × Go.Sx.Blk)),
                                            ∃ (G : List (Nat × Go.Sx.Blk)), List.Perm y.3 (L1 ++ G) ∧ QRep [] (Go.Value.slice y.2.1 y.2.2 y.2.3) L1) ∧
                            ∀ (x : OneX),
                              (∃ (L1 : List (Nat × Go.Sx.Blk)), ∃ (G : List (Nat × Go.Sx.Blk)), List.Perm x.3 (L1 ++ G) ∧ QRep [] (Go.Value.slice x.2.1 x.2.2 x.2.3) L1) →
                                ∃ (x_1 : List Row),
                                  ∃ (L : List (Nat × Go.Sx.Blk)),
                                    ∃ (G : List (Nat × Go.Sx.Blk)),
                                      List.Perm x.3 (L ++ G) ∧
                                        ((0 : Nat) = (0 : Nat) ∧ QRep x_1 (Go.Value.slice x.2.1 x.2.2 x.2.3) L ∧ List.length x_1 < (1000000 : Nat)) ∧
                                          ∀ (a : NX) (s : Sl) (L' : List (Nat × Go.Sx.Blk)),
                                            nxF x_1 a.1 a.2 ∧ QRep x_1 (Go.Value.slice s.1 s.2 s.3) L' →
                                              (↑(0 : Nat) : Int) = Min.min (↑(0 : Nat) : Int) (50 : Int) ∧
                                                ¬a.2 ∧
                                                  ∃ (x : List Row),
                                                    ∃ (L : List (Nat × Go.Sx.Blk)),
                                                      ∃ (G_1 : List (Nat × Go.Sx.Blk)),
                                                        List.Perm (L' ++ G) (L ++ G_1) ∧
                                                          ((0 : Nat) = (0 : Nat) ∧ QRep x (Go.Value.slice s.1 s.2 s.3) L) ∧
                                                            ∀ (a : Int) (s : Sl) (L' : List (Nat × Go.Sx.Blk)),
                                                              a = (↑(List.length x) : Int) ∧ QRep x (Go.Value.slice s.1 s.2 s.3) L' → a = (0 : Int) := by
  refine ⟨(), [], [], by simp, ⟨rfl, rfl⟩, fun _ L' _ b => ?_⟩
  refine ⟨⟨0, ⟨none, 0, 0⟩, []⟩, ⟨⟨0, ⟨none, 0, 0⟩, L' ++ []⟩, ⟨by simp, Nat.zero_le _, [], L', [], by simp, QRep.nil, rfl, by simp⟩, fun x hx1 => ⟨by omega, x, by simp, hx1, by have := hx1.1; omega⟩⟩, fun x hx1 => ?_⟩
  obtain ⟨⟨h1, L1, G, S, hp, hq, hl, hS⟩, hi⟩ := hx1
  have : S = [] := List.eq_nil_of_length_eq_zero (by omega)
  subst this
  refine ⟨x, ⟨⟨0, 0, x.va, x.L⟩, ⟨by simp, Nat.zero_le _, Nat.zero_le _, L1, G, [], hp, hq, rfl, by simp⟩, fun y hy => ⟨by omega, ?_⟩⟩, fun y ⟨L1, G, c1, c2⟩ => ?_⟩
  · obtain ⟨c1, c2, L1, G, S, c3, c4, c5, c6⟩ := hy
    have : S = [] := List.eq_nil_of_length_eq_zero (by omega)
    subst this
    simp at c5
    exact ⟨⟨0, y.va, y.L⟩, by simp [c5], L1, G, c3, c4⟩
  · refine ⟨[], L1, G, c1, ⟨rfl, c2, by simp⟩, fun a s L2 ⟨k1, k2⟩ => ⟨by omega, fun hp => ?_, [], L2, G, List.Perm.refl _, ⟨rfl, k2⟩, fun a s L' ⟨e, _⟩ => by simp [e]⟩⟩
    obtain ⟨r, hr, -⟩ := k1.2 hp
    simp at hr
theorem ne_goal (bd t base len cap n : Nat) (xs : List Int) (hn : n = min len 50) (h0 : 0 < len) (hlc : len ≤ cap) (hx : xs.length = cap) (hz : ∀ z ∈ xs, 0 ≤ z ∧ z < 18446744073709551616) : neGoal bd t base len cap n xs :=
  Eq.mpr (by kernel_rfl) (ne_vc bd t base len cap n xs hn h0 hlc hx hz)
theorem neNil_goal (o : Option Addr) (cap : Nat) : neNilGoal o cap := Eq.mpr (by kernel_rfl) (neNil_vc o cap)
end Go.Proofs.Ythkcfocoekonjaa
