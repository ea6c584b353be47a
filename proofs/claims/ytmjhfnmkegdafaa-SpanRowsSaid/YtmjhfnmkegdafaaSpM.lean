/- Span: Gaps and Same. -/
import Derived.Test.YtmjhfnmkegdafaaSpL


set_option maxRecDepth 100000
set_option linter.unusedVariables false
set_option linter.unusedSimpArgs false
namespace Go.Proofs.Ytmjhfnmkegdafaa
open Go Go.Sx

/-- A list of gaps as a value and the blocks it needs. -/
def GapsAt (l : List (Int × Int)) (v : Value) (L : Blks) : Prop :=
  (l = [] ∧ v = .slice none 0 0) ∨ ∃ b base cap xs ys G, v = .slice (some ⟨b, base * 2, none⟩) l.length cap ∧ 0 < l.length ∧ l.length ≤ cap ∧ xs.length = cap ∧ ys.length = cap ∧
    xs.take l.length = l.map (·.1) ∧ ys.take l.length = l.map (·.2) ∧ L.Perm ((b, .tab 47 base cap [.ints .u16 xs, .ints .u16 ys]) :: G)
def gapF (r : Int × Int) : Int × Int := (IntKind.wrap .u16 r.1, IntKind.wrap .u16 r.2)
/-- What 'Gaps' answers. -/
def gapsF (most : Int) (rows : List (Int × Int)) : List (Int × Int) := (rows.take (max 0 (min most rows.length)).toNat).map gapF
def GpR (b : Nat) (mark most : Int) (rows : List (Int × Int)) (v : Value) (L : Blks) : Prop := ∃ L1 L2, SetRep b mark rows L1 ∧ GapsAt (gapsF most rows) v L2 ∧ L.Perm (L1 ++ L2)
structure GX where
  i : Nat
  b : Nat
  base : Nat
  cap : Nat
  xs : List Int
  ys : List Int
def gpInv (l : List (Int × Int)) (x : GX) : Prop := x.i ≤ l.length ∧ x.i ≤ x.cap ∧ 0 < x.i ∧ x.xs.take x.i = (l.take x.i).map (·.1) ∧ x.ys.take x.i = (l.take x.i).map (·.2) ∧ x.xs.length = x.cap ∧ x.ys.length = x.cap
noncomputable def Ann.gp (l : List (Int × Int)) : FnAnn := ⟨[], [(3, ⟨GX, [
  (fun σ x => ⟨σ.n, (22, .val (.int .i64 x.i)) :: (5, .val (.slice none 0 0)) :: keepE σ.env [0, 1, 20, 21], σ.heap⟩, fun _ x => x.i = 0),
  (fun σ x => ⟨σ.n, (22, .val (.int .i64 x.i)) :: (5, .slc (lenE σ.heap) 0 x.i x.cap) :: keepE σ.env [0, 1, 20, 21], Ann.app σ.heap [.own x.b (.tab 47 x.base x.cap [.ints .u16 x.xs, .ints .u16 x.ys])]⟩,
    fun _ x => gpInv l x)],
  fun x => l.length - x.i⟩)]⟩
noncomputable def gpGoal (b b1 base cap : Nat) (xs ys : List Int) (mark most : Int) (rows : List (Int × Int)) : Prop :=
  xrun Go.Proofs.Try.prog [] [(18, Ann.gp (gapsF most rows))] [] 9 [] 18 [.ptr 0 0 0, .val (.int .i64 most)]
    [.own b (.cells 2 [.val (.int .u32 mark), .slc 1 0 rows.length cap] 55), .own b1 (.tab 60 base cap [.ints .u32 xs, .ints .u32 ys])] fun s h => GpR b mark most rows (den (locs h) s) (owned (locs h) h)
noncomputable def gpNilGoal (b : Nat) (mark most : Int) : Prop :=
  xrun Go.Proofs.Try.prog [] [(18, Ann.gp [])] [] 9 [] 18 [.ptr 0 0 0, .val (.int .i64 most)]
    [.own b (.cells 2 [.val (.int .u32 mark), .val (.slice none 0 0)] 55)] fun s h => GpR b mark most [] (den (locs h) s) (owned (locs h) h)
/-- Two lists of gaps, compared. -/
def SmR (l l' : List (Int × Int)) (p : Prop) : Prop := p ↔ l = l'
noncomputable def Ann.sm (l l' : List (Int × Int)) : FnAnn := ⟨[], [(4, ⟨Nat, [
  (fun σ x => ⟨σ.n, (13, .val (.int .i64 x)) :: keepE σ.env [0, 1, 12], σ.heap⟩, fun _ x => x ≤ l.length ∧ l.take x = l'.take x)], fun x => l.length - x⟩)]⟩
noncomputable def smGoal (b1 base1 cap1 b2 base2 cap2 : Nat) (xs1 ys1 xs2 ys2 : List Int) (l l' : List (Int × Int)) : Prop :=
  xrun Go.Proofs.Try.prog [] [(21, Ann.sm l l')] [] 9 [] 21 [.slc 0 0 l.length cap1, .slc 1 0 l'.length cap2]
    [.own b1 (.tab 47 base1 cap1 [.ints .u16 xs1, .ints .u16 ys1]), .own b2 (.tab 47 base2 cap2 [.ints .u16 xs2, .ints .u16 ys2])] fun s h => bOf s fun p => SmR l l' p
noncomputable def smN1Goal (b2 base2 cap2 : Nat) (xs2 ys2 : List Int) (l' : List (Int × Int)) : Prop :=
  xrun Go.Proofs.Try.prog [] [(21, Ann.sm [] l')] [] 9 [] 21 [.val (.slice none 0 0), .slc 0 0 l'.length cap2]
    [.own b2 (.tab 47 base2 cap2 [.ints .u16 xs2, .ints .u16 ys2])] fun s h => bOf s fun p => SmR [] l' p
noncomputable def smN2Goal (b1 base1 cap1 : Nat) (xs1 ys1 : List Int) (l : List (Int × Int)) : Prop :=
  xrun Go.Proofs.Try.prog [] [(21, Ann.sm l [])] [] 9 [] 21 [.slc 0 0 l.length cap1, .val (.slice none 0 0)]
    [.own b1 (.tab 47 base1 cap1 [.ints .u16 xs1, .ints .u16 ys1])] fun s h => bOf s fun p => SmR l [] p
def noGaps : List (Int × Int) := []
noncomputable def smNNGoal : Prop :=
  xrun Go.Proofs.Try.prog [] [(21, Ann.sm noGaps noGaps)] [] 9 [] 21 [.val (.slice none 0 0), .val (.slice none 0 0)] [] fun s h => bOf s fun p => SmR noGaps noGaps p

theorem gapsF_len {most : Int} {rows : List (Int × Int)} {k : Nat} (hk : max 0 (min most (rows.length : Int)) = (k : Int)) (hkl : k ≤ rows.length) : (gapsF most rows).length = k := by
  unfold gapsF; rw [hk]; simp; omega
theorem gapsF_get {most : Int} {rows : List (Int × Int)} {k : Nat} (hk : max 0 (min most (rows.length : Int)) = (k : Int)) {i : Nat} (hi : i < k) (hr : i < rows.length) : (gapsF most rows)[i]? = some (gapF rows[i]) := by
  unfold gapsF; rw [hk, Int.toNat_natCast, List.getElem?_map, List.getElem?_take, if_pos hi, List.getElem?_eq_getElem hr]; rfl
theorem take_one_more {l : List (Int × Int)} {i : Nat} {a : Int × Int} (h : l[i]? = some a) : l.take (i + 1) = l.take i ++ [a] := by
  obtain ⟨hi, rfl⟩ := List.getElem?_eq_some_iff.1 h
  exact List.take_succ_eq_append_getElem hi

theorem gp_vc (b b1 base cap : Nat) (xs ys : List Int) (mark most : Int) (rows : List (Int × Int)) (hlc : rows.length ≤ cap) (hb : rows.length < 1000000) (h0 : 0 < rows.length) (hx : xs.length = cap) (hy : ys.length = cap)
    (h1 : xs.take rows.length = rows.map (·.1)) (h2 : ys.take rows.length = rows.map (·.2)) :
    ((0 : Int) ≤ Max.max (0 : Int) (Min.min most (↑(List.length rows) : Int)) ∧ Max.max (0 : Int) (Min.min most (↑(List.length rows) : Int)) ≤ (↑cap : Int)) ∧
  ∃ (x0 : GX),
    ((((0 : Int) = (↑x0.1 : Int) ∧
              Go.Value.slice Option.none (0 : Nat) (0 : Nat) = Go.Value.slice Option.none (0 : Nat) (0 : Nat) ∧
                ((0 : Nat) = (0 : Nat) ∧ (0 : Nat) = (0 : Nat)) ∧
                  most = most ∧
                    ((0 : Nat) = (0 : Nat) ∧
                        Int.toNat (Max.max (0 : Int) (Min.min most (↑(List.length rows) : Int))) = Int.toNat (Max.max (0 : Int) (Min.min most (↑(List.length rows) : Int))) ∧ cap = cap) ∧
                      (↑(Int.toNat (Max.max (0 : Int) (Min.min most (↑(List.length rows) : Int)))) : Int) = (↑(Int.toNat (Max.max (0 : Int) (Min.min most (↑(List.length rows) : Int)))) : Int) ∧
                        True) ∧
            (b = b ∧ mark = mark ∧ ((0 : Nat) = (0 : Nat) ∧ List.length rows = List.length rows ∧ cap = cap) ∧ True) ∧ (b1 = b1 ∧ base = base ∧ cap = cap ∧ xs = xs ∧ ys = ys ∧ True) ∧ True) ∧
          x0.1 = (0 : Nat) ∨
        (((0 : Int) = (↑x0.1 : Int) ∧
              False ∧
                ((0 : Nat) = (0 : Nat) ∧ (0 : Nat) = (0 : Nat)) ∧
                  most = most ∧
                    ((0 : Nat) = (0 : Nat) ∧
                        Int.toNat (Max.max (0 : Int) (Min.min most (↑(List.length rows) : Int))) = Int.toNat (Max.max (0 : Int) (Min.min most (↑(List.length rows) : Int))) ∧ cap = cap) ∧
                      (↑(Int.toNat (Max.max (0 : Int) (Min.min most (↑(List.length rows) : Int)))) : Int) = (↑(Int.toNat (Max.max (0 : Int) (Min.min most (↑(List.length rows) : Int)))) : Int) ∧
                        True) ∧
            (b = b ∧ mark = mark ∧ ((0 : Nat) = (0 : Nat) ∧ List.length rows = List.length rows ∧ cap = cap) ∧ True) ∧ (b1 = b1 ∧ base = base ∧ cap = cap ∧ xs = xs ∧ ys = ys ∧ True) ∧ False ∧ True) ∧
          gpInv (gapsF most rows) x0) ∧
      (∀ (x : GX),
          x.1 = (0 : Nat) →
            ((↑x.1 : Int) < (↑(Int.toNat (Max.max (0 : Int) (Min.min most (↑(List.length rows) : Int)))) : Int) →
                ((0 : Int) ≤ (↑x.1 : Int) ∧ (↑x.1 : Int) < (↑(Int.toNat (Max.max (0 : Int) (Min.min most (↑(List.length rows) : Int)))) : Int)) ∧
                  (0 : Nat) + x.1 < cap ∧
                    (0 : Nat) + x.1 < cap ∧
                      ∀ (b_1 : Nat),
                        Go.Value.oneCell' (Go.Value.int Go.IntKind.u32 (List.getD xs ((0 : Nat) + x.1) (0 : Int))) = Bool.true ∧
                          Go.Value.oneCell' (Go.Value.int Go.IntKind.u32 (List.getD ys ((0 : Nat) + x.1) (0 : Int))) = Bool.true ∧
                            ∀ (b_2 : Nat),
                              Go.Value.oneCell' (Go.Value.int Go.IntKind.u16 (Go.IntKind.wrap Go.IntKind.u16 (List.getD xs ((0 : Nat) + x.1) (0 : Int)))) = Bool.true ∧
                                Go.Value.oneCell' (Go.Value.int Go.IntKind.u16 (Go.IntKind.wrap Go.IntKind.u16 (List.getD ys ((0 : Nat) + x.1) (0 : Int)))) = Bool.true ∧
                                  (4 : Nat) ≤ (140737488355328 : Nat) ∧
                                    ∀ (b_3 cap' : Nat),
                                      (1 : Nat) ≤ cap' →
                                        ∀ (sp : List Int),
                                          List.length sp = cap' - (1 : Nat) →
                                            ∀ (sp_1 : List Int),
                                              List.length sp_1 = cap' - (1 : Nat) →
                                                ∃ (y : GX),
                                                  List.length (gapsF most rows) - y.1 < List.length (gapsF most rows) - x.1 ∧
                                                    (((Go.IntKind.wrap Go.IntKind.i64 ((↑x.1 : Int) + (1 : Int)) = (↑y.1 : Int) ∧
                                                            Go.Value.slice (Option.some { block := b_3, off := (0 : Nat) * (2 : Nat) }) (1 : Nat) cap' =
                                                                Go.Value.slice Option.none (0 : Nat) (0 : Nat) ∧
                                                              ((0 : Nat) = (0 : Nat) ∧ (0 : Nat) = (0 : Nat)) ∧
                                                                most = most ∧
                                                                  ((0 : Nat) = (0 : Nat) ∧
                                                                      Int.toNat (Max.max (0 : Int) (Min.min most (↑(List.length rows) : Int))) =
                                                                          Int.toNat (Max.max (0 : Int) (Min.min most (↑(List.length rows) : Int))) ∧
                                                                        cap = cap) ∧
                                                                    (↑(Int.toNat (Max.max (0 : Int) (Min.min most (↑(List.length rows) : Int)))) : Int) =
                                                                        (↑(Int.toNat (Max.max (0 : Int) (Min.min most (↑(List.length rows) : Int)))) : Int) ∧
                                                                      True) ∧
                                                          (b = b ∧ mark = mark ∧ ((0 : Nat) = (0 : Nat) ∧ List.length rows = List.length rows ∧ cap = cap) ∧ True) ∧
                                                            (b1 = b1 ∧ base = base ∧ cap = cap ∧ xs = xs ∧ ys = ys ∧ True) ∧ True) ∧
                                                        y.1 = (0 : Nat) ∨
                                                      ((Go.IntKind.wrap Go.IntKind.i64 ((↑x.1 : Int) + (1 : Int)) = (↑y.1 : Int) ∧
                                                            ((0 : Nat) = (0 : Nat) ∧ (1 : Nat) = y.1 ∧ cap' = y.4) ∧
                                                              ((0 : Nat) = (0 : Nat) ∧ (0 : Nat) = (0 : Nat)) ∧
                                                                most = most ∧
                                                                  ((0 : Nat) = (0 : Nat) ∧
                                                                      Int.toNat (Max.max (0 : Int) (Min.min most (↑(List.length rows) : Int))) =
                                                                          Int.toNat (Max.max (0 : Int) (Min.min most (↑(List.length rows) : Int))) ∧
                                                                        cap = cap) ∧
                                                                    (↑(Int.toNat (Max.max (0 : Int) (Min.min most (↑(List.length rows) : Int)))) : Int) =
                                                                        (↑(Int.toNat (Max.max (0 : Int) (Min.min most (↑(List.length rows) : Int)))) : Int) ∧
                                                                      True) ∧
                                                          (b = b ∧ mark = mark ∧ ((0 : Nat) = (0 : Nat) ∧ List.length rows = List.length rows ∧ cap = cap) ∧ True) ∧
                                                            (b1 = b1 ∧ base = base ∧ cap = cap ∧ xs = xs ∧ ys = ys ∧ True) ∧
                                                              (b_3 = y.2 ∧
                                                                  (0 : Nat) = y.3 ∧
                                                                    cap' = y.4 ∧
                                                                      Go.IntKind.wrap Go.IntKind.u16 (List.getD xs ((0 : Nat) + x.1) (0 : Int)) :: sp = y.5 ∧
                                                                        Go.IntKind.wrap Go.IntKind.u16 (List.getD ys ((0 : Nat) + x.1) (0 : Int)) :: sp_1 = y.6 ∧ True) ∧
                                                                True) ∧
                                                        gpInv (gapsF most rows) y)) ∧
              (¬(↑x.1 : Int) < (↑(Int.toNat (Max.max (0 : Int) (Min.min most (↑(List.length rows) : Int)))) : Int) →
                GpR b mark most rows (Go.Value.slice Option.none (0 : Nat) (0 : Nat))
                  [(b, Go.Sx.Blk.cells [Go.Value.int Go.IntKind.u32 mark, Go.Value.slice (Option.some { block := b1, off := base * (2 : Nat) }) (List.length rows) cap] (55 : Go.TypeId)),
                    (b1, Go.Sx.Blk.tab (60 : Go.TypeId) base cap [Go.Sx.Col.ints Go.IntKind.u32 xs, Go.Sx.Col.ints Go.IntKind.u32 ys])])) ∧
        ∀ (x : GX),
          gpInv (gapsF most rows) x →
            ((↑x.1 : Int) < (↑(Int.toNat (Max.max (0 : Int) (Min.min most (↑(List.length rows) : Int)))) : Int) →
                ((0 : Int) ≤ (↑x.1 : Int) ∧ (↑x.1 : Int) < (↑(Int.toNat (Max.max (0 : Int) (Min.min most (↑(List.length rows) : Int)))) : Int)) ∧
                  (0 : Nat) + x.1 < cap ∧
                    (0 : Nat) + x.1 < cap ∧
                      ∀ (b_1 : Nat),
                        Go.Value.oneCell' (Go.Value.int Go.IntKind.u32 (List.getD xs ((0 : Nat) + x.1) (0 : Int))) = Bool.true ∧
                          Go.Value.oneCell' (Go.Value.int Go.IntKind.u32 (List.getD ys ((0 : Nat) + x.1) (0 : Int))) = Bool.true ∧
                            ∀ (b_2 : Nat),
                              Go.Value.oneCell' (Go.Value.int Go.IntKind.u16 (Go.IntKind.wrap Go.IntKind.u16 (List.getD xs ((0 : Nat) + x.1) (0 : Int)))) = Bool.true ∧
                                Go.Value.oneCell' (Go.Value.int Go.IntKind.u16 (Go.IntKind.wrap Go.IntKind.u16 (List.getD ys ((0 : Nat) + x.1) (0 : Int)))) = Bool.true ∧
                                  (x.1 ≤ x.4 ∧ (0 : Nat) + x.4 ≤ x.4) ∧
                                    (0 : Nat) + x.1 ≤ x.4 ∧
                                      (x.1 + (1 : Nat)) * (4 : Nat) ≤ (140737488355328 : Nat) ∧
                                        ∀ (b_3 base_1 cap' : Nat),
                                          x.1 + (1 : Nat) ≤ cap' →
                                            (x.1 + (1 : Nat) ≤ x.4 → cap' = x.4) →
                                              ∀ (sp : List Int),
                                                List.length sp = cap' - (x.1 + (1 : Nat)) →
                                                  ∀ (sp_1 : List Int),
                                                    List.length sp_1 = cap' - (x.1 + (1 : Nat)) →
                                                      ∃ (y : GX),
                                                        List.length (gapsF most rows) - y.1 < List.length (gapsF most rows) - x.1 ∧
                                                          (((Go.IntKind.wrap Go.IntKind.i64 ((↑x.1 : Int) + (1 : Int)) = (↑y.1 : Int) ∧
                                                                  Go.Value.slice (Option.some { block := b_3, off := base_1 * (2 : Nat) }) (x.1 + (1 : Nat)) cap' =
                                                                      Go.Value.slice Option.none (0 : Nat) (0 : Nat) ∧
                                                                    ((0 : Nat) = (0 : Nat) ∧ (0 : Nat) = (0 : Nat)) ∧
                                                                      most = most ∧
                                                                        ((0 : Nat) = (0 : Nat) ∧
                                                                            Int.toNat (Max.max (0 : Int) (Min.min most (↑(List.length rows) : Int))) =
                                                                                Int.toNat (Max.max (0 : Int) (Min.min most (↑(List.length rows) : Int))) ∧
                                                                              cap = cap) ∧
                                                                          (↑(Int.toNat (Max.max (0 : Int) (Min.min most (↑(List.length rows) : Int)))) : Int) =
                                                                              (↑(Int.toNat (Max.max (0 : Int) (Min.min most (↑(List.length rows) : Int)))) : Int) ∧
                                                                            True) ∧
                                                                (b = b ∧ mark = mark ∧ ((0 : Nat) = (0 : Nat) ∧ List.length rows = List.length rows ∧ cap = cap) ∧ True) ∧
                                                                  (b1 = b1 ∧ base = base ∧ cap = cap ∧ xs = xs ∧ ys = ys ∧ True) ∧ True) ∧
                                                              y.1 = (0 : Nat) ∨
                                                            ((Go.IntKind.wrap Go.IntKind.i64 ((↑x.1 : Int) + (1 : Int)) = (↑y.1 : Int) ∧
                                                                  ((0 : Nat) = (0 : Nat) ∧ x.1 + (1 : Nat) = y.1 ∧ cap' = y.4) ∧
                                                                    ((0 : Nat) = (0 : Nat) ∧ (0 : Nat) = (0 : Nat)) ∧
                                                                      most = most ∧
                                                                        ((0 : Nat) = (0 : Nat) ∧
                                                                            Int.toNat (Max.max (0 : Int) (Min.min most (↑(List.length rows) : Int))) =
                                                                                Int.toNat (Max.max (0 : Int) (Min.min most (↑(List.length rows) : Int))) ∧
                                                                              cap = cap) ∧
                                                                          (↑(Int.toNat (Max.max (0 : Int) (Min.min most (↑(List.length rows) : Int)))) : Int) =
                                                                              (↑(Int.toNat (Max.max (0 : Int) (Min.min most (↑(List.length rows) : Int)))) : Int) ∧
                                                                            True) ∧
                                                                (b = b ∧ mark = mark ∧ ((0 : Nat) = (0 : Nat) ∧ List.length rows = List.length rows ∧ cap = cap) ∧ True) ∧
                                                                  (b1 = b1 ∧ base = base ∧ cap = cap ∧ xs = xs ∧ ys = ys ∧ True) ∧
                                                                    (b_3 = y.2 ∧
                                                                        base_1 = y.3 ∧
                                                                          cap' = y.4 ∧
                                                                            List.take x.1 x.5 ++ [Go.IntKind.wrap Go.IntKind.u16 (List.getD xs ((0 : Nat) + x.1) (0 : Int))] ++ sp = y.5 ∧
                                                                              List.take x.1 x.6 ++ [Go.IntKind.wrap Go.IntKind.u16 (List.getD ys ((0 : Nat) + x.1) (0 : Int))] ++ sp_1 = y.6 ∧ True) ∧
                                                                      True) ∧
                                                              gpInv (gapsF most rows) y)) ∧
              (¬(↑x.1 : Int) < (↑(Int.toNat (Max.max (0 : Int) (Min.min most (↑(List.length rows) : Int)))) : Int) →
                GpR b mark most rows (Go.Value.slice (Option.some { block := x.2, off := x.3 * (2 : Nat) }) x.1 x.4)
                  [(b, Go.Sx.Blk.cells [Go.Value.int Go.IntKind.u32 mark, Go.Value.slice (Option.some { block := b1, off := base * (2 : Nat) }) (List.length rows) cap] (55 : Go.TypeId)),
                    (b1, Go.Sx.Blk.tab (60 : Go.TypeId) base cap [Go.Sx.Col.ints Go.IntKind.u32 xs, Go.Sx.Col.ints Go.IntKind.u32 ys]),
                    (x.2, Go.Sx.Blk.tab (47 : Go.TypeId) x.3 x.4 [Go.Sx.Col.ints Go.IntKind.u16 x.5, Go.Sx.Col.ints Go.IntKind.u16 x.6])]) := by
  have hrep := rep_tab (b := b) (b1 := b1) (base := base) (mark := mark) hlc h0 hx hy h1 h2
  obtain ⟨k, hk, hkl⟩ : ∃ k : Nat, max 0 (min most (rows.length : Int)) = (k : Int) ∧ k ≤ rows.length := ⟨(max 0 (min most (rows.length : Int))).toNat, by omega, by omega⟩
  have hl := gapsF_len hk hkl
  have hget := @gapsF_get most rows k hk
  unfold GpR
  simp only [hk, Int.toNat_natCast]
  generalize gapsF most rows = l at *
  refine ⟨⟨by omega, by omega⟩, ⟨0, 0, 0, 0, [], []⟩, .inl ⟨by simp, rfl⟩, ?_, ?_⟩
  · rintro ⟨i, b', base', cap', xs', ys'⟩ hi0
    simp only at hi0
    subst hi0
    refine ⟨fun hlt => ⟨⟨by omega, hlt⟩, ?_, ?_, fun b2 => ⟨rfl, rfl, fun b3 => ⟨rfl, rfl, by omega, fun b4 cap2 hc sp hs sp1 hs1 => ⟨⟨1, b4, 0, cap2, _, _⟩, ?_, .inr ⟨⟨⟨rfl, by simp⟩, by simp, by simp, ⟨rfl, rfl, rfl, rfl, rfl, trivial⟩, trivial⟩, ?_⟩⟩⟩⟩⟩, fun hge => ⟨_, [], hrep, .inl ⟨?_, rfl⟩, by simp⟩⟩
    · simp only at hlt ⊢; omega
    · simp only at hlt ⊢; omega
    · simp only at hlt ⊢; omega
    · have hk0 : 0 < k := by simp only at hlt; omega
      have hr0 : 0 < rows.length := by omega
      have hg := take_one_more (hget hk0 hr0)
      have x0 := getD_take (f := (·.1)) h1 hr0
      have y0 := getD_take (f := (·.2)) h2 hr0
      simp only [Nat.zero_add, List.take_zero, List.nil_append] at hg
      refine ⟨by simp only; omega, hc, by simp only; omega, ?_, ?_, by simp; omega, by simp; omega⟩
      · rw [hg]; simp only [Nat.zero_add, x0, List.take_succ_cons, List.take_zero, List.map_cons, List.map_nil, gapF]
      · rw [hg]; simp only [Nat.zero_add, y0, List.take_succ_cons, List.take_zero, List.map_cons, List.map_nil, gapF]
    · have : k = 0 := by simp only at hge; omega
      exact List.eq_nil_of_length_eq_zero (by omega)
  · rintro ⟨i, b', base', cap', xs', ys'⟩ ⟨q1, q2, q3, q4, q5, q6, q7⟩
    simp only at q1 q2 q3 q4 q5 q6 q7
    refine ⟨fun hlt => ?_, fun hge => ?_⟩
    · have hik : i < k := by simp only at hlt; omega
      have hir : i < rows.length := by omega
      have hg := take_one_more (hget hik hir)
      have x0 := getD_take (f := (·.1)) h1 hir
      have y0 := getD_take (f := (·.2)) h2 hir
      have hw := wrapI hir hb
      simp only [Nat.zero_add, x0, y0, hw]
      refine ⟨⟨by omega, hlt⟩, by omega, by omega, fun b2 => ⟨rfl, rfl, fun b3 => ⟨rfl, rfl, ⟨q2, by omega⟩, q2, by omega, fun b4 base2 cap2 hc hcc sp hs sp1 hs1 => ⟨⟨i + 1, b4, base2, cap2, _, _⟩, by simp only; omega, .inr ⟨⟨⟨by simp, by simp⟩, by simp, by simp, ⟨rfl, rfl, rfl, rfl, rfl, trivial⟩, trivial⟩, ?_⟩⟩⟩⟩⟩
      refine ⟨by simp only; omega, hc, by simp only; omega, ?_, ?_, by simp; omega, by simp; omega⟩
      · simp only; rw [hg]
        exact take_snoc (f := (·.1)) (a := gapF rows[i]) (by simp; omega) q4 (by omega)
      · simp only; rw [hg]
        exact take_snoc (f := (·.2)) (a := gapF rows[i]) (by simp; omega) q5 (by omega)
    · have : i = l.length := by simp only at hge; omega
      subst this
      rw [List.take_length] at q4 q5
      exact ⟨_, _, hrep, .inr ⟨b', base', cap', xs', ys', [], rfl, q3, q2, q6, q7, q4, q5, List.Perm.refl _⟩, by simp⟩
theorem gpNil_vc (b : Nat) (mark most : Int) :
    ((0 : Int) ≤ Max.max (0 : Int) (Min.min most (↑(0 : Nat) : Int)) ∧ Max.max (0 : Int) (Min.min most (↑(0 : Nat) : Int)) ≤ (↑(0 : Nat) : Int)) ∧
  ∃ (x0 : GX),
    ((((0 : Int) = (↑x0.1 : Int) ∧
              Go.Value.slice Option.none (0 : Nat) (0 : Nat) = Go.Value.slice Option.none (0 : Nat) (0 : Nat) ∧
                ((0 : Nat) = (0 : Nat) ∧ (0 : Nat) = (0 : Nat)) ∧
                  most = most ∧
                    Go.Value.slice Option.none (Int.toNat (Max.max (0 : Int) (Min.min most (↑(0 : Nat) : Int))) - (0 : Nat)) ((0 : Nat) - (0 : Nat)) =
                        Go.Value.slice Option.none (Int.toNat (Max.max (0 : Int) (Min.min most (↑(0 : Nat) : Int))) - (0 : Nat)) ((0 : Nat) - (0 : Nat)) ∧
                      (↑(Int.toNat (Max.max (0 : Int) (Min.min most (↑(0 : Nat) : Int))) - (0 : Nat)) : Int) = (↑(Int.toNat (Max.max (0 : Int) (Min.min most (↑(0 : Nat) : Int))) - (0 : Nat)) : Int) ∧
                        True) ∧
            (b = b ∧ mark = mark ∧ Go.Value.slice Option.none (0 : Nat) (0 : Nat) = Go.Value.slice Option.none (0 : Nat) (0 : Nat) ∧ True) ∧ True) ∧
          x0.1 = (0 : Nat) ∨
        (((0 : Int) = (↑x0.1 : Int) ∧
              False ∧
                ((0 : Nat) = (0 : Nat) ∧ (0 : Nat) = (0 : Nat)) ∧
                  most = most ∧
                    Go.Value.slice Option.none (Int.toNat (Max.max (0 : Int) (Min.min most (↑(0 : Nat) : Int))) - (0 : Nat)) ((0 : Nat) - (0 : Nat)) =
                        Go.Value.slice Option.none (Int.toNat (Max.max (0 : Int) (Min.min most (↑(0 : Nat) : Int))) - (0 : Nat)) ((0 : Nat) - (0 : Nat)) ∧
                      (↑(Int.toNat (Max.max (0 : Int) (Min.min most (↑(0 : Nat) : Int))) - (0 : Nat)) : Int) = (↑(Int.toNat (Max.max (0 : Int) (Min.min most (↑(0 : Nat) : Int))) - (0 : Nat)) : Int) ∧
                        True) ∧
            (b = b ∧ mark = mark ∧ Go.Value.slice Option.none (0 : Nat) (0 : Nat) = Go.Value.slice Option.none (0 : Nat) (0 : Nat) ∧ True) ∧ False ∧ True) ∧
          gpInv [] x0) ∧
      (∀ (x : GX),
          x.1 = (0 : Nat) →
            ((↑x.1 : Int) < (↑(Int.toNat (Max.max (0 : Int) (Min.min most (↑(0 : Nat) : Int))) - (0 : Nat)) : Int) → False) ∧
              (¬(↑x.1 : Int) < (↑(Int.toNat (Max.max (0 : Int) (Min.min most (↑(0 : Nat) : Int))) - (0 : Nat)) : Int) →
                GpR b mark most [] (Go.Value.slice Option.none (0 : Nat) (0 : Nat))
                  [(b, Go.Sx.Blk.cells [Go.Value.int Go.IntKind.u32 mark, Go.Value.slice Option.none (0 : Nat) (0 : Nat)] (55 : Go.TypeId))])) ∧
        ∀ (x : GX),
          gpInv [] x →
            ((↑x.1 : Int) < (↑(Int.toNat (Max.max (0 : Int) (Min.min most (↑(0 : Nat) : Int))) - (0 : Nat)) : Int) → False) ∧
              (¬(↑x.1 : Int) < (↑(Int.toNat (Max.max (0 : Int) (Min.min most (↑(0 : Nat) : Int))) - (0 : Nat)) : Int) →
                GpR b mark most [] (Go.Value.slice (Option.some { block := x.2, off := x.3 * (2 : Nat) }) x.1 x.4)
                  [(b, Go.Sx.Blk.cells [Go.Value.int Go.IntKind.u32 mark, Go.Value.slice Option.none (0 : Nat) (0 : Nat)] (55 : Go.TypeId)),
                    (x.2, Go.Sx.Blk.tab (47 : Go.TypeId) x.3 x.4 [Go.Sx.Col.ints Go.IntKind.u16 x.5, Go.Sx.Col.ints Go.IntKind.u16 x.6])]) := by
  have hk : max 0 (min most ((0 : Nat) : Int)) = 0 := by omega
  have hg : gapsF most [] = [] := by simp [gapsF]
  simp only [hk, Int.toNat_zero, Nat.sub_zero]
  refine ⟨⟨by omega, by omega⟩, ⟨0, 0, 0, 0, [], []⟩, .inl ⟨by simp, rfl⟩, ?_, ?_⟩
  · rintro ⟨i, b', base', cap', xs', ys'⟩ hi0
    exact ⟨fun h => by simp only at hi0 h; omega, fun _ => ⟨_, [], rep_nil b mark, .inl ⟨hg, rfl⟩, by simp⟩⟩
  · rintro ⟨i, b', base', cap', xs', ys'⟩ ⟨q1, q2, q3, -⟩
    simp at q1 q3
    omega
theorem GpR.more {b : Nat} {mark most : Int} {rows : List (Int × Int)} {v : Value} {L : Blks} (h : GpR b mark most rows v L) (G : Blks) : GpR b mark most rows v (L ++ G) := by
  obtain ⟨L1, L2, h1, h2, h3⟩ := h
  exact ⟨L1 ++ G, L2, h1.more G, h2, (h3.append_right G).trans (by simp only [List.append_assoc]; exact List.perm_append_comm.append_left _)⟩
theorem GpR.perm {b : Nat} {mark most : Int} {rows : List (Int × Int)} {v : Value} {L L' : Blks} (h : GpR b mark most rows v L) (p : L'.Perm L) : GpR b mark most rows v L' := by
  obtain ⟨L1, L2, h1, h2, h3⟩ := h
  exact ⟨L1, L2, h1, h2, p.trans h3⟩
theorem gaps_triple {b : Nat} {mark : Int} {rows : List (Int × Int)} {L : Blks} (most : Int) (hr : SetRep b mark rows L) (hb : rows.length < 1000000) :
    Triple Go.Proofs.Try.prog 18 [.pointer (some ⟨b, 0, none⟩), .int .i64 most] L (GpR b mark most rows) := by
  refine set_triple hr (fun v L' G h => h.more G) (fun v L' L'' h p => h.perm p) (fun h0 => ?_) fun b1 base cap xs ys g1 g2 g3 g4 g5 g6 => ?_
  · subst h0
    exact triple_of_run (h := [.own b (.cells 2 [.val (.int .u32 mark), .val (.slice none 0 0)] 55)]) (args := [.ptr 0 0 0, .val (.int .i64 most)])
      (run_ok _ _ _ _ _) (fun r => rfl) (fun r => rfl) (by simp) (Eq.mpr (by kernel_rfl) (gpNil_vc b mark most) : gpNilGoal b mark most)
  · exact triple_of_run (h := [.own b (.cells 2 [.val (.int .u32 mark), .slc 1 0 rows.length cap] 55), .own b1 (.tab 60 base cap [.ints .u32 xs, .ints .u32 ys])]) (args := [.ptr 0 0 0, .val (.int .i64 most)])
      (run_ok _ _ _ _ _) (fun r => rfl) (fun r => rfl) (by simp) (Eq.mpr (by kernel_rfl) (gp_vc b b1 base cap xs ys mark most rows g2 hb g1 g3 g4 g5 g6) : gpGoal b b1 base cap xs ys mark most rows)

/-! Same. -/
theorem plain47 : plainStruct Go.Proofs.Try.prog 47 2 = true := by kernel_rfl
theorem sm_vc (b1 base1 cap1 b2 base2 cap2 : Nat) (xs1 ys1 xs2 ys2 : List Int) (l l' : List (Int × Int)) (hb : l.length < 1000000) (hc1 : l.length ≤ cap1) (hc2 : l'.length ≤ cap2)
    (h1 : xs1.take l.length = l.map (·.1)) (h2 : ys1.take l.length = l.map (·.2)) (h3 : xs2.take l'.length = l'.map (·.1)) (h4 : ys2.take l'.length = l'.map (·.2)) :
    ((↑(List.length l) : Int) ≠ (↑(List.length l') : Int) → SmR l l' False) ∧
  (¬(↑(List.length l) : Int) ≠ (↑(List.length l') : Int) →
    ∃ (x0 : Nat),
      ((((0 : Int) = (↑x0 : Int) ∧
              ((0 : Nat) = (0 : Nat) ∧ List.length l = List.length l ∧ cap1 = cap1) ∧
                ((0 : Nat) = (0 : Nat) ∧ List.length l' = List.length l' ∧ cap2 = cap2) ∧ (↑(List.length l) : Int) = (↑(List.length l) : Int) ∧ True) ∧
            (b1 = b1 ∧ base1 = base1 ∧ cap1 = cap1 ∧ xs1 = xs1 ∧ ys1 = ys1 ∧ True) ∧ (b2 = b2 ∧ base2 = base2 ∧ cap2 = cap2 ∧ xs2 = xs2 ∧ ys2 = ys2 ∧ True) ∧ True) ∧
          x0 ≤ List.length l ∧ List.take x0 l = List.take x0 l') ∧
        ∀ (x : Nat),
          x ≤ List.length l ∧ List.take x l = List.take x l' →
            ((↑x : Int) < (↑(List.length l) : Int) →
                ((0 : Int) ≤ (↑x : Int) ∧ (↑x : Int) < (↑(List.length l) : Int)) ∧
                  (0 : Nat) + x < cap1 ∧
                    (0 : Nat) + x < cap1 ∧
                      ((0 : Int) ≤ (↑x : Int) ∧ (↑x : Int) < (↑(List.length l') : Int)) ∧
                        (0 : Nat) + x < cap2 ∧
                          (0 : Nat) + x < cap2 ∧
                            Go.Sx.plainStruct Go.Proofs.Try.prog (47 : Nat) (2 : Nat) = Bool.true ∧
                              (¬(List.getD xs1 ((0 : Nat) + x) (0 : Int) = List.getD xs2 ((0 : Nat) + x) (0 : Int) ∧
                                      List.getD ys1 ((0 : Nat) + x) (0 : Int) = List.getD ys2 ((0 : Nat) + x) (0 : Int) ∧ True) →
                                  SmR l l' False) ∧
                                (¬¬(List.getD xs1 ((0 : Nat) + x) (0 : Int) = List.getD xs2 ((0 : Nat) + x) (0 : Int) ∧
                                        List.getD ys1 ((0 : Nat) + x) (0 : Int) = List.getD ys2 ((0 : Nat) + x) (0 : Int) ∧ True) →
                                  ∃ (y : Nat),
                                    List.length l - y < List.length l - x ∧
                                      ((Go.IntKind.wrap Go.IntKind.i64 ((↑x : Int) + (1 : Int)) = (↑y : Int) ∧
                                            ((0 : Nat) = (0 : Nat) ∧ List.length l = List.length l ∧ cap1 = cap1) ∧
                                              ((0 : Nat) = (0 : Nat) ∧ List.length l' = List.length l' ∧ cap2 = cap2) ∧ (↑(List.length l) : Int) = (↑(List.length l) : Int) ∧ True) ∧
                                          (b1 = b1 ∧ base1 = base1 ∧ cap1 = cap1 ∧ xs1 = xs1 ∧ ys1 = ys1 ∧ True) ∧ (b2 = b2 ∧ base2 = base2 ∧ cap2 = cap2 ∧ xs2 = xs2 ∧ ys2 = ys2 ∧ True) ∧ True) ∧
                                        y ≤ List.length l ∧ List.take y l = List.take y l')) ∧
              (¬(↑x : Int) < (↑(List.length l) : Int) → SmR l l' True)) := by
  refine ⟨fun hne => ⟨fun h => h.elim, fun h => hne (by rw [h])⟩, fun he => ⟨0, ⟨by simp, by simp⟩, fun i ⟨hi, ht⟩ => ⟨fun hlt => ?_, fun hge => ?_⟩⟩⟩
  · have hll : l.length = l'.length := by omega
    have hi' : i < l.length := by omega
    have hi2 : i < l'.length := by omega
    have x1 := getD_take (f := (·.1)) h1 hi'
    have y1 := getD_take (f := (·.2)) h2 hi'
    have x2 := getD_take (f := (·.1)) h3 hi2
    have y2 := getD_take (f := (·.2)) h4 hi2
    simp only [Nat.zero_add, x1, y1, x2, y2, wrapI hi' hb]
    refine ⟨⟨by omega, hlt⟩, by omega, by omega, ⟨by omega, by omega⟩, by omega, by omega, plain47, fun hne => ⟨fun h => h.elim, fun h => ?_⟩, fun heq => ⟨i + 1, by omega, ⟨⟨by simp, by simp⟩, by simp, by simp, trivial⟩, by omega, ?_⟩⟩
    · subst h
      exact hne ⟨rfl, rfl, trivial⟩
    · obtain ⟨e1, e2, -⟩ := Decidable.not_not.1 heq
      rw [List.take_succ_eq_append_getElem hi', List.take_succ_eq_append_getElem hi2, ht, Prod.ext e1 e2]
  · have : i = l.length := by omega
    subst this
    have hll : l.length = l'.length := by omega
    refine ⟨fun _ => ?_, fun _ => trivial⟩
    rw [List.take_length] at ht
    rw [hll, List.take_length] at ht
    exact ht
theorem smN1_vc (b2 base2 cap2 : Nat) (xs2 ys2 : List Int) (l' : List (Int × Int)) (h0 : 0 < l'.length) :
    ((↑(0 : Nat) : Int) ≠ (↑(List.length l') : Int) → SmR [] l' False) ∧
  (¬(↑(0 : Nat) : Int) ≠ (↑(List.length l') : Int) →
    ∃ (x0 : Nat),
      ((((0 : Int) = (↑x0 : Int) ∧
              Go.Value.slice Option.none (0 : Nat) (0 : Nat) = Go.Value.slice Option.none (0 : Nat) (0 : Nat) ∧
                ((0 : Nat) = (0 : Nat) ∧ List.length l' = List.length l' ∧ cap2 = cap2) ∧ (↑(0 : Nat) : Int) = (↑(0 : Nat) : Int) ∧ True) ∧
            (b2 = b2 ∧ base2 = base2 ∧ cap2 = cap2 ∧ xs2 = xs2 ∧ ys2 = ys2 ∧ True) ∧ True) ∧
          x0 ≤ (0 : Nat) ∧ List.take x0 [] = List.take x0 l') ∧
        ∀ (x : Nat), x ≤ (0 : Nat) ∧ List.take x [] = List.take x l' → ((↑x : Int) < (↑(0 : Nat) : Int) → False) ∧ (¬(↑x : Int) < (↑(0 : Nat) : Int) → SmR [] l' True)) := by
  refine ⟨fun hne => ⟨fun h => h.elim, fun h => ?_⟩, fun he => by omega⟩
  rw [← h] at h0; simp at h0
theorem smN2_vc (b1 base1 cap1 : Nat) (xs1 ys1 : List Int) (l : List (Int × Int)) (h0 : 0 < l.length) :
    ((↑(List.length l) : Int) ≠ (↑(0 : Nat) : Int) → SmR l [] False) ∧
  (¬(↑(List.length l) : Int) ≠ (↑(0 : Nat) : Int) →
    ∃ (x0 : Nat),
      ((((0 : Int) = (↑x0 : Int) ∧
              ((0 : Nat) = (0 : Nat) ∧ List.length l = List.length l ∧ cap1 = cap1) ∧
                Go.Value.slice Option.none (0 : Nat) (0 : Nat) = Go.Value.slice Option.none (0 : Nat) (0 : Nat) ∧ (↑(List.length l) : Int) = (↑(List.length l) : Int) ∧ True) ∧
            (b1 = b1 ∧ base1 = base1 ∧ cap1 = cap1 ∧ xs1 = xs1 ∧ ys1 = ys1 ∧ True) ∧ True) ∧
          x0 ≤ List.length l ∧ List.take x0 l = List.take x0 []) ∧
        ∀ (x : Nat),
          x ≤ List.length l ∧ List.take x l = List.take x [] →
            ((↑x : Int) < (↑(List.length l) : Int) → ((0 : Int) ≤ (↑x : Int) ∧ (↑x : Int) < (↑(List.length l) : Int)) ∧ (0 : Nat) + x < cap1 ∧ (0 : Nat) + x < cap1 ∧ False) ∧
              (¬(↑x : Int) < (↑(List.length l) : Int) → SmR l [] True)) := by
  refine ⟨fun hne => ⟨fun h => h.elim, fun h => ?_⟩, fun he => by omega⟩
  rw [h] at h0; simp at h0
theorem smNN_vc :
    ((↑(0 : Nat) : Int) ≠ (↑(0 : Nat) : Int) → SmR noGaps noGaps False) ∧
  (¬(↑(0 : Nat) : Int) ≠ (↑(0 : Nat) : Int) →
    ∃ (x0 : Nat),
      ((((0 : Int) = (↑x0 : Int) ∧
              Go.Value.slice Option.none (0 : Nat) (0 : Nat) = Go.Value.slice Option.none (0 : Nat) (0 : Nat) ∧
                Go.Value.slice Option.none (0 : Nat) (0 : Nat) = Go.Value.slice Option.none (0 : Nat) (0 : Nat) ∧ (↑(0 : Nat) : Int) = (↑(0 : Nat) : Int) ∧ True) ∧
            True) ∧
          x0 ≤ List.length noGaps ∧ List.take x0 noGaps = List.take x0 noGaps) ∧
        ∀ (x : Nat), x ≤ List.length noGaps ∧ List.take x noGaps = List.take x noGaps → ((↑x : Int) < (↑(0 : Nat) : Int) → False) ∧ (¬(↑x : Int) < (↑(0 : Nat) : Int) → SmR noGaps noGaps True)) := by
  refine ⟨fun hne => by omega, fun he => ⟨0, ⟨by simp, by simp⟩, fun i ⟨hi, ht⟩ => ⟨fun hlt => by omega, fun hge => ⟨fun _ => rfl, fun _ => trivial⟩⟩⟩⟩
open Classical in
theorem same_triple {l l' : List (Int × Int)} {v v' : Value} {L L' : Blks} (hg : GapsAt l v L) (hg' : GapsAt l' v' L') (hb : l.length < 1000000) :
    Triple Go.Proofs.Try.prog 21 [v, v'] (L ++ L') fun r _ => ∃ p : Prop, r = .bool (decide p) ∧ SmR l l' p := by
  have fin : ∀ {s h'} , (bOf s fun p => SmR l l' p) → ∃ p : Prop, den (locs h') s = .bool (decide p) ∧ SmR l l' p := fun hk => by
    obtain ⟨p, h1, h2⟩ := bOf_spec hk _
    exact ⟨p, h2, h1⟩
  rcases hg with ⟨rfl, rfl⟩ | ⟨b1, base1, cap1, xs1, ys1, G1, rfl, g1, g2, g3, g4, g5, g6, g7⟩
  · rcases hg' with ⟨rfl, rfl⟩ | ⟨b2, base2, cap2, xs2, ys2, G2, rfl, k1, k2, k3, k4, k5, k6, k7⟩
    · have := triple_of_runK (h := []) (args := [.val (.slice none 0 0), .val (.slice none 0 0)]) (vs := [.slice none 0 0, .slice none 0 0]) (run_ok _ _ _ _ _) (fun r => rfl) (fun r => rfl) (by simp) (Eq.mpr (by kernel_rfl) smNN_vc : smNNGoal) (R := fun r _ => ∃ p : Prop, r = .bool (decide p) ∧ SmR noGaps noGaps p) fun s h' hk => fin hk
      exact (this.frame (G := L ++ L')).mono (List.Perm.refl _) fun r _ ⟨_, h, _⟩ => h
    · have := triple_of_runK (h := [.own b2 (.tab 47 base2 cap2 [.ints .u16 xs2, .ints .u16 ys2])]) (args := [.val (.slice none 0 0), .slc 0 0 l'.length cap2]) (L := [(b2, .tab 47 base2 cap2 [.ints .u16 xs2, .ints .u16 ys2])]) (vs := [.slice none 0 0, .slice (some ⟨b2, base2 * 2, none⟩) l'.length cap2]) (run_ok _ _ _ _ _) (fun r => rfl) (fun r => rfl) (by simp) (Eq.mpr (by kernel_rfl) (smN1_vc b2 base2 cap2 xs2 ys2 l' k1) : smN1Goal b2 base2 cap2 xs2 ys2 l') (R := fun r _ => ∃ p : Prop, r = .bool (decide p) ∧ SmR [] l' p) fun s h' hk => fin hk
      refine (this.frame (G := G2 ++ L)).mono ?_ fun r _ ⟨_, h, _⟩ => h
      exact List.perm_append_comm.trans ((k7.append_right L).trans (by simp))
  · rcases hg' with ⟨rfl, rfl⟩ | ⟨b2, base2, cap2, xs2, ys2, G2, rfl, k1, k2, k3, k4, k5, k6, k7⟩
    · have := triple_of_runK (h := [.own b1 (.tab 47 base1 cap1 [.ints .u16 xs1, .ints .u16 ys1])]) (args := [.slc 0 0 l.length cap1, .val (.slice none 0 0)]) (vs := [.slice (some ⟨b1, base1 * 2, none⟩) l.length cap1, .slice none 0 0]) (L := [(b1, .tab 47 base1 cap1 [.ints .u16 xs1, .ints .u16 ys1])]) (run_ok _ _ _ _ _) (fun r => rfl) (fun r => rfl) (by simp) (Eq.mpr (by kernel_rfl) (smN2_vc b1 base1 cap1 xs1 ys1 l g1) : smN2Goal b1 base1 cap1 xs1 ys1 l) (R := fun r _ => ∃ p : Prop, r = .bool (decide p) ∧ SmR l [] p) fun s h' hk => fin hk
      refine (this.frame (G := G1 ++ L')).mono ?_ fun r _ ⟨_, h, _⟩ => h
      exact (g7.append_right L').trans (by simp)
    · have := triple_of_runK (h := [.own b1 (.tab 47 base1 cap1 [.ints .u16 xs1, .ints .u16 ys1]), .own b2 (.tab 47 base2 cap2 [.ints .u16 xs2, .ints .u16 ys2])]) (args := [.slc 0 0 l.length cap1, .slc 1 0 l'.length cap2]) (vs := [.slice (some ⟨b1, base1 * 2, none⟩) l.length cap1, .slice (some ⟨b2, base2 * 2, none⟩) l'.length cap2]) (L := [(b1, .tab 47 base1 cap1 [.ints .u16 xs1, .ints .u16 ys1]), (b2, .tab 47 base2 cap2 [.ints .u16 xs2, .ints .u16 ys2])]) (run_ok _ _ _ _ _) (fun r => rfl) (fun r => rfl) (by simp) (Eq.mpr (by kernel_rfl) (sm_vc b1 base1 cap1 b2 base2 cap2 xs1 ys1 xs2 ys2 l l' hb g2 k2 g5 g6 k5 k6) : smGoal b1 base1 cap1 b2 base2 cap2 xs1 ys1 xs2 ys2 l l') (R := fun r _ => ∃ p : Prop, r = .bool (decide p) ∧ SmR l l' p) fun s h' hk => fin hk
      refine (this.frame (G := G1 ++ G2)).mono ?_ fun r _ ⟨_, h, _⟩ => h
      refine (g7.append k7).trans ?_
      simp only [List.cons_append, List.nil_append]
      refine List.Perm.cons _ ?_
      exact List.perm_middle
end Go.Proofs.Ytmjhfnmkegdafaa
