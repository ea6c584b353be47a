/- Span: the mark goes on. -/
import Derived.Test.YtmjhfnmkegdafaaSpB
import Derived.Test.YtmjhfnmkegdafaaProg
set_option maxRecDepth 100000
set_option linter.unusedVariables false
set_option linter.unusedSimpArgs false
namespace Go.Proofs.Ytmjhfnmkegdafaa
open Go Go.Sx

def Ann.app : List Ent → List Ent → List Ent
  | [], l => l
  | e :: r, l => e :: Ann.app r l
/-- The rows that are left when the mark goes on, as they stand behind it. -/
def mvRow (d : Int) (r : Int × Int) : Int × Int := (IntKind.wrap .u32 (max r.1 (IntKind.wrap .u32 (d + 1)) - d), IntKind.wrap .u32 (r.2 - d))
def mvRows (d : Int) (l : List (Int × Int)) : List (Int × Int) := (l.filter fun r => decide (d < r.2)).map (mvRow d)
/-- A list of rows as a value and the blocks it needs. -/
def RowsAt (rows : List (Int × Int)) (v : Value) (L : Blks) : Prop :=
  (rows = [] ∧ v = .slice none 0 0) ∨ ∃ b base cap xs ys G, v = .slice (some ⟨b, base * 2, none⟩) rows.length cap ∧ 0 < rows.length ∧ rows.length ≤ cap ∧ xs.length = cap ∧ ys.length = cap ∧
    xs.take rows.length = rows.map (·.1) ∧ ys.take rows.length = rows.map (·.2) ∧ L.Perm ((b, .tab 60 base cap [.ints .u32 xs, .ints .u32 ys]) :: G)
structure MX where
  i : Nat
  k : Nat
  b : Nat
  base : Nat
  cap : Nat
  xs : List Int
  ys : List Int
def mvInv1 (d : Int) (rows : List (Int × Int)) (x : MX) : Prop := x.i ≤ rows.length ∧ mvRows d (rows.take x.i) = []
def mvInv2 (d : Int) (rows : List (Int × Int)) (x : MX) : Prop := x.i ≤ rows.length ∧ x.k ≤ x.cap ∧ 0 < x.k ∧ x.k = (mvRows d (rows.take x.i)).length ∧ x.xs.take x.k = (mvRows d (rows.take x.i)).map (·.1) ∧ x.ys.take x.k = (mvRows d (rows.take x.i)).map (·.2) ∧ x.xs.length = x.cap ∧ x.ys.length = x.cap
/-- The loop of 'move'. -/
noncomputable def Ann.mv (d : Int) (rows : List (Int × Int)) : FnAnn := ⟨[], [(3, ⟨MX, [
  (fun σ x => ⟨σ.n, (20, .val (.int .i64 x.i)) :: (4, .val (.slice none 0 0)) :: keepE σ.env [0, 1, 18, 19], σ.heap⟩, fun _ x => mvInv1 d rows x),
  (fun σ x => ⟨σ.n, (20, .val (.int .i64 x.i)) :: (4, .slc (lenE σ.heap) 0 x.k x.cap) :: keepE σ.env [0, 1, 18, 19], Ann.app σ.heap [.own x.b (.tab 60 x.base x.cap [.ints .u32 x.xs, .ints .u32 x.ys])]⟩,
    fun _ x => mvInv2 d rows x)],
  fun x => rows.length - x.i⟩)]⟩
/-- What 'move' leaves. -/
def MvR (b : Nat) (mark d : Int) (rows : List (Int × Int)) (v : Value) (L : Blks) : Prop :=
  v = .tuple #[] ∧ ∃ rv L1, RowsAt (mvRows d rows) rv L1 ∧ L.Perm ((b, .cells [.int .u32 (IntKind.wrap .u32 (mark + d)), rv] 55) :: L1)
noncomputable def mvGoal (b b1 base cap : Nat) (xs ys : List Int) (mark d : Int) (rows : List (Int × Int)) : Prop :=
  xrun Go.Proofs.Try.prog [] [(28, Ann.mv d rows)] [] 9 [] 28 [.ptr 0 0 0, .val (.int .u32 d)]
    [.own b (.cells 2 [.val (.int .u32 mark), .slc 1 0 rows.length cap] 55), .own b1 (.tab 60 base cap [.ints .u32 xs, .ints .u32 ys])] fun s h => MvR b mark d rows (den (locs h) s) (owned (locs h) h)
noncomputable def mvNilGoal (b : Nat) (mark d : Int) : Prop :=
  xrun Go.Proofs.Try.prog [] [(28, Ann.mv d [])] [([], 21, false)] 9 [] 28 [.ptr 0 0 0, .val (.int .u32 d)]
    [.own b (.cells 2 [.val (.int .u32 mark), .val (.slice none 0 0)] 55)] fun s h => MvR b mark d [] (den (locs h) s) (owned (locs h) h)

theorem mv_take {d : Int} {rows : List (Int × Int)} {i : Nat} (h : i < rows.length) :
    mvRows d (rows.take (i + 1)) = mvRows d (rows.take i) ++ (if d < rows[i].2 then [mvRow d rows[i]] else []) := by
  rw [List.take_succ_eq_append_getElem h]
  simp only [mvRows, List.filter_append, List.map_append]
  congr 1
  by_cases h1 : d < rows[i].2 <;> simp [h1]

theorem getD_take {xs : List Int} {rows : List (Int × Int)} {f : Int × Int → Int} (h : xs.take rows.length = rows.map f) {i : Nat} (hi : i < rows.length) : xs.getD i 0 = f rows[i] := by
  have h1 : (xs.take rows.length)[i]? = (rows.map f)[i]? := by rw [h]
  rw [List.getElem?_take, if_pos hi, List.getElem?_map, List.getElem?_eq_getElem hi] at h1
  simp [List.getD, h1]

theorem wrapI {i n : Nat} (h : i < n) (hn : n < 1000000) : IntKind.wrap .i64 ((i : Int) + (1 : Int)) = ((i + 1 : Nat) : Int) := by rw [IntKind.wrap_i64]; omega

theorem take_snoc {k : Nat} {xs : List Int} {l : List (Int × Int)} {f : Int × Int → Int} {a : Int × Int} {sp : List Int} (hk : k = l.length) (h : xs.take k = l.map f) (hl : k ≤ xs.length) :
    (xs.take k ++ [f a] ++ sp).take (k + 1) = (l ++ [a]).map f := by
  rw [h, List.map_append, List.map_cons, List.map_nil]
  have : (l.map f ++ [f a]).length = k + 1 := by simp [hk]
  rw [← this, List.take_left]

set_option maxHeartbeats 1000000 in
theorem mv_vc (b b1 base cap : Nat) (xs ys : List Int) (mark d : Int) (rows : List (Int × Int)) (hlc : rows.length ≤ cap) (hb : rows.length < 1000000)
    (h1 : xs.take rows.length = rows.map (·.1)) (h2 : ys.take rows.length = rows.map (·.2)) :
    Go.Value.oneCell' (Go.Value.int Go.IntKind.u32 (Go.IntKind.wrap Go.IntKind.u32 (mark + d))) = Bool.true ∧
  ∃ (x0 : MX),
    ((((0 : Int) = (↑x0.1 : Int) ∧
              Go.Value.slice Option.none (0 : Nat) (0 : Nat) = Go.Value.slice Option.none (0 : Nat) (0 : Nat) ∧
                ((0 : Nat) = (0 : Nat) ∧ (0 : Nat) = (0 : Nat)) ∧
                  d = d ∧ ((0 : Nat) = (0 : Nat) ∧ List.length rows = List.length rows ∧ cap = cap) ∧ (↑(List.length rows) : Int) = (↑(List.length rows) : Int) ∧ True) ∧
            (b = b ∧ Go.IntKind.wrap Go.IntKind.u32 (mark + d) = Go.IntKind.wrap Go.IntKind.u32 (mark + d) ∧ ((0 : Nat) = (0 : Nat) ∧ List.length rows = List.length rows ∧ cap = cap) ∧ True) ∧
              (b1 = b1 ∧ base = base ∧ cap = cap ∧ xs = xs ∧ ys = ys ∧ True) ∧ True) ∧
          mvInv1 d rows x0 ∨
        (((0 : Int) = (↑x0.1 : Int) ∧
              False ∧
                ((0 : Nat) = (0 : Nat) ∧ (0 : Nat) = (0 : Nat)) ∧
                  d = d ∧ ((0 : Nat) = (0 : Nat) ∧ List.length rows = List.length rows ∧ cap = cap) ∧ (↑(List.length rows) : Int) = (↑(List.length rows) : Int) ∧ True) ∧
            (b = b ∧ Go.IntKind.wrap Go.IntKind.u32 (mark + d) = Go.IntKind.wrap Go.IntKind.u32 (mark + d) ∧ ((0 : Nat) = (0 : Nat) ∧ List.length rows = List.length rows ∧ cap = cap) ∧ True) ∧
              (b1 = b1 ∧ base = base ∧ cap = cap ∧ xs = xs ∧ ys = ys ∧ True) ∧ False ∧ True) ∧
          mvInv2 d rows x0) ∧
      (∀ (x : MX),
          mvInv1 d rows x →
            ((↑x.1 : Int) < (↑(List.length rows) : Int) →
                ((0 : Int) ≤ (↑x.1 : Int) ∧ (↑x.1 : Int) < (↑(List.length rows) : Int)) ∧
                  (0 : Nat) + x.1 < cap ∧
                    (0 : Nat) + x.1 < cap ∧
                      ∀ (b_1 : Nat),
                        Go.Value.oneCell' (Go.Value.int Go.IntKind.u32 (List.getD xs ((0 : Nat) + x.1) (0 : Int))) = Bool.true ∧
                          Go.Value.oneCell' (Go.Value.int Go.IntKind.u32 (List.getD ys ((0 : Nat) + x.1) (0 : Int))) = Bool.true ∧
                            (d < List.getD ys ((0 : Nat) + x.1) (0 : Int) →
                                ∀ (b_2 : Nat),
                                  Go.Value.oneCell'
                                        (Go.Value.int Go.IntKind.u32
                                          (Go.IntKind.wrap Go.IntKind.u32 (Max.max (List.getD xs ((0 : Nat) + x.1) (0 : Int)) (Go.IntKind.wrap Go.IntKind.u32 (d + (1 : Int))) - d))) =
                                      Bool.true ∧
                                    Go.Value.oneCell' (Go.Value.int Go.IntKind.u32 (Go.IntKind.wrap Go.IntKind.u32 (List.getD ys ((0 : Nat) + x.1) (0 : Int) - d))) = Bool.true ∧
                                      (8 : Nat) ≤ (140737488355328 : Nat) ∧
                                        ∀ (b_3 cap' : Nat),
                                          (1 : Nat) ≤ cap' →
                                            ∀ (sp : List Int),
                                              List.length sp = cap' - (1 : Nat) →
                                                ∀ (sp_1 : List Int),
                                                  List.length sp_1 = cap' - (1 : Nat) →
                                                    ∃ (y : MX),
                                                      List.length rows - y.1 < List.length rows - x.1 ∧
                                                        (((Go.IntKind.wrap Go.IntKind.i64 ((↑x.1 : Int) + (1 : Int)) = (↑y.1 : Int) ∧
                                                                Go.Value.slice (Option.some { block := b_3, off := (0 : Nat) * (2 : Nat) }) (1 : Nat) cap' =
                                                                    Go.Value.slice Option.none (0 : Nat) (0 : Nat) ∧
                                                                  ((0 : Nat) = (0 : Nat) ∧ (0 : Nat) = (0 : Nat)) ∧
                                                                    d = d ∧
                                                                      ((0 : Nat) = (0 : Nat) ∧ List.length rows = List.length rows ∧ cap = cap) ∧
                                                                        (↑(List.length rows) : Int) = (↑(List.length rows) : Int) ∧ True) ∧
                                                              (b = b ∧
                                                                  Go.IntKind.wrap Go.IntKind.u32 (mark + d) = Go.IntKind.wrap Go.IntKind.u32 (mark + d) ∧
                                                                    ((0 : Nat) = (0 : Nat) ∧ List.length rows = List.length rows ∧ cap = cap) ∧ True) ∧
                                                                (b1 = b1 ∧ base = base ∧ cap = cap ∧ xs = xs ∧ ys = ys ∧ True) ∧ True) ∧
                                                            mvInv1 d rows y ∨
                                                          ((Go.IntKind.wrap Go.IntKind.i64 ((↑x.1 : Int) + (1 : Int)) = (↑y.1 : Int) ∧
                                                                ((0 : Nat) = (0 : Nat) ∧ (1 : Nat) = y.2 ∧ cap' = y.5) ∧
                                                                  ((0 : Nat) = (0 : Nat) ∧ (0 : Nat) = (0 : Nat)) ∧
                                                                    d = d ∧
                                                                      ((0 : Nat) = (0 : Nat) ∧ List.length rows = List.length rows ∧ cap = cap) ∧
                                                                        (↑(List.length rows) : Int) = (↑(List.length rows) : Int) ∧ True) ∧
                                                              (b = b ∧
                                                                  Go.IntKind.wrap Go.IntKind.u32 (mark + d) = Go.IntKind.wrap Go.IntKind.u32 (mark + d) ∧
                                                                    ((0 : Nat) = (0 : Nat) ∧ List.length rows = List.length rows ∧ cap = cap) ∧ True) ∧
                                                                (b1 = b1 ∧ base = base ∧ cap = cap ∧ xs = xs ∧ ys = ys ∧ True) ∧
                                                                  (b_3 = y.3 ∧
                                                                      (0 : Nat) = y.4 ∧
                                                                        cap' = y.5 ∧
                                                                          Go.IntKind.wrap Go.IntKind.u32
                                                                                  (Max.max (List.getD xs ((0 : Nat) + x.1) (0 : Int)) (Go.IntKind.wrap Go.IntKind.u32 (d + (1 : Int))) - d) ::
                                                                                sp =
                                                                              y.6 ∧
                                                                            Go.IntKind.wrap Go.IntKind.u32 (List.getD ys ((0 : Nat) + x.1) (0 : Int) - d) :: sp_1 = y.7 ∧ True) ∧
                                                                    True) ∧
                                                            mvInv2 d rows y)) ∧
                              (¬d < List.getD ys ((0 : Nat) + x.1) (0 : Int) →
                                ∃ (y : MX),
                                  List.length rows - y.1 < List.length rows - x.1 ∧
                                    (((Go.IntKind.wrap Go.IntKind.i64 ((↑x.1 : Int) + (1 : Int)) = (↑y.1 : Int) ∧
                                            Go.Value.slice Option.none (0 : Nat) (0 : Nat) = Go.Value.slice Option.none (0 : Nat) (0 : Nat) ∧
                                              ((0 : Nat) = (0 : Nat) ∧ (0 : Nat) = (0 : Nat)) ∧
                                                d = d ∧ ((0 : Nat) = (0 : Nat) ∧ List.length rows = List.length rows ∧ cap = cap) ∧ (↑(List.length rows) : Int) = (↑(List.length rows) : Int) ∧ True) ∧
                                          (b = b ∧
                                              Go.IntKind.wrap Go.IntKind.u32 (mark + d) = Go.IntKind.wrap Go.IntKind.u32 (mark + d) ∧
                                                ((0 : Nat) = (0 : Nat) ∧ List.length rows = List.length rows ∧ cap = cap) ∧ True) ∧
                                            (b1 = b1 ∧ base = base ∧ cap = cap ∧ xs = xs ∧ ys = ys ∧ True) ∧ True) ∧
                                        mvInv1 d rows y ∨
                                      ((Go.IntKind.wrap Go.IntKind.i64 ((↑x.1 : Int) + (1 : Int)) = (↑y.1 : Int) ∧
                                            False ∧
                                              ((0 : Nat) = (0 : Nat) ∧ (0 : Nat) = (0 : Nat)) ∧
                                                d = d ∧ ((0 : Nat) = (0 : Nat) ∧ List.length rows = List.length rows ∧ cap = cap) ∧ (↑(List.length rows) : Int) = (↑(List.length rows) : Int) ∧ True) ∧
                                          (b = b ∧
                                              Go.IntKind.wrap Go.IntKind.u32 (mark + d) = Go.IntKind.wrap Go.IntKind.u32 (mark + d) ∧
                                                ((0 : Nat) = (0 : Nat) ∧ List.length rows = List.length rows ∧ cap = cap) ∧ True) ∧
                                            (b1 = b1 ∧ base = base ∧ cap = cap ∧ xs = xs ∧ ys = ys ∧ True) ∧ (b_1 = y.3 ∧ False) ∧ True) ∧
                                        mvInv2 d rows y))) ∧
              (¬(↑x.1 : Int) < (↑(List.length rows) : Int) →
                Go.Value.oneCell' (Go.Value.slice Option.none (0 : Nat) (0 : Nat)) = Bool.true ∧
                  MvR b mark d rows (Go.Value.tuple #[])
                    [(b, Go.Sx.Blk.cells [Go.Value.int Go.IntKind.u32 (Go.IntKind.wrap Go.IntKind.u32 (mark + d)), Go.Value.slice Option.none (0 : Nat) (0 : Nat)] (55 : Go.TypeId)),
                      (b1, Go.Sx.Blk.tab (60 : Go.TypeId) base cap [Go.Sx.Col.ints Go.IntKind.u32 xs, Go.Sx.Col.ints Go.IntKind.u32 ys])])) ∧
        ∀ (x : MX),
          mvInv2 d rows x →
            ((↑x.1 : Int) < (↑(List.length rows) : Int) →
                ((0 : Int) ≤ (↑x.1 : Int) ∧ (↑x.1 : Int) < (↑(List.length rows) : Int)) ∧
                  (0 : Nat) + x.1 < cap ∧
                    (0 : Nat) + x.1 < cap ∧
                      ∀ (b_1 : Nat),
                        Go.Value.oneCell' (Go.Value.int Go.IntKind.u32 (List.getD xs ((0 : Nat) + x.1) (0 : Int))) = Bool.true ∧
                          Go.Value.oneCell' (Go.Value.int Go.IntKind.u32 (List.getD ys ((0 : Nat) + x.1) (0 : Int))) = Bool.true ∧
                            (d < List.getD ys ((0 : Nat) + x.1) (0 : Int) →
                                ∀ (b_2 : Nat),
                                  Go.Value.oneCell'
                                        (Go.Value.int Go.IntKind.u32
                                          (Go.IntKind.wrap Go.IntKind.u32 (Max.max (List.getD xs ((0 : Nat) + x.1) (0 : Int)) (Go.IntKind.wrap Go.IntKind.u32 (d + (1 : Int))) - d))) =
                                      Bool.true ∧
                                    Go.Value.oneCell' (Go.Value.int Go.IntKind.u32 (Go.IntKind.wrap Go.IntKind.u32 (List.getD ys ((0 : Nat) + x.1) (0 : Int) - d))) = Bool.true ∧
                                      (x.2 ≤ x.5 ∧ (0 : Nat) + x.5 ≤ x.5) ∧
                                        (0 : Nat) + x.2 ≤ x.5 ∧
                                          (x.2 + (1 : Nat)) * (8 : Nat) ≤ (140737488355328 : Nat) ∧
                                            ∀ (b_3 base_1 cap' : Nat),
                                              x.2 + (1 : Nat) ≤ cap' →
                                                (x.2 + (1 : Nat) ≤ x.5 → cap' = x.5) →
                                                  ∀ (sp : List Int),
                                                    List.length sp = cap' - (x.2 + (1 : Nat)) →
                                                      ∀ (sp_1 : List Int),
                                                        List.length sp_1 = cap' - (x.2 + (1 : Nat)) →
                                                          ∃ (y : MX),
                                                            List.length rows - y.1 < List.length rows - x.1 ∧
                                                              (((Go.IntKind.wrap Go.IntKind.i64 ((↑x.1 : Int) + (1 : Int)) = (↑y.1 : Int) ∧
                                                                      Go.Value.slice (Option.some { block := b_3, off := base_1 * (2 : Nat) }) (x.2 + (1 : Nat)) cap' =
                                                                          Go.Value.slice Option.none (0 : Nat) (0 : Nat) ∧
                                                                        ((0 : Nat) = (0 : Nat) ∧ (0 : Nat) = (0 : Nat)) ∧
                                                                          d = d ∧
                                                                            ((0 : Nat) = (0 : Nat) ∧ List.length rows = List.length rows ∧ cap = cap) ∧
                                                                              (↑(List.length rows) : Int) = (↑(List.length rows) : Int) ∧ True) ∧
                                                                    (b = b ∧
                                                                        Go.IntKind.wrap Go.IntKind.u32 (mark + d) = Go.IntKind.wrap Go.IntKind.u32 (mark + d) ∧
                                                                          ((0 : Nat) = (0 : Nat) ∧ List.length rows = List.length rows ∧ cap = cap) ∧ True) ∧
                                                                      (b1 = b1 ∧ base = base ∧ cap = cap ∧ xs = xs ∧ ys = ys ∧ True) ∧ True) ∧
                                                                  mvInv1 d rows y ∨
                                                                ((Go.IntKind.wrap Go.IntKind.i64 ((↑x.1 : Int) + (1 : Int)) = (↑y.1 : Int) ∧
                                                                      ((0 : Nat) = (0 : Nat) ∧ x.2 + (1 : Nat) = y.2 ∧ cap' = y.5) ∧
                                                                        ((0 : Nat) = (0 : Nat) ∧ (0 : Nat) = (0 : Nat)) ∧
                                                                          d = d ∧
                                                                            ((0 : Nat) = (0 : Nat) ∧ List.length rows = List.length rows ∧ cap = cap) ∧
                                                                              (↑(List.length rows) : Int) = (↑(List.length rows) : Int) ∧ True) ∧
                                                                    (b = b ∧
                                                                        Go.IntKind.wrap Go.IntKind.u32 (mark + d) = Go.IntKind.wrap Go.IntKind.u32 (mark + d) ∧
                                                                          ((0 : Nat) = (0 : Nat) ∧ List.length rows = List.length rows ∧ cap = cap) ∧ True) ∧
                                                                      (b1 = b1 ∧ base = base ∧ cap = cap ∧ xs = xs ∧ ys = ys ∧ True) ∧
                                                                        (b_3 = y.3 ∧
                                                                            base_1 = y.4 ∧
                                                                              cap' = y.5 ∧
                                                                                List.take x.2 x.6 ++
                                                                                        [Go.IntKind.wrap Go.IntKind.u32
                                                                                            (Max.max (List.getD xs ((0 : Nat) + x.1) (0 : Int)) (Go.IntKind.wrap Go.IntKind.u32 (d + (1 : Int))) -
                                                                                              d)] ++
                                                                                      sp =
                                                                                    y.6 ∧
                                                                                  List.take x.2 x.7 ++ [Go.IntKind.wrap Go.IntKind.u32 (List.getD ys ((0 : Nat) + x.1) (0 : Int) - d)] ++ sp_1 = y.7 ∧
                                                                                    True) ∧
                                                                          True) ∧
                                                                  mvInv2 d rows y)) ∧
                              (¬d < List.getD ys ((0 : Nat) + x.1) (0 : Int) →
                                ∃ (y : MX),
                                  List.length rows - y.1 < List.length rows - x.1 ∧
                                    (((Go.IntKind.wrap Go.IntKind.i64 ((↑x.1 : Int) + (1 : Int)) = (↑y.1 : Int) ∧
                                            Go.Value.slice (Option.some { block := x.3, off := x.4 * (2 : Nat) }) x.2 x.5 = Go.Value.slice Option.none (0 : Nat) (0 : Nat) ∧
                                              ((0 : Nat) = (0 : Nat) ∧ (0 : Nat) = (0 : Nat)) ∧
                                                d = d ∧ ((0 : Nat) = (0 : Nat) ∧ List.length rows = List.length rows ∧ cap = cap) ∧ (↑(List.length rows) : Int) = (↑(List.length rows) : Int) ∧ True) ∧
                                          (b = b ∧
                                              Go.IntKind.wrap Go.IntKind.u32 (mark + d) = Go.IntKind.wrap Go.IntKind.u32 (mark + d) ∧
                                                ((0 : Nat) = (0 : Nat) ∧ List.length rows = List.length rows ∧ cap = cap) ∧ True) ∧
                                            (b1 = b1 ∧ base = base ∧ cap = cap ∧ xs = xs ∧ ys = ys ∧ True) ∧ True) ∧
                                        mvInv1 d rows y ∨
                                      ((Go.IntKind.wrap Go.IntKind.i64 ((↑x.1 : Int) + (1 : Int)) = (↑y.1 : Int) ∧
                                            ((0 : Nat) = (0 : Nat) ∧ x.2 = y.2 ∧ x.5 = y.5) ∧
                                              ((0 : Nat) = (0 : Nat) ∧ (0 : Nat) = (0 : Nat)) ∧
                                                d = d ∧ ((0 : Nat) = (0 : Nat) ∧ List.length rows = List.length rows ∧ cap = cap) ∧ (↑(List.length rows) : Int) = (↑(List.length rows) : Int) ∧ True) ∧
                                          (b = b ∧
                                              Go.IntKind.wrap Go.IntKind.u32 (mark + d) = Go.IntKind.wrap Go.IntKind.u32 (mark + d) ∧
                                                ((0 : Nat) = (0 : Nat) ∧ List.length rows = List.length rows ∧ cap = cap) ∧ True) ∧
                                            (b1 = b1 ∧ base = base ∧ cap = cap ∧ xs = xs ∧ ys = ys ∧ True) ∧ (x.3 = y.3 ∧ x.4 = y.4 ∧ x.5 = y.5 ∧ x.6 = y.6 ∧ x.7 = y.7 ∧ True) ∧ True) ∧
                                        mvInv2 d rows y))) ∧
              (¬(↑x.1 : Int) < (↑(List.length rows) : Int) →
                MvR b mark d rows (Go.Value.tuple #[])
                  [(b,
                      Go.Sx.Blk.cells [Go.Value.int Go.IntKind.u32 (Go.IntKind.wrap Go.IntKind.u32 (mark + d)), Go.Value.slice (Option.some { block := x.3, off := x.4 * (2 : Nat) }) x.2 x.5]
                        (55 : Go.TypeId)),
                    (b1, Go.Sx.Blk.tab (60 : Go.TypeId) base cap [Go.Sx.Col.ints Go.IntKind.u32 xs, Go.Sx.Col.ints Go.IntKind.u32 ys]),
                    (x.3, Go.Sx.Blk.tab (60 : Go.TypeId) x.4 x.5 [Go.Sx.Col.ints Go.IntKind.u32 x.6, Go.Sx.Col.ints Go.IntKind.u32 x.7])]) := by
  refine ⟨rfl, ⟨0, 0, 0, 0, 0, [], []⟩, Or.inl ⟨by simp, by simp, by simp [mvRows]⟩, ?_, ?_⟩
  · rintro ⟨i, k, b', base', cap', xs', ys'⟩ ⟨q1, q2⟩
    simp only at q1 q2
    refine ⟨fun hi => ?_, fun hi => ⟨rfl, rfl, .slice none 0 0, _, .inl ⟨?_, rfl⟩, List.Perm.refl _⟩⟩
    · have hi : i < rows.length := by simpa using hi
      have hw := wrapI hi hb
      have g1 := getD_take h1 hi
      have g2 := getD_take h2 hi
      have hmt := mv_take (d := d) hi
      refine ⟨⟨by omega, by omega⟩, by omega, by omega, fun b2 => ⟨rfl, rfl, fun hd => ?_, fun hd => ?_⟩⟩
      · intro b3
        refine ⟨rfl, rfl, by omega, fun b4 cap2 hc sp hs1 sp1 hs2 => ⟨⟨i + 1, 1, b4, 0, cap2, _, _⟩, by simp only; omega, Or.inr ⟨⟨⟨hw, by simp⟩, by simp, by simp, ⟨rfl, rfl, rfl, rfl, rfl, trivial⟩, trivial⟩, ?_⟩⟩⟩
        simp only [Nat.zero_add] at hd ⊢
        rw [g2] at hd
        rw [q2, if_pos hd, List.nil_append] at hmt
        refine ⟨by simp only; omega, hc, by dsimp only; omega, by rw [hmt]; rfl, ?_, ?_, by simp; omega, by simp; omega⟩
        · rw [hmt]; simp only [mvRow, List.map_cons, List.map_nil, List.take_succ_cons, List.take_zero, g1]
        · rw [hmt]; simp only [mvRow, List.map_cons, List.map_nil, List.take_succ_cons, List.take_zero, g2]
      · refine ⟨⟨i + 1, 0, 0, 0, 0, [], []⟩, by simp only; omega, Or.inl ⟨⟨⟨hw, by simp⟩, by simp, by simp, trivial⟩, by simp only; omega, ?_⟩⟩
        simp only [Nat.zero_add] at hd
        rw [g2] at hd
        simp only
        rw [hmt, q2, if_neg hd]; rfl
    · have : i = rows.length := by simp at hi; omega
      subst this
      rwa [List.take_length] at q2
  · rintro ⟨i, k, b', base', cap', xs', ys'⟩ ⟨q1, q2, q0, q3, q4, q5, q6, q7⟩
    simp only at q1 q2 q0 q3 q4 q5 q6 q7
    have hkl : k ≤ rows.length := by
      have e1 : (mvRows d (rows.take i)).length ≤ (rows.take i).length := by
        unfold mvRows; rw [List.length_map]; exact List.length_filter_le _ _
      rw [List.length_take] at e1; omega
    refine ⟨fun hi => ?_, fun hi => ⟨rfl, .slice (some ⟨b', base' * 2, none⟩) k cap', _, .inr ⟨b', base', cap', xs', ys', [(b1, _)], ?_, ?_, ?_, q6, q7, ?_, ?_, List.Perm.swap _ _ _⟩, List.Perm.refl _⟩⟩
    · have hi : i < rows.length := by simpa using hi
      have hw := wrapI hi hb
      have g1 := getD_take h1 hi
      have g2 := getD_take h2 hi
      have hmt := mv_take (d := d) hi
      refine ⟨⟨by omega, by omega⟩, by omega, by omega, fun b2 => ⟨rfl, rfl, fun hd => ?_, fun hd => ?_⟩⟩
      · intro b3
        refine ⟨rfl, rfl, ⟨q2, by dsimp only; omega⟩, by dsimp only; omega, by dsimp only; omega, fun b4 base2 cap2 hc hcc sp hs1 sp1 hs2 => ?_⟩
        dsimp only at hc hcc hs1 hs2
        refine ⟨⟨i + 1, k + 1, b4, base2, cap2, _, _⟩, by simp only; omega, Or.inr ⟨⟨⟨hw, by simp⟩, by simp, by simp, ⟨rfl, rfl, rfl, rfl, rfl, trivial⟩, trivial⟩, ?_⟩⟩
        simp only [Nat.zero_add] at hd ⊢
        rw [g2] at hd
        rw [if_pos hd] at hmt
        refine ⟨by simp only; omega, hc, by dsimp only; omega, by rw [hmt]; simp [q3], ?_, ?_, by simp; omega, by simp; omega⟩
        · rw [hmt]
          have := take_snoc (f := (·.1)) (a := mvRow d rows[i]) (sp := sp) q3 q4 (by omega)
          simp only [mvRow, g1] at this ⊢
          exact this
        · rw [hmt]
          have := take_snoc (f := (·.2)) (a := mvRow d rows[i]) (sp := sp1) q3 q5 (by omega)
          simp only [mvRow, g2] at this ⊢
          exact this
      · refine ⟨⟨i + 1, k, b', base', cap', xs', ys'⟩, by simp only; omega, Or.inr ⟨⟨⟨hw, by simp⟩, by simp, by simp, by simp, trivial⟩, ?_⟩⟩
        simp only [Nat.zero_add] at hd
        rw [g2] at hd
        rw [if_neg hd, List.append_nil] at hmt
        exact ⟨by simp only; omega, q2, q0, by rw [hmt]; exact q3, by rw [hmt]; exact q4, by rw [hmt]; exact q5, q6, q7⟩
    all_goals
      have : i = rows.length := by simp at hi; omega
      subst this
      rw [List.take_length] at q3 q4 q5
    · rw [q3]
    · rw [← q3]; exact q0
    · rw [← q3]; exact q2
    · rw [← q3]; exact q4
    · rw [← q3]; exact q5


theorem mv_goal (b b1 base cap : Nat) (xs ys : List Int) (mark d : Int) (rows : List (Int × Int)) (hlc : rows.length ≤ cap) (hb : rows.length < 1000000)
    (h1 : xs.take rows.length = rows.map (·.1)) (h2 : ys.take rows.length = rows.map (·.2)) : mvGoal b b1 base cap xs ys mark d rows :=
  Eq.mpr (by kernel_rfl) (mv_vc b b1 base cap xs ys mark d rows hlc hb h1 h2)

theorem mvNil_vc (b : Nat) (mark d : Int) : 
    Go.Value.oneCell' (Go.Value.int Go.IntKind.u32 (Go.IntKind.wrap Go.IntKind.u32 (mark + d))) = Bool.true ∧
  ∃ (x0 : MX),
    ((((0 : Int) = (↑x0.1 : Int) ∧
              Go.Value.slice Option.none (0 : Nat) (0 : Nat) = Go.Value.slice Option.none (0 : Nat) (0 : Nat) ∧
                ((0 : Nat) = (0 : Nat) ∧ (0 : Nat) = (0 : Nat)) ∧
                  d = d ∧ Go.Value.slice Option.none (0 : Nat) (0 : Nat) = Go.Value.slice Option.none (0 : Nat) (0 : Nat) ∧ (↑(0 : Nat) : Int) = (↑(0 : Nat) : Int) ∧ True) ∧
            (b = b ∧
                Go.IntKind.wrap Go.IntKind.u32 (mark + d) = Go.IntKind.wrap Go.IntKind.u32 (mark + d) ∧
                  Go.Value.slice Option.none (0 : Nat) (0 : Nat) = Go.Value.slice Option.none (0 : Nat) (0 : Nat) ∧ True) ∧
              True) ∧
          mvInv1 d [] x0 ∨
        (((0 : Int) = (↑x0.1 : Int) ∧
              False ∧
                ((0 : Nat) = (0 : Nat) ∧ (0 : Nat) = (0 : Nat)) ∧
                  d = d ∧ Go.Value.slice Option.none (0 : Nat) (0 : Nat) = Go.Value.slice Option.none (0 : Nat) (0 : Nat) ∧ (↑(0 : Nat) : Int) = (↑(0 : Nat) : Int) ∧ True) ∧
            (b = b ∧
                Go.IntKind.wrap Go.IntKind.u32 (mark + d) = Go.IntKind.wrap Go.IntKind.u32 (mark + d) ∧
                  Go.Value.slice Option.none (0 : Nat) (0 : Nat) = Go.Value.slice Option.none (0 : Nat) (0 : Nat) ∧ True) ∧
              False ∧ True) ∧
          mvInv2 d [] x0) ∧
      (∀ (x : MX),
          mvInv1 d [] x →
            ¬(↑x.1 : Int) < (↑(0 : Nat) : Int) ∧
              Go.Value.oneCell' (Go.Value.slice Option.none (0 : Nat) (0 : Nat)) = Bool.true ∧
                MvR b mark d [] (Go.Value.tuple #[])
                  [(b, Go.Sx.Blk.cells [Go.Value.int Go.IntKind.u32 (Go.IntKind.wrap Go.IntKind.u32 (mark + d)), Go.Value.slice Option.none (0 : Nat) (0 : Nat)] (55 : Go.TypeId))]) ∧
        ∀ (x : MX),
          mvInv2 d [] x →
            ¬(↑x.1 : Int) < (↑(0 : Nat) : Int) ∧
              MvR b mark d [] (Go.Value.tuple #[])
                [(b,
                    Go.Sx.Blk.cells [Go.Value.int Go.IntKind.u32 (Go.IntKind.wrap Go.IntKind.u32 (mark + d)), Go.Value.slice (Option.some { block := x.3, off := x.4 * (2 : Nat) }) x.2 x.5]
                      (55 : Go.TypeId)),
                  (x.3, Go.Sx.Blk.tab (60 : Go.TypeId) x.4 x.5 [Go.Sx.Col.ints Go.IntKind.u32 x.6, Go.Sx.Col.ints Go.IntKind.u32 x.7])] := by
  refine ⟨rfl, ⟨0, 0, 0, 0, 0, [], []⟩, Or.inl ⟨by simp, by simp, by simp [mvRows]⟩, ?_, ?_⟩
  · rintro ⟨i, k, b', base', cap', xs', ys'⟩ ⟨q1, q2⟩
    exact ⟨by simp, rfl, rfl, .slice none 0 0, [], .inl ⟨rfl, rfl⟩, List.Perm.refl _⟩
  · rintro ⟨i, k, b', base', cap', xs', ys'⟩ ⟨q1, q2, q0, q3, q4, q5, q6, q7⟩
    simp [mvRows] at q3 q0
    omega
theorem mvNil_goal (b : Nat) (mark d : Int) : mvNilGoal b mark d := Eq.mpr (by kernel_rfl) (mvNil_vc b mark d)

theorem RowsAt.more {rows : List (Int × Int)} {v : Value} {L : Blks} (h : RowsAt rows v L) (G : Blks) : RowsAt rows v (L ++ G) := by
  rcases h with h | ⟨b, base, cap, xs, ys, G', h1, h2, h3, h4, h5, h6, h7, h8⟩
  · exact .inl h
  · exact .inr ⟨b, base, cap, xs, ys, G' ++ G, h1, h2, h3, h4, h5, h6, h7, by simpa using h8.append_right G⟩
theorem RowsAt.perm {rows : List (Int × Int)} {v : Value} {L L' : Blks} (h : RowsAt rows v L) (p : L'.Perm L) : RowsAt rows v L' := by
  rcases h with h | ⟨b, base, cap, xs, ys, G', h1, h2, h3, h4, h5, h6, h7, h8⟩
  · exact .inl h
  · exact .inr ⟨b, base, cap, xs, ys, G', h1, h2, h3, h4, h5, h6, h7, p.trans h8⟩

theorem mv_triple (b b1 base cap : Nat) (xs ys : List Int) (mark d : Int) (rows : List (Int × Int)) (hlc : rows.length ≤ cap) (hb : rows.length < 1000000)
    (h1 : xs.take rows.length = rows.map (·.1)) (h2 : ys.take rows.length = rows.map (·.2)) :
    Triple Go.Proofs.Try.prog 28 [.pointer (some ⟨b, 0, none⟩), .int .u32 d] [(b, .cells [.int .u32 mark, .slice (some ⟨b1, base * 2, none⟩) rows.length cap] 55), (b1, .tab 60 base cap [.ints .u32 xs, .ints .u32 ys])] (MvR b mark d rows) :=
  triple_of_run (h := [.own b (.cells 2 [.val (.int .u32 mark), .slc 1 0 rows.length cap] 55), .own b1 (.tab 60 base cap [.ints .u32 xs, .ints .u32 ys])]) (args := [.ptr 0 0 0, .val (.int .u32 d)])
    (run_ok _ _ _ _ _) (fun r => rfl) (fun r => rfl) (by simp) (mv_goal b b1 base cap xs ys mark d rows hlc hb h1 h2)
theorem mvNil_triple (b : Nat) (mark d : Int) :
    Triple Go.Proofs.Try.prog 28 [.pointer (some ⟨b, 0, none⟩), .int .u32 d] [(b, .cells [.int .u32 mark, .slice none 0 0] 55)] (MvR b mark d []) :=
  triple_of_run (h := [.own b (.cells 2 [.val (.int .u32 mark), .val (.slice none 0 0)] 55)]) (args := [.ptr 0 0 0, .val (.int .u32 d)])
    (run_ok _ _ _ _ _) (fun r => rfl) (fun r => rfl) (by simp) (mvNil_goal b mark d)
end Go.Proofs.Ytmjhfnmkegdafaa
