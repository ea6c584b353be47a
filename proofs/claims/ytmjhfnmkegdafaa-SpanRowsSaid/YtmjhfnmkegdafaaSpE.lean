/- Span: a skip. -/
import Derived.Test.YtmjhfnmkegdafaaSpD
import Derived.Test.YtmjhfnmkegdafaaProg
set_option maxRecDepth 100000
set_option linter.unusedVariables false
set_option linter.unusedSimpArgs false
namespace Go.Proofs.Ytmjhfnmkegdafaa
open Go Go.Sx

/-- The set at block b: its mark, its rows. -/
def SetRep (b : Nat) (mark : Int) (rows : List (Int × Int)) (L : Blks) : Prop := ∃ rv L1, RowsAt rows rv L1 ∧ L.Perm ((b, .cells [.int .u32 mark, rv] 55) :: L1)
def lessF (a b : Int) : Prop := 0 < IntKind.wrap .i32 (IntKind.wrap .u32 (b - a))
def distF (a b : Int) : Int := IntKind.wrap .u32 (b - a)
def settleF (mark : Int) (rows : List (Int × Int)) : Int × List (Int × Int) :=
  match rows with
  | [] => (mark, [])
  | (f, e) :: r => if f = 1 then (IntKind.wrap .u32 (mark + e), mvRows e ((f, e) :: r)) else (mark, (f, e) :: r)
def SkR (b : Nat) (mark : Int) (rows : List (Int × Int)) (t : Int) (v : Value) (L : Blks) : Prop :=
  (lessF mark t → v = .bool true ∧ SetRep b (settleF (IntKind.wrap .u32 (mark + distF mark t)) (mvRows (distF mark t) rows)).1 (settleF (IntKind.wrap .u32 (mark + distF mark t)) (mvRows (distF mark t) rows)).2 L) ∧
  (¬ lessF mark t → v = .bool false ∧ SetRep b mark rows L)
noncomputable def skGoal (b b1 base cap : Nat) (xs ys : List Int) (mark t : Int) (rows : List (Int × Int)) : Prop :=
  xrun Go.Proofs.Try.prog [(28, moveT)] [] [] 9 [] 14 [.ptr 0 0 0, .val (.int .u32 t)]
    [.own b (.cells 2 [.val (.int .u32 mark), .slc 1 0 rows.length cap] 55), .own b1 (.tab 60 base cap [.ints .u32 xs, .ints .u32 ys])] fun s h => SkR b mark rows t (den (locs h) s) (owned (locs h) h)
noncomputable def skNilGoal (b : Nat) (mark t : Int) : Prop :=
  xrun Go.Proofs.Try.prog [(28, moveT)] [] [] 9 [] 14 [.ptr 0 0 0, .val (.int .u32 t)]
    [.own b (.cells 2 [.val (.int .u32 mark), .val (.slice none 0 0)] 55)] fun s h => SkR b mark [] t (den (locs h) s) (owned (locs h) h)

theorem zip_self : ∀ l : List (Int × Int), (l.map (·.1)).zip (l.map (·.2)) = l
  | [] => rfl
  | (a, b) :: r => by simp [zip_self r]
theorem zip_rows {xs ys : List Int} {rows : List (Int × Int)} (h1 : xs.take rows.length = rows.map (·.1)) (h2 : ys.take rows.length = rows.map (·.2)) : zipRows rows.length xs ys = rows := by
  unfold zipRows; rw [h1, h2]; exact zip_self rows

theorem sk_vc (b b1 base cap : Nat) (xs ys : List Int) (mark t : Int) (rows : List (Int × Int)) (hlc : rows.length ≤ cap) (hb : rows.length < 1000000) (h0 : 0 < rows.length) (hx : xs.length = cap) (hy : ys.length = cap)
    (h1 : xs.take rows.length = rows.map (·.1)) (h2 : ys.take rows.length = rows.map (·.2)) :
    (¬(0 : Int) < Go.IntKind.wrap Go.IntKind.i32 (Go.IntKind.wrap Go.IntKind.u32 (t - mark)) →
    SkR b mark rows t (Go.Value.bool Bool.false)
      [(b, Go.Sx.Blk.cells [Go.Value.int Go.IntKind.u32 mark, Go.Value.slice (Option.some { block := b1, off := base * (2 : Nat) }) (List.length rows) cap] (55 : Go.TypeId)),
        (b1, Go.Sx.Blk.tab (60 : Go.TypeId) base cap [Go.Sx.Col.ints Go.IntKind.u32 xs, Go.Sx.Col.ints Go.IntKind.u32 ys])]) ∧
  (¬¬(0 : Int) < Go.IntKind.wrap Go.IntKind.i32 (Go.IntKind.wrap Go.IntKind.u32 (t - mark)) →
    (List.length rows ≤ cap ∧ cap = cap ∧ List.length rows < (1000000 : Nat)) ∧
      (mvRows (Go.IntKind.wrap Go.IntKind.u32 (t - mark)) (zipRows (List.length rows) xs ys) = [] →
          ((0 : Int) < (↑(0 : Nat) : Int) → False) ∧
            (¬(0 : Int) < (↑(0 : Nat) : Int) →
              SkR b mark rows t (Go.Value.bool Bool.true)
                [(b,
                    Go.Sx.Blk.cells [Go.Value.int Go.IntKind.u32 (Go.IntKind.wrap Go.IntKind.u32 (mark + Go.IntKind.wrap Go.IntKind.u32 (t - mark))), Go.Value.slice Option.none (0 : Nat) (0 : Nat)]
                      (55 : Go.TypeId))])) ∧
        ∀ (b' base' cap' : Nat) (xs' ys' : List Int),
          (0 : Nat) < List.length (mvRows (Go.IntKind.wrap Go.IntKind.u32 (t - mark)) (zipRows (List.length rows) xs ys)) →
            List.length (mvRows (Go.IntKind.wrap Go.IntKind.u32 (t - mark)) (zipRows (List.length rows) xs ys)) ≤ cap' →
              List.length xs' = cap' →
                List.length ys' = cap' →
                  List.take (List.length (mvRows (Go.IntKind.wrap Go.IntKind.u32 (t - mark)) (zipRows (List.length rows) xs ys))) xs' =
                      List.map (fun (x : Int × Int) => x.1)
                        (mvRows (Go.IntKind.wrap Go.IntKind.u32 (t - mark)) (zipRows (List.length rows) xs ys)) →
                    List.take (List.length (mvRows (Go.IntKind.wrap Go.IntKind.u32 (t - mark)) (zipRows (List.length rows) xs ys))) ys' =
                        List.map (fun (x : Int × Int) => x.2)
                          (mvRows (Go.IntKind.wrap Go.IntKind.u32 (t - mark)) (zipRows (List.length rows) xs ys)) →
                      ((0 : Int) <
                            (↑(List.length (mvRows (Go.IntKind.wrap Go.IntKind.u32 (t - mark)) (zipRows (List.length rows) xs ys))) : Int) →
                          ((0 : Int) ≤ (0 : Int) ∧
                              (0 : Int) <
                                (↑(List.length (mvRows (Go.IntKind.wrap Go.IntKind.u32 (t - mark)) (zipRows (List.length rows) xs ys))) : Int)) ∧
                            (0 : Nat) + Int.toNat (0 : Int) < cap' ∧
                              (List.getD xs' ((0 : Nat) + Int.toNat (0 : Int)) (0 : Int) = (1 : Int) →
                                  ((0 : Int) ≤ (0 : Int) ∧
                                      (0 : Int) <
                                        (↑(List.length (mvRows (Go.IntKind.wrap Go.IntKind.u32 (t - mark)) (zipRows (List.length rows) xs ys))) :
                                          Int)) ∧
                                    (0 : Nat) + Int.toNat (0 : Int) < cap' ∧
                                      (List.length (mvRows (Go.IntKind.wrap Go.IntKind.u32 (t - mark)) (zipRows (List.length rows) xs ys)) ≤
                                            cap' ∧
                                          cap' = cap' ∧
                                            List.length (mvRows (Go.IntKind.wrap Go.IntKind.u32 (t - mark)) (zipRows (List.length rows) xs ys)) <
                                              (1000000 : Nat)) ∧
                                        (mvRows (List.getD ys' ((0 : Nat) + Int.toNat (0 : Int)) (0 : Int))
                                                (zipRows
                                                  (List.length
                                                    (mvRows (Go.IntKind.wrap Go.IntKind.u32 (t - mark)) (zipRows (List.length rows) xs ys)))
                                                  xs' ys') =
                                              [] →
                                            SkR b mark rows t (Go.Value.bool Bool.true)
                                              [(b,
                                                  Go.Sx.Blk.cells
                                                    [Go.Value.int Go.IntKind.u32
                                                        (Go.IntKind.wrap Go.IntKind.u32
                                                          (Go.IntKind.wrap Go.IntKind.u32 (mark + Go.IntKind.wrap Go.IntKind.u32 (t - mark)) +
                                                            List.getD ys' ((0 : Nat) + Int.toNat (0 : Int)) (0 : Int))),
                                                      Go.Value.slice Option.none (0 : Nat) (0 : Nat)]
                                                    (55 : Go.TypeId))]) ∧
                                          ∀ (b' base' cap' : Nat) (xs'_1 ys'_1 : List Int),
                                            (0 : Nat) <
                                                List.length
                                                  (mvRows (List.getD ys' ((0 : Nat) + Int.toNat (0 : Int)) (0 : Int))
                                                    (zipRows
                                                      (List.length
                                                        (mvRows (Go.IntKind.wrap Go.IntKind.u32 (t - mark)) (zipRows (List.length rows) xs ys)))
                                                      xs' ys')) →
                                              List.length
                                                    (mvRows (List.getD ys' ((0 : Nat) + Int.toNat (0 : Int)) (0 : Int))
                                                      (zipRows
                                                        (List.length
                                                          (mvRows (Go.IntKind.wrap Go.IntKind.u32 (t - mark)) (zipRows (List.length rows) xs ys)))
                                                        xs' ys')) ≤
                                                  cap' →
                                                List.length xs'_1 = cap' →
                                                  List.length ys'_1 = cap' →
                                                    List.take
                                                          (List.length
                                                            (mvRows (List.getD ys' ((0 : Nat) + Int.toNat (0 : Int)) (0 : Int))
                                                              (zipRows
                                                                (List.length
                                                                  (mvRows (Go.IntKind.wrap Go.IntKind.u32 (t - mark))
                                                                    (zipRows (List.length rows) xs ys)))
                                                                xs' ys')))
                                                          xs'_1 =
                                                        List.map (fun (x : Int × Int) => x.1)
                                                          (mvRows (List.getD ys' ((0 : Nat) + Int.toNat (0 : Int)) (0 : Int))
                                                            (zipRows
                                                              (List.length
                                                                (mvRows (Go.IntKind.wrap Go.IntKind.u32 (t - mark))
                                                                  (zipRows (List.length rows) xs ys)))
                                                              xs' ys')) →
                                                      List.take
                                                            (List.length
                                                              (mvRows (List.getD ys' ((0 : Nat) + Int.toNat (0 : Int)) (0 : Int))
                                                                (zipRows
                                                                  (List.length
                                                                    (mvRows (Go.IntKind.wrap Go.IntKind.u32 (t - mark))
                                                                      (zipRows (List.length rows) xs ys)))
                                                                  xs' ys')))
                                                            ys'_1 =
                                                          List.map (fun (x : Int × Int) => x.2)
                                                            (mvRows (List.getD ys' ((0 : Nat) + Int.toNat (0 : Int)) (0 : Int))
                                                              (zipRows
                                                                (List.length
                                                                  (mvRows (Go.IntKind.wrap Go.IntKind.u32 (t - mark))
                                                                    (zipRows (List.length rows) xs ys)))
                                                                xs' ys')) →
                                                        SkR b mark rows t (Go.Value.bool Bool.true)
                                                          [(b,
                                                              Go.Sx.Blk.cells
                                                                [Go.Value.int Go.IntKind.u32
                                                                    (Go.IntKind.wrap Go.IntKind.u32
                                                                      (Go.IntKind.wrap Go.IntKind.u32 (mark + Go.IntKind.wrap Go.IntKind.u32 (t - mark)) +
                                                                        List.getD ys' ((0 : Nat) + Int.toNat (0 : Int)) (0 : Int))),
                                                                  Go.Value.slice (Option.some { block := b', off := base' * (2 : Nat) })
                                                                    (List.length
                                                                      (mvRows (List.getD ys' ((0 : Nat) + Int.toNat (0 : Int)) (0 : Int))
                                                                        (zipRows
                                                                          (List.length
                                                                            (mvRows (Go.IntKind.wrap Go.IntKind.u32 (t - mark))
                                                                              (zipRows (List.length rows) xs ys)))
                                                                          xs' ys')))
                                                                    cap']
                                                                (55 : Go.TypeId)),
                                                            (b', Go.Sx.Blk.tab (60 : Go.TypeId) base' cap' [Go.Sx.Col.ints Go.IntKind.u32 xs'_1, Go.Sx.Col.ints Go.IntKind.u32 ys'_1])]) ∧
                                (¬List.getD xs' ((0 : Nat) + Int.toNat (0 : Int)) (0 : Int) = (1 : Int) →
                                  SkR b mark rows t (Go.Value.bool Bool.true)
                                    [(b,
                                        Go.Sx.Blk.cells
                                          [Go.Value.int Go.IntKind.u32 (Go.IntKind.wrap Go.IntKind.u32 (mark + Go.IntKind.wrap Go.IntKind.u32 (t - mark))),
                                            Go.Value.slice (Option.some { block := b', off := base' * (2 : Nat) })
                                              (List.length
                                                (mvRows (Go.IntKind.wrap Go.IntKind.u32 (t - mark)) (zipRows (List.length rows) xs ys)))
                                              cap']
                                          (55 : Go.TypeId)),
                                      (b', Go.Sx.Blk.tab (60 : Go.TypeId) base' cap' [Go.Sx.Col.ints Go.IntKind.u32 xs', Go.Sx.Col.ints Go.IntKind.u32 ys'])])) ∧
                        (¬(0 : Int) <
                              (↑(List.length (mvRows (Go.IntKind.wrap Go.IntKind.u32 (t - mark)) (zipRows (List.length rows) xs ys))) : Int) →
                          SkR b mark rows t (Go.Value.bool Bool.true)
                            [(b,
                                Go.Sx.Blk.cells
                                  [Go.Value.int Go.IntKind.u32 (Go.IntKind.wrap Go.IntKind.u32 (mark + Go.IntKind.wrap Go.IntKind.u32 (t - mark))),
                                    Go.Value.slice (Option.some { block := b', off := base' * (2 : Nat) })
                                      (List.length (mvRows (Go.IntKind.wrap Go.IntKind.u32 (t - mark)) (zipRows (List.length rows) xs ys))) cap']
                                  (55 : Go.TypeId)),
                              (b', Go.Sx.Blk.tab (60 : Go.TypeId) base' cap' [Go.Sx.Col.ints Go.IntKind.u32 xs', Go.Sx.Col.ints Go.IntKind.u32 ys'])])) := by
  have hz := zip_rows h1 h2
  simp only [hz]
  have hless : lessF mark t ↔ 0 < IntKind.wrap .i32 (IntKind.wrap .u32 (t - mark)) := Iff.rfl
  have hdist : distF mark t = IntKind.wrap .u32 (t - mark) := rfl
  unfold SkR
  rw [hdist]
  revert hless hdist
  generalize IntKind.wrap .u32 (t - mark) = d
  intro hless hdist
  have hml : (mvRows d rows).length ≤ rows.length := by
    unfold mvRows; rw [List.length_map]; exact List.length_filter_le _ _
  refine ⟨fun hn => ⟨fun h => absurd (hless.1 h) hn, fun _ => ⟨rfl, _, _, .inr ⟨b1, base, cap, xs, ys, [], rfl, h0, hlc, hx, hy, h1, h2, List.Perm.refl _⟩, List.Perm.refl _⟩⟩,
    fun hl => ⟨⟨hlc, trivial, hb⟩, fun h0 => ⟨fun hh => by simp at hh, fun _ => ⟨fun _ => ⟨rfl, ?_⟩, fun h => absurd (hless.2 (Decidable.not_not.1 hl)) h⟩⟩, fun b' base' cap' xs' ys' g1 g2 g3 g4 g5 g6 => ?_⟩⟩
  · rw [h0]
    exact ⟨_, [], .inl ⟨rfl, rfl⟩, List.Perm.refl _⟩
  · have hz2 : zipRows (mvRows d rows).length xs' ys' = mvRows d rows := zip_rows g5 g6
    simp only [hz2]
    have x0 := getD_take (f := (·.1)) g5 g1
    have y0 := getD_take (f := (·.2)) g6 g1
    cases hR : mvRows d rows with
    | nil => rw [hR] at g1; simp at g1
    | cons r0 rs =>
      obtain ⟨f, e⟩ := r0
      simp only [hR] at x0 y0 g1 g2 g5 g6 hml ⊢
      simp only [List.getElem_cons_zero] at x0 y0
      simp only [Int.toNat_zero, Nat.add_zero, x0, y0, settleF]
      have g1' : (0 : Int) < (((f, e) :: rs).length : Int) := by simp only [List.length_cons]; omega
      have g2' : 0 < cap' := by omega
      refine ⟨fun _ => ⟨⟨by first | omega | trivial, g1'⟩, g2', fun hf => ⟨⟨by first | omega | trivial, g1'⟩, g2', ⟨g2, trivial, by omega⟩, fun hm => ?_, fun b2 base2 cap2 xs2 ys2 k1 k2 k3 k4 k5 k6 => ?_⟩, fun hf => ?_⟩, fun hn => absurd g1' hn⟩
      · refine ⟨fun _ => ⟨by trivial, ?_⟩, fun h => absurd (hless.2 (Decidable.not_not.1 hl)) h⟩
        rw [if_pos hf, hm]
        exact ⟨_, _, .inl ⟨rfl, rfl⟩, List.Perm.refl _⟩
      · refine ⟨fun _ => ⟨by trivial, ?_⟩, fun h => absurd (hless.2 (Decidable.not_not.1 hl)) h⟩
        rw [if_pos hf]
        exact ⟨_, _, .inr ⟨b2, base2, cap2, xs2, ys2, [], rfl, k1, k2, k3, k4, k5, k6, List.Perm.refl _⟩, List.Perm.refl _⟩
      · refine ⟨fun _ => ⟨by trivial, ?_⟩, fun h => absurd (hless.2 (Decidable.not_not.1 hl)) h⟩
        rw [if_neg hf]
        exact ⟨_, _, .inr ⟨b', base', cap', xs', ys', [], rfl, g1, g2, g3, g4, g5, g6, List.Perm.refl _⟩, List.Perm.refl _⟩

theorem skNil_vc (b : Nat) (mark t : Int) : 
    (¬(0 : Int) < Go.IntKind.wrap Go.IntKind.i32 (Go.IntKind.wrap Go.IntKind.u32 (t - mark)) →
    SkR b mark [] t (Go.Value.bool Bool.false) [(b, Go.Sx.Blk.cells [Go.Value.int Go.IntKind.u32 mark, Go.Value.slice Option.none (0 : Nat) (0 : Nat)] (55 : Go.TypeId))]) ∧
  (¬¬(0 : Int) < Go.IntKind.wrap Go.IntKind.i32 (Go.IntKind.wrap Go.IntKind.u32 (t - mark)) →
    (mvRows (Go.IntKind.wrap Go.IntKind.u32 (t - mark)) [] = [] →
        ((0 : Int) < (↑(0 : Nat) : Int) → False) ∧
          (¬(0 : Int) < (↑(0 : Nat) : Int) →
            SkR b mark [] t (Go.Value.bool Bool.true)
              [(b,
                  Go.Sx.Blk.cells [Go.Value.int Go.IntKind.u32 (Go.IntKind.wrap Go.IntKind.u32 (mark + Go.IntKind.wrap Go.IntKind.u32 (t - mark))), Go.Value.slice Option.none (0 : Nat) (0 : Nat)]
                    (55 : Go.TypeId))])) ∧
      ∀ (b' base' cap' : Nat) (xs' ys' : List Int),
        (0 : Nat) < List.length (mvRows (Go.IntKind.wrap Go.IntKind.u32 (t - mark)) []) →
          List.length (mvRows (Go.IntKind.wrap Go.IntKind.u32 (t - mark)) []) ≤ cap' →
            List.length xs' = cap' →
              List.length ys' = cap' →
                List.take (List.length (mvRows (Go.IntKind.wrap Go.IntKind.u32 (t - mark)) [])) xs' =
                    List.map (fun (x : Int × Int) => x.1) (mvRows (Go.IntKind.wrap Go.IntKind.u32 (t - mark)) []) →
                  List.take (List.length (mvRows (Go.IntKind.wrap Go.IntKind.u32 (t - mark)) [])) ys' =
                      List.map (fun (x : Int × Int) => x.2) (mvRows (Go.IntKind.wrap Go.IntKind.u32 (t - mark)) []) →
                    ((0 : Int) < (↑(List.length (mvRows (Go.IntKind.wrap Go.IntKind.u32 (t - mark)) [])) : Int) →
                        ((0 : Int) ≤ (0 : Int) ∧ (0 : Int) < (↑(List.length (mvRows (Go.IntKind.wrap Go.IntKind.u32 (t - mark)) [])) : Int)) ∧
                          (0 : Nat) + Int.toNat (0 : Int) < cap' ∧
                            (List.getD xs' ((0 : Nat) + Int.toNat (0 : Int)) (0 : Int) = (1 : Int) →
                                ((0 : Int) ≤ (0 : Int) ∧ (0 : Int) < (↑(List.length (mvRows (Go.IntKind.wrap Go.IntKind.u32 (t - mark)) [])) : Int)) ∧
                                  (0 : Nat) + Int.toNat (0 : Int) < cap' ∧
                                    (List.length (mvRows (Go.IntKind.wrap Go.IntKind.u32 (t - mark)) []) ≤ cap' ∧
                                        cap' = cap' ∧ List.length (mvRows (Go.IntKind.wrap Go.IntKind.u32 (t - mark)) []) < (1000000 : Nat)) ∧
                                      (mvRows (List.getD ys' ((0 : Nat) + Int.toNat (0 : Int)) (0 : Int))
                                              (zipRows (List.length (mvRows (Go.IntKind.wrap Go.IntKind.u32 (t - mark)) [])) xs' ys') =
                                            [] →
                                          SkR b mark [] t (Go.Value.bool Bool.true)
                                            [(b,
                                                Go.Sx.Blk.cells
                                                  [Go.Value.int Go.IntKind.u32
                                                      (Go.IntKind.wrap Go.IntKind.u32
                                                        (Go.IntKind.wrap Go.IntKind.u32 (mark + Go.IntKind.wrap Go.IntKind.u32 (t - mark)) +
                                                          List.getD ys' ((0 : Nat) + Int.toNat (0 : Int)) (0 : Int))),
                                                    Go.Value.slice Option.none (0 : Nat) (0 : Nat)]
                                                  (55 : Go.TypeId))]) ∧
                                        ∀ (b' base' cap' : Nat) (xs'_1 ys'_1 : List Int),
                                          (0 : Nat) <
                                              List.length
                                                (mvRows (List.getD ys' ((0 : Nat) + Int.toNat (0 : Int)) (0 : Int))
                                                  (zipRows (List.length (mvRows (Go.IntKind.wrap Go.IntKind.u32 (t - mark)) [])) xs' ys')) →
                                            List.length
                                                  (mvRows (List.getD ys' ((0 : Nat) + Int.toNat (0 : Int)) (0 : Int))
                                                    (zipRows (List.length (mvRows (Go.IntKind.wrap Go.IntKind.u32 (t - mark)) [])) xs' ys')) ≤
                                                cap' →
                                              List.length xs'_1 = cap' →
                                                List.length ys'_1 = cap' →
                                                  List.take
                                                        (List.length
                                                          (mvRows (List.getD ys' ((0 : Nat) + Int.toNat (0 : Int)) (0 : Int))
                                                            (zipRows (List.length (mvRows (Go.IntKind.wrap Go.IntKind.u32 (t - mark)) [])) xs'
                                                              ys')))
                                                        xs'_1 =
                                                      List.map (fun (x : Int × Int) => x.1)
                                                        (mvRows (List.getD ys' ((0 : Nat) + Int.toNat (0 : Int)) (0 : Int))
                                                          (zipRows (List.length (mvRows (Go.IntKind.wrap Go.IntKind.u32 (t - mark)) [])) xs'
                                                            ys')) →
                                                    List.take
                                                          (List.length
                                                            (mvRows (List.getD ys' ((0 : Nat) + Int.toNat (0 : Int)) (0 : Int))
                                                              (zipRows (List.length (mvRows (Go.IntKind.wrap Go.IntKind.u32 (t - mark)) [])) xs'
                                                                ys')))
                                                          ys'_1 =
                                                        List.map (fun (x : Int × Int) => x.2)
                                                          (mvRows (List.getD ys' ((0 : Nat) + Int.toNat (0 : Int)) (0 : Int))
                                                            (zipRows (List.length (mvRows (Go.IntKind.wrap Go.IntKind.u32 (t - mark)) [])) xs'
                                                              ys')) →
                                                      SkR b mark [] t (Go.Value.bool Bool.true)
                                                        [(b,
                                                            Go.Sx.Blk.cells
                                                              [Go.Value.int Go.IntKind.u32
                                                                  (Go.IntKind.wrap Go.IntKind.u32
                                                                    (Go.IntKind.wrap Go.IntKind.u32 (mark + Go.IntKind.wrap Go.IntKind.u32 (t - mark)) +
                                                                      List.getD ys' ((0 : Nat) + Int.toNat (0 : Int)) (0 : Int))),
                                                                Go.Value.slice (Option.some { block := b', off := base' * (2 : Nat) })
                                                                  (List.length
                                                                    (mvRows (List.getD ys' ((0 : Nat) + Int.toNat (0 : Int)) (0 : Int))
                                                                      (zipRows
                                                                        (List.length (mvRows (Go.IntKind.wrap Go.IntKind.u32 (t - mark)) [])) xs' ys')))
                                                                  cap']
                                                              (55 : Go.TypeId)),
                                                          (b', Go.Sx.Blk.tab (60 : Go.TypeId) base' cap' [Go.Sx.Col.ints Go.IntKind.u32 xs'_1, Go.Sx.Col.ints Go.IntKind.u32 ys'_1])]) ∧
                              (¬List.getD xs' ((0 : Nat) + Int.toNat (0 : Int)) (0 : Int) = (1 : Int) →
                                SkR b mark [] t (Go.Value.bool Bool.true)
                                  [(b,
                                      Go.Sx.Blk.cells
                                        [Go.Value.int Go.IntKind.u32 (Go.IntKind.wrap Go.IntKind.u32 (mark + Go.IntKind.wrap Go.IntKind.u32 (t - mark))),
                                          Go.Value.slice (Option.some { block := b', off := base' * (2 : Nat) })
                                            (List.length (mvRows (Go.IntKind.wrap Go.IntKind.u32 (t - mark)) [])) cap']
                                        (55 : Go.TypeId)),
                                    (b', Go.Sx.Blk.tab (60 : Go.TypeId) base' cap' [Go.Sx.Col.ints Go.IntKind.u32 xs', Go.Sx.Col.ints Go.IntKind.u32 ys'])])) ∧
                      (¬(0 : Int) < (↑(List.length (mvRows (Go.IntKind.wrap Go.IntKind.u32 (t - mark)) [])) : Int) →
                        SkR b mark [] t (Go.Value.bool Bool.true)
                          [(b,
                              Go.Sx.Blk.cells
                                [Go.Value.int Go.IntKind.u32 (Go.IntKind.wrap Go.IntKind.u32 (mark + Go.IntKind.wrap Go.IntKind.u32 (t - mark))),
                                  Go.Value.slice (Option.some { block := b', off := base' * (2 : Nat) })
                                    (List.length (mvRows (Go.IntKind.wrap Go.IntKind.u32 (t - mark)) [])) cap']
                                (55 : Go.TypeId)),
                            (b', Go.Sx.Blk.tab (60 : Go.TypeId) base' cap' [Go.Sx.Col.ints Go.IntKind.u32 xs', Go.Sx.Col.ints Go.IntKind.u32 ys'])])) := by
  have hm : ∀ d, mvRows d [] = [] := fun d => rfl
  refine ⟨fun hn => ⟨fun h => absurd h hn, fun _ => ⟨rfl, _, _, .inl ⟨rfl, rfl⟩, List.Perm.refl _⟩⟩, fun hl => ⟨fun h0 => ⟨fun hh => by simp at hh, fun _ => ⟨fun _ => ⟨rfl, _, _, .inl ⟨rfl, rfl⟩, List.Perm.refl _⟩, fun h => absurd (Decidable.not_not.1 hl) h⟩⟩, fun b' base' cap' xs' ys' g1 => ?_⟩⟩
  rw [hm] at g1
  simp at g1

theorem sk_goal (b b1 base cap : Nat) (xs ys : List Int) (mark t : Int) (rows : List (Int × Int)) (hlc : rows.length ≤ cap) (hb : rows.length < 1000000) (h0 : 0 < rows.length) (hx : xs.length = cap) (hy : ys.length = cap)
    (h1 : xs.take rows.length = rows.map (·.1)) (h2 : ys.take rows.length = rows.map (·.2)) : skGoal b b1 base cap xs ys mark t rows :=
  Eq.mpr (by kernel_rfl) (sk_vc b b1 base cap xs ys mark t rows hlc hb h0 hx hy h1 h2)
theorem skNil_goal (b : Nat) (mark t : Int) : skNilGoal b mark t := Eq.mpr (by kernel_rfl) (skNil_vc b mark t)
end Go.Proofs.Ytmjhfnmkegdafaa
