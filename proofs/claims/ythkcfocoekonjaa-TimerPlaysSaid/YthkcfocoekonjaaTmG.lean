/- Span: Stop. -/
import Derived.Test.YthkcfocoekonjaaTmF


set_option maxRecDepth 100000
set_option linter.unusedVariables false
set_option linter.unusedSimpArgs false
namespace Go.Proofs.Ythkcfocoekonjaa
open Go Go.Sx
attribute [local irreducible] Go.Sx.xrun

def stPost (kind : Int) (rows : List Row) (p : Prop) (rows' : List Row) : Prop := (¬ p → rows' = rows ∧ ∀ r ∈ rows, r.2 ≠ kind) ∧ (p → ∃ r : Row, r.2 = kind ∧ rows.Perm (r :: rows')) ∧ Heap rows'.length rows'
noncomputable def stGoal (b b1 base cap : Nat) (kind : Int) (xs ys : List Int) (rows : List Row) : Prop :=
  xrun Go.Proofs.Try.prog [(63, plT), (82, upT 1), (83, dnT)] [] [] 9 [] 31 [.ptr 0 0 0, .val (.int .i64 kind)]
    [.own b (.cells 1 [.slc 1 0 rows.length cap] 70), .own b1 (.tab 150 base cap [.ints .u64 xs, .ints .i64 ys])] fun s h => bOf s fun p => TbL b b1 base cap (stPost kind rows p) (owned (locs h) h)

theorem zipR_take {xs ys : List Int} {q : List Row} {n : Nat} (h1 : xs.take q.length = q.map (·.1)) (h2 : ys.take q.length = q.map (·.2)) (hx : q.length ≤ xs.length) (hy : q.length ≤ ys.length) (hn : n ≤ q.length) : zipR n xs ys = q.take n := by
  have hz := zipR_of h1 h2
  refine list_gq (by rw [zipR_len (by omega) (by omega), List.length_take]; omega) fun k hk => ?_
  rw [zipR_len (by omega) (by omega)] at hk
  rw [gq_zip (by omega) (by omega) hk]
  have e : gq (q.take n) k = gq q k := by simp [gq, List.getD, List.getElem?_take, hk]
  rw [e, ← hz, gq_zip hx hy (by omega)]
theorem pop_perm {rows q : List Row} {n : Nat} (hp : q.Perm rows) (hl : q.length = n + 1) : rows.Perm (gq q n :: q.take n) := by
  have e : q = q.take n ++ [gq q n] := by
    have h1 : q.take (n + 1) = q.take n ++ [q[n]'(by omega)] := List.take_succ_eq_append_getElem (by omega)
    rw [List.take_of_length_le (by omega)] at h1
    rw [gq_eq (by omega)]
    exact h1
  refine hp.symm.trans ?_
  rw [e]
  have e2 : (q.take n ++ [gq q n]).take n = q.take n := by rw [List.take_left' (by rw [List.length_take]; omega)]
  have e3 : gq (q.take n ++ [gq q n]) n = gq q n := by rw [← e]
  rw [e2, e3]
  exact List.perm_append_comm
theorem TbL.more {b b1 base cap : Nat} {R : List Row → Prop} {L : Blks} (h : TbL b b1 base cap R L) (G : Blks) : TbL b b1 base cap R (L ++ G) := by
  obtain ⟨rows, xs, ys, G0, h1, h2, h3, h4, h5, h6, rfl⟩ := h
  exact ⟨rows, xs, ys, G0 ++ G, h1, h2, h3, h4, h5, h6, by simp⟩
theorem st_end {b b1 base cap n : Nat} (kind : Int) {xs ys : List Int} {rows q : List Row} (G : Blks) (hlc : q.length ≤ cap) (hx : xs.length = cap) (hy : ys.length = cap) (h1 : xs.take q.length = q.map (·.1)) (h2 : ys.take q.length = q.map (·.2))
    (hl : q.length = n + 1) (hp : q.Perm rows) (hh : Heap n q) (hk : (gq q n).2 = kind) :
    TbL b b1 base cap (stPost kind rows True) ((b, .cells [.slice (some ⟨b1, base * 2, none⟩) n cap] 70) :: (b1, .tab 150 base cap [.ints .u64 xs, .ints .i64 ys]) :: G) := by
  refine TbL.more (tb_mk hx hy (by omega) ?_) G
  rw [zipR_take h1 h2 (by omega) (by omega) (by omega)]
  refine ⟨fun h => absurd trivial h, fun _ => ⟨gq q n, hk, pop_perm hp hl⟩, ?_⟩
  rw [List.length_take, Nat.min_eq_left (by omega)]
  exact heap_take hh

theorem st_vc (b b1 base cap : Nat) (kind : Int) (xs ys : List Int) (rows : List Row) (hlc : rows.length ≤ cap) (hb : rows.length < 1000000) (hx : xs.length = cap) (hy : ys.length = cap)
    (h1 : xs.take rows.length = rows.map (·.1)) (h2 : ys.take rows.length = rows.map (·.2)) (hh : Heap rows.length rows) :
    (List.length rows ≤ cap ∧ cap = cap ∧ List.length rows < (1000000 : Nat) ∧ ∃ (kind_1 : Int), [Go.Value.int Go.IntKind.i64 kind] = [Go.Value.int Go.IntKind.i64 kind_1]) ∧
  ∀ (a : Int) (rows' : List Row) (xs' ys' : List Int),
    (∃ (kind_1 : Int),
        [Go.Value.int Go.IntKind.i64 kind] = [Go.Value.int Go.IntKind.i64 kind_1] ∧
          rows' = zipR (List.length rows) xs ys ∧ plF kind_1 (zipR (List.length rows) xs ys) a) →
      List.length rows' ≤ cap →
        List.length xs' = cap →
          List.length ys' = cap →
            List.take (List.length rows') xs' = List.map (fun (x : Row) => x.1) rows' →
              List.take (List.length rows') ys' = List.map (fun (x : Row) => x.2) rows' →
                (a < (0 : Int) →
                    TbL b b1 base cap (stPost kind rows False)
                      [(b, Go.Sx.Blk.cells [Go.Value.slice (Option.some { block := b1, off := base * (2 : Nat) }) (List.length rows') cap] (70 : Go.TypeId)),
                        (b1, Go.Sx.Blk.tab (150 : Go.TypeId) base cap [Go.Sx.Col.ints Go.IntKind.u64 xs', Go.Sx.Col.ints Go.IntKind.i64 ys'])]) ∧
                  (¬a < (0 : Int) →
                    (Go.IntKind.wrap Go.IntKind.i64 ((↑(List.length rows') : Int) - (1 : Int)) ≠ a →
                        ((0 : Int) ≤ Go.IntKind.wrap Go.IntKind.i64 ((↑(List.length rows') : Int) - (1 : Int)) ∧
                            Go.IntKind.wrap Go.IntKind.i64 ((↑(List.length rows') : Int) - (1 : Int)) < (↑(List.length rows') : Int)) ∧
                          (0 : Nat) + Int.toNat (Go.IntKind.wrap Go.IntKind.i64 ((↑(List.length rows') : Int) - (1 : Int))) < cap ∧
                            (0 : Nat) + Int.toNat (Go.IntKind.wrap Go.IntKind.i64 ((↑(List.length rows') : Int) - (1 : Int))) < cap ∧
                              ((0 : Int) ≤ a ∧ a < (↑(List.length rows') : Int)) ∧
                                (0 : Nat) + Int.toNat a < cap ∧
                                  (0 : Nat) + Int.toNat a < cap ∧
                                    ((0 : Int) ≤ a ∧ a < (↑(List.length rows') : Int)) ∧
                                      (0 : Nat) + Int.toNat a < cap ∧
                                        (0 : Nat) + Int.toNat a < cap ∧
                                          ((0 : Int) ≤ Go.IntKind.wrap Go.IntKind.i64 ((↑(List.length rows') : Int) - (1 : Int)) ∧
                                              Go.IntKind.wrap Go.IntKind.i64 ((↑(List.length rows') : Int) - (1 : Int)) < (↑(List.length rows') : Int)) ∧
                                            (0 : Nat) + Int.toNat (Go.IntKind.wrap Go.IntKind.i64 ((↑(List.length rows') : Int) - (1 : Int))) < cap ∧
                                              (0 : Nat) + Int.toNat (Go.IntKind.wrap Go.IntKind.i64 ((↑(List.length rows') : Int) - (1 : Int))) < cap ∧
                                                (List.length rows' ≤ cap ∧
                                                    cap = cap ∧
                                                      List.length rows' < (1000000 : Nat) ∧
                                                        ∃ (i0 : Nat),
                                                          ∃ (n : Nat),
                                                            [Go.Value.int Go.IntKind.i64 a, Go.Value.int Go.IntKind.i64 (Go.IntKind.wrap Go.IntKind.i64 ((↑(List.length rows') : Int) - (1 : Int)))] =
                                                                [Go.Value.int Go.IntKind.i64 (↑i0 : Int), Go.Value.int Go.IntKind.i64 (↑n : Int)] ∧
                                                              n ≤
                                                                  List.length
                                                                    (zipR (List.length rows')
                                                                      (List.set
                                                                        (List.set xs' ((0 : Nat) + Int.toNat a)
                                                                          (List.getD xs' ((0 : Nat) + Int.toNat (Go.IntKind.wrap Go.IntKind.i64 ((↑(List.length rows') : Int) - (1 : Int)))) (0 : Int)))
                                                                        ((0 : Nat) + Int.toNat (Go.IntKind.wrap Go.IntKind.i64 ((↑(List.length rows') : Int) - (1 : Int))))
                                                                        (List.getD xs' ((0 : Nat) + Int.toNat a) (0 : Int)))
                                                                      (List.set
                                                                        (List.set ys' ((0 : Nat) + Int.toNat a)
                                                                          (List.getD ys' ((0 : Nat) + Int.toNat (Go.IntKind.wrap Go.IntKind.i64 ((↑(List.length rows') : Int) - (1 : Int)))) (0 : Int)))
                                                                        ((0 : Nat) + Int.toNat (Go.IntKind.wrap Go.IntKind.i64 ((↑(List.length rows') : Int) - (1 : Int))))
                                                                        (List.getD ys' ((0 : Nat) + Int.toNat a) (0 : Int)))) ∧
                                                                i0 <
                                                                    List.length
                                                                      (zipR (List.length rows')
                                                                        (List.set
                                                                          (List.set xs' ((0 : Nat) + Int.toNat a)
                                                                            (List.getD xs' ((0 : Nat) + Int.toNat (Go.IntKind.wrap Go.IntKind.i64 ((↑(List.length rows') : Int) - (1 : Int))))
                                                                              (0 : Int)))
                                                                          ((0 : Nat) + Int.toNat (Go.IntKind.wrap Go.IntKind.i64 ((↑(List.length rows') : Int) - (1 : Int))))
                                                                          (List.getD xs' ((0 : Nat) + Int.toNat a) (0 : Int)))
                                                                        (List.set
                                                                          (List.set ys' ((0 : Nat) + Int.toNat a)
                                                                            (List.getD ys' ((0 : Nat) + Int.toNat (Go.IntKind.wrap Go.IntKind.i64 ((↑(List.length rows') : Int) - (1 : Int))))
                                                                              (0 : Int)))
                                                                          ((0 : Nat) + Int.toNat (Go.IntKind.wrap Go.IntKind.i64 ((↑(List.length rows') : Int) - (1 : Int))))
                                                                          (List.getD ys' ((0 : Nat) + Int.toNat a) (0 : Int)))) ∧
                                                                  DnInv n
                                                                    (zipR (List.length rows')
                                                                      (List.set
                                                                        (List.set xs' ((0 : Nat) + Int.toNat a)
                                                                          (List.getD xs' ((0 : Nat) + Int.toNat (Go.IntKind.wrap Go.IntKind.i64 ((↑(List.length rows') : Int) - (1 : Int)))) (0 : Int)))
                                                                        ((0 : Nat) + Int.toNat (Go.IntKind.wrap Go.IntKind.i64 ((↑(List.length rows') : Int) - (1 : Int))))
                                                                        (List.getD xs' ((0 : Nat) + Int.toNat a) (0 : Int)))
                                                                      (List.set
                                                                        (List.set ys' ((0 : Nat) + Int.toNat a)
                                                                          (List.getD ys' ((0 : Nat) + Int.toNat (Go.IntKind.wrap Go.IntKind.i64 ((↑(List.length rows') : Int) - (1 : Int)))) (0 : Int)))
                                                                        ((0 : Nat) + Int.toNat (Go.IntKind.wrap Go.IntKind.i64 ((↑(List.length rows') : Int) - (1 : Int))))
                                                                        (List.getD ys' ((0 : Nat) + Int.toNat a) (0 : Int))))
                                                                    i0 i0) ∧
                                                  ∀ (a_9 : Prop) (rows'_1 : List Row) (xs'_1 ys'_1 : List Int),
                                                    (∃ (i0 : Nat),
                                                        ∃ (n : Nat),
                                                          [Go.Value.int Go.IntKind.i64 a, Go.Value.int Go.IntKind.i64 (Go.IntKind.wrap Go.IntKind.i64 ((↑(List.length rows') : Int) - (1 : Int)))] =
                                                              [Go.Value.int Go.IntKind.i64 (↑i0 : Int), Go.Value.int Go.IntKind.i64 (↑n : Int)] ∧
                                                            dnPost n i0
                                                              (zipR (List.length rows')
                                                                (List.set
                                                                  (List.set xs' ((0 : Nat) + Int.toNat a)
                                                                    (List.getD xs' ((0 : Nat) + Int.toNat (Go.IntKind.wrap Go.IntKind.i64 ((↑(List.length rows') : Int) - (1 : Int)))) (0 : Int)))
                                                                  ((0 : Nat) + Int.toNat (Go.IntKind.wrap Go.IntKind.i64 ((↑(List.length rows') : Int) - (1 : Int))))
                                                                  (List.getD xs' ((0 : Nat) + Int.toNat a) (0 : Int)))
                                                                (List.set
                                                                  (List.set ys' ((0 : Nat) + Int.toNat a)
                                                                    (List.getD ys' ((0 : Nat) + Int.toNat (Go.IntKind.wrap Go.IntKind.i64 ((↑(List.length rows') : Int) - (1 : Int)))) (0 : Int)))
                                                                  ((0 : Nat) + Int.toNat (Go.IntKind.wrap Go.IntKind.i64 ((↑(List.length rows') : Int) - (1 : Int))))
                                                                  (List.getD ys' ((0 : Nat) + Int.toNat a) (0 : Int))))
                                                              a_9 rows'_1) →
                                                      List.length rows'_1 ≤ cap →
                                                        List.length xs'_1 = cap →
                                                          List.length ys'_1 = cap →
                                                            List.take (List.length rows'_1) xs'_1 = List.map (fun (x : Row) => x.1) rows'_1 →
                                                              List.take (List.length rows'_1) ys'_1 = List.map (fun (x : Row) => x.2) rows'_1 →
                                                                (¬a_9 →
                                                                    (List.length rows'_1 ≤ cap ∧
                                                                        cap = cap ∧
                                                                          List.length rows'_1 < (1000000 : Nat) ∧
                                                                            ∃ (j : Nat),
                                                                              [Go.Value.int Go.IntKind.i64 a] = [Go.Value.int Go.IntKind.i64 (↑j : Int)] ∧
                                                                                UpInv
                                                                                  (List.length (zipR (List.length rows'_1) xs'_1 ys'_1) - (1 : Nat))
                                                                                  (zipR (List.length rows'_1) xs'_1 ys'_1) j) ∧
                                                                      ∀ (a_17 : Unit) (rows' : List Row) (xs' ys' : List Int),
                                                                        (∃ (j : Nat),
                                                                            [Go.Value.int Go.IntKind.i64 a] = [Go.Value.int Go.IntKind.i64 (↑j : Int)] ∧
                                                                              upPost
                                                                                (List.length (zipR (List.length rows'_1) xs'_1 ys'_1) - (1 : Nat)) j
                                                                                (zipR (List.length rows'_1) xs'_1 ys'_1) rows') →
                                                                          List.length rows' ≤ cap →
                                                                            List.length xs' = cap →
                                                                              List.length ys' = cap →
                                                                                List.take (List.length rows') xs' = List.map (fun (x : Row) => x.1) rows' →
                                                                                  List.take (List.length rows') ys' = List.map (fun (x : Row) => x.2) rows' →
                                                                                    ((0 : Int) ≤ Go.IntKind.wrap Go.IntKind.i64 ((↑(List.length rows') : Int) - (1 : Int)) ∧
                                                                                        Go.IntKind.wrap Go.IntKind.i64 ((↑(List.length rows') : Int) - (1 : Int)) < (↑(List.length rows') : Int)) ∧
                                                                                      (0 : Nat) + Int.toNat (Go.IntKind.wrap Go.IntKind.i64 ((↑(List.length rows') : Int) - (1 : Int))) < cap ∧
                                                                                        (0 : Nat) + Int.toNat (Go.IntKind.wrap Go.IntKind.i64 ((↑(List.length rows') : Int) - (1 : Int))) < cap ∧
                                                                                          ∀ (b_1 : Nat),
                                                                                            Go.Value.oneCell'
                                                                                                  (Go.Value.int Go.IntKind.u64
                                                                                                    (List.getD xs'
                                                                                                      ((0 : Nat) +
                                                                                                        Int.toNat (Go.IntKind.wrap Go.IntKind.i64 ((↑(List.length rows') : Int) - (1 : Int))))
                                                                                                      (0 : Int))) =
                                                                                                Bool.true ∧
                                                                                              Go.Value.oneCell'
                                                                                                    (Go.Value.int Go.IntKind.i64
                                                                                                      (List.getD ys'
                                                                                                        ((0 : Nat) +
                                                                                                          Int.toNat (Go.IntKind.wrap Go.IntKind.i64 ((↑(List.length rows') : Int) - (1 : Int))))
                                                                                                        (0 : Int))) =
                                                                                                  Bool.true ∧
                                                                                                ((0 : Int) ≤ Go.IntKind.wrap Go.IntKind.i64 ((↑(List.length rows') : Int) - (1 : Int)) ∧
                                                                                                    Go.IntKind.wrap Go.IntKind.i64 ((↑(List.length rows') : Int) - (1 : Int)) ≤ (↑cap : Int)) ∧
                                                                                                  TbL b b1 base cap (stPost kind rows True)
                                                                                                    [(b,
                                                                                                        Go.Sx.Blk.cells
                                                                                                          [Go.Value.slice (Option.some { block := b1, off := base * (2 : Nat) })
                                                                                                              (Int.toNat (Go.IntKind.wrap Go.IntKind.i64 ((↑(List.length rows') : Int) - (1 : Int))))
                                                                                                              cap]
                                                                                                          (70 : Go.TypeId)),
                                                                                                      (b1,
                                                                                                        Go.Sx.Blk.tab (150 : Go.TypeId) base cap
                                                                                                          [Go.Sx.Col.ints Go.IntKind.u64 xs', Go.Sx.Col.ints Go.IntKind.i64 ys']),
                                                                                                      (b_1,
                                                                                                        Go.Sx.Blk.cells
                                                                                                          [Go.Value.int Go.IntKind.u64
                                                                                                              (List.getD xs'
                                                                                                                ((0 : Nat) +
                                                                                                                  Int.toNat (Go.IntKind.wrap Go.IntKind.i64 ((↑(List.length rows') : Int) - (1 : Int))))
                                                                                                                (0 : Int)),
                                                                                                            Go.Value.int Go.IntKind.i64
                                                                                                              (List.getD ys'
                                                                                                                ((0 : Nat) +
                                                                                                                  Int.toNat (Go.IntKind.wrap Go.IntKind.i64 ((↑(List.length rows') : Int) - (1 : Int))))
                                                                                                                (0 : Int))]
                                                                                                          (150 : Nat))]) ∧
                                                                  (¬¬a_9 →
                                                                    ((0 : Int) ≤ Go.IntKind.wrap Go.IntKind.i64 ((↑(List.length rows'_1) : Int) - (1 : Int)) ∧
                                                                        Go.IntKind.wrap Go.IntKind.i64 ((↑(List.length rows'_1) : Int) - (1 : Int)) < (↑(List.length rows'_1) : Int)) ∧
                                                                      (0 : Nat) + Int.toNat (Go.IntKind.wrap Go.IntKind.i64 ((↑(List.length rows'_1) : Int) - (1 : Int))) < cap ∧
                                                                        (0 : Nat) + Int.toNat (Go.IntKind.wrap Go.IntKind.i64 ((↑(List.length rows'_1) : Int) - (1 : Int))) < cap ∧
                                                                          ∀ (b_1 : Nat),
                                                                            Go.Value.oneCell'
                                                                                  (Go.Value.int Go.IntKind.u64
                                                                                    (List.getD xs'_1
                                                                                      ((0 : Nat) + Int.toNat (Go.IntKind.wrap Go.IntKind.i64 ((↑(List.length rows'_1) : Int) - (1 : Int))))
                                                                                      (0 : Int))) =
                                                                                Bool.true ∧
                                                                              Go.Value.oneCell'
                                                                                    (Go.Value.int Go.IntKind.i64
                                                                                      (List.getD ys'_1
                                                                                        ((0 : Nat) + Int.toNat (Go.IntKind.wrap Go.IntKind.i64 ((↑(List.length rows'_1) : Int) - (1 : Int))))
                                                                                        (0 : Int))) =
                                                                                  Bool.true ∧
                                                                                ((0 : Int) ≤ Go.IntKind.wrap Go.IntKind.i64 ((↑(List.length rows'_1) : Int) - (1 : Int)) ∧
                                                                                    Go.IntKind.wrap Go.IntKind.i64 ((↑(List.length rows'_1) : Int) - (1 : Int)) ≤ (↑cap : Int)) ∧
                                                                                  TbL b b1 base cap (stPost kind rows True)
                                                                                    [(b,
                                                                                        Go.Sx.Blk.cells
                                                                                          [Go.Value.slice (Option.some { block := b1, off := base * (2 : Nat) })
                                                                                              (Int.toNat (Go.IntKind.wrap Go.IntKind.i64 ((↑(List.length rows'_1) : Int) - (1 : Int)))) cap]
                                                                                          (70 : Go.TypeId)),
                                                                                      (b1,
                                                                                        Go.Sx.Blk.tab (150 : Go.TypeId) base cap
                                                                                          [Go.Sx.Col.ints Go.IntKind.u64 xs'_1, Go.Sx.Col.ints Go.IntKind.i64 ys'_1]),
                                                                                      (b_1,
                                                                                        Go.Sx.Blk.cells
                                                                                          [Go.Value.int Go.IntKind.u64
                                                                                              (List.getD xs'_1
                                                                                                ((0 : Nat) + Int.toNat (Go.IntKind.wrap Go.IntKind.i64 ((↑(List.length rows'_1) : Int) - (1 : Int))))
                                                                                                (0 : Int)),
                                                                                            Go.Value.int Go.IntKind.i64
                                                                                              (List.getD ys'_1
                                                                                                ((0 : Nat) + Int.toNat (Go.IntKind.wrap Go.IntKind.i64 ((↑(List.length rows'_1) : Int) - (1 : Int))))
                                                                                                (0 : Int))]
                                                                                          (150 : Nat))])) ∧
                      (¬Go.IntKind.wrap Go.IntKind.i64 ((↑(List.length rows') : Int) - (1 : Int)) ≠ a →
                        ((0 : Int) ≤ Go.IntKind.wrap Go.IntKind.i64 ((↑(List.length rows') : Int) - (1 : Int)) ∧
                            Go.IntKind.wrap Go.IntKind.i64 ((↑(List.length rows') : Int) - (1 : Int)) < (↑(List.length rows') : Int)) ∧
                          (0 : Nat) + Int.toNat (Go.IntKind.wrap Go.IntKind.i64 ((↑(List.length rows') : Int) - (1 : Int))) < cap ∧
                            (0 : Nat) + Int.toNat (Go.IntKind.wrap Go.IntKind.i64 ((↑(List.length rows') : Int) - (1 : Int))) < cap ∧
                              ∀ (b_1 : Nat),
                                Go.Value.oneCell'
                                      (Go.Value.int Go.IntKind.u64 (List.getD xs' ((0 : Nat) + Int.toNat (Go.IntKind.wrap Go.IntKind.i64 ((↑(List.length rows') : Int) - (1 : Int)))) (0 : Int))) =
                                    Bool.true ∧
                                  Go.Value.oneCell'
                                        (Go.Value.int Go.IntKind.i64 (List.getD ys' ((0 : Nat) + Int.toNat (Go.IntKind.wrap Go.IntKind.i64 ((↑(List.length rows') : Int) - (1 : Int)))) (0 : Int))) =
                                      Bool.true ∧
                                    ((0 : Int) ≤ Go.IntKind.wrap Go.IntKind.i64 ((↑(List.length rows') : Int) - (1 : Int)) ∧
                                        Go.IntKind.wrap Go.IntKind.i64 ((↑(List.length rows') : Int) - (1 : Int)) ≤ (↑cap : Int)) ∧
                                      TbL b b1 base cap (stPost kind rows True)
                                        [(b,
                                            Go.Sx.Blk.cells
                                              [Go.Value.slice (Option.some { block := b1, off := base * (2 : Nat) })
                                                  (Int.toNat (Go.IntKind.wrap Go.IntKind.i64 ((↑(List.length rows') : Int) - (1 : Int)))) cap]
                                              (70 : Go.TypeId)),
                                          (b1, Go.Sx.Blk.tab (150 : Go.TypeId) base cap [Go.Sx.Col.ints Go.IntKind.u64 xs', Go.Sx.Col.ints Go.IntKind.i64 ys']),
                                          (b_1,
                                            Go.Sx.Blk.cells
                                              [Go.Value.int Go.IntKind.u64
                                                  (List.getD xs' ((0 : Nat) + Int.toNat (Go.IntKind.wrap Go.IntKind.i64 ((↑(List.length rows') : Int) - (1 : Int)))) (0 : Int)),
                                                Go.Value.int Go.IntKind.i64
                                                  (List.getD ys' ((0 : Nat) + Int.toNat (Go.IntKind.wrap Go.IntKind.i64 ((↑(List.length rows') : Int) - (1 : Int)))) (0 : Int))]
                                              (150 : Nat))])) := by
  refine ⟨⟨hlc, by trivial, hb, kind, rfl⟩, fun a rows' xs' ys' ⟨kind1, e, hr, hpl⟩ k1 k2 k3 k4 k5 => ?_⟩
  have hz := zipR_of h1 h2
  simp only [List.cons.injEq, Value.int.injEq, true_and, and_true] at e
  subst e
  rw [hz] at hr hpl
  subst hr
  have hz' := zipR_of k4 k5
  refine ⟨fun hneg => ?_, fun hneg => ?_⟩
  · refine tb_mk k2 k3 k1 ?_
    rw [hz']
    rcases hpl with ⟨-, hno⟩ | ⟨i, r, rfl, -⟩
    · exact ⟨fun _ => ⟨rfl, hno⟩, fun h => h.elim, hh⟩
    · omega
  · rcases hpl with ⟨rfl, -⟩ | ⟨i, r, rfl, hi, hk⟩
    · exact absurd (by decide) hneg
    · have hil : i < rows'.length := (List.getElem?_eq_some_iff.1 hi).1
      have hgi : gq rows' i = r := by rw [gq_eq hil]; exact (List.getElem?_eq_some_iff.1 hi).2
      obtain ⟨n, hn⟩ : ∃ n, rows'.length = n + 1 := ⟨rows'.length - 1, by omega⟩
      have hw : IntKind.wrap .i64 ((rows'.length : Int) - 1) = ((n : Nat) : Int) := by rw [IntKind.wrap_i64]; omega
      simp only [hw, Int.toNat_natCast, Nat.zero_add]
      refine ⟨fun hne => ?_, fun hne => ?_⟩
      · have hin : i < n := by omega
        have hsw := sw_zip (len := rows'.length) (xs := xs') (ys := ys') (i := i) (j := n) (by omega) (by omega) hil (by omega)
        rw [hz'] at hsw
        simp only [hsw, sw_len]
        have hcut := heap_cut (n := n) (q := rows') (i := i) (hn ▸ hh) hn.symm hin
        refine ⟨⟨by omega, by omega⟩, by omega, by omega, ⟨by omega, by omega⟩, by omega, by omega, ⟨by omega, by omega⟩, by omega, by omega, ⟨by omega, by omega⟩, by omega, by omega, ⟨k1, by trivial, hb, i, n, rfl, by omega, hil, hcut⟩, fun p q xs2 ys2 ⟨i0, n0, e2, hd⟩ m1 m2 m3 m4 m5 => ?_⟩
        simp only [List.cons.injEq, Value.int.injEq, true_and, and_true] at e2
        have e3 : i0 = i := by omega
        have e4 : n0 = n := by omega
        subst e3 e4
        obtain ⟨d1, d2, d3, d4⟩ := hd
        have hpq : q.Perm rows' := d1.trans (sw_perm hil (by omega))
        have hql : q.length = n0 + 1 := by rw [hpq.length_eq, hn]
        have hlast : gq q n0 = r := by rw [d4 n0 (Nat.le_refl _), sw_get hil (by omega), if_pos rfl, hgi]
        have hz2 := zipR_of m4 m5
        have hw2 : IntKind.wrap .i64 ((q.length : Int) - 1) = ((n0 : Nat) : Int) := by rw [IntKind.wrap_i64]; omega
        simp only [hz2, hw2, Int.toNat_natCast, Nat.zero_add]
        refine ⟨fun hnp => ⟨⟨m1, by trivial, by omega, i0, rfl, by rw [show q.length - 1 = n0 by omega]; exact d3 hnp hin⟩, fun _ q3 xs3 ys3 ⟨j, e5, hu⟩ o1 o2 o3 o4 o5 => ?_⟩, fun hp => ⟨⟨by omega, by omega⟩, by omega, by omega, fun b9 => ⟨rfl, rfl, ⟨by omega, by omega⟩, st_end kind _ m1 m2 m3 m4 m5 hql hpq (d2 (Classical.not_not.1 hp)) (by rw [hlast]; exact hk)⟩⟩⟩
        simp only [List.cons.injEq, Value.int.injEq, true_and, and_true] at e5
        have e6 : j = i0 := by omega
        subst e6
        obtain ⟨u1, u2, u3⟩ := hu
        rw [show q.length - 1 = n0 by omega] at u2
        have hp3 : q3.Perm rows' := u1.trans hpq
        have hl3 : q3.length = n0 + 1 := by rw [hp3.length_eq, hn]
        have hw3 : IntKind.wrap .i64 ((q3.length : Int) - 1) = ((n0 : Nat) : Int) := by rw [IntKind.wrap_i64]; omega
        simp only [hw3, Int.toNat_natCast, Nat.zero_add]
        exact ⟨⟨by omega, by omega⟩, by omega, by omega, fun b9 => ⟨rfl, rfl, ⟨by omega, by omega⟩, st_end kind _ o1 o2 o3 o4 o5 hl3 hp3 u2 (by rw [u3 n0 hin, hlast]; exact hk)⟩⟩
      · have hin : n = i := by omega
        subst hin
        exact ⟨⟨by omega, by omega⟩, by omega, by omega, fun b9 => ⟨rfl, rfl, ⟨by omega, by omega⟩, st_end kind _ k1 k2 k3 k4 k5 hn (List.Perm.refl _) (fun k k0 kn => hh k k0 (by omega)) (by rw [hgi]; exact hk)⟩⟩
theorem st_goal (b b1 base cap : Nat) (kind : Int) (xs ys : List Int) (rows : List Row) (hlc : rows.length ≤ cap) (hb : rows.length < 1000000) (hx : xs.length = cap) (hy : ys.length = cap)
    (h1 : xs.take rows.length = rows.map (·.1)) (h2 : ys.take rows.length = rows.map (·.2)) (hh : Heap rows.length rows) : stGoal b b1 base cap kind xs ys rows := Eq.mpr (by kernel_rfl) (st_vc b b1 base cap kind xs ys rows hlc hb hx hy h1 h2 hh)
theorem stops_sound : ∀ p ∈ [(63, plT), (82, upT 1), (83, dnT)], SoundT Go.Proofs.Try.prog p.1 p.2 := by
  intro p hp
  simp only [List.mem_cons, List.not_mem_nil, or_false] at hp
  rcases hp with rfl | rfl | rfl
  · exact plT_sound
  · exact upT_sound 1
  · exact dnT_sound
theorem enters31 : Enters Go.Proofs.Try.prog 31 := ⟨Go.Proofs.Try.f31, Go.Proofs.Try.func31, by kernel_rfl, by kernel_rfl⟩
/-- Stop within a run: its rows are a heap. -/
noncomputable def stT : Trans := tabT (A := Prop) false (fun p => .prop p) (fun vs rows => (∃ kind, vs = [.int .i64 kind]) ∧ Heap rows.length rows) fun vs rows p rows' => ∃ kind, vs = [.int .i64 kind] ∧ stPost kind rows p rows'
open Classical in
theorem stT_sound : SoundT Go.Proofs.Try.prog 31 stT := tabT_sound (val := fun p => .bool (decide p)) enters31 (fun a ρ => rfl) (fun a => by simp) fun b b1 base cap vs rows xs ys hlc hb hx hy h1 h2 ⟨⟨kind, hv⟩, hh⟩ => by
  subst hv
  have hg := st_goal b b1 base cap kind xs ys rows hlc hb hx hy h1 h2 hh
  refine triple_of_runK (h := [.own b (.cells 1 [.slc 1 0 rows.length cap] 70), .own b1 (.tab 150 base cap [.ints .u64 xs, .ints .i64 ys])]) (args := [.ptr 0 0 0, .val (.int .i64 kind)])
    (run_with stops_sound _ _ _ _ _) (fun r => by simp [denL, den, locAt, locs, Ent.loc, SBlk.base, SBlk.wd, tgtV]) (fun r => rfl) (by simp) hg fun s h' hk => ?_
  obtain ⟨p, hp, hd⟩ := bOf_spec hk (locs h')
  exact hp.to fun rows' hr => ⟨p, hd, kind, rfl, hr⟩
end Go.Proofs.Ythkcfocoekonjaa
