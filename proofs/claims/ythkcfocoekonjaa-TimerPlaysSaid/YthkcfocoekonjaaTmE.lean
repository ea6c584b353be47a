/- Span: up and down. -/
import Derived.Test.YthkcfocoekonjaaTmD


set_option maxRecDepth 100000
set_option linter.unusedVariables false
set_option linter.unusedSimpArgs false
namespace Go.Proofs.Ythkcfocoekonjaa
open Go Go.Sx
attribute [local irreducible] Go.Sx.xrun

structure UX where
  j : Nat
  xs : List Int
  ys : List Int
def TbL (b b1 base cap : Nat) (R : List Row → Prop) (L : Blks) : Prop := ∃ rows xs ys G, R rows ∧ rows.length ≤ cap ∧ xs.length = cap ∧ ys.length = cap ∧
  xs.take rows.length = rows.map (·.1) ∧ ys.take rows.length = rows.map (·.2) ∧
  L = (b, .cells [.slice (some ⟨b1, base * 2, none⟩) rows.length cap] 70) :: (b1, .tab 150 base cap [.ints .u64 xs, .ints .i64 ys]) :: G
def upPost (n j : Nat) (rows rows' : List Row) : Prop := rows'.Perm rows ∧ Heap n rows' ∧ ∀ k, j < k → gq rows' k = gq rows k
def upInv (cap len n j0 : Nat) (rows : List Row) (x : UX) : Prop := x.xs.length = cap ∧ x.ys.length = cap ∧ x.j ≤ j0 ∧ (zipR len x.xs x.ys).Perm rows ∧ UpInv n (zipR len x.xs x.ys) x.j ∧ ∀ k, j0 < k → gq (zipR len x.xs x.ys) k = gq rows k
noncomputable def Ann.up (b1 base cap len n j0 : Nat) (rows : List Row) : FnAnn := ⟨[], [(0, ⟨UX, [
  (fun σ x => ⟨σ.n, (1, .val (.int .i64 x.j)) :: keepE σ.env [0], σ.heap.set 1 (.own b1 (.tab 150 base cap [.ints .u64 x.xs, .ints .i64 x.ys]))⟩, fun _ x => upInv cap len n j0 rows x)], fun x => x.j⟩)]⟩
noncomputable def upGoal (b b1 base len cap n j : Nat) (xs ys : List Int) (rows : List Row) : Prop :=
  xrun Go.Proofs.Try.prog [(110, lessT)] [(82, Ann.up b1 base cap len n j rows)] [] 9 [] 82 [.ifc 148 (.ptr 0 0 0), .val (.int .i64 j)]
    [.own b (.cells 1 [.slc 1 0 len cap] 70), .own b1 (.tab 150 base cap [.ints .u64 xs, .ints .i64 ys])] fun s h => TbR b b1 base cap (fun v rows' => v = .tuple #[] ∧ upPost n j rows rows') (den (locs h) s) (owned (locs h) h)
def dnPost (n i0 : Nat) (rows : List Row) (p : Prop) (rows' : List Row) : Prop := rows'.Perm rows ∧ (p → Heap n rows') ∧ (¬ p → i0 < n → UpInv n rows' i0) ∧ ∀ k, n ≤ k → gq rows' k = gq rows k
def dnInv (cap len n i0 : Nat) (rows : List Row) (x : UX) : Prop := x.xs.length = cap ∧ x.ys.length = cap ∧ x.j < len ∧ (zipR len x.xs x.ys).Perm rows ∧ DnInv n (zipR len x.xs x.ys) i0 x.j ∧ ∀ k, n ≤ k → gq (zipR len x.xs x.ys) k = gq rows k
noncomputable def Ann.dn (b1 base cap len n i0 : Nat) (rows : List Row) : FnAnn := ⟨[], [(2, ⟨UX, [
  (fun σ x => ⟨σ.n, (7, .val (.int .i64 x.j)) :: keepE σ.env [0, 1, 2], σ.heap.set 1 (.own b1 (.tab 150 base cap [.ints .u64 x.xs, .ints .i64 x.ys]))⟩, fun _ x => dnInv cap len n i0 rows x)], fun x => len - x.j⟩)]⟩
noncomputable def dnGoal (b b1 base len cap n i0 : Nat) (xs ys : List Int) (rows : List Row) : Prop :=
  xrun Go.Proofs.Try.prog [(110, lessT)] [(83, Ann.dn b1 base cap len n i0 rows)] [] 9 [] 83 [.ifc 148 (.ptr 0 0 0), .val (.int .i64 i0), .val (.int .i64 n)]
    [.own b (.cells 1 [.slc 1 0 len cap] 70), .own b1 (.tab 150 base cap [.ints .u64 xs, .ints .i64 ys])] fun s h => bOf s fun p => TbL b b1 base cap (dnPost n i0 rows p) (owned (locs h) h)

theorem list_gq {p q : List Row} (hl : p.length = q.length) (h : ∀ k, k < p.length → gq p k = gq q k) : p = q := by
  apply List.ext_getElem hl
  intro k h1 h2
  have := h k h1
  rwa [gq_eq h1, gq_eq h2] at this
theorem getD_set2 {xs : List Int} {i j : Nat} {a c : Int} (hi : i < xs.length) (hj : j < xs.length) (k : Nat) : ((xs.set i a).set j c).getD k 0 = if k = j then c else if k = i then a else xs.getD k 0 := by
  simp only [List.getD, List.getElem?_set, List.length_set]
  by_cases h1 : k = j
  · subst h1; simp [hj]
  · rw [if_neg (Ne.symm h1), if_neg h1]
    by_cases h2 : k = i
    · subst h2; simp [hi]
    · rw [if_neg (Ne.symm h2), if_neg h2]
theorem sw_zip {len : Nat} {xs ys : List Int} {i j : Nat} (hx : len ≤ xs.length) (hy : len ≤ ys.length) (hi : i < len) (hj : j < len) :
    zipR len ((xs.set i (xs.getD j 0)).set j (xs.getD i 0)) ((ys.set i (ys.getD j 0)).set j (ys.getD i 0)) = sw (zipR len xs ys) i j := by
  have hl := zipR_len hx hy
  have hl2 : (zipR len ((xs.set i (xs.getD j 0)).set j (xs.getD i 0)) ((ys.set i (ys.getD j 0)).set j (ys.getD i 0))).length = len := zipR_len (by simpa using hx) (by simpa using hy)
  refine list_gq (by rw [sw_len, hl2, hl]) fun k hk => ?_
  rw [hl2] at hk
  rw [gq_zip (by simpa using hx) (by simpa using hy) hk, sw_get (by omega) (by omega), getD_set2 (by omega) (by omega), getD_set2 (by omega) (by omega)]
  by_cases h1 : k = j
  · rw [if_pos h1, if_pos h1, if_pos h1, gq_zip hx hy hi]
  · rw [if_neg h1, if_neg h1, if_neg h1]
    by_cases h2 : k = i
    · rw [if_pos h2, if_pos h2, if_pos h2, gq_zip hx hy hj]
    · rw [if_neg h2, if_neg h2, if_neg h2, gq_zip hx hy hk]
theorem tb_mk {b b1 base cap len : Nat} {xs ys : List Int} {R : List Row → Prop} (hx : xs.length = cap) (hy : ys.length = cap) (hlc : len ≤ cap) (hr : R (zipR len xs ys)) :
    TbL b b1 base cap R [(b, .cells [.slice (some ⟨b1, base * 2, none⟩) len cap] 70), (b1, .tab 150 base cap [.ints .u64 xs, .ints .i64 ys])] := by
  have hl := zipR_len (len := len) (xs := xs) (ys := ys) (by omega) (by omega)
  exact ⟨zipR len xs ys, xs, ys, [], hr, by omega, hx, hy, by rw [hl]; exact zipR_fst (by omega) (by omega), by rw [hl]; exact zipR_snd (by omega) (by omega), by rw [hl]⟩
theorem TbL.to {b b1 base cap : Nat} {R : List Row → Prop} {S : Value → List Row → Prop} {v : Value} {L : Blks} (h : TbL b b1 base cap R L) (hs : ∀ rows, R rows → S v rows) : TbR b b1 base cap S v L := by
  obtain ⟨rows, xs, ys, G, h1, h2⟩ := h
  exact ⟨rows, xs, ys, G, hs rows h1, h2⟩
theorem par_ix {j : Nat} (h : j < 1000000) : IntKind.wrap .i64 (Int.tdiv (IntKind.wrap .i64 ((j : Int) - 1)) 2) = ((par j : Nat) : Int) := by
  rw [IntKind.wrap_i64 ((j : Int) - 1)]
  unfold par
  rcases Nat.eq_zero_or_pos j with rfl | h0
  · decide
  · rw [show ((j : Int) - 1 + 9223372036854775808) % 18446744073709551616 - 9223372036854775808 = ((j - 1 : Nat) : Int) by omega]
    rw [Int.tdiv_eq_ediv_of_nonneg (by omega), IntKind.wrap_i64]
    omega
theorem dbl_ix {i : Nat} (h : i < 1000000) : IntKind.wrap .i64 (IntKind.wrap .i64 ((2 : Int) * (i : Int)) + 1) = ((2 * i + 1 : Nat) : Int) := by
  rw [IntKind.wrap_i64, IntKind.wrap_i64]; omega
theorem dbl_ix2 {i : Nat} (h : i < 1000000) : IntKind.wrap .i64 (((2 * i + 1 : Nat) : Int) + 1) = ((2 * i + 2 : Nat) : Int) := by
  rw [IntKind.wrap_i64]; omega

theorem up_vc (b b1 base len cap n j : Nat) (xs ys : List Int) (rows : List Row) (hlc : len ≤ cap) (hb : len < 1000000) (hx : xs.length = cap) (hy : ys.length = cap) (hz : zipR len xs ys = rows) (hn : n ≤ len) (hu : UpInv n rows j) :
    ∃ (x0 : UX),
  ((((↑j : Int) = (↑x0.1 : Int) ∧ ((0 : Nat) = (0 : Nat) ∧ (0 : Nat) = (0 : Nat)) ∧ True) ∧
        (b = b ∧ ((0 : Nat) = (0 : Nat) ∧ len = len ∧ cap = cap) ∧ True) ∧ (b1 = b1 ∧ base = base ∧ cap = cap ∧ xs = x0.2 ∧ ys = x0.3 ∧ True) ∧ True) ∧
      upInv cap len n j rows x0) ∧
    ∀ (x : UX),
      upInv cap len n j rows x →
        (2 : Int) ≠ (0 : Int) ∧
          (Go.IntKind.wrap Go.IntKind.i64 (Int.tdiv (Go.IntKind.wrap Go.IntKind.i64 ((↑x.1 : Int) - (1 : Int))) (2 : Int)) = (↑x.1 : Int) →
              TbR b b1 base cap (fun (v : Go.Value) (rows' : List Row) => v = Go.Value.tuple #[] ∧ upPost n j rows rows') (Go.Value.tuple #[])
                [(b, Go.Sx.Blk.cells [Go.Value.slice (Option.some { block := b1, off := base * (2 : Nat) }) len cap] (70 : Go.TypeId)),
                  (b1, Go.Sx.Blk.tab (150 : Go.TypeId) base cap [Go.Sx.Col.ints Go.IntKind.u64 x.2, Go.Sx.Col.ints Go.IntKind.i64 x.3])]) ∧
            (¬Go.IntKind.wrap Go.IntKind.i64 (Int.tdiv (Go.IntKind.wrap Go.IntKind.i64 ((↑x.1 : Int) - (1 : Int))) (2 : Int)) = (↑x.1 : Int) →
              ((0 : Int) ≤ (↑x.1 : Int) ∧
                  (↑x.1 : Int) < (↑len : Int) ∧
                    (0 : Int) ≤ Go.IntKind.wrap Go.IntKind.i64 (Int.tdiv (Go.IntKind.wrap Go.IntKind.i64 ((↑x.1 : Int) - (1 : Int))) (2 : Int)) ∧
                      Go.IntKind.wrap Go.IntKind.i64 (Int.tdiv (Go.IntKind.wrap Go.IntKind.i64 ((↑x.1 : Int) - (1 : Int))) (2 : Int)) < (↑len : Int) ∧ len ≤ cap ∧ cap = cap) ∧
                (¬rlt (gq (zipR len x.2 x.3) x.1)
                        (gq (zipR len x.2 x.3)
                          (Int.toNat (Go.IntKind.wrap Go.IntKind.i64 (Int.tdiv (Go.IntKind.wrap Go.IntKind.i64 ((↑x.1 : Int) - (1 : Int))) (2 : Int))))) →
                    TbR b b1 base cap (fun (v : Go.Value) (rows' : List Row) => v = Go.Value.tuple #[] ∧ upPost n j rows rows')
                      (Go.Value.tuple #[])
                      [(b, Go.Sx.Blk.cells [Go.Value.slice (Option.some { block := b1, off := base * (2 : Nat) }) len cap] (70 : Go.TypeId)),
                        (b1, Go.Sx.Blk.tab (150 : Go.TypeId) base cap [Go.Sx.Col.ints Go.IntKind.u64 x.2, Go.Sx.Col.ints Go.IntKind.i64 x.3])]) ∧
                  (¬¬rlt (gq (zipR len x.2 x.3) x.1)
                          (gq (zipR len x.2 x.3)
                            (Int.toNat (Go.IntKind.wrap Go.IntKind.i64 (Int.tdiv (Go.IntKind.wrap Go.IntKind.i64 ((↑x.1 : Int) - (1 : Int))) (2 : Int))))) →
                    ((0 : Int) ≤ (↑x.1 : Int) ∧ (↑x.1 : Int) < (↑len : Int)) ∧
                      (0 : Nat) + x.1 < cap ∧
                        (0 : Nat) + x.1 < cap ∧
                          ((0 : Int) ≤ Go.IntKind.wrap Go.IntKind.i64 (Int.tdiv (Go.IntKind.wrap Go.IntKind.i64 ((↑x.1 : Int) - (1 : Int))) (2 : Int)) ∧
                              Go.IntKind.wrap Go.IntKind.i64 (Int.tdiv (Go.IntKind.wrap Go.IntKind.i64 ((↑x.1 : Int) - (1 : Int))) (2 : Int)) < (↑len : Int)) ∧
                            (0 : Nat) + Int.toNat (Go.IntKind.wrap Go.IntKind.i64 (Int.tdiv (Go.IntKind.wrap Go.IntKind.i64 ((↑x.1 : Int) - (1 : Int))) (2 : Int))) < cap ∧
                              (0 : Nat) + Int.toNat (Go.IntKind.wrap Go.IntKind.i64 (Int.tdiv (Go.IntKind.wrap Go.IntKind.i64 ((↑x.1 : Int) - (1 : Int))) (2 : Int))) < cap ∧
                                ((0 : Int) ≤ Go.IntKind.wrap Go.IntKind.i64 (Int.tdiv (Go.IntKind.wrap Go.IntKind.i64 ((↑x.1 : Int) - (1 : Int))) (2 : Int)) ∧
                                    Go.IntKind.wrap Go.IntKind.i64 (Int.tdiv (Go.IntKind.wrap Go.IntKind.i64 ((↑x.1 : Int) - (1 : Int))) (2 : Int)) < (↑len : Int)) ∧
                                  (0 : Nat) + Int.toNat (Go.IntKind.wrap Go.IntKind.i64 (Int.tdiv (Go.IntKind.wrap Go.IntKind.i64 ((↑x.1 : Int) - (1 : Int))) (2 : Int))) < cap ∧
                                    (0 : Nat) + Int.toNat (Go.IntKind.wrap Go.IntKind.i64 (Int.tdiv (Go.IntKind.wrap Go.IntKind.i64 ((↑x.1 : Int) - (1 : Int))) (2 : Int))) < cap ∧
                                      ((0 : Int) ≤ (↑x.1 : Int) ∧ (↑x.1 : Int) < (↑len : Int)) ∧
                                        (0 : Nat) + x.1 < cap ∧
                                          (0 : Nat) + x.1 < cap ∧
                                            ∃ (y : UX),
                                              y.1 < x.1 ∧
                                                ((Go.IntKind.wrap Go.IntKind.i64 (Int.tdiv (Go.IntKind.wrap Go.IntKind.i64 ((↑x.1 : Int) - (1 : Int))) (2 : Int)) = (↑y.1 : Int) ∧
                                                      ((0 : Nat) = (0 : Nat) ∧ (0 : Nat) = (0 : Nat)) ∧ True) ∧
                                                    (b = b ∧ ((0 : Nat) = (0 : Nat) ∧ len = len ∧ cap = cap) ∧ True) ∧
                                                      (b1 = b1 ∧
                                                          base = base ∧
                                                            cap = cap ∧
                                                              List.set
                                                                    (List.set x.2
                                                                      ((0 : Nat) +
                                                                        Int.toNat (Go.IntKind.wrap Go.IntKind.i64 (Int.tdiv (Go.IntKind.wrap Go.IntKind.i64 ((↑x.1 : Int) - (1 : Int))) (2 : Int))))
                                                                      (List.getD x.2 ((0 : Nat) + x.1) (0 : Int)))
                                                                    ((0 : Nat) + x.1)
                                                                    (List.getD x.2
                                                                      ((0 : Nat) +
                                                                        Int.toNat (Go.IntKind.wrap Go.IntKind.i64 (Int.tdiv (Go.IntKind.wrap Go.IntKind.i64 ((↑x.1 : Int) - (1 : Int))) (2 : Int))))
                                                                      (0 : Int)) =
                                                                  y.2 ∧
                                                                List.set
                                                                      (List.set x.3
                                                                        ((0 : Nat) +
                                                                          Int.toNat (Go.IntKind.wrap Go.IntKind.i64 (Int.tdiv (Go.IntKind.wrap Go.IntKind.i64 ((↑x.1 : Int) - (1 : Int))) (2 : Int))))
                                                                        (List.getD x.3 ((0 : Nat) + x.1) (0 : Int)))
                                                                      ((0 : Nat) + x.1)
                                                                      (List.getD x.3
                                                                        ((0 : Nat) +
                                                                          Int.toNat (Go.IntKind.wrap Go.IntKind.i64 (Int.tdiv (Go.IntKind.wrap Go.IntKind.i64 ((↑x.1 : Int) - (1 : Int))) (2 : Int))))
                                                                        (0 : Int)) =
                                                                    y.3 ∧
                                                                  True) ∧
                                                        True) ∧
                                                  upInv cap len n j rows y)) := by
  refine ⟨⟨j, xs, ys⟩, ⟨by simp, hx, hy, Nat.le_refl _, by rw [hz], by rw [hz]; exact hu, fun k hk => by rw [hz]⟩, ?_⟩
  rintro ⟨i, xs', ys'⟩ ⟨q1, q2, q3, q4, q5, q6⟩
  simp only at q1 q2 q3 q4 q5 q6
  have hin : i < n := q5.1
  have hil : i < len := by omega
  have hpar : par i ≤ i := by unfold par; omega
  simp only [par_ix (show i < 1000000 by omega), Int.toNat_natCast, Nat.zero_add]
  have done : Heap n (zipR len xs' ys') → TbR b b1 base cap (fun (v : Go.Value) (rows' : List Row) => v = Go.Value.tuple #[] ∧ upPost n j rows rows') (Go.Value.tuple #[]) [(b, .cells [.slice (some ⟨b1, base * 2, none⟩) len cap] 70), (b1, .tab 150 base cap [.ints .u64 xs', .ints .i64 ys'])] := fun hh =>
    (tb_mk (R := upPost n j rows) q1 q2 hlc ⟨q4, hh, q6⟩).to fun r hr => ⟨rfl, hr⟩
  refine ⟨by first | trivial | decide, fun he => done (up_done q5 (.inl ?_)), fun he => ⟨⟨by omega, by omega, by omega, by omega, hlc, by trivial⟩, fun hnl => done (up_done q5 (.inr hnl)), fun hl => ?_⟩⟩
  · have : par i = i := by omega
    unfold par at this; omega
  · have h0 : 0 < i := by
      rcases Nat.eq_zero_or_pos i with rfl | h
      · exact absurd (by decide) he
      · exact h
    have hlt := Classical.not_not.1 hl
    have hsw := sw_zip (len := len) (xs := xs') (ys := ys') (i := par i) (j := i) (by omega) (by omega) (by omega) hil
    have hst := up_step q5 h0 hlt
    have hp2 : par i < i := by unfold par; omega
    refine ⟨⟨by omega, by omega⟩, by omega, by omega, ⟨by omega, by omega⟩, by omega, by omega, ⟨by omega, by omega⟩, by omega, by omega, ⟨by omega, by omega⟩, by omega, by omega, ⟨par i, _, _⟩, by simp only; omega, ⟨⟨by simp, by simp⟩, by simp, ⟨by trivial, by trivial, by trivial, rfl, rfl, trivial⟩, trivial⟩, ?_⟩
    refine ⟨by simp [q1], by simp [q2], by simp only; omega, ?_, ?_, fun k hk => ?_⟩
    · simp only; rw [hsw]
      exact (sw_perm (by have := zipR_len (len := len) (xs := xs') (ys := ys') (by omega) (by omega); omega) (by have := zipR_len (len := len) (xs := xs') (ys := ys') (by omega) (by omega); omega)).trans q4
    · simp only; rw [hsw]; exact hst
    · simp only; rw [hsw]
      have hl9 := zipR_len (len := len) (xs := xs') (ys := ys') (by omega) (by omega)
      rw [sw_get (by omega) (by omega), if_neg (by omega), if_neg (by omega)]
      exact q6 k hk

theorem dn_vc (b b1 base len cap n i0 : Nat) (xs ys : List Int) (rows : List Row) (hlc : len ≤ cap) (hb : len < 1000000) (hx : xs.length = cap) (hy : ys.length = cap) (hz : zipR len xs ys = rows) (hn : n ≤ len) (hi0 : i0 < len) (hu : DnInv n rows i0 i0) :
    ∃ (x0 : UX),
  ((((↑i0 : Int) = (↑x0.1 : Int) ∧ ((0 : Nat) = (0 : Nat) ∧ (0 : Nat) = (0 : Nat)) ∧ (↑i0 : Int) = (↑i0 : Int) ∧ (↑n : Int) = (↑n : Int) ∧ True) ∧
        (b = b ∧ ((0 : Nat) = (0 : Nat) ∧ len = len ∧ cap = cap) ∧ True) ∧ (b1 = b1 ∧ base = base ∧ cap = cap ∧ xs = x0.2 ∧ ys = x0.3 ∧ True) ∧ True) ∧
      dnInv cap len n i0 rows x0) ∧
    ∀ (x : UX),
      dnInv cap len n i0 rows x →
        ((↑n : Int) ≤ Go.IntKind.wrap Go.IntKind.i64 (Go.IntKind.wrap Go.IntKind.i64 ((2 : Int) * (↑x.1 : Int)) + (1 : Int)) →
            TbL b b1 base cap (dnPost n i0 rows ((↑i0 : Int) < (↑x.1 : Int)))
              [(b, Go.Sx.Blk.cells [Go.Value.slice (Option.some { block := b1, off := base * (2 : Nat) }) len cap] (70 : Go.TypeId)),
                (b1, Go.Sx.Blk.tab (150 : Go.TypeId) base cap [Go.Sx.Col.ints Go.IntKind.u64 x.2, Go.Sx.Col.ints Go.IntKind.i64 x.3])]) ∧
          (¬(↑n : Int) ≤ Go.IntKind.wrap Go.IntKind.i64 (Go.IntKind.wrap Go.IntKind.i64 ((2 : Int) * (↑x.1 : Int)) + (1 : Int)) →
            (Go.IntKind.wrap Go.IntKind.i64 (Go.IntKind.wrap Go.IntKind.i64 ((2 : Int) * (↑x.1 : Int)) + (1 : Int)) < (0 : Int) →
                TbL b b1 base cap (dnPost n i0 rows ((↑i0 : Int) < (↑x.1 : Int)))
                  [(b, Go.Sx.Blk.cells [Go.Value.slice (Option.some { block := b1, off := base * (2 : Nat) }) len cap] (70 : Go.TypeId)),
                    (b1, Go.Sx.Blk.tab (150 : Go.TypeId) base cap [Go.Sx.Col.ints Go.IntKind.u64 x.2, Go.Sx.Col.ints Go.IntKind.i64 x.3])]) ∧
              (¬Go.IntKind.wrap Go.IntKind.i64 (Go.IntKind.wrap Go.IntKind.i64 ((2 : Int) * (↑x.1 : Int)) + (1 : Int)) < (0 : Int) →
                (Go.IntKind.wrap Go.IntKind.i64 (Go.IntKind.wrap Go.IntKind.i64 (Go.IntKind.wrap Go.IntKind.i64 ((2 : Int) * (↑x.1 : Int)) + (1 : Int)) + (1 : Int)) < (↑n : Int) →
                    ((0 : Int) ≤ Go.IntKind.wrap Go.IntKind.i64 (Go.IntKind.wrap Go.IntKind.i64 (Go.IntKind.wrap Go.IntKind.i64 ((2 : Int) * (↑x.1 : Int)) + (1 : Int)) + (1 : Int)) ∧
                        Go.IntKind.wrap Go.IntKind.i64 (Go.IntKind.wrap Go.IntKind.i64 (Go.IntKind.wrap Go.IntKind.i64 ((2 : Int) * (↑x.1 : Int)) + (1 : Int)) + (1 : Int)) < (↑len : Int) ∧
                          (0 : Int) ≤ Go.IntKind.wrap Go.IntKind.i64 (Go.IntKind.wrap Go.IntKind.i64 ((2 : Int) * (↑x.1 : Int)) + (1 : Int)) ∧
                            Go.IntKind.wrap Go.IntKind.i64 (Go.IntKind.wrap Go.IntKind.i64 ((2 : Int) * (↑x.1 : Int)) + (1 : Int)) < (↑len : Int) ∧ len ≤ cap ∧ cap = cap) ∧
                      (rlt
                            (gq (zipR len x.2 x.3)
                              (Int.toNat (Go.IntKind.wrap Go.IntKind.i64 (Go.IntKind.wrap Go.IntKind.i64 (Go.IntKind.wrap Go.IntKind.i64 ((2 : Int) * (↑x.1 : Int)) + (1 : Int)) + (1 : Int)))))
                            (gq (zipR len x.2 x.3)
                              (Int.toNat (Go.IntKind.wrap Go.IntKind.i64 (Go.IntKind.wrap Go.IntKind.i64 ((2 : Int) * (↑x.1 : Int)) + (1 : Int))))) →
                          ((0 : Int) ≤ Go.IntKind.wrap Go.IntKind.i64 (Go.IntKind.wrap Go.IntKind.i64 (Go.IntKind.wrap Go.IntKind.i64 ((2 : Int) * (↑x.1 : Int)) + (1 : Int)) + (1 : Int)) ∧
                              Go.IntKind.wrap Go.IntKind.i64 (Go.IntKind.wrap Go.IntKind.i64 (Go.IntKind.wrap Go.IntKind.i64 ((2 : Int) * (↑x.1 : Int)) + (1 : Int)) + (1 : Int)) < (↑len : Int) ∧
                                (0 : Int) ≤ (↑x.1 : Int) ∧ (↑x.1 : Int) < (↑len : Int) ∧ len ≤ cap ∧ cap = cap) ∧
                            (¬rlt
                                    (gq (zipR len x.2 x.3)
                                      (Int.toNat (Go.IntKind.wrap Go.IntKind.i64 (Go.IntKind.wrap Go.IntKind.i64 (Go.IntKind.wrap Go.IntKind.i64 ((2 : Int) * (↑x.1 : Int)) + (1 : Int)) + (1 : Int)))))
                                    (gq (zipR len x.2 x.3) x.1) →
                                TbL b b1 base cap (dnPost n i0 rows ((↑i0 : Int) < (↑x.1 : Int)))
                                  [(b, Go.Sx.Blk.cells [Go.Value.slice (Option.some { block := b1, off := base * (2 : Nat) }) len cap] (70 : Go.TypeId)),
                                    (b1, Go.Sx.Blk.tab (150 : Go.TypeId) base cap [Go.Sx.Col.ints Go.IntKind.u64 x.2, Go.Sx.Col.ints Go.IntKind.i64 x.3])]) ∧
                              (¬¬rlt
                                      (gq (zipR len x.2 x.3)
                                        (Int.toNat
                                          (Go.IntKind.wrap Go.IntKind.i64 (Go.IntKind.wrap Go.IntKind.i64 (Go.IntKind.wrap Go.IntKind.i64 ((2 : Int) * (↑x.1 : Int)) + (1 : Int)) + (1 : Int)))))
                                      (gq (zipR len x.2 x.3) x.1) →
                                ((0 : Int) ≤ Go.IntKind.wrap Go.IntKind.i64 (Go.IntKind.wrap Go.IntKind.i64 (Go.IntKind.wrap Go.IntKind.i64 ((2 : Int) * (↑x.1 : Int)) + (1 : Int)) + (1 : Int)) ∧
                                    Go.IntKind.wrap Go.IntKind.i64 (Go.IntKind.wrap Go.IntKind.i64 (Go.IntKind.wrap Go.IntKind.i64 ((2 : Int) * (↑x.1 : Int)) + (1 : Int)) + (1 : Int)) <
                                      (↑len : Int)) ∧
                                  (0 : Nat) +
                                        Int.toNat
                                          (Go.IntKind.wrap Go.IntKind.i64 (Go.IntKind.wrap Go.IntKind.i64 (Go.IntKind.wrap Go.IntKind.i64 ((2 : Int) * (↑x.1 : Int)) + (1 : Int)) + (1 : Int))) <
                                      cap ∧
                                    (0 : Nat) +
                                          Int.toNat
                                            (Go.IntKind.wrap Go.IntKind.i64 (Go.IntKind.wrap Go.IntKind.i64 (Go.IntKind.wrap Go.IntKind.i64 ((2 : Int) * (↑x.1 : Int)) + (1 : Int)) + (1 : Int))) <
                                        cap ∧
                                      ((0 : Int) ≤ (↑x.1 : Int) ∧ (↑x.1 : Int) < (↑len : Int)) ∧
                                        (0 : Nat) + x.1 < cap ∧
                                          (0 : Nat) + x.1 < cap ∧
                                            ((0 : Int) ≤ (↑x.1 : Int) ∧ (↑x.1 : Int) < (↑len : Int)) ∧
                                              (0 : Nat) + x.1 < cap ∧
                                                (0 : Nat) + x.1 < cap ∧
                                                  ((0 : Int) ≤
                                                        Go.IntKind.wrap Go.IntKind.i64
                                                          (Go.IntKind.wrap Go.IntKind.i64 (Go.IntKind.wrap Go.IntKind.i64 ((2 : Int) * (↑x.1 : Int)) + (1 : Int)) + (1 : Int)) ∧
                                                      Go.IntKind.wrap Go.IntKind.i64
                                                          (Go.IntKind.wrap Go.IntKind.i64 (Go.IntKind.wrap Go.IntKind.i64 ((2 : Int) * (↑x.1 : Int)) + (1 : Int)) + (1 : Int)) <
                                                        (↑len : Int)) ∧
                                                    (0 : Nat) +
                                                          Int.toNat
                                                            (Go.IntKind.wrap Go.IntKind.i64
                                                              (Go.IntKind.wrap Go.IntKind.i64 (Go.IntKind.wrap Go.IntKind.i64 ((2 : Int) * (↑x.1 : Int)) + (1 : Int)) + (1 : Int))) <
                                                        cap ∧
                                                      (0 : Nat) +
                                                            Int.toNat
                                                              (Go.IntKind.wrap Go.IntKind.i64
                                                                (Go.IntKind.wrap Go.IntKind.i64 (Go.IntKind.wrap Go.IntKind.i64 ((2 : Int) * (↑x.1 : Int)) + (1 : Int)) + (1 : Int))) <
                                                          cap ∧
                                                        ∃ (y : UX),
                                                          len - y.1 < len - x.1 ∧
                                                            ((Go.IntKind.wrap Go.IntKind.i64
                                                                      (Go.IntKind.wrap Go.IntKind.i64 (Go.IntKind.wrap Go.IntKind.i64 ((2 : Int) * (↑x.1 : Int)) + (1 : Int)) + (1 : Int)) =
                                                                    (↑y.1 : Int) ∧
                                                                  ((0 : Nat) = (0 : Nat) ∧ (0 : Nat) = (0 : Nat)) ∧ (↑i0 : Int) = (↑i0 : Int) ∧ (↑n : Int) = (↑n : Int) ∧ True) ∧
                                                                (b = b ∧ ((0 : Nat) = (0 : Nat) ∧ len = len ∧ cap = cap) ∧ True) ∧
                                                                  (b1 = b1 ∧
                                                                      base = base ∧
                                                                        cap = cap ∧
                                                                          List.set
                                                                                (List.set x.2 ((0 : Nat) + x.1)
                                                                                  (List.getD x.2
                                                                                    ((0 : Nat) +
                                                                                      Int.toNat
                                                                                        (Go.IntKind.wrap Go.IntKind.i64
                                                                                          (Go.IntKind.wrap Go.IntKind.i64 (Go.IntKind.wrap Go.IntKind.i64 ((2 : Int) * (↑x.1 : Int)) + (1 : Int)) +
                                                                                            (1 : Int))))
                                                                                    (0 : Int)))
                                                                                ((0 : Nat) +
                                                                                  Int.toNat
                                                                                    (Go.IntKind.wrap Go.IntKind.i64
                                                                                      (Go.IntKind.wrap Go.IntKind.i64 (Go.IntKind.wrap Go.IntKind.i64 ((2 : Int) * (↑x.1 : Int)) + (1 : Int)) +
                                                                                        (1 : Int))))
                                                                                (List.getD x.2 ((0 : Nat) + x.1) (0 : Int)) =
                                                                              y.2 ∧
                                                                            List.set
                                                                                  (List.set x.3 ((0 : Nat) + x.1)
                                                                                    (List.getD x.3
                                                                                      ((0 : Nat) +
                                                                                        Int.toNat
                                                                                          (Go.IntKind.wrap Go.IntKind.i64
                                                                                            (Go.IntKind.wrap Go.IntKind.i64 (Go.IntKind.wrap Go.IntKind.i64 ((2 : Int) * (↑x.1 : Int)) + (1 : Int)) +
                                                                                              (1 : Int))))
                                                                                      (0 : Int)))
                                                                                  ((0 : Nat) +
                                                                                    Int.toNat
                                                                                      (Go.IntKind.wrap Go.IntKind.i64
                                                                                        (Go.IntKind.wrap Go.IntKind.i64 (Go.IntKind.wrap Go.IntKind.i64 ((2 : Int) * (↑x.1 : Int)) + (1 : Int)) +
                                                                                          (1 : Int))))
                                                                                  (List.getD x.3 ((0 : Nat) + x.1) (0 : Int)) =
                                                                                y.3 ∧
                                                                              True) ∧
                                                                    True) ∧
                                                              dnInv cap len n i0 rows y)) ∧
                        (¬rlt
                              (gq (zipR len x.2 x.3)
                                (Int.toNat (Go.IntKind.wrap Go.IntKind.i64 (Go.IntKind.wrap Go.IntKind.i64 (Go.IntKind.wrap Go.IntKind.i64 ((2 : Int) * (↑x.1 : Int)) + (1 : Int)) + (1 : Int)))))
                              (gq (zipR len x.2 x.3)
                                (Int.toNat (Go.IntKind.wrap Go.IntKind.i64 (Go.IntKind.wrap Go.IntKind.i64 ((2 : Int) * (↑x.1 : Int)) + (1 : Int))))) →
                          ((0 : Int) ≤ Go.IntKind.wrap Go.IntKind.i64 (Go.IntKind.wrap Go.IntKind.i64 ((2 : Int) * (↑x.1 : Int)) + (1 : Int)) ∧
                              Go.IntKind.wrap Go.IntKind.i64 (Go.IntKind.wrap Go.IntKind.i64 ((2 : Int) * (↑x.1 : Int)) + (1 : Int)) < (↑len : Int) ∧
                                (0 : Int) ≤ (↑x.1 : Int) ∧ (↑x.1 : Int) < (↑len : Int) ∧ len ≤ cap ∧ cap = cap) ∧
                            (¬rlt
                                    (gq (zipR len x.2 x.3)
                                      (Int.toNat (Go.IntKind.wrap Go.IntKind.i64 (Go.IntKind.wrap Go.IntKind.i64 ((2 : Int) * (↑x.1 : Int)) + (1 : Int)))))
                                    (gq (zipR len x.2 x.3) x.1) →
                                TbL b b1 base cap (dnPost n i0 rows ((↑i0 : Int) < (↑x.1 : Int)))
                                  [(b, Go.Sx.Blk.cells [Go.Value.slice (Option.some { block := b1, off := base * (2 : Nat) }) len cap] (70 : Go.TypeId)),
                                    (b1, Go.Sx.Blk.tab (150 : Go.TypeId) base cap [Go.Sx.Col.ints Go.IntKind.u64 x.2, Go.Sx.Col.ints Go.IntKind.i64 x.3])]) ∧
                              (¬¬rlt
                                      (gq (zipR len x.2 x.3)
                                        (Int.toNat (Go.IntKind.wrap Go.IntKind.i64 (Go.IntKind.wrap Go.IntKind.i64 ((2 : Int) * (↑x.1 : Int)) + (1 : Int)))))
                                      (gq (zipR len x.2 x.3) x.1) →
                                ((0 : Int) ≤ Go.IntKind.wrap Go.IntKind.i64 (Go.IntKind.wrap Go.IntKind.i64 ((2 : Int) * (↑x.1 : Int)) + (1 : Int)) ∧
                                    Go.IntKind.wrap Go.IntKind.i64 (Go.IntKind.wrap Go.IntKind.i64 ((2 : Int) * (↑x.1 : Int)) + (1 : Int)) < (↑len : Int)) ∧
                                  (0 : Nat) + Int.toNat (Go.IntKind.wrap Go.IntKind.i64 (Go.IntKind.wrap Go.IntKind.i64 ((2 : Int) * (↑x.1 : Int)) + (1 : Int))) < cap ∧
                                    (0 : Nat) + Int.toNat (Go.IntKind.wrap Go.IntKind.i64 (Go.IntKind.wrap Go.IntKind.i64 ((2 : Int) * (↑x.1 : Int)) + (1 : Int))) < cap ∧
                                      ((0 : Int) ≤ (↑x.1 : Int) ∧ (↑x.1 : Int) < (↑len : Int)) ∧
                                        (0 : Nat) + x.1 < cap ∧
                                          (0 : Nat) + x.1 < cap ∧
                                            ((0 : Int) ≤ (↑x.1 : Int) ∧ (↑x.1 : Int) < (↑len : Int)) ∧
                                              (0 : Nat) + x.1 < cap ∧
                                                (0 : Nat) + x.1 < cap ∧
                                                  ((0 : Int) ≤ Go.IntKind.wrap Go.IntKind.i64 (Go.IntKind.wrap Go.IntKind.i64 ((2 : Int) * (↑x.1 : Int)) + (1 : Int)) ∧
                                                      Go.IntKind.wrap Go.IntKind.i64 (Go.IntKind.wrap Go.IntKind.i64 ((2 : Int) * (↑x.1 : Int)) + (1 : Int)) < (↑len : Int)) ∧
                                                    (0 : Nat) + Int.toNat (Go.IntKind.wrap Go.IntKind.i64 (Go.IntKind.wrap Go.IntKind.i64 ((2 : Int) * (↑x.1 : Int)) + (1 : Int))) < cap ∧
                                                      (0 : Nat) + Int.toNat (Go.IntKind.wrap Go.IntKind.i64 (Go.IntKind.wrap Go.IntKind.i64 ((2 : Int) * (↑x.1 : Int)) + (1 : Int))) < cap ∧
                                                        ∃ (y : UX),
                                                          len - y.1 < len - x.1 ∧
                                                            ((Go.IntKind.wrap Go.IntKind.i64 (Go.IntKind.wrap Go.IntKind.i64 ((2 : Int) * (↑x.1 : Int)) + (1 : Int)) = (↑y.1 : Int) ∧
                                                                  ((0 : Nat) = (0 : Nat) ∧ (0 : Nat) = (0 : Nat)) ∧ (↑i0 : Int) = (↑i0 : Int) ∧ (↑n : Int) = (↑n : Int) ∧ True) ∧
                                                                (b = b ∧ ((0 : Nat) = (0 : Nat) ∧ len = len ∧ cap = cap) ∧ True) ∧
                                                                  (b1 = b1 ∧
                                                                      base = base ∧
                                                                        cap = cap ∧
                                                                          List.set
                                                                                (List.set x.2 ((0 : Nat) + x.1)
                                                                                  (List.getD x.2
                                                                                    ((0 : Nat) +
                                                                                      Int.toNat
                                                                                        (Go.IntKind.wrap Go.IntKind.i64 (Go.IntKind.wrap Go.IntKind.i64 ((2 : Int) * (↑x.1 : Int)) + (1 : Int))))
                                                                                    (0 : Int)))
                                                                                ((0 : Nat) +
                                                                                  Int.toNat (Go.IntKind.wrap Go.IntKind.i64 (Go.IntKind.wrap Go.IntKind.i64 ((2 : Int) * (↑x.1 : Int)) + (1 : Int))))
                                                                                (List.getD x.2 ((0 : Nat) + x.1) (0 : Int)) =
                                                                              y.2 ∧
                                                                            List.set
                                                                                  (List.set x.3 ((0 : Nat) + x.1)
                                                                                    (List.getD x.3
                                                                                      ((0 : Nat) +
                                                                                        Int.toNat
                                                                                          (Go.IntKind.wrap Go.IntKind.i64 (Go.IntKind.wrap Go.IntKind.i64 ((2 : Int) * (↑x.1 : Int)) + (1 : Int))))
                                                                                      (0 : Int)))
                                                                                  ((0 : Nat) +
                                                                                    Int.toNat (Go.IntKind.wrap Go.IntKind.i64 (Go.IntKind.wrap Go.IntKind.i64 ((2 : Int) * (↑x.1 : Int)) + (1 : Int))))
                                                                                  (List.getD x.3 ((0 : Nat) + x.1) (0 : Int)) =
                                                                                y.3 ∧
                                                                              True) ∧
                                                                    True) ∧
                                                              dnInv cap len n i0 rows y))) ∧
                  (¬Go.IntKind.wrap Go.IntKind.i64 (Go.IntKind.wrap Go.IntKind.i64 (Go.IntKind.wrap Go.IntKind.i64 ((2 : Int) * (↑x.1 : Int)) + (1 : Int)) + (1 : Int)) < (↑n : Int) →
                    ((0 : Int) ≤ Go.IntKind.wrap Go.IntKind.i64 (Go.IntKind.wrap Go.IntKind.i64 ((2 : Int) * (↑x.1 : Int)) + (1 : Int)) ∧
                        Go.IntKind.wrap Go.IntKind.i64 (Go.IntKind.wrap Go.IntKind.i64 ((2 : Int) * (↑x.1 : Int)) + (1 : Int)) < (↑len : Int) ∧
                          (0 : Int) ≤ (↑x.1 : Int) ∧ (↑x.1 : Int) < (↑len : Int) ∧ len ≤ cap ∧ cap = cap) ∧
                      (¬rlt
                              (gq (zipR len x.2 x.3)
                                (Int.toNat (Go.IntKind.wrap Go.IntKind.i64 (Go.IntKind.wrap Go.IntKind.i64 ((2 : Int) * (↑x.1 : Int)) + (1 : Int)))))
                              (gq (zipR len x.2 x.3) x.1) →
                          TbL b b1 base cap (dnPost n i0 rows ((↑i0 : Int) < (↑x.1 : Int)))
                            [(b, Go.Sx.Blk.cells [Go.Value.slice (Option.some { block := b1, off := base * (2 : Nat) }) len cap] (70 : Go.TypeId)),
                              (b1, Go.Sx.Blk.tab (150 : Go.TypeId) base cap [Go.Sx.Col.ints Go.IntKind.u64 x.2, Go.Sx.Col.ints Go.IntKind.i64 x.3])]) ∧
                        (¬¬rlt
                                (gq (zipR len x.2 x.3)
                                  (Int.toNat (Go.IntKind.wrap Go.IntKind.i64 (Go.IntKind.wrap Go.IntKind.i64 ((2 : Int) * (↑x.1 : Int)) + (1 : Int)))))
                                (gq (zipR len x.2 x.3) x.1) →
                          ((0 : Int) ≤ Go.IntKind.wrap Go.IntKind.i64 (Go.IntKind.wrap Go.IntKind.i64 ((2 : Int) * (↑x.1 : Int)) + (1 : Int)) ∧
                              Go.IntKind.wrap Go.IntKind.i64 (Go.IntKind.wrap Go.IntKind.i64 ((2 : Int) * (↑x.1 : Int)) + (1 : Int)) < (↑len : Int)) ∧
                            (0 : Nat) + Int.toNat (Go.IntKind.wrap Go.IntKind.i64 (Go.IntKind.wrap Go.IntKind.i64 ((2 : Int) * (↑x.1 : Int)) + (1 : Int))) < cap ∧
                              (0 : Nat) + Int.toNat (Go.IntKind.wrap Go.IntKind.i64 (Go.IntKind.wrap Go.IntKind.i64 ((2 : Int) * (↑x.1 : Int)) + (1 : Int))) < cap ∧
                                ((0 : Int) ≤ (↑x.1 : Int) ∧ (↑x.1 : Int) < (↑len : Int)) ∧
                                  (0 : Nat) + x.1 < cap ∧
                                    (0 : Nat) + x.1 < cap ∧
                                      ((0 : Int) ≤ (↑x.1 : Int) ∧ (↑x.1 : Int) < (↑len : Int)) ∧
                                        (0 : Nat) + x.1 < cap ∧
                                          (0 : Nat) + x.1 < cap ∧
                                            ((0 : Int) ≤ Go.IntKind.wrap Go.IntKind.i64 (Go.IntKind.wrap Go.IntKind.i64 ((2 : Int) * (↑x.1 : Int)) + (1 : Int)) ∧
                                                Go.IntKind.wrap Go.IntKind.i64 (Go.IntKind.wrap Go.IntKind.i64 ((2 : Int) * (↑x.1 : Int)) + (1 : Int)) < (↑len : Int)) ∧
                                              (0 : Nat) + Int.toNat (Go.IntKind.wrap Go.IntKind.i64 (Go.IntKind.wrap Go.IntKind.i64 ((2 : Int) * (↑x.1 : Int)) + (1 : Int))) < cap ∧
                                                (0 : Nat) + Int.toNat (Go.IntKind.wrap Go.IntKind.i64 (Go.IntKind.wrap Go.IntKind.i64 ((2 : Int) * (↑x.1 : Int)) + (1 : Int))) < cap ∧
                                                  ∃ (y : UX),
                                                    len - y.1 < len - x.1 ∧
                                                      ((Go.IntKind.wrap Go.IntKind.i64 (Go.IntKind.wrap Go.IntKind.i64 ((2 : Int) * (↑x.1 : Int)) + (1 : Int)) = (↑y.1 : Int) ∧
                                                            ((0 : Nat) = (0 : Nat) ∧ (0 : Nat) = (0 : Nat)) ∧ (↑i0 : Int) = (↑i0 : Int) ∧ (↑n : Int) = (↑n : Int) ∧ True) ∧
                                                          (b = b ∧ ((0 : Nat) = (0 : Nat) ∧ len = len ∧ cap = cap) ∧ True) ∧
                                                            (b1 = b1 ∧
                                                                base = base ∧
                                                                  cap = cap ∧
                                                                    List.set
                                                                          (List.set x.2 ((0 : Nat) + x.1)
                                                                            (List.getD x.2
                                                                              ((0 : Nat) +
                                                                                Int.toNat (Go.IntKind.wrap Go.IntKind.i64 (Go.IntKind.wrap Go.IntKind.i64 ((2 : Int) * (↑x.1 : Int)) + (1 : Int))))
                                                                              (0 : Int)))
                                                                          ((0 : Nat) +
                                                                            Int.toNat (Go.IntKind.wrap Go.IntKind.i64 (Go.IntKind.wrap Go.IntKind.i64 ((2 : Int) * (↑x.1 : Int)) + (1 : Int))))
                                                                          (List.getD x.2 ((0 : Nat) + x.1) (0 : Int)) =
                                                                        y.2 ∧
                                                                      List.set
                                                                            (List.set x.3 ((0 : Nat) + x.1)
                                                                              (List.getD x.3
                                                                                ((0 : Nat) +
                                                                                  Int.toNat (Go.IntKind.wrap Go.IntKind.i64 (Go.IntKind.wrap Go.IntKind.i64 ((2 : Int) * (↑x.1 : Int)) + (1 : Int))))
                                                                                (0 : Int)))
                                                                            ((0 : Nat) +
                                                                              Int.toNat (Go.IntKind.wrap Go.IntKind.i64 (Go.IntKind.wrap Go.IntKind.i64 ((2 : Int) * (↑x.1 : Int)) + (1 : Int))))
                                                                            (List.getD x.3 ((0 : Nat) + x.1) (0 : Int)) =
                                                                          y.3 ∧
                                                                        True) ∧
                                                              True) ∧
                                                        dnInv cap len n i0 rows y)))) := by
  refine ⟨⟨i0, xs, ys⟩, ⟨by simp, hx, hy, hi0, by rw [hz], by rw [hz]; exact hu, fun k hk => by rw [hz]⟩, ?_⟩
  rintro ⟨i, xs', ys'⟩ ⟨q1, q2, q3, q4, q5, q6⟩
  simp only at q1 q2 q3 q4 q5 q6
  simp only [dbl_ix (show i < 1000000 by omega), dbl_ix2 (show i < 1000000 by omega), Int.toNat_natCast, Nat.zero_add]
  have hl9 := zipR_len (len := len) (xs := xs') (ys := ys') (by omega) (by omega)
  have done : (∀ k, 0 < k → k < n → par k = i → rle (gq (zipR len xs' ys') i) (gq (zipR len xs' ys') k)) → TbL b b1 base cap (dnPost n i0 rows ((i0 : Int) < (i : Int))) [(b, .cells [.slice (some ⟨b1, base * 2, none⟩) len cap] 70), (b1, .tab 150 base cap [.ints .u64 xs', .ints .i64 ys'])] := fun hh => by
    obtain ⟨d1, d2⟩ := dn_done q5 hh
    exact tb_mk q1 q2 hlc ⟨q4, fun h => d1 (by omega), fun h => d2 (by omega), q6⟩
  have step : ∀ j, i < j → j < n → par j = i → rlt (gq (zipR len xs' ys') j) (gq (zipR len xs' ys') i) → (∀ k, 0 < k → k < n → par k = i → rle (gq (zipR len xs' ys') j) (gq (zipR len xs' ys') k)) →
      dnInv cap len n i0 rows ⟨j, (xs'.set i (xs'.getD j 0)).set j (xs'.getD i 0), (ys'.set i (ys'.getD j 0)).set j (ys'.getD i 0)⟩ := fun j hij hjn hpj hlt hm => by
    have hsw := sw_zip (len := len) (xs := xs') (ys := ys') (i := i) (j := j) (by omega) (by omega) (by omega) (by omega)
    refine ⟨by simp [q1], by simp [q2], by simp only; omega, ?_, ?_, fun k hk => ?_⟩
    · simp only; rw [hsw]; exact (sw_perm (by omega) (by omega)).trans q4
    · simp only; rw [hsw]; exact dn_step q5 (by omega) hjn hpj hlt hm
    · simp only; rw [hsw, sw_get (by omega) (by omega), if_neg (by omega), if_neg (by omega)]
      exact q6 k hk
  have kids : ∀ k, 0 < k → par k = i → k = 2 * i + 1 ∨ k = 2 * i + 2 := fun k k0 hk => by unfold par at hk; omega
  have p1 : par (2 * i + 1) = i := by unfold par; omega
  have p2 : par (2 * i + 2) = i := by unfold par; omega
  generalize hq : zipR len xs' ys' = q at *
  have mv : ∀ (j : Nat), j < n → i < j → ∀ A : Prop, A → True := fun _ _ _ _ _ => trivial
  refine ⟨fun h1 => done fun k k0 kn hk => by rcases kids k k0 hk with h | h <;> omega, fun h1 => ⟨fun h2 => by omega, fun h2 => ⟨fun h3 => ⟨⟨by omega, by omega, by omega, by omega, hlc, by trivial⟩, fun h4 => ⟨⟨by omega, by omega, by omega, by omega, hlc, by trivial⟩, fun h5 => ?_, fun h5 => ?_⟩,
    fun h4 => ⟨⟨by omega, by omega, by omega, by omega, hlc, by trivial⟩, fun h5 => ?_, fun h5 => ?_⟩⟩, fun h3 => ⟨⟨by omega, by omega, by omega, by omega, hlc, by trivial⟩, fun h5 => ?_, fun h5 => ?_⟩⟩⟩⟩
  · refine done fun k k0 kn hk => ?_
    rcases kids k k0 hk with rfl | rfl
    · exact rle_trans (not_rlt.1 h5) (rle_of_lt h4)
    · exact not_rlt.1 h5
  · refine ⟨⟨by omega, by omega⟩, by omega, by omega, ⟨by omega, by omega⟩, by omega, by omega, ⟨by omega, by omega⟩, by omega, by omega, ⟨by omega, by omega⟩, by omega, by omega, ⟨2 * i + 2, _, _⟩, by simp only; omega, ⟨⟨by trivial, by simp⟩, by simp, ⟨by trivial, by trivial, by trivial, rfl, rfl, trivial⟩, trivial⟩, step (2 * i + 2) (by omega) (by omega) p2 (Classical.not_not.1 h5) fun k k0 kn hk => ?_⟩
    rcases kids k k0 hk with rfl | rfl
    · exact rle_of_lt h4
    · exact rle_refl _
  · refine done fun k k0 kn hk => ?_
    rcases kids k k0 hk with rfl | rfl
    · exact not_rlt.1 h5
    · exact rle_trans (not_rlt.1 h5) (not_rlt.1 h4)
  · refine ⟨⟨by omega, by omega⟩, by omega, by omega, ⟨by omega, by omega⟩, by omega, by omega, ⟨by omega, by omega⟩, by omega, by omega, ⟨by omega, by omega⟩, by omega, by omega, ⟨2 * i + 1, _, _⟩, by simp only; omega, ⟨⟨by trivial, by simp⟩, by simp, ⟨by trivial, by trivial, by trivial, rfl, rfl, trivial⟩, trivial⟩, step (2 * i + 1) (by omega) (by omega) p1 (Classical.not_not.1 h5) fun k k0 kn hk => ?_⟩
    rcases kids k k0 hk with rfl | rfl
    · exact rle_refl _
    · exact not_rlt.1 h4
  · refine done fun k k0 kn hk => ?_
    rcases kids k k0 hk with rfl | rfl
    · exact not_rlt.1 h5
    · omega
  · refine ⟨⟨by omega, by omega⟩, by omega, by omega, ⟨by omega, by omega⟩, by omega, by omega, ⟨by omega, by omega⟩, by omega, by omega, ⟨by omega, by omega⟩, by omega, by omega, ⟨2 * i + 1, _, _⟩, by simp only; omega, ⟨⟨by trivial, by simp⟩, by simp, ⟨by trivial, by trivial, by trivial, rfl, rfl, trivial⟩, trivial⟩, step (2 * i + 1) (by omega) (by omega) p1 (Classical.not_not.1 h5) fun k k0 kn hk => ?_⟩
    rcases kids k k0 hk with rfl | rfl
    · exact rle_refl _
    · omega
theorem up_goal (b b1 base len cap n j : Nat) (xs ys : List Int) (rows : List Row) (hlc : len ≤ cap) (hb : len < 1000000) (hx : xs.length = cap) (hy : ys.length = cap) (hz : zipR len xs ys = rows) (hn : n ≤ len) (hu : UpInv n rows j) :
    upGoal b b1 base len cap n j xs ys rows := Eq.mpr (by kernel_rfl) (up_vc b b1 base len cap n j xs ys rows hlc hb hx hy hz hn hu)
theorem dn_goal (b b1 base len cap n i0 : Nat) (xs ys : List Int) (rows : List Row) (hlc : len ≤ cap) (hb : len < 1000000) (hx : xs.length = cap) (hy : ys.length = cap) (hz : zipR len xs ys = rows) (hn : n ≤ len) (hi0 : i0 < len) (hu : DnInv n rows i0 i0) :
    dnGoal b b1 base len cap n i0 xs ys rows := Eq.mpr (by kernel_rfl) (dn_vc b b1 base len cap n i0 xs ys rows hlc hb hx hy hz hn hi0 hu)
end Go.Proofs.Ythkcfocoekonjaa
