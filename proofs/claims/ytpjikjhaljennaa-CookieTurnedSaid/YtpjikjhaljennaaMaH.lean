/- Insert of a part: contract. -/
import Derived.Test.YtpjikjhaljennaaMaG
set_option maxRecDepth 100000
set_option linter.unusedVariables false
set_option linter.unusedSimpArgs false
namespace Go.Proofs.Ytpjikjhaljennaa
open Go Go.Sx
attribute [local irreducible] Go.Sx.xrun

noncomputable def inAGoal (b b2 base N k c2 : Nat) (xs : List Value) (vo : Option Addr) (vl vc : Nat) (R : Value → Blks → Prop) : Prop :=
  xrun Go.Proofs.Try.prog [] [] [] 9 [] 57 [.val (.slice (some ⟨b, base, none⟩) (k + 1) N), .val (.int .i64 0), .slc 1 0 1 c2] [.chunk [(b, .tab 30 base N [.raws xs])], .own b2 (.cells 1 [.val (.slice vo vl vc)] 30)] fun s h => R (den (locs h) s) (owned (locs h) h)
noncomputable def inBGoal (b b2 base N k c2 : Nat) (xs : List Value) (vo : Option Addr) (vl vc : Nat) (R : Value → Blks → Prop) : Prop :=
  xrun Go.Proofs.Try.prog [] [] [] 9 [] 57 [.slc 0 0 (k + 1) N, .val (.int .i64 0), .slc 1 0 1 c2] [.own b (.tab 30 base N [.raws xs]), .own b2 (.cells 1 [.val (.slice vo vl vc)] 30)] fun s h => R (den (locs h) s) (owned (locs h) h)
theorem ins_list {cap k : Nat} {v : Value} {ys Z : List Value} (hZ : Z.length = cap) (hk : k + 2 ≤ cap) (hy : ys.length = k + 1) :
    (([v] ++ Z.drop 1).take 1 ++ ys.take (k + 1) ++ ([v] ++ Z.drop 1).drop (1 + (k + 1))).length = cap ∧ (([v] ++ Z.drop 1).take 1 ++ ys.take (k + 1) ++ ([v] ++ Z.drop 1).drop (1 + (k + 1))).take (k + 2) = v :: ys := by
  have e1 : ([v] ++ Z.drop 1).take 1 = [v] := rfl
  have e2 : ys.take (k + 1) = ys := by rw [← hy, List.take_length]
  rw [e1, e2]
  refine ⟨by simp; omega, ?_⟩
  have e3 : ([v] ++ ys).length = k + 2 := by simp [hy]
  rw [← e3, List.take_left]
  rfl
theorem ins_w {k : Nat} (hk : k < 1000000000) : IntKind.wrap .i64 (((k + 1 : Nat) : Int) + 1) = ((k + 2 : Nat) : Int) := by rw [IntKind.wrap_i64]; omega
theorem ins_w0 {k : Nat} (hk : k < 1000000000) : IntKind.wrap .i64 (((k + 2 : Nat) : Int) - 0) = ((k + 2 : Nat) : Int) := by rw [IntKind.wrap_i64]; omega
theorem wrap1 : IntKind.wrap .i64 1 = 1 := by rw [IntKind.wrap_i64]; rfl
set_option maxHeartbeats 1000000 in
theorem inA_goal (b b2 base N k c2 : Nat) (xs : List Value) (vo : Option Addr) (vl vc : Nat) (R : Value → Blks → Prop) (hx : xs.length = N) (hN : k + 1 = N) (hk : k < 1000000000)
    (hR : ∀ b' base' cap zs, zs.length = cap → k + 2 ≤ cap → zs.take (k + 2) = .slice vo vl vc :: xs.take (k + 1) → R (.slice (some ⟨b', base', none⟩) (k + 2) cap) [(b, .tab 30 base N [.raws xs]), (b2, .cells [.slice vo vl vc] 30), (b', .tab 30 base' cap [.raws zs])]) :
    inAGoal b b2 base N k c2 xs vo vl vc R :=
  Eq.mpr (by kernel_rfl) (show
  ((0 : Int) ≤ (0 : Int) ∧ (0 : Int) ≤ (↑(k + (1 : Nat)) : Int)) ∧ ((↑(1 : Nat) : Int) = (0 : Int) → R (Value.slice (Option.some { block := b, off := base }) (k + (1 : Nat)) N) [(b, Blk.tab (30 : Go.TypeId) base N [Col.raws xs]), (b2, Blk.cells [Value.slice vo vl vc] (30 : Go.TypeId))]) ∧ (¬(↑(1 : Nat) : Int) = (0 : Int) → ((0 : Int) = (↑(k + (1 : Nat)) : Int) → Value.oneCell' (Value.slice vo vl vc) = Bool.true ∧ False) ∧ (¬(0 : Int) = (↑(k + (1 : Nat)) : Int) → ((↑N : Int) < IntKind.wrap IntKind.i64 ((↑(k + (1 : Nat)) : Int) + (↑(1 : Nat) : Int)) →
  ((0 : Int) ≤ (0 : Int) ∧ (0 : Int) ≤ (↑N : Int)) ∧ ((0 : Int) ≤ IntKind.wrap IntKind.i64 (IntKind.wrap IntKind.i64 ((↑(k + (1 : Nat)) : Int) + (↑(1 : Nat) : Int)) - (0 : Int)) ∧ Int.toNat (IntKind.wrap IntKind.i64 (IntKind.wrap IntKind.i64 ((↑(k + (1 : Nat)) : Int) + (↑(1 : Nat) : Int)) - (0 : Int))) * (24 : Nat) ≤ (140737488355328 : Nat)) ∧ N - (0 : Nat) < Int.toNat (IntKind.wrap IntKind.i64 (IntKind.wrap IntKind.i64 ((↑(k + (1 : Nat)) : Int) + (↑(1 : Nat) : Int)) - (0 : Int))) ∧
  Int.toNat (IntKind.wrap IntKind.i64 (IntKind.wrap IntKind.i64 ((↑(k + (1 : Nat)) : Int) + (↑(1 : Nat) : Int)) - (0 : Int))) * (24 : Nat) ≤ (140737488355328 : Nat) ∧ ∀ (b_1 cap' : Nat), Int.toNat (IntKind.wrap IntKind.i64 (IntKind.wrap IntKind.i64 ((↑(k + (1 : Nat)) : Int) + (↑(1 : Nat) : Int)) - (0 : Int))) ≤ cap' → ∀ (sp : List Go.Value), List.length sp = cap' - Int.toNat (IntKind.wrap IntKind.i64 (IntKind.wrap IntKind.i64 ((↑(k + (1 : Nat)) : Int) + (↑(1 : Nat) : Int)) - (0 : Int))) → ((0 : Int) ≤ (0 : Int) ∧
  (0 : Int) ≤ (↑(Int.toNat (IntKind.wrap IntKind.i64 (IntKind.wrap IntKind.i64 ((↑(k + (1 : Nat)) : Int) + (↑(1 : Nat) : Int)) - (0 : Int)))) : Int)) ∧ Value.oneCell' (Value.slice vo vl vc) = Bool.true ∧ (if cap' = Int.toNat (0 : Int) then (0 : Nat) else (0 : Nat) + Int.toNat (0 : Int)) + (Int.toNat (IntKind.wrap IntKind.i64 (IntKind.wrap IntKind.i64 ((↑(k + (1 : Nat)) : Int) + (↑(1 : Nat) : Int)) - (0 : Int))) - Int.toNat (0 : Int)) ≤ cap' ∧ ((0 : Int) ≤ IntKind.wrap IntKind.i64 ((0 : Int) + (↑(1 : Nat) : Int)) ∧ IntKind.wrap IntKind.i64 ((0 : Int) + (↑(1 : Nat) : Int)) ≤
  (↑(Int.toNat (IntKind.wrap IntKind.i64 (IntKind.wrap IntKind.i64 ((↑(k + (1 : Nat)) : Int) + (↑(1 : Nat) : Int)) - (0 : Int)))) : Int)) ∧ ((0 : Int) ≤ (0 : Int) ∧ (0 : Int) ≤ (↑(k + (1 : Nat)) : Int)) ∧ (k + (1 : Nat) - Int.toNat (0 : Int) = (0 : Nat) → R (Value.slice (Option.some { block := b_1, off := (0 : Nat) * (1 : Nat) }) (Int.toNat (IntKind.wrap IntKind.i64 (IntKind.wrap IntKind.i64 ((↑(k + (1 : Nat)) : Int) + (↑(1 : Nat) : Int)) - (0 : Int)))) cap') [(b, Blk.tab (30 : Go.TypeId) base N [Col.raws xs]), (b2, Blk.cells [Value.slice vo vl vc] (30 : Go.TypeId)), (b_1,
  Blk.tab (30 : Nat) (0 : Nat) cap' [Col.raws (List.take (if cap' = Int.toNat (0 : Int) then (0 : Nat) else (0 : Nat) + Int.toNat (0 : Int)) (List.replicate (Int.toNat (IntKind.wrap IntKind.i64 (IntKind.wrap IntKind.i64 ((↑(k + (1 : Nat)) : Int) + (↑(1 : Nat) : Int)) - (0 : Int)))) (Value.slice Option.none (0 : Nat) (0 : Nat)) ++ sp) ++ List.take (Min.min (1 : Nat) (Int.toNat (IntKind.wrap IntKind.i64 (IntKind.wrap IntKind.i64 ((↑(k + (1 : Nat)) : Int) + (↑(1 : Nat) : Int)) - (0 : Int))) - Int.toNat (0 : Int))) [Value.slice vo vl vc] ++ List.drop
  ((if cap' = Int.toNat (0 : Int) then (0 : Nat) else (0 : Nat) + Int.toNat (0 : Int)) + Min.min (1 : Nat) (Int.toNat (IntKind.wrap IntKind.i64 (IntKind.wrap IntKind.i64 ((↑(k + (1 : Nat)) : Int) + (↑(1 : Nat) : Int)) - (0 : Int))) - Int.toNat (0 : Int))) (List.replicate (Int.toNat (IntKind.wrap IntKind.i64 (IntKind.wrap IntKind.i64 ((↑(k + (1 : Nat)) : Int) + (↑(1 : Nat) : Int)) - (0 : Int)))) (Value.slice Option.none (0 : Nat) (0 : Nat)) ++ sp))])]) ∧ ((0 : Nat) < k + (1 : Nat) - Int.toNat (0 : Int) → ∃ (xs_1 : List Go.Value),
  rawTab [(b, Blk.tab (30 : Go.TypeId) base N [Col.raws xs])] b (if N = Int.toNat (0 : Int) then base else base) (k + (1 : Nat) - Int.toNat (0 : Int)) [Col.raws xs_1] ∧ (if cap' = Int.toNat (IntKind.wrap IntKind.i64 ((0 : Int) + (↑(1 : Nat) : Int))) then (0 : Nat) else (0 : Nat) + Int.toNat (IntKind.wrap IntKind.i64 ((0 : Int) + (↑(1 : Nat) : Int)))) + (Int.toNat (IntKind.wrap IntKind.i64 (IntKind.wrap IntKind.i64 ((↑(k + (1 : Nat)) : Int) + (↑(1 : Nat) : Int)) - (0 : Int))) - Int.toNat (IntKind.wrap IntKind.i64 ((0 : Int) + (↑(1 : Nat) : Int)))) ≤ cap' ∧ R
  (Value.slice (Option.some { block := b_1, off := (0 : Nat) * (1 : Nat) }) (Int.toNat (IntKind.wrap IntKind.i64 (IntKind.wrap IntKind.i64 ((↑(k + (1 : Nat)) : Int) + (↑(1 : Nat) : Int)) - (0 : Int)))) cap') [(b, Blk.tab (30 : Go.TypeId) base N [Col.raws xs]), (b2, Blk.cells [Value.slice vo vl vc] (30 : Go.TypeId)), (b_1, Blk.tab (30 : Nat) (0 : Nat) cap' [Col.raws (List.take (if cap' = Int.toNat (IntKind.wrap IntKind.i64 ((0 : Int) + (↑(1 : Nat) : Int))) then (0 : Nat) else (0 : Nat) + Int.toNat (IntKind.wrap IntKind.i64 ((0 : Int) + (↑(1 : Nat) : Int))))
  (List.take (if cap' = Int.toNat (0 : Int) then (0 : Nat) else (0 : Nat) + Int.toNat (0 : Int)) (List.replicate (Int.toNat (IntKind.wrap IntKind.i64 (IntKind.wrap IntKind.i64 ((↑(k + (1 : Nat)) : Int) + (↑(1 : Nat) : Int)) - (0 : Int)))) (Value.slice Option.none (0 : Nat) (0 : Nat)) ++ sp) ++ List.take (Min.min (1 : Nat) (Int.toNat (IntKind.wrap IntKind.i64 (IntKind.wrap IntKind.i64 ((↑(k + (1 : Nat)) : Int) + (↑(1 : Nat) : Int)) - (0 : Int))) - Int.toNat (0 : Int))) [Value.slice vo vl vc] ++ List.drop ((if cap' = Int.toNat (0 : Int) then (0 : Nat) else (0 : Nat) + Int.toNat (0 : Int)) +
  Min.min (1 : Nat) (Int.toNat (IntKind.wrap IntKind.i64 (IntKind.wrap IntKind.i64 ((↑(k + (1 : Nat)) : Int) + (↑(1 : Nat) : Int)) - (0 : Int))) - Int.toNat (0 : Int))) (List.replicate (Int.toNat (IntKind.wrap IntKind.i64 (IntKind.wrap IntKind.i64 ((↑(k + (1 : Nat)) : Int) + (↑(1 : Nat) : Int)) - (0 : Int)))) (Value.slice Option.none (0 : Nat) (0 : Nat)) ++ sp)) ++ List.take (Min.min (k + (1 : Nat) - Int.toNat (0 : Int)) (Int.toNat (IntKind.wrap IntKind.i64 (IntKind.wrap IntKind.i64 ((↑(k + (1 : Nat)) : Int) + (↑(1 : Nat) : Int)) - (0 : Int))) -
  Int.toNat (IntKind.wrap IntKind.i64 ((0 : Int) + (↑(1 : Nat) : Int))))) xs_1 ++ List.drop ((if cap' = Int.toNat (IntKind.wrap IntKind.i64 ((0 : Int) + (↑(1 : Nat) : Int))) then (0 : Nat) else (0 : Nat) + Int.toNat (IntKind.wrap IntKind.i64 ((0 : Int) + (↑(1 : Nat) : Int)))) + Min.min (k + (1 : Nat) - Int.toNat (0 : Int)) (Int.toNat (IntKind.wrap IntKind.i64 (IntKind.wrap IntKind.i64 ((↑(k + (1 : Nat)) : Int) + (↑(1 : Nat) : Int)) - (0 : Int))) - Int.toNat (IntKind.wrap IntKind.i64 ((0 : Int) + (↑(1 : Nat) : Int)))))
  (List.take (if cap' = Int.toNat (0 : Int) then (0 : Nat) else (0 : Nat) + Int.toNat (0 : Int)) (List.replicate (Int.toNat (IntKind.wrap IntKind.i64 (IntKind.wrap IntKind.i64 ((↑(k + (1 : Nat)) : Int) + (↑(1 : Nat) : Int)) - (0 : Int)))) (Value.slice Option.none (0 : Nat) (0 : Nat)) ++ sp) ++ List.take (Min.min (1 : Nat) (Int.toNat (IntKind.wrap IntKind.i64 (IntKind.wrap IntKind.i64 ((↑(k + (1 : Nat)) : Int) + (↑(1 : Nat) : Int)) - (0 : Int))) - Int.toNat (0 : Int))) [Value.slice vo vl vc] ++ List.drop ((if cap' = Int.toNat (0 : Int) then (0 : Nat) else (0 : Nat) + Int.toNat (0 : Int)) +
  Min.min (1 : Nat) (Int.toNat (IntKind.wrap IntKind.i64 (IntKind.wrap IntKind.i64 ((↑(k + (1 : Nat)) : Int) + (↑(1 : Nat) : Int)) - (0 : Int))) - Int.toNat (0 : Int))) (List.replicate (Int.toNat (IntKind.wrap IntKind.i64 (IntKind.wrap IntKind.i64 ((↑(k + (1 : Nat)) : Int) + (↑(1 : Nat) : Int)) - (0 : Int)))) (Value.slice Option.none (0 : Nat) (0 : Nat)) ++ sp)))])])) ∧ (¬(↑N : Int) < IntKind.wrap IntKind.i64 ((↑(k + (1 : Nat)) : Int) + (↑(1 : Nat) : Int)) → ((0 : Int) ≤ IntKind.wrap IntKind.i64 ((↑(k + (1 : Nat)) : Int) + (↑(1 : Nat) : Int)) ∧
  IntKind.wrap IntKind.i64 ((↑(k + (1 : Nat)) : Int) + (↑(1 : Nat) : Int)) ≤ (↑N : Int)) ∧ ((0 : Int) ≤ IntKind.wrap IntKind.i64 ((0 : Int) + (↑(1 : Nat) : Int)) ∧ IntKind.wrap IntKind.i64 ((0 : Int) + (↑(1 : Nat) : Int)) ≤ (↑(Int.toNat (IntKind.wrap IntKind.i64 ((↑(k + (1 : Nat)) : Int) + (↑(1 : Nat) : Int))) - (0 : Nat)) : Int)) ∧ False))) from by
  subst hN
  simp only [eq_self, true_and, and_true, false_and, and_false, or_false, false_or, and_self, Nat.zero_add, Nat.add_zero, Nat.sub_zero, Nat.zero_mul, Nat.mul_one, Int.toNat_natCast, cond_true, cond_false, forall_const, implies_true, Nat.beq_refl, ne_eq, not_false_eq_true, not_true_eq_false, Classical.not_not, List.cons.injEq, List.append_nil, List.nil_append, Go.Value.int.injEq, Go.Value.bool.injEq, Go.Value.slice.injEq, Nat.le_refl, Nat.zero_le, Go.Sx.one_int, Go.Sx.one_bool, Go.Sx.one_slice, Go.Sx.one_ptr, Go.Sx.one_map, Int.cast_ofNat_Int, reduceCtorEq, Nat.reduceLeDiff, Nat.reduceMul, Nat.reduceAdd, Nat.reduceSub, Nat.reduceEqDiff, Int.reduceLE, Int.reduceLT, Int.reduceEq, Int.reduceAdd, Int.reduceSub, Int.reduceNeg, Int.reduceMul, Nat.reduceBEq, Int.toNat_zero, Int.toNat_one]
  simp only [ins_w hk, ins_w0 hk, wrap1, Int.toNat_natCast, Int.toNat_zero, Int.toNat_one]
  have t0 : Int.toNat 0 = 0 := rfl
  have t1 : Int.toNat 1 = 1 := rfl
  try simp only [t0, t1, ite_self, Nat.sub_zero, Nat.zero_add]
  refine ⟨by omega, fun h => h.elim, fun h => absurd h (by omega), fun _ => ⟨fun _ => ⟨by omega, ⟨by omega, by omega⟩, by omega, by omega, fun b1 cap hc sp hs => ⟨by omega, hc, ⟨by omega, by omega⟩, by omega, fun h => h.elim, fun _ => ⟨xs, .inl ⟨30, base, k + 1, [.raws xs], 0, by simp, by simp, by omega, by simp [winOf]; rw [← hx, List.take_length]⟩, ?_⟩⟩⟩, fun h => absurd h (by omega)⟩⟩
  have hne : ¬ cap = 1 := by omega
  have m1 : min 1 (k + 2) = 1 := by omega
  have m2 : min (k + 1) (k + 2 - 1) = k + 1 := by omega
  simp only [hne, if_false, m1, m2, List.take_zero, List.nil_append]
  refine ⟨by omega, ?_⟩
  have ht : List.take 1 [Value.slice vo vl vc] = [Value.slice vo vl vc] := rfl
  rw [ht]
  have hx2 : xs.take (k + 1) = xs := by rw [← hx, List.take_length]
  have hl := ins_list (v := .slice vo vl vc) (ys := xs) (k := k) (cap := cap) (Z := List.replicate (k + 2) (Value.slice none 0 0) ++ sp) (by simp [hs]; omega) hc hx
  exact hR _ _ _ _ hl.1 hc (by rw [hl.2, hx2]))
theorem overlaps86 : IsOverlaps Go.Proofs.Try.prog 86 44 := ⟨Go.Proofs.Try.f86, 4, Go.Proofs.Try.func86, by kernel_rfl, by kernel_rfl, by kernel_rfl, by kernel_rfl⟩
set_option maxHeartbeats 1000000 in
theorem inB_goal (b b2 base N k c2 : Nat) (xs : List Value) (vo : Option Addr) (vl vc : Nat) (R : Value → Blks → Prop) (hx : xs.length = N) (hN : k + 2 ≤ N) (hk : k < 1000000000)
    (hR : ∀ zs, zs.length = N → zs.take (k + 2) = .slice vo vl vc :: xs.take (k + 1) → R (.slice (some ⟨b, base, none⟩) (k + 2) N) [(b, .tab 30 base N [.raws zs]), (b2, .cells [.slice vo vl vc] 30)]) :
    inBGoal b b2 base N k c2 xs vo vl vc R :=
  Eq.mpr (by kernel_rfl) (show
  ((0 : Int) ≤ (0 : Int) ∧ (0 : Int) ≤ (↑(k + (1 : Nat)) : Int)) ∧ ((↑(1 : Nat) : Int) = (0 : Int) → R (Value.slice (Option.some { block := b, off := base * (1 : Nat) }) (k + (1 : Nat)) N) [(b, Blk.tab (30 : Go.TypeId) base N [Col.raws xs]), (b2, Blk.cells [Value.slice vo vl vc] (30 : Go.TypeId))]) ∧ (¬(↑(1 : Nat) : Int) = (0 : Int) → ((0 : Int) = (↑(k + (1 : Nat)) : Int) → Value.oneCell' (Value.slice vo vl vc) = Bool.true ∧ (k + (1 : Nat) ≤ N ∧ (0 : Nat) + N ≤ N) ∧ (0 : Nat) + (k + (1 : Nat)) ≤ N ∧ (k + (1 : Nat) + (1 : Nat)) * (24 : Nat) ≤ (140737488355328 : Nat) ∧ ∀ (b base cap' : Nat),
  k + (1 : Nat) + (1 : Nat) ≤ cap' → (k + (1 : Nat) + (1 : Nat) ≤ N → cap' = N) → ∀ (sp : List Go.Value), List.length sp = cap' - (k + (1 : Nat) + (1 : Nat)) → R (Value.slice (Option.some { block := b, off := base * (1 : Nat) }) (k + (1 : Nat) + (1 : Nat)) cap') [(b2, Blk.cells [Value.slice vo vl vc] (30 : Go.TypeId)), (b, Blk.tab (30 : Nat) base cap' [Col.raws (List.take (k + (1 : Nat)) xs ++ [Value.slice vo vl vc] ++ sp)])]) ∧ (¬(0 : Int) = (↑(k + (1 : Nat)) : Int) → ((↑N : Int) < IntKind.wrap IntKind.i64 ((↑(k + (1 : Nat)) : Int) + (↑(1 : Nat) : Int)) →
  ((0 : Int) ≤ (0 : Int) ∧ (0 : Int) ≤ (↑N : Int)) ∧ ((0 : Int) ≤ IntKind.wrap IntKind.i64 (IntKind.wrap IntKind.i64 ((↑(k + (1 : Nat)) : Int) + (↑(1 : Nat) : Int)) - (0 : Int)) ∧ Int.toNat (IntKind.wrap IntKind.i64 (IntKind.wrap IntKind.i64 ((↑(k + (1 : Nat)) : Int) + (↑(1 : Nat) : Int)) - (0 : Int))) * (24 : Nat) ≤ (140737488355328 : Nat)) ∧ (Int.toNat (0 : Int) ≤ N ∧ (0 : Nat) + N ≤ N) ∧ (0 : Nat) + Int.toNat (0 : Int) ≤ N ∧ (Int.toNat (0 : Int) + Int.toNat (IntKind.wrap IntKind.i64 (IntKind.wrap IntKind.i64 ((↑(k + (1 : Nat)) : Int) + (↑(1 : Nat) : Int)) - (0 : Int)))) * (24 : Nat) ≤
  (140737488355328 : Nat) ∧ ∀ (b base cap' : Nat), Int.toNat (0 : Int) + Int.toNat (IntKind.wrap IntKind.i64 (IntKind.wrap IntKind.i64 ((↑(k + (1 : Nat)) : Int) + (↑(1 : Nat) : Int)) - (0 : Int))) ≤ cap' → (Int.toNat (0 : Int) + Int.toNat (IntKind.wrap IntKind.i64 (IntKind.wrap IntKind.i64 ((↑(k + (1 : Nat)) : Int) + (↑(1 : Nat) : Int)) - (0 : Int))) ≤ N → cap' = N) → ∀ (sp : List Go.Value), List.length sp = cap' - (Int.toNat (0 : Int) + Int.toNat (IntKind.wrap IntKind.i64 (IntKind.wrap IntKind.i64 ((↑(k + (1 : Nat)) : Int) + (↑(1 : Nat) : Int)) - (0 : Int)))) → ((0 : Int) ≤ (0 : Int) ∧
  (0 : Int) ≤ (↑(Int.toNat (0 : Int) + Int.toNat (IntKind.wrap IntKind.i64 (IntKind.wrap IntKind.i64 ((↑(k + (1 : Nat)) : Int) + (↑(1 : Nat) : Int)) - (0 : Int)))) : Int)) ∧ Value.oneCell' (Value.slice vo vl vc) = Bool.true ∧ (if cap' = Int.toNat (0 : Int) then (0 : Nat) else (0 : Nat) + Int.toNat (0 : Int)) + (Int.toNat (0 : Int) + Int.toNat (IntKind.wrap IntKind.i64 (IntKind.wrap IntKind.i64 ((↑(k + (1 : Nat)) : Int) + (↑(1 : Nat) : Int)) - (0 : Int))) - Int.toNat (0 : Int)) ≤ cap' ∧ ((0 : Int) ≤ IntKind.wrap IntKind.i64 ((0 : Int) + (↑(1 : Nat) : Int)) ∧
  IntKind.wrap IntKind.i64 ((0 : Int) + (↑(1 : Nat) : Int)) ≤ (↑(Int.toNat (0 : Int) + Int.toNat (IntKind.wrap IntKind.i64 (IntKind.wrap IntKind.i64 ((↑(k + (1 : Nat)) : Int) + (↑(1 : Nat) : Int)) - (0 : Int)))) : Int)) ∧ ((0 : Int) ≤ (0 : Int) ∧ (0 : Int) ≤ (↑(k + (1 : Nat)) : Int)) ∧ False) ∧ (¬(↑N : Int) < IntKind.wrap IntKind.i64 ((↑(k + (1 : Nat)) : Int) + (↑(1 : Nat) : Int)) → ((0 : Int) ≤ IntKind.wrap IntKind.i64 ((↑(k + (1 : Nat)) : Int) + (↑(1 : Nat) : Int)) ∧ IntKind.wrap IntKind.i64 ((↑(k + (1 : Nat)) : Int) + (↑(1 : Nat) : Int)) ≤ (↑N : Int)) ∧
  ((0 : Int) ≤ IntKind.wrap IntKind.i64 ((0 : Int) + (↑(1 : Nat) : Int)) ∧ IntKind.wrap IntKind.i64 ((0 : Int) + (↑(1 : Nat) : Int)) ≤ (↑(Int.toNat (IntKind.wrap IntKind.i64 ((↑(k + (1 : Nat)) : Int) + (↑(1 : Nat) : Int)))) : Int)) ∧ IsOverlaps Go.Proofs.Try.prog (86 : Nat) (44 : Nat) ∧ (0 : Nat) < N ∧ ((0 : Int) ≤ IntKind.wrap IntKind.i64 ((0 : Int) + (↑(1 : Nat) : Int)) ∧ IntKind.wrap IntKind.i64 ((0 : Int) + (↑(1 : Nat) : Int)) ≤ (↑(Int.toNat (IntKind.wrap IntKind.i64 ((↑(k + (1 : Nat)) : Int) + (↑(1 : Nat) : Int)))) : Int)) ∧
  ((0 : Int) ≤ (0 : Int) ∧ (0 : Int) ≤ (↑(Int.toNat (IntKind.wrap IntKind.i64 ((↑(k + (1 : Nat)) : Int) + (↑(1 : Nat) : Int)))) : Int)) ∧ (if N = Int.toNat (0 : Int) then (0 : Nat) else (0 : Nat) + Int.toNat (0 : Int)) + (Int.toNat (IntKind.wrap IntKind.i64 ((↑(k + (1 : Nat)) : Int) + (↑(1 : Nat) : Int))) - Int.toNat (0 : Int)) ≤ N ∧ (if N = Int.toNat (IntKind.wrap IntKind.i64 ((0 : Int) + (↑(1 : Nat) : Int))) then (0 : Nat) else (0 : Nat) + Int.toNat (IntKind.wrap IntKind.i64 ((0 : Int) + (↑(1 : Nat) : Int)))) +
  (Int.toNat (IntKind.wrap IntKind.i64 ((↑(k + (1 : Nat)) : Int) + (↑(1 : Nat) : Int))) - Int.toNat (IntKind.wrap IntKind.i64 ((0 : Int) + (↑(1 : Nat) : Int)))) ≤ N ∧ ((0 : Int) ≤ (0 : Int) ∧ (0 : Int) ≤ (↑(Int.toNat (IntKind.wrap IntKind.i64 ((↑(k + (1 : Nat)) : Int) + (↑(1 : Nat) : Int)))) : Int)) ∧ Value.oneCell' (Value.slice vo vl vc) = Bool.true ∧ (if N = Int.toNat (0 : Int) then (0 : Nat) else (0 : Nat) + Int.toNat (0 : Int)) + (Int.toNat (IntKind.wrap IntKind.i64 ((↑(k + (1 : Nat)) : Int) + (↑(1 : Nat) : Int))) - Int.toNat (0 : Int)) ≤ N ∧ R
  (Value.slice (Option.some { block := b, off := base * (1 : Nat) }) (Int.toNat (IntKind.wrap IntKind.i64 ((↑(k + (1 : Nat)) : Int) + (↑(1 : Nat) : Int)))) N) [(b, Blk.tab (30 : Go.TypeId) base N [Col.raws (List.take (if N = Int.toNat (0 : Int) then (0 : Nat) else (0 : Nat) + Int.toNat (0 : Int)) (List.take (if N = Int.toNat (IntKind.wrap IntKind.i64 ((0 : Int) + (↑(1 : Nat) : Int))) then (0 : Nat) else (0 : Nat) + Int.toNat (IntKind.wrap IntKind.i64 ((0 : Int) + (↑(1 : Nat) : Int)))) xs ++ List.take
  (Min.min (Int.toNat (IntKind.wrap IntKind.i64 ((↑(k + (1 : Nat)) : Int) + (↑(1 : Nat) : Int))) - Int.toNat (0 : Int)) (Int.toNat (IntKind.wrap IntKind.i64 ((↑(k + (1 : Nat)) : Int) + (↑(1 : Nat) : Int))) - Int.toNat (IntKind.wrap IntKind.i64 ((0 : Int) + (↑(1 : Nat) : Int))))) (List.take (Int.toNat (IntKind.wrap IntKind.i64 ((↑(k + (1 : Nat)) : Int) + (↑(1 : Nat) : Int))) - Int.toNat (0 : Int)) (List.drop (if N = Int.toNat (0 : Int) then (0 : Nat) else (0 : Nat) + Int.toNat (0 : Int)) xs)) ++ List.drop
  ((if N = Int.toNat (IntKind.wrap IntKind.i64 ((0 : Int) + (↑(1 : Nat) : Int))) then (0 : Nat) else (0 : Nat) + Int.toNat (IntKind.wrap IntKind.i64 ((0 : Int) + (↑(1 : Nat) : Int)))) + Min.min (Int.toNat (IntKind.wrap IntKind.i64 ((↑(k + (1 : Nat)) : Int) + (↑(1 : Nat) : Int))) - Int.toNat (0 : Int)) (Int.toNat (IntKind.wrap IntKind.i64 ((↑(k + (1 : Nat)) : Int) + (↑(1 : Nat) : Int))) - Int.toNat (IntKind.wrap IntKind.i64 ((0 : Int) + (↑(1 : Nat) : Int))))) xs) ++
  List.take (Min.min (1 : Nat) (Int.toNat (IntKind.wrap IntKind.i64 ((↑(k + (1 : Nat)) : Int) + (↑(1 : Nat) : Int))) - Int.toNat (0 : Int))) [Value.slice vo vl vc] ++ List.drop ((if N = Int.toNat (0 : Int) then (0 : Nat) else (0 : Nat) + Int.toNat (0 : Int)) + Min.min (1 : Nat) (Int.toNat (IntKind.wrap IntKind.i64 ((↑(k + (1 : Nat)) : Int) + (↑(1 : Nat) : Int))) - Int.toNat (0 : Int))) (List.take (if N = Int.toNat (IntKind.wrap IntKind.i64 ((0 : Int) + (↑(1 : Nat) : Int))) then (0 : Nat) else (0 : Nat) + Int.toNat (IntKind.wrap IntKind.i64 ((0 : Int) + (↑(1 : Nat) : Int)))) xs ++ List.take
  (Min.min (Int.toNat (IntKind.wrap IntKind.i64 ((↑(k + (1 : Nat)) : Int) + (↑(1 : Nat) : Int))) - Int.toNat (0 : Int)) (Int.toNat (IntKind.wrap IntKind.i64 ((↑(k + (1 : Nat)) : Int) + (↑(1 : Nat) : Int))) - Int.toNat (IntKind.wrap IntKind.i64 ((0 : Int) + (↑(1 : Nat) : Int))))) (List.take (Int.toNat (IntKind.wrap IntKind.i64 ((↑(k + (1 : Nat)) : Int) + (↑(1 : Nat) : Int))) - Int.toNat (0 : Int)) (List.drop (if N = Int.toNat (0 : Int) then (0 : Nat) else (0 : Nat) + Int.toNat (0 : Int)) xs)) ++ List.drop
  ((if N = Int.toNat (IntKind.wrap IntKind.i64 ((0 : Int) + (↑(1 : Nat) : Int))) then (0 : Nat) else (0 : Nat) + Int.toNat (IntKind.wrap IntKind.i64 ((0 : Int) + (↑(1 : Nat) : Int)))) + Min.min (Int.toNat (IntKind.wrap IntKind.i64 ((↑(k + (1 : Nat)) : Int) + (↑(1 : Nat) : Int))) - Int.toNat (0 : Int)) (Int.toNat (IntKind.wrap IntKind.i64 ((↑(k + (1 : Nat)) : Int) + (↑(1 : Nat) : Int))) - Int.toNat (IntKind.wrap IntKind.i64 ((0 : Int) + (↑(1 : Nat) : Int))))) xs))]), (b2, Blk.cells [Value.slice vo vl vc] (30 : Go.TypeId))]))) from by
  simp only [eq_self, true_and, and_true, false_and, and_false, or_false, false_or, and_self, Nat.zero_add, Nat.add_zero, Nat.sub_zero, Nat.zero_mul, Nat.mul_one, Int.toNat_natCast, cond_true, cond_false, forall_const, implies_true, Nat.beq_refl, ne_eq, not_false_eq_true, not_true_eq_false, Classical.not_not, List.cons.injEq, List.append_nil, List.nil_append, Go.Value.int.injEq, Go.Value.bool.injEq, Go.Value.slice.injEq, Nat.le_refl, Nat.zero_le, Go.Sx.one_int, Go.Sx.one_bool, Go.Sx.one_slice, Go.Sx.one_ptr, Go.Sx.one_map, Int.cast_ofNat_Int, reduceCtorEq, Nat.reduceLeDiff, Nat.reduceMul, Nat.reduceAdd, Nat.reduceSub, Nat.reduceEqDiff, Int.reduceLE, Int.reduceLT, Int.reduceEq, Int.reduceAdd, Int.reduceSub, Int.reduceNeg, Int.reduceMul, Nat.reduceBEq, Int.toNat_zero, Int.toNat_one]
  simp only [ins_w hk, ins_w0 hk, wrap1, Int.toNat_natCast, Int.toNat_zero, Int.toNat_one]
  have t0 : Int.toNat 0 = 0 := rfl
  have t1 : Int.toNat 1 = 1 := rfl
  try simp only [t0, t1, ite_self, Nat.sub_zero, Nat.zero_add]
  refine ⟨by omega, fun h => h.elim, fun h => absurd h (by omega), fun _ => ⟨fun h => absurd h (by omega), fun _ => ⟨⟨by omega, by omega⟩, ⟨by omega, by omega⟩, overlaps86, by omega, ⟨by omega, by omega⟩, by omega, hN, ?_⟩⟩⟩
  have hne : ¬ N = 1 := by omega
  have m1 : min 1 (k + 2) = 1 := by omega
  have m2 : min (k + 2) (k + 2 - 1) = k + 1 := by omega
  simp only [hne, if_false, m1, m2, List.take_zero, List.nil_append, List.drop_zero]
  refine ⟨by omega, by omega, hN, ?_⟩
  have ht : List.take 1 [Value.slice vo vl vc] = [Value.slice vo vl vc] := rfl
  rw [ht]
  have hzz : ∀ Y : List Value, [Value.slice vo vl vc] ++ Y = .slice vo vl vc :: Y := fun Y => rfl
  refine hR _ ?_ ?_
  · simp [hx]; omega
  · rw [hzz, List.take_succ_cons]
    congr 1
    have hl : (xs.take 1 ++ (xs.take (k + 2)).take (k + 1) ++ xs.drop (1 + (k + 1))).drop 1 = (xs.take (k + 2)).take (k + 1) ++ xs.drop (1 + (k + 1)) := by
      rw [List.append_assoc, List.drop_append_of_le_length (by simp; omega), List.drop_eq_nil_of_le (by simp; omega), List.nil_append]
    rw [hl, List.take_append_of_le_length (by simp; omega), List.take_take, List.take_take]
    congr 1
    omega)
/-- A part goes in ahead of the others. -/
noncomputable def insT : Trans := fun args h K => match args with
  | [.slc m 0 l N', .val (.int .i64 0), .slc p 0 1 c2] => (match entAt h m with
    | some (.own b (.tab 30 base N [.raws xs])) => (match entAt h p with
      | some (.own b2 (.cells 1 [sv] 30)) => bif svlt (lenE h) sv then (0 < l ∧ l ≤ N ∧ N' = N ∧ l < 1000000000) ∧ ∃ vo vl vc, den (locs h) sv = .slice vo vl vc ∧
          ∀ b' base' cap zs, zs.length = cap → l + 1 ≤ cap → zs.take (l + 1) = .slice vo vl vc :: xs.take l → setK h m (.gone (b, base, 1)) fun h1 => appK h1 (.own b' (.tab 30 base' cap [.raws zs])) fun h2 => K (.slc (lenE h) 0 (l + 1) cap) h2
        else False
      | _ => False)
    | _ => False)
  | _ => False
def InsR (b2 l : Nat) (u : Value) (ys : List Value) (v : Value) (L' : Blks) : Prop := ∃ b' base' cap zs G', v = .slice (some ⟨b', base', none⟩) (l + 1) cap ∧ zs.length = cap ∧ l + 1 ≤ cap ∧ zs.take (l + 1) = u :: ys ∧ L'.Perm ((b2, .cells [u] 30) :: (b', .tab 30 base' cap [.raws zs]) :: G')
theorem enters57 : Enters Go.Proofs.Try.prog 57 := ⟨Go.Proofs.Try.f57, Go.Proofs.Try.func57, by kernel_rfl, by kernel_rfl⟩
theorem ins_triple (b b2 base N k c2 : Nat) (xs : List Value) (vo : Option Addr) (vl vc x2 : Nat) (hx : xs.length = N) (hN : k + 1 ≤ N) (hk : k < 1000000000) (e2 : x2 = 0) :
    Triple Go.Proofs.Try.prog 57 [.slice (some ⟨b, base, none⟩) (k + 1) N, .int .i64 0, .slice (some ⟨b2, x2, none⟩) 1 c2] [(b, .tab 30 base N [.raws xs]), (b2, .cells [.slice vo vl vc] 30)] (InsR b2 (k + 1) (.slice vo vl vc) (xs.take (k + 1))) := by
  subst e2
  by_cases h1 : k + 1 = N
  · refine triple_of_run (h := [.chunk [(b, .tab 30 base N [.raws xs])], .own b2 (.cells 1 [.val (.slice vo vl vc)] 30)]) (args := [.val (.slice (some ⟨b, base, none⟩) (k + 1) N), .val (.int .i64 0), .slc 1 0 1 c2]) (run_with no_contracts _ _ _ _ _)
      (fun r => rfl) (fun r => rfl) (by simp) (inA_goal b b2 base N k c2 xs vo vl vc _ hx h1 hk fun b' base' cap zs r1 r2 r3 => ⟨b', base', cap, zs, [(b, .tab 30 base N [.raws xs])], rfl, r1, r2, r3, ?_⟩)
    exact List.perm_append_comm (l₁ := [_]) (l₂ := [_, _])
  · refine triple_of_run (h := [.own b (.tab 30 base N [.raws xs]), .own b2 (.cells 1 [.val (.slice vo vl vc)] 30)]) (args := [.slc 0 0 (k + 1) N, .val (.int .i64 0), .slc 1 0 1 c2]) (run_with no_contracts _ _ _ _ _)
      (fun r => by simp [denL, den, locs, Ent.loc, SBlk.base, SBlk.wd, locAt]) (fun r => rfl) (by simp) (inB_goal b b2 base N k c2 xs vo vl vc _ hx (by omega) hk fun zs r1 r3 => ⟨b, base, N, zs, [], rfl, r1, by omega, r3, ?_⟩)
    exact List.Perm.swap _ _ _
theorem insT_sound : SoundT Go.Proofs.Try.prog 57 insT := by
  intro F h w args vs K c ha hx
  refine ⟨enters57, ?_⟩
  unfold insT at hx
  split at hx
  · rename_i m l N' p c2
    split at hx
    · rename_i b base N xs hem
      split at hx
      · rename_i b2 sv hep
        obtain ⟨hlt, ⟨h0, h1, rfl, h2⟩, vo, vl, vc, hv, hK⟩ := bif_false hx
        obtain ⟨k, rfl⟩ : ∃ k, l = k + 1 := ⟨l - 1, by omega⟩
        have hne : m ≠ p := by rintro rfl; rw [hem] at hep; simp at hep
        obtain ⟨⟨ob, hob, hk⟩, hloc⟩ := c.blk hem rfl
        obtain ⟨⟨ob2, hob2, hk2⟩, hloc2⟩ := c.blk hep rfl
        obtain ⟨arr, lo, hi, -, g1, -, -⟩ := hk []
        have hxl : xs.length = N' := (g1 (.raws xs) (by simp)).1
        have hdv : ∀ r, den (locs h ++ r) sv = .slice vo vl vc := fun r => by rw [svlt_den hlt, hv]
        have hvs : vs = [.slice (some ⟨b, base, none⟩) (k + 1) N', .int .i64 0, .slice (some ⟨b2, 0, none⟩) 1 c2] := by
          have := ha []
          simp only [denL, den, hloc [], hloc2 []] at this
          rw [← this]
          simp [SBlk.base, SBlk.wd]
        subst hvs
        refine frame_many (G := []) c [(m, .own b (.tab 30 base N' [.raws xs])), (p, .own b2 (.cells 1 [sv] 30))] (by simp [hem, hep]) (by simp [hne]) (L := [(b, .tab 30 base N' [.raws xs]), (b2, .cells [.slice vo vl vc] 30)]) ?_
          (ins_triple b b2 base N' k c2 xs vo vl vc 0 hxl h1 (by omega) rfl) fun v L' hr => ?_
        · have := hdv []
          rw [List.append_nil] at this
          simp [blksOf, Ent.blocks, SBlk.den, denL, this]
        · obtain ⟨b', base', cap, zs, G', rfl, r1, r2, r3, r4⟩ := hr
          have hK1 := appK_iff (setK_spec (hK b' base' cap zs r1 r2 r3))
          have e : putAt h [(m, .gone (b, base, 1)), (p, .own b2 (.cells 1 [sv] 30))] = h.set m (.gone (b, base, 1)) := by
            refine put_self [(p, .own b2 (.cells 1 [sv] 30))] (h.set m _) fun q hq => ?_
            simp at hq
            subst hq
            show entAt (h.set m _) p = _
            rw [entAt_set_ne _ hne, hep]
          have hlen : lenE h = lenE (h.set m (.gone (b, base, 1))) := by rw [lenE_eq, lenE_eq, List.length_set]
          refine ⟨.slc (lenE h) 0 (k + 1 + 1) cap, [(m, .gone (b, base, 1)), (p, .own b2 (.cells 1 [sv] 30))], [.own b' (.tab 30 base' cap [.raws zs])], G', ?_, rfl, ?_, fun r => ?_, by simp, by simp, fun r => ?_⟩
          · rw [e]; exact hK1
          · intro q hq
            simp at hq
            rcases hq with rfl | rfl
            · exact ⟨_, hem, rfl⟩
            · exact ⟨_, hep, rfl⟩
          · rw [List.append_nil]
            refine List.Perm.trans ?_ r4.symm
            simp [blksOf, Ent.blocks, SBlk.den, denL, hdv, owned]
          · rw [e, hlen]
            simp only [den, loc_new, SBlk.base, SBlk.wd]
            simp
      · exact hx.elim
    · exact hx.elim
  · exact hx.elim
end Go.Proofs.Ytpjikjhaljennaa
