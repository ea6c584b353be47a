/- Queues: SchedFair, no sizes. -/
import Derived.Test.YthkcfocoekonjaaScJ
set_option maxRecDepth 100000
set_option linter.unusedVariables false
set_option linter.unusedSimpArgs false
namespace Go.Proofs.Ythkcfocoekonjaa
open Go Go.Sx
attribute [local irreducible] Go.Sx.xrun


theorem faNil_goal (o : Option Addr) (cap n : Nat) (zs : List Int) (P1 : Nat → Nat → List Int → Blks → Prop) (P2 : Nat → Nat → Int → List Int → Blks → Prop) (P3 : Int → List Int → Int → Nat → Prop) (R : Prop → Prop) (hn : n = 0)
    (e1 : P1 = faP1 zs n) (e2 : P2 = faP2 n) (e3 : P3 = faP3 n) (hR : R True) : faNilGoal o cap n P1 P2 P3 R :=
  Eq.mpr (by kernel_rfl) (show
  ∃ (x : Unit), ∃ (L : List (Nat × Blk)), ∃ (G : List (Nat × Blk)), List.Perm [] (L ++ G) ∧ FiPre x [] L ∧ ∀ (a : Unit) (L' : List (Nat × Blk)), FiPost x a L' → ∃ (x : Bool), ∃ (L : List (Nat × Blk)), ∃ (G_1 : List (Nat × Blk)), List.Perm (L' ++ G) (L ++ G_1) ∧ NewPre x [Value.bool Bool.true] L ∧ ∀ (a : Nat) (L' : List (Nat × Blk)), NewPost x a L' → ∀ (b : Nat), ∃ (x0 : FaX), ((((0 : Int) = (↑x0.3 : Int) ∧ Value.pointer (Option.some { block := a, off := (0 : Nat) }) = Value.pointer (Option.some { block := x0.1, off := (0 : Nat) }) ∧ Value.slice o (0 : Nat) cap = Value.slice o (0 : Nat) cap ∧
  Min.min (↑(0 : Nat) : Int) (12 : Int) = Min.min (↑(0 : Nat) : Int) (12 : Int) ∧ ((0 : Nat) = (0 : Nat) ∧ (0 : Nat) = (0 : Nat)) ∧ Min.min (↑(0 : Nat) : Int) (12 : Int) = Min.min (↑(0 : Nat) : Int) (12 : Int) ∧ True) ∧ ((0 : Nat), (0 : Nat), (0 : Nat)) = ((0 : Nat), (0 : Nat), (0 : Nat)) ∧ L' ++ G_1 = x0.8 ∧ (b = b ∧ (0 : Nat) = (0 : Nat) ∧ (12 : Nat) = (12 : Nat) ∧ List.replicate (12 : Nat) (0 : Int) = x0.7 ∧ True) ∧ True) ∧ P1 x0.1 x0.3 x0.7 x0.8) ∧ ∀ (x : FaX), P1 x.1 x.3 x.7 x.8 → ((↑x.3 : Int) < Min.min (↑(0 : Nat) : Int) (12 : Int) → False) ∧
  (¬(↑x.3 : Int) < Min.min (↑(0 : Nat) : Int) (12 : Int) → ∃ (x0 : FaX), ((((0 : Int) = (↑x0.3 : Int) ∧ (-1 : Int) = x0.4 ∧ Value.pointer (Option.some { block := x.1, off := (0 : Nat) }) = Value.pointer (Option.some { block := x0.1, off := (0 : Nat) }) ∧ Value.slice o (0 : Nat) cap = Value.slice o (0 : Nat) cap ∧ Min.min (↑(0 : Nat) : Int) (12 : Int) = Min.min (↑(0 : Nat) : Int) (12 : Int) ∧ ((0 : Nat) = (0 : Nat) ∧ (0 : Nat) = (0 : Nat)) ∧ True) ∧ ((0 : Nat), (0 : Nat), (0 : Nat)) = ((0 : Nat), (0 : Nat), (0 : Nat)) ∧
  x.8 = x0.8 ∧ (b = b ∧ (0 : Nat) = (0 : Nat) ∧ (12 : Nat) = (12 : Nat) ∧ x.7 = x0.7 ∧ True) ∧ True) ∧ P2 x0.1 x0.3 x0.4 x0.7 x0.8) ∧ ∀ (x : FaX), P2 x.1 x.3 x.4 x.7 x.8 → ((↑x.3 : Int) < (30000 : Int) → ∃ (x_1 : NxX), ∃ (L : List (Nat × Blk)), ∃ (G : List (Nat × Blk)), List.Perm x.8 (L ++ G) ∧ NxPre x_1 [Value.pointer (Option.some { block := x.1, off := (0 : Nat) }), Value.int IntKind.i64 (100 : Int)] L ∧ ∀ (a : Ch × Sl × SQ) (L' : List (Nat × Blk)), NxPost x_1 a L' → ∀ (b_1 b_2 : Nat), Value.oneCell' (Value.int IntKind.u8 a.1.1) = Bool.true ∧ Value.oneCell' (Value.bool a.1.2) = Bool.true ∧
  Value.oneCell' (Value.bool a.1.3) = Bool.true ∧ Value.oneCell' (Value.bool a.1.4) = Bool.true ∧ Value.oneCell' (Value.bool Bool.false) = Bool.true ∧ Value.oneCell' (Value.int IntKind.u32 (0 : Int)) = Bool.true ∧ Value.oneCell' (Value.int IntKind.u16 a.1.5) = Bool.true ∧ Value.oneCell' (Value.int IntKind.u32 a.1.6) = Bool.true ∧ Value.oneCell' (Value.int IntKind.u32 a.1.7) = Bool.true ∧ Value.oneCell' (Value.int IntKind.u32 a.1.8) = Bool.true ∧ Value.oneCell' (Value.int IntKind.u32 (0 : Int)) = Bool.true ∧ Value.oneCell' (Value.int IntKind.u32 (0 : Int)) = Bool.true ∧
  Value.oneCell' (Value.int IntKind.u16 (0 : Int)) = Bool.true ∧ Value.oneCell' (Value.int IntKind.u16 (0 : Int)) = Bool.true ∧ Value.oneCell' (Value.slice Option.none (0 : Nat) (0 : Nat)) = Bool.true ∧ Value.oneCell' (Value.slice Option.none (0 : Nat) (0 : Nat)) = Bool.true ∧ Value.oneCell' (Value.slice Option.none (0 : Nat) (0 : Nat)) = Bool.true ∧ Value.oneCell' (Value.slice Option.none (0 : Nat) (0 : Nat)) = Bool.true ∧ Value.oneCell' (Value.slice a.2.1.1 a.2.1.2 a.2.1.3) = Bool.true ∧ Value.oneCell' (Value.int IntKind.i64 a.1.11) = Bool.true ∧
  Value.oneCell' (Value.int IntKind.u32 a.1.12) = Bool.true ∧ (a.1.13 = Bool.false → ∃ (x_2 : SQ × Nat), ∃ (L : List (Nat × Blk)), ∃ (G_2 : List (Nat × Blk)), List.Perm (L' ++ G) (L ++ G_2) ∧ AlPre x_2 [Value.pointer (Option.some { block := x.1, off := (0 : Nat) })] L ∧ ∀ (a : Int) (L' : List (Nat × Blk)), AlPost x_2 a L' → R (a = (0 : Int))) ∧ (¬a.1.13 = Bool.false → Max.max (Min.min (↑(0 : Nat) : Int) (12 : Int)) (1 : Int) ≠ (0 : Int) ∧ ∃ (x0 : FaX), (((Int.tmod (IntKind.wrap IntKind.i64 (x.4 + (1 : Int))) (Max.max (Min.min (↑(0 : Nat) : Int) (12 : Int)) (1 : Int)) = x0.5 ∧
  IntKind.wrap IntKind.i64 a.1.5 = x0.2 ∧ Value.slice o (0 : Nat) cap = Value.slice o (0 : Nat) cap ∧ Value.pointer (Option.some { block := x.1, off := (0 : Nat) }) = Value.pointer (Option.some { block := x.1, off := (0 : Nat) }) ∧ Min.min (↑(0 : Nat) : Int) (12 : Int) = Min.min (↑(0 : Nat) : Int) (12 : Int) ∧ ((0 : Nat) = (0 : Nat) ∧ (0 : Nat) = (0 : Nat)) ∧ x.4 = x.4 ∧ ((0 : Nat) = (0 : Nat) ∧ (0 : Nat) = (0 : Nat)) ∧ a.1.10 = a.1.10 ∧ ((0 : Nat) = (0 : Nat) ∧ (0 : Nat) = (0 : Nat)) ∧ Value.bool a.1.13 = Value.bool a.1.13 ∧ (↑x.3 : Int) = (↑x.3 : Int) ∧ True) ∧
  ((0 : Nat), (0 : Nat), (0 : Nat)) = ((0 : Nat), (0 : Nat), (0 : Nat)) ∧ L' ++ G = L' ++ G ∧ (b = b ∧ (0 : Nat) = (0 : Nat) ∧ (12 : Nat) = (12 : Nat) ∧ x.7 = x0.7 ∧ True) ∧ (b_1 = b_1 ∧ a.1.1 = a.1.1 ∧ Value.bool a.1.2 = Value.bool a.1.2 ∧ Value.bool a.1.3 = Value.bool a.1.3 ∧ Value.bool a.1.4 = Value.bool a.1.4 ∧ Value.bool Bool.false = Value.bool Bool.false ∧ (0 : Int) = (0 : Int) ∧ a.1.5 = a.1.5 ∧ a.1.6 = a.1.6 ∧ a.1.7 = a.1.7 ∧ a.1.8 = a.1.8 ∧ (0 : Int) = (0 : Int) ∧ (0 : Int) = (0 : Int) ∧ (0 : Int) = (0 : Int) ∧ (0 : Int) = (0 : Int) ∧ Value.slice Option.none (0 : Nat) (0 : Nat) =
  Value.slice Option.none (0 : Nat) (0 : Nat) ∧ Value.slice Option.none (0 : Nat) (0 : Nat) = Value.slice Option.none (0 : Nat) (0 : Nat) ∧ Value.slice Option.none (0 : Nat) (0 : Nat) = Value.slice Option.none (0 : Nat) (0 : Nat) ∧ Value.slice Option.none (0 : Nat) (0 : Nat) = Value.slice Option.none (0 : Nat) (0 : Nat) ∧ Value.slice a.2.1.1 a.2.1.2 a.2.1.3 = Value.slice a.2.1.1 a.2.1.2 a.2.1.3 ∧ True) ∧ (b_2 = b_2 ∧ a.1.11 = a.1.11 ∧ a.1.12 = a.1.12 ∧ True) ∧ True) ∧ (x0.2 = x0.2 ∧ x0.7 = x0.7) ∧ P3 x0.2 x0.7 x0.5 x0.6) ∧ ∀ (x_2 : FaX),
  (x_2.2 = x0.2 ∧ x_2.7 = x0.7) ∧ P3 x_2.2 x_2.7 x_2.5 x_2.6 → (x_2.5 ≠ x_2.2 → ((0 : Int) ≤ x_2.5 ∧ x_2.5 < (↑(12 : Nat) : Int)) ∧ (0 : Nat) + Int.toNat x_2.5 < (12 : Nat) ∧ ((0 : Int) < List.getD x_2.7 ((0 : Nat) + Int.toNat x_2.5) (0 : Int) → R False) ∧ (¬(0 : Int) < List.getD x_2.7 ((0 : Nat) + Int.toNat x_2.5) (0 : Int) → Min.min (↑(0 : Nat) : Int) (12 : Int) ≠ (0 : Int) ∧ ∃ (y : FaX), y.6 < x_2.6 ∧ ((Int.tmod (IntKind.wrap IntKind.i64 (x_2.5 + (1 : Int))) (Min.min (↑(0 : Nat) : Int) (12 : Int)) = y.5 ∧ x_2.2 = y.2 ∧ Value.slice o (0 : Nat) cap = Value.slice o (0 : Nat) cap ∧
  Value.pointer (Option.some { block := x.1, off := (0 : Nat) }) = Value.pointer (Option.some { block := x.1, off := (0 : Nat) }) ∧ Min.min (↑(0 : Nat) : Int) (12 : Int) = Min.min (↑(0 : Nat) : Int) (12 : Int) ∧ ((0 : Nat) = (0 : Nat) ∧ (0 : Nat) = (0 : Nat)) ∧ x.4 = x.4 ∧ ((0 : Nat) = (0 : Nat) ∧ (0 : Nat) = (0 : Nat)) ∧ a.1.10 = a.1.10 ∧ ((0 : Nat) = (0 : Nat) ∧ (0 : Nat) = (0 : Nat)) ∧ Value.bool a.1.13 = Value.bool a.1.13 ∧ (↑x.3 : Int) = (↑x.3 : Int) ∧ True) ∧ ((0 : Nat), (0 : Nat), (0 : Nat)) = ((0 : Nat), (0 : Nat), (0 : Nat)) ∧ L' ++ G = L' ++ G ∧ (b = b ∧ (0 : Nat) = (0 : Nat) ∧
  (12 : Nat) = (12 : Nat) ∧ x_2.7 = y.7 ∧ True) ∧ (b_1 = b_1 ∧ a.1.1 = a.1.1 ∧ Value.bool a.1.2 = Value.bool a.1.2 ∧ Value.bool a.1.3 = Value.bool a.1.3 ∧ Value.bool a.1.4 = Value.bool a.1.4 ∧ Value.bool Bool.false = Value.bool Bool.false ∧ (0 : Int) = (0 : Int) ∧ a.1.5 = a.1.5 ∧ a.1.6 = a.1.6 ∧ a.1.7 = a.1.7 ∧ a.1.8 = a.1.8 ∧ (0 : Int) = (0 : Int) ∧ (0 : Int) = (0 : Int) ∧ (0 : Int) = (0 : Int) ∧ (0 : Int) = (0 : Int) ∧ Value.slice Option.none (0 : Nat) (0 : Nat) = Value.slice Option.none (0 : Nat) (0 : Nat) ∧ Value.slice Option.none (0 : Nat) (0 : Nat) = Value.slice Option.none (0 : Nat)
  (0 : Nat) ∧ Value.slice Option.none (0 : Nat) (0 : Nat) = Value.slice Option.none (0 : Nat) (0 : Nat) ∧ Value.slice Option.none (0 : Nat) (0 : Nat) = Value.slice Option.none (0 : Nat) (0 : Nat) ∧ Value.slice a.2.1.1 a.2.1.2 a.2.1.3 = Value.slice a.2.1.1 a.2.1.2 a.2.1.3 ∧ True) ∧ (b_2 = b_2 ∧ a.1.11 = a.1.11 ∧ a.1.12 = a.1.12 ∧ True) ∧ True) ∧ (y.2 = x0.2 ∧ y.7 = x0.7) ∧ P3 y.2 y.7 y.5 y.6)) ∧ (¬x_2.5 ≠ x_2.2 → ((0 : Int) ≤ x_2.2 ∧ x_2.2 < (↑(12 : Nat) : Int)) ∧ (0 : Nat) + Int.toNat x_2.2 < (12 : Nat) ∧ ((0 : Int) ≤ x_2.2 ∧ x_2.2 < (↑(12 : Nat) : Int)) ∧
  (0 : Nat) + Int.toNat x_2.2 < (12 : Nat) ∧ ∃ (y : FaX), (30000 : Nat) - y.3 < (30000 : Nat) - x.3 ∧ ((IntKind.wrap IntKind.i64 ((↑x.3 : Int) + (1 : Int)) = (↑y.3 : Int) ∧ x_2.2 = y.4 ∧ Value.pointer (Option.some { block := x.1, off := (0 : Nat) }) = Value.pointer (Option.some { block := y.1, off := (0 : Nat) }) ∧ Value.slice o (0 : Nat) cap = Value.slice o (0 : Nat) cap ∧ Min.min (↑(0 : Nat) : Int) (12 : Int) = Min.min (↑(0 : Nat) : Int) (12 : Int) ∧ ((0 : Nat) = (0 : Nat) ∧ (0 : Nat) = (0 : Nat)) ∧ True) ∧ ((0 : Nat), (0 : Nat), (0 : Nat)) = ((0 : Nat), (0 : Nat), (0 : Nat)) ∧
  L' ++ G = y.8 ∧ (b = b ∧ (0 : Nat) = (0 : Nat) ∧ (12 : Nat) = (12 : Nat) ∧ List.set x_2.7 ((0 : Nat) + Int.toNat x_2.2) (IntKind.wrap IntKind.i64 (List.getD x_2.7 ((0 : Nat) + Int.toNat x_2.2) (0 : Int) - (↑a.2.1.2 : Int))) = y.7 ∧ True) ∧ True) ∧ P2 y.1 y.3 y.4 y.7 y.8))) ∧ (¬(↑x.3 : Int) < (30000 : Int) → ∃ (x_1 : SQ × Nat), ∃ (L : List (Nat × Blk)), ∃ (G : List (Nat × Blk)), List.Perm x.8 (L ++ G) ∧ AlPre x_1 [Value.pointer (Option.some { block := x.1, off := (0 : Nat) })] L ∧ ∀ (a : Int) (L' : List (Nat × Blk)), AlPost x_1 a L' → R (a = (0 : Int)))) from by
  subst e1 e2 e3
  have hmin : Min.min (0 : Int) 12 = 0 := rfl
  have hmax : Max.max (0 : Int) 1 = 1 := rfl
  simp only [eq_self, true_and, and_true, false_and, and_false, or_false, false_or, and_self, Nat.zero_add, Nat.add_zero, Nat.sub_zero, Nat.zero_mul, Nat.mul_one, Int.toNat_natCast, cond_true, cond_false, forall_const, implies_true, Nat.beq_refl, ne_eq, not_false_eq_true, not_true_eq_false, Classical.not_not, List.cons.injEq, List.append_nil, List.nil_append, Go.Value.int.injEq, Go.Value.bool.injEq, Go.Value.slice.injEq, Nat.le_refl, Nat.zero_le, Go.Sx.one_int, Go.Sx.one_bool, Go.Sx.one_slice, Go.Sx.one_ptr, Go.Sx.one_map, Int.cast_ofNat_Int, reduceCtorEq, Nat.reduceLeDiff, Nat.reduceMul, Nat.reduceAdd, Nat.reduceSub, Nat.reduceEqDiff, Int.reduceLE, Int.reduceLT, Int.reduceEq, Int.reduceAdd, Int.reduceSub, Int.reduceNeg, Int.reduceMul, Nat.reduceBEq, hmin, hmax]
  refine ⟨(), [], [], List.Perm.refl [], ⟨rfl, rfl⟩, fun _ L0 _ => ⟨true, [], L0, by simp, ⟨rfl, rfl⟩, fun bq L1 hnew => ⟨⟨bq, 0, 0, 0, 0, 0, List.replicate 12 0, L1 ++ L0⟩, ⟨⟨⟨rfl, rfl⟩, rfl, rfl⟩, Nat.zero_le _, rfl, SQAt.more hnew L0⟩, fun x hx => ⟨fun hlt => absurd hlt (by omega), fun hge => ?_⟩⟩⟩⟩
  obtain ⟨p1, p2, p3⟩ := hx
  have hxi : x.i = n := by omega
  rw [hxi] at p2 p3
  have hs := sum_le zs n
  refine ⟨⟨x.b, 0, 0, -1, 0, 0, x.zs, x.L⟩, ⟨⟨⟨rfl, rfl, rfl⟩, rfl, rfl⟩, by show 0 ≤ 30000; omega, faQ zs n, p3, by show FairI n _ x.zs (-1); rw [p2]; exact fa_start zs (by omega), by show (faQ zs n).all + ((0 : Nat) : Int) ≤ 24000; omega⟩, fun x h2 => ?_⟩
  obtain ⟨h1, h2⟩ := h2
  refine ⟨fun hlt => ?_, fun hge => ?_⟩
  ·
    obtain ⟨q, hq, hf, ha⟩ := h2
    have hsm := fair_small hf
    obtain ⟨f1, f2, f3, f4, f5, -⟩ := id hf
    refine ⟨⟨q, x.b, 100⟩, x.L, [], by simp, ⟨rfl, hsm.1, ⟨hsm.2, (show q.all ≤ 1000000 by omega)⟩, hq⟩, fun a L' hn => ?_⟩
    obtain ⟨n1, n2, La, Lb, n3, n4, n5⟩ := hn
    obtain ⟨c, sl, q'⟩ := a
    simp only at n1 n2 n4 n5
    subst n1 n2
    have hsq : SQAt (nextF q 100).2 x.b L' := (n4.more Lb).permL n3
    rcases fair_next hf with ⟨g1, g2⟩ | ⟨g1, s, pre, post, g2, g3, g4, g5, g6, g7, g8, g9⟩
    · refine ⟨fun _ => ⟨((nextF q 100).2, x.b), L', [], by simp, ⟨rfl, hsq⟩, fun al L2 ht => ?_⟩, fun hne => absurd (by rw [g1]; rfl) hne⟩
      have : al = 0 := by rw [ht.1]; show (nextF q 100).2.all = 0; rw [g1]; exact g2
      simpa [this] using hR
    · exact absurd g4 (by omega)
  · obtain ⟨q, hq, hf, ha⟩ := h2
    have := (fair_small hf).2
    omega)
theorem firstT_sound : SoundT Go.Proofs.Try.prog 14 firstT := chunkR_sound (val := fun _ => .bool true) ⟨Go.Proofs.Try.f14, Go.Proofs.Try.func14, by kernel_rfl, by kernel_rfl⟩ (fun a ρ => rfl) (fun a => by simp) fun x vs L ⟨h1, h2⟩ => by
  subst h1 h2
  exact first_triple.mono (List.Perm.refl _) fun v L' h => ⟨(), h, trivial⟩
theorem five_sound : ∀ p ∈ [(14, firstT), (15, newnT), (16, pushnT), (17, nextnT), (18, allnT)], SoundT Go.Proofs.Try.prog p.1 p.2 := by
  intro p hp
  rcases List.mem_cons.1 hp with rfl | hp
  · exact firstT_sound
  · exact four_sound p hp
end Go.Proofs.Ythkcfocoekonjaa
