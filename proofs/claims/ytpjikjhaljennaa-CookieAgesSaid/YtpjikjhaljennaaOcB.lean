/- Writers of bytes: U32. -/
import Derived.Test.YtpjikjhaljennaaOcA
set_option maxRecDepth 100000
set_option linter.unusedVariables false
set_option linter.unusedSimpArgs false
namespace Go.Proofs.Ytpjikjhaljennaa
open Go Go.Sx
attribute [local irreducible] Go.Sx.xrun

noncomputable def u32nGoal (wb : Nat) (v : Int) (R : Value → Blks → Prop) : Prop :=
  xrun Go.Proofs.Try.prog [(65, u16T)] [] [] 9 [] 64 [.ptr 0 0 0, .val (.int .u32 v)] [.own wb (.cells 1 [.val (.slice none 0 0)] 139)] fun s h => R (den (locs h) s) (owned (locs h) h)
noncomputable def u32Goal (wb b base cap l : Nat) (xs : List Int) (v : Int) (R : Value → Blks → Prop) : Prop :=
  xrun Go.Proofs.Try.prog [(65, u16T)] [] [] 9 [] 64 [.ptr 0 0 0, .val (.int .u32 v)] [.own wb (.cells 1 [.slc 1 0 l cap] 139), .own b (.tab 5 base cap [.ints .u8 xs])] fun s h => R (den (locs h) s) (owned (locs h) h)
def w16 (x : Int) : Int := IntKind.wrap .u16 x
def b32 (v : Int) : List Int := b16 (w16 (v.fdiv (2 ^ 16))) ++ b16 (w16 v)
theorem u32n_goal (wb : Nat) (v : Int) (R : Value → Blks → Prop) (hR : ∀ b base cap xs, xs.length = cap → 4 ≤ cap → xs.take 4 = b32 v → R (.tuple #[]) [(wb, .cells [.slice (some ⟨b, base, none⟩) 4 cap] 139), (b, .tab 5 base cap [.ints .u8 xs])]) : u32nGoal wb v R :=
  Eq.mpr (by kernel_rfl) (show
  (0 : Int) ≤ (16 : Int) ∧ ∀ (b base cap : Nat) (xs : List Int), List.length xs = cap → (2 : Nat) ≤ cap → List.take (2 : Nat) xs = b16 (IntKind.wrap IntKind.u16 (Int.fdiv v ((2 : Int) ^ Min.min (Int.toNat (16 : Int)) (IntKind.bits IntKind.u32)))) → ((2 : Nat) ≤ cap ∧ cap = cap ∧ (4 : Nat) < (1000000000 : Nat)) ∧ ∀ (b base cap' : Nat) (xs_1 : List Int), List.length xs_1 = cap' → (4 : Nat) ≤ cap' → List.take (4 : Nat) xs_1 = List.take (2 : Nat) xs ++ b16 (IntKind.wrap IntKind.u16 v) → R (Value.tuple #[])
  [(wb, Blk.cells [Value.slice (Option.some { block := b, off := base * (1 : Nat) }) (4 : Nat) cap'] (139 : Go.TypeId)), (b, Blk.tab (5 : Go.TypeId) base cap' [Col.ints IntKind.u8 xs_1])] from by
  simp only [eq_self, true_and, and_true, false_and, and_false, or_false, false_or, and_self, Nat.zero_add, Nat.add_zero, Nat.sub_zero, Nat.zero_mul, Nat.mul_one, Int.toNat_natCast, cond_true, cond_false, forall_const, implies_true, Nat.beq_refl, ne_eq, not_false_eq_true, not_true_eq_false, Classical.not_not, List.cons.injEq, List.append_nil, List.nil_append, Go.Value.int.injEq, Go.Value.bool.injEq, Go.Value.slice.injEq, Nat.le_refl, Nat.zero_le, Go.Sx.one_int, Go.Sx.one_bool, Go.Sx.one_slice, Go.Sx.one_ptr, Go.Sx.one_map, Int.cast_ofNat_Int, reduceCtorEq, Nat.reduceLeDiff, Nat.reduceMul, Nat.reduceAdd, Nat.reduceSub, Nat.reduceEqDiff, Int.reduceLE, Int.reduceLT, Int.reduceEq, Int.reduceAdd, Int.reduceSub, Int.reduceNeg, Int.reduceMul, Nat.reduceBEq]
  intro cap xs h1 h2 h3
  refine ⟨⟨h2, by omega⟩, fun b base cap' ys g1 g2 g3 => ?_⟩
  rw [h3] at g3
  exact hR _ _ _ _ g1 g2 g3)
theorem u32_goal (wb b base cap l : Nat) (xs : List Int) (v : Int) (R : Value → Blks → Prop) (h1 : l ≤ cap) (h2 : xs.length = cap) (h3 : l + 4 < 1000000000)
    (hR : ∀ b base cap ys, ys.length = cap → l + 4 ≤ cap → ys.take (l + 4) = xs.take l ++ b32 v → R (.tuple #[]) [(wb, .cells [.slice (some ⟨b, base, none⟩) (l + 4) cap] 139), (b, .tab 5 base cap [.ints .u8 ys])]) : u32Goal wb b base cap l xs v R :=
  Eq.mpr (by kernel_rfl) (show
  (0 : Int) ≤ (16 : Int) ∧ (l ≤ cap ∧ cap = cap ∧ l + (2 : Nat) < (1000000000 : Nat)) ∧ ∀ (b base cap' : Nat) (xs_1 : List Int), List.length xs_1 = cap' → l + (2 : Nat) ≤ cap' → List.take (l + (2 : Nat)) xs_1 = List.take l xs ++ b16 (IntKind.wrap IntKind.u16 (Int.fdiv v ((2 : Int) ^ Min.min (Int.toNat (16 : Int)) (IntKind.bits IntKind.u32)))) → (l + (2 : Nat) ≤ cap' ∧ cap' = cap' ∧ l + (2 : Nat) + (2 : Nat) < (1000000000 : Nat)) ∧ ∀ (b base cap' : Nat) (xs : List Int), List.length xs = cap' → l + (2 : Nat) + (2 : Nat) ≤ cap' →
  List.take (l + (2 : Nat) + (2 : Nat)) xs = List.take (l + (2 : Nat)) xs_1 ++ b16 (IntKind.wrap IntKind.u16 v) → R (Value.tuple #[]) [(wb, Blk.cells [Value.slice (Option.some { block := b, off := base * (1 : Nat) }) (l + (2 : Nat) + (2 : Nat)) cap'] (139 : Go.TypeId)), (b, Blk.tab (5 : Go.TypeId) base cap' [Col.ints IntKind.u8 xs])] from by
  simp only [eq_self, true_and, and_true, false_and, and_false, or_false, false_or, and_self, Nat.zero_add, Nat.add_zero, Nat.sub_zero, Nat.zero_mul, Nat.mul_one, Int.toNat_natCast, cond_true, cond_false, forall_const, implies_true, Nat.beq_refl, ne_eq, not_false_eq_true, not_true_eq_false, Classical.not_not, List.cons.injEq, List.append_nil, List.nil_append, Go.Value.int.injEq, Go.Value.bool.injEq, Go.Value.slice.injEq, Nat.le_refl, Nat.zero_le, Go.Sx.one_int, Go.Sx.one_bool, Go.Sx.one_slice, Go.Sx.one_ptr, Go.Sx.one_map, Int.cast_ofNat_Int, reduceCtorEq, Nat.reduceLeDiff, Nat.reduceMul, Nat.reduceAdd, Nat.reduceSub, Nat.reduceEqDiff, Int.reduceLE, Int.reduceLT, Int.reduceEq, Int.reduceAdd, Int.reduceSub, Int.reduceNeg, Int.reduceMul, Nat.reduceBEq]
  refine ⟨⟨h1, by omega⟩, fun cap1 ys g1 g2 g3 => ⟨⟨g2, by omega⟩, fun b1 base1 cap2 zs k1 k2 k3 => ?_⟩⟩
  rw [g3, List.append_assoc] at k3
  exact hR _ _ _ _ k1 k2 k3)
noncomputable def u32T : Trans := fun args h K => match args with
  | [.ptr n 0 0, .val (.int .u32 v)] => wrRun h n 4 (b32 v) K
  | _ => False
theorem u16_only : ∀ p ∈ [((65 : Nat), u16T)], SoundT Go.Proofs.Try.prog p.1 p.2 := by
  intro p hp
  simp at hp
  subst hp
  exact u16T_sound
theorem wrR_of {wb : Nat} {pre bs : List Int} {b base cap k l : Nat} {xs : List Int} (hb : bs.length = k) (hp : pre.length = l) (h1 : xs.length = cap) (h2 : l + k ≤ cap) (h3 : xs.take (l + k) = pre ++ bs) (G : Blks) : WrR wb pre bs (.tuple #[]) ((wb, .cells [.slice (some ⟨b, base, none⟩) (l + k) cap] 139) :: (b, .tab 5 base cap [.ints .u8 xs]) :: G) := by
  subst hb hp
  exact ⟨rfl, b, base, cap, xs, G, h1, h2, h3, List.Perm.refl _⟩
theorem u32T_sound : SoundT Go.Proofs.Try.prog 64 u32T := by
  intro F h w args vs K c ha hx
  refine ⟨enters64, ?_⟩
  unfold u32T at hx
  split at hx
  · rename_i n v
    have hx : wrRun h n 4 (b32 v) K := hx
    refine wrRun_sound (u := .int .u32 v) (bs := b32 v) (k := 4) rfl c (fun r => by have := ha r; simpa only [denL, den] using this) (fun wb => ?_) (fun wb b base cap l ys h1 h2 h3 => ?_) hx
    · exact triple_of_run (h := [.own wb (.cells 1 [.val (.slice none 0 0)] 139)]) (args := [.ptr 0 0 0, .val (.int .u32 v)]) (run_with u16_only _ _ _ _ _) (fun r => rfl) (fun r => rfl) (by simp) (u32n_goal wb v _ fun b base cap xs r1 r2 r3 => by
        have := wrR_of (wb := wb) (pre := []) (bs := b32 v) (k := 4) (l := 0) (b := b) (base := base) rfl rfl r1 (by simpa using r2) (by simpa using r3) []
        simpa using this)
    · exact triple_of_run (h := [.own wb (.cells 1 [.slc 1 0 l cap] 139), .own b (.tab 5 base cap [.ints .u8 ys])]) (args := [.ptr 0 0 0, .val (.int .u32 v)]) (run_with u16_only _ _ _ _ _) (fun r => rfl) (fun r => by simp [owned, Ent.blocks, SBlk.den, denL, den, locs, Ent.loc, SBlk.base, SBlk.wd, locAt]) (by simp)
        (u32_goal wb b base cap l ys v _ h1 h2 h3 fun b base cap xs r1 r2 r3 => wrR_of rfl (by rw [List.length_take]; omega) r1 r2 r3 [])
  · exact hx.elim
end Go.Proofs.Ytpjikjhaljennaa
