/- Joiners: one of one. -/
import Derived.Test.YtpjikjhaljennaaJoP
set_option maxRecDepth 100000
set_option linter.unusedVariables false
set_option linter.unusedSimpArgs false
namespace Go.Proofs.Ytpjikjhaljennaa
open Go Go.Sx
attribute [local irreducible] Go.Sx.xrun

structure IyX where
  i : Nat
noncomputable def Ann.iy (P1 : Nat → Prop) (n : Nat) : FnAnn := ⟨[], [(2, ⟨IyX, [(fun σ y => ⟨σ.n, (8, .val (.int .i64 y.i)) :: keepE σ.env [0, 1, 7], σ.heap⟩, fun _ y => P1 y.i)], fun y => n - y.i⟩)]⟩
noncomputable def hrGoal (o : Option Addr) (l c : Nat) (v : Int) (L : Blks) (P1 : Nat → Prop) (R : Prop → Prop) : Prop :=
  xrun Go.Proofs.Try.prog [] [(84, Ann.iy P1 l)] [] 9 [] 49 [.sl o l c, .val (.int .u16 v)] [.chunk L] fun s h => bOf s R ∧ headIs h L
open Classical
theorem hr_goal (o : Option Addr) (l c : Nat) (hl : l = 1) (v w : Int) (L : Blks) (P1 : Nat → Prop) (R : Prop → Prop) {b x : Nat} (ho : o = some ⟨b, x, none⟩) (hw : rawCell L b x (.int .u16 w)) (e1 : P1 = fun i => i ≤ 1 ∧ (0 < i → v ≠ w)) (hR : ∀ p, (p ↔ v = w) → R p) : hrGoal o l c v L P1 R :=
  Eq.mpr (by kernel_rfl) (show
  ∃ (x0 : IyX), ((((0 : Int) = (↑x0.1 : Int) ∧ (o = o ∧ l = l ∧ c = c) ∧ v = v ∧ (↑l : Int) = (↑l : Int) ∧ True) ∧ L = L ∧ True) ∧ P1 x0.1) ∧ ∀ (x : IyX), P1 x.1 → ((↑x.1 : Int) < (↑l : Int) → ((0 : Int) ≤ (↑x.1 : Int) ∧ (↑x.1 : Int) < (↑l : Int)) ∧ ∃ (b : Nat), ∃ (x0 : Nat), o = Option.some { block := b, off := x0 } ∧ ∃ (n : Int), rawCell L b (x0 + x.1 * (1 : Nat)) (Value.int IntKind.u16 n) ∧ (v = n → R ((0 : Int) ≤ (↑x.1 : Int)) ∧ L = L) ∧ (¬v = n → ∃ (y : IyX), l - y.1 < l - x.1 ∧
  ((IntKind.wrap IntKind.i64 ((↑x.1 : Int) + (1 : Int)) = (↑y.1 : Int) ∧ (o = o ∧ l = l ∧ c = c) ∧ v = v ∧ (↑l : Int) = (↑l : Int) ∧ True) ∧ L = L ∧ True) ∧ P1 y.1)) ∧ (¬(↑x.1 : Int) < (↑l : Int) → R ((0 : Int) ≤ (-1 : Int)) ∧ L = L) from by
  subst e1
  simp only [eq_self, true_and, and_true, false_and, and_false, or_false, false_or, and_self, Nat.zero_add, Nat.add_zero, Nat.sub_zero, Nat.zero_mul, Nat.mul_one, Int.toNat_natCast, cond_true, cond_false, forall_const, implies_true, Nat.beq_refl, ne_eq, not_false_eq_true, not_true_eq_false, Classical.not_not, List.cons.injEq, List.append_nil, List.nil_append, Go.Value.int.injEq, Go.Value.bool.injEq, Go.Value.slice.injEq, Nat.le_refl, Nat.zero_le, Go.Sx.one_int, Go.Sx.one_bool, Go.Sx.one_slice, Go.Sx.one_ptr, Go.Sx.one_map, Int.cast_ofNat_Int, reduceCtorEq, Nat.reduceLeDiff, Nat.reduceMul, Nat.reduceAdd, Nat.reduceSub, Nat.reduceEqDiff, Int.reduceLE, Int.reduceLT, Int.reduceEq, Int.reduceAdd, Int.reduceSub, Int.reduceNeg, Int.reduceMul, Nat.reduceBEq]
  refine ⟨⟨0⟩, ⟨rfl, Nat.zero_le _, fun h => absurd h (Nat.lt_irrefl 0)⟩, fun y ⟨hy1, hy2⟩ => ⟨fun hlt => ?_, fun hge => hR _ ⟨fun h => h.elim, fun h => hy2 (by omega) h⟩⟩⟩
  have hy0 : y.i = 0 := by omega
  refine ⟨⟨by omega, by omega⟩, b, x, ho, w, by rw [hy0]; exact hw, fun h => hR _ ⟨fun _ => h, fun _ => by omega⟩, fun h => ⟨⟨1⟩, by show l - 1 < l - y.i; omega, by rw [hy0]; rfl, Nat.le_refl 1, fun _ => h⟩⟩)
theorem entersContains : Enters Go.Proofs.Try.prog 49 := ⟨Go.Proofs.Try.f49, Go.Proofs.Try.func49, by kernel_rfl, by kernel_rfl⟩
structure HsX where
  o : Option Addr
  c : Nat
  v : Int
  w : Int
def HsPre (x : HsX) (vs : List Value) (L : Blks) : Prop := vs = [.slice x.o 1 x.c, .int .u16 x.v] ∧ ∃ b y, x.o = some ⟨b, y, none⟩ ∧ rawCell L b y (.int .u16 x.w)
noncomputable def hs1T : Trans := readT (fun x : HsX => .prop (x.v = x.w)) HsPre
theorem hs1T_sound : SoundT Go.Proofs.Try.prog 49 hs1T :=
  readT_sound (val := fun x => .bool (pbool (x.v = x.w))) entersContains (fun a ρ => rfl) (fun a => by simp) (fun x vs L L' h ⟨h1, b, y, h2, h3⟩ => ⟨h1, b, y, h2, h _ _ _ h3⟩) fun x vs L ⟨h1, b, y, h2, h3⟩ => by
    subst h1
    exact triple_of_runK (R := fun v L' => v = .bool (pbool (x.v = x.w)) ∧ ∃ G, L'.Perm (L ++ G)) (h := [.chunk L]) (args := [.sl x.o 1 x.c, .val (.int .u16 x.v)]) (run_with no_contracts _ _ _ _ _) (fun r => rfl) (fun r => by simp [owned, Ent.blocks]) (by simp)
      (hr_goal x.o 1 x.c rfl x.v x.w L _ (fun t => t ↔ x.v = x.w) h2 h3 rfl fun t ht => ht) fun s h' ⟨k1, k2⟩ => by
        obtain ⟨p, k3, k4⟩ := bOf_spec k1 (locs h')
        exact ⟨by rw [k4]; show Value.bool _ = Value.bool (@decide _ (Classical.propDecidable _)); congr 1; exact decide_eq_decide.2 k3, headIs_perm k2⟩
/-- What is never called. -/
def neverT : Trans := fun _ _ _ => False
theorem neverT_sound {f : FuncId} : SoundT Go.Proofs.Try.prog f neverT := fun F h w args vs K c ha hx => hx.elim
end Go.Proofs.Ytpjikjhaljennaa
