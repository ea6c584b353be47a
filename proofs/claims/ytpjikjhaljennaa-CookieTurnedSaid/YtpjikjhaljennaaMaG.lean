/- Seal: the key, turned. -/
import Derived.Test.YtpjikjhaljennaaMaF
set_option maxRecDepth 100000
set_option linter.unusedVariables false
set_option linter.unusedSimpArgs false
namespace Go.Proofs.Ytpjikjhaljennaa
open Go Go.Sx
attribute [local irreducible] Go.Sx.xrun

noncomputable def Ann.tn (n : Nat) (P : List Int → Nat → List Int → Prop) : FnAnn := ⟨[(30, .to Bl fun s => .sl s.o s.l s.c)],
  [(3, ⟨HsX, [(fun σ y => ⟨σ.n, (10, .val (.int .i64 y.i)) :: keepE σ.env [0, 1, 4, 9], Ann.setY σ.heap 1 y.xs⟩, fun x0 y => P x0.xs y.i y.xs)], fun y => n - y.i⟩)]⟩
noncomputable def tnGoal (kb kx n : Nat) (z : Int) (L : Blks) (P : List Int → Nat → List Int → Prop) (R : Value → Blks → Prop) : Prop :=
  xrun Go.Proofs.Try.prog [(44, cloneT)] [(56, Ann.tn n P)] [] 9 [] 56 [.val (.int .u8 z), .val (.pointer (some ⟨kb, kx, none⟩))] [.chunk L] fun s h => R (den (locs h) s) (owned (locs h) h)
theorem ix_w {i : Nat} (hn : i < 1000000000) : IntKind.wrap .i64 ((i : Int) + (1 : Int)) = ((i + 1 : Nat) : Int) := by rw [IntKind.wrap_i64]; omega
theorem enters56 : Enters Go.Proofs.Try.prog 56 := ⟨Go.Proofs.Try.f56, Go.Proofs.Try.func56, by kernel_rfl, by kernel_rfl⟩
def xorB (z : Int) (bs : List Int) : List Int := bs.map fun x => ixor .u8 x z
def tnP (n : Nat) (z : Int) (xs0 : List Int) (i : Nat) (xs : List Int) : Prop := i ≤ n ∧ xs = xorB z (xs0.take i) ++ xs0.drop i
theorem tn_step {n : Nat} {z : Int} {xs0 : List Int} {i : Nat} {xs : List Int} (h : tnP n z xs0 i xs) (hi : i < n) (hl : n ≤ xs0.length) : tnP n z xs0 (i + 1) (xs.set i (ixor .u8 (xs.getD i 0) z)) := by
  obtain ⟨h1, rfl⟩ := h
  have h0 : (xorB z (xs0.take i)).length = i := by simp [xorB]; omega
  have hx : xs0.drop i = xs0[i] :: xs0.drop (i + 1) := List.drop_eq_getElem_cons (by omega)
  refine ⟨hi, ?_⟩
  have e : (xorB z (xs0.take i) ++ xs0.drop i).getD i 0 = xs0[i] := by
    rw [List.getD_eq_getElem?_getD, List.getElem?_append_right (by omega), h0, Nat.sub_self, hx]; rfl
  rw [e, List.set_append_right _ _ (by omega), h0, Nat.sub_self, hx, List.set_cons_zero, List.take_succ_eq_append_getElem (by omega)]
  unfold xorB
  rw [List.map_append, List.append_assoc]
  rfl
theorem tn_goal (kb kx n : Nat) (z : Int) (L : Blks) (P : List Int → Nat → List Int → Prop) (R : Value → Blks → Prop) (o : Option Addr) (l c : Nat) (bs : List Int) (hc : rawCell L kb kx (.slice o l c)) (hb : BytesAt L o l bs) (h0 : 0 < l) (hl : l < 1000000000)
    (en : n = l) (eP : P = tnP l z) (hR : ∀ b base cap xs, xs.length = cap → bs.length ≤ cap → xs.take bs.length = xorB z bs → R (.slice (some ⟨b, base, none⟩) bs.length cap) (L ++ [(b, .tab 5 base cap [.ints .u8 xs])])) : tnGoal kb kx n z L P R :=
  Eq.mpr (by kernel_rfl) (show
  ∃ (o : Option Go.Addr), ∃ (l : Nat), ∃ (c : Nat), rawCell L kb kx (Value.slice o l c) ∧ ∃ (x : Bv), BvPre x [Value.slice o l c] (L ++ [] ++ []) ∧ (x.1 = Option.none → ∃ (x0 : HsX), ((((0 : Int) = (↑x0.6 : Int) ∧ z = z ∧ Value.pointer (Option.some { block := kb, off := kx }) = Value.pointer (Option.some { block := kb, off := kx }) ∧ Value.slice Option.none (0 : Nat) (0 : Nat) = Value.slice Option.none (0 : Nat) (0 : Nat) ∧ (↑(0 : Nat) : Int) = (↑(0 : Nat) : Int) ∧ True) ∧ L = L ∧ True) ∧ P x0.8 x0.6 x0.8) ∧ ∀ (x : HsX),
  P x0.8 x.6 x.8 → ((↑x.6 : Int) < (↑(0 : Nat) : Int) → False) ∧ (¬(↑x.6 : Int) < (↑(0 : Nat) : Int) → R (Value.slice Option.none (0 : Nat) (0 : Nat)) (L ++ []))) ∧ (¬x.1 = Option.none → ∀ (b base cap : Nat) (xs : List Int), List.length xs = cap → List.length x.4 ≤ cap → List.take (List.length x.4) xs = x.4 → ∃ (x0 : HsX), ((((0 : Int) = (↑x0.6 : Int) ∧ z = z ∧ Value.pointer (Option.some { block := kb, off := kx }) = Value.pointer (Option.some { block := kb, off := kx }) ∧
  ((0 : Nat) = (0 : Nat) ∧ List.length x.4 = List.length x.4 ∧ cap = cap) ∧ (↑(List.length x.4) : Int) = (↑(List.length x.4) : Int) ∧ True) ∧ L = L ∧ (b = b ∧ base = base ∧ cap = cap ∧ xs = x0.8 ∧ True) ∧ True) ∧ P x0.8 x0.6 x0.8) ∧ ∀ (x_1 : HsX), P x0.8 x_1.6 x_1.8 → ((↑x_1.6 : Int) < (↑(List.length x.4) : Int) → ((0 : Int) ≤ (↑x_1.6 : Int) ∧ (↑x_1.6 : Int) < (↑(List.length x.4) : Int)) ∧ (0 : Nat) + x_1.6 < cap ∧ ((0 : Int) ≤ (↑x_1.6 : Int) ∧ (↑x_1.6 : Int) < (↑(List.length x.4) : Int)) ∧ (0 : Nat) + x_1.6 < cap ∧ ∃ (y : HsX), n - y.6 < n - x_1.6 ∧
  ((IntKind.wrap IntKind.i64 ((↑x_1.6 : Int) + (1 : Int)) = (↑y.6 : Int) ∧ z = z ∧ Value.pointer (Option.some { block := kb, off := kx }) = Value.pointer (Option.some { block := kb, off := kx }) ∧ ((0 : Nat) = (0 : Nat) ∧ List.length x.4 = List.length x.4 ∧ cap = cap) ∧ (↑(List.length x.4) : Int) = (↑(List.length x.4) : Int) ∧ True) ∧ L = L ∧ (b = b ∧ base = base ∧ cap = cap ∧ List.set x_1.8 ((0 : Nat) + x_1.6) (ixor IntKind.u8 (List.getD x_1.8 ((0 : Nat) + x_1.6) (0 : Int)) z) = y.8 ∧ True) ∧ True) ∧ P x0.8 y.6 y.8) ∧ (¬(↑x_1.6 : Int) < (↑(List.length x.4) : Int) →
  R (Value.slice (Option.some { block := b, off := base * (1 : Nat) }) (List.length x.4) cap) (L ++ [(b, Blk.tab (5 : Go.TypeId) base cap [Col.ints IntKind.u8 x_1.8])]))) from by
  subst en eP
  simp only [eq_self, true_and, and_true, false_and, and_false, or_false, false_or, and_self, Nat.zero_add, Nat.add_zero, Nat.sub_zero, Nat.zero_mul, Nat.mul_one, Int.toNat_natCast, cond_true, cond_false, forall_const, implies_true, Nat.beq_refl, ne_eq, not_false_eq_true, not_true_eq_false, Classical.not_not, List.cons.injEq, List.append_nil, List.nil_append, Go.Value.int.injEq, Go.Value.bool.injEq, Go.Value.slice.injEq, Nat.le_refl, Nat.zero_le, Go.Sx.one_int, Go.Sx.one_bool, Go.Sx.one_slice, Go.Sx.one_ptr, Go.Sx.one_map, Int.cast_ofNat_Int, reduceCtorEq, Nat.reduceLeDiff, Nat.reduceMul, Nat.reduceAdd, Nat.reduceSub, Nat.reduceEqDiff, Int.reduceLE, Int.reduceLT, Int.reduceEq, Int.reduceAdd, Int.reduceSub, Int.reduceNeg, Int.reduceMul, Nat.reduceBEq]
  have hl2 := hb.1
  obtain ⟨b0, x0, ho, -⟩ := hb.2 h0
  refine ⟨o, n, c, hc, ⟨o, n, c, bs⟩, ⟨rfl, hb, hl⟩, fun e => ?_, fun e b base cap xs r1 r2 r3 => ⟨⟨0, 0, 0, 0, 0, 0, 0, xs⟩, ⟨⟨rfl, rfl⟩, Nat.zero_le _, by simp [xorB]⟩, fun y hy => ⟨fun hlt => ?_, fun hge => ?_⟩⟩⟩
  · have e : o = none := e
    rw [ho] at e; cases e
  · have hlt' : y.i < n := by simp only [hl2] at hlt; omega
    simp only [hl2] at r2 hlt ⊢
    refine ⟨⟨by omega, hlt⟩, by omega, ⟨by omega, hlt⟩, by omega, ⟨0, 0, 0, 0, 0, y.i + 1, 0, _⟩, by simp only []; omega, ⟨ix_w (by omega), rfl⟩, ?_⟩
    exact tn_step hy hlt' (by omega)
  · simp only [hl2] at r2 r3 hge ⊢
    have := hy.1
    have hi : y.i = n := by omega
    have hx := hy.2
    have hR' := hR b base cap y.xs
    rw [hl2] at hR'
    have h5 : (xorB z (xs.take n)).length = n := by simp [xorB]; omega
    refine hR' ?_ r2 ?_
    · rw [hx, hi]; simp [xorB]; omega
    · rw [hx, hi, List.take_append_of_le_length (by simp only []; omega), List.take_of_length_le (by simp only []; omega), r3])
structure TnX where
  kb : Nat
  kx : Nat
  o : Option Addr
  l : Nat
  c : Nat
  z : Int
  bs : List Int
def TnPre (y : TnX) (vs : List Value) (L : Blks) : Prop := vs = [.int .u8 y.z, .pointer (some ⟨y.kb, y.kx, none⟩)] ∧ rawCell L y.kb y.kx (.slice y.o y.l y.c) ∧ BytesAt L y.o y.l y.bs ∧ 0 < y.l ∧ y.l < 1000000000
theorem clone_sound : ∀ p ∈ [((44 : Nat), cloneT)], SoundT Go.Proofs.Try.prog p.1 p.2 := by
  intro p hp
  simp at hp
  subst hp
  exact cloneT_sound
/-- The key, turned. -/
theorem turn0_sound : SoundT Go.Proofs.Try.prog 56 (newT 5 (.ints .u8) TnPre (fun _ => False) fun y => xorB y.z y.bs) :=
  newT_sound enters56 (fun y vs L L' h ⟨h1, h2, h3, h4⟩ => ⟨h1, h _ _ _ h2, h3.seen h, h4⟩) fun y vs L ⟨h1, h2, h3, h4, h5⟩ => by
    subst h1
    have hl : (xorB y.z y.bs).length = y.bs.length := by simp [xorB]
    refine triple_of_run (R := NewR 5 (.ints .u8) False (xorB y.z y.bs) L) (h := [.chunk L]) (args := [.val (.int .u8 y.z), .val (.pointer (some ⟨y.kb, y.kx, none⟩))]) (run_with clone_sound _ _ _ _ _) (fun r => rfl) (fun r => by simp [owned, Ent.blocks]) (by simp)
      (tn_goal y.kb y.kx _ y.z L _ _ y.o y.l y.c y.bs h2 h3 h4 h5 rfl rfl fun b base cap xs r1 r2 r3 => .inr ⟨id, b, base, cap, xs, [], ?_, r1, ?_, ?_, ?_⟩)
    · rw [hl]
    · rw [hl]; exact r2
    · rw [hl]; exact r3
    · rw [List.append_nil]
      exact List.perm_append_comm (l₁ := L) (l₂ := [_])
noncomputable def turnT : Trans := new1T 5 (.ints .u8) TnPre fun y => xorB y.z y.bs
theorem turnT_sound : SoundT Go.Proofs.Try.prog 56 turnT := new1T_sound turn0_sound fun x vs L h => ⟨h, id⟩
def RvPre1 (y : Rv) (vs : List Value) (L : Blks) : Prop := RvPre y vs L ∧ 0 < y.l
noncomputable def cloneV1T : Trans := new1T 30 .raws RvPre1 fun y => y.vs
theorem cloneV1T_sound : SoundT Go.Proofs.Try.prog 58 cloneV1T := new1T_sound cloneVT_sound fun x vs L ⟨⟨h1, h2, h3⟩, h0⟩ => ⟨⟨h1, h2, h3⟩, fun e => by
  obtain ⟨b, y, e2, -⟩ := h2.2.2 h0
  rw [e] at e2
  cases e2⟩
end Go.Proofs.Ytpjikjhaljennaa
