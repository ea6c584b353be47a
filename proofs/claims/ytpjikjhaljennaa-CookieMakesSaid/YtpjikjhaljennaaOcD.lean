/- Tapes of bytes. -/
import Derived.Test.YtpjikjhaljennaaOcC
import Derived.Test.YtpjikjhaljennaaSxPx
set_option maxRecDepth 100000
set_option linter.unusedVariables false
set_option linter.unusedSimpArgs false
namespace Go.Proofs.Ytpjikjhaljennaa
open Go Go.Sx
attribute [local irreducible] Go.Sx.xrun

noncomputable def Ann.nu (k : Nat) (P : Nat → Int → Prop) : FnAnn := ⟨[],
  [(3, ⟨NrX, [(fun σ y => ⟨σ.n, (12, .val (.int .i64 y.i)) :: (5, .val (.int .u64 y.z)) :: keepE σ.env [10, 11], σ.heap⟩, fun _ y => P y.i y.z)], fun y => k - y.i⟩)]⟩
noncomputable def nuGoal (tb : Nat) (o : Option Addr) (l c a k : Nat) (L : Blks) (P : Nat → Int → Prop) (R : Value → Blks → Prop) : Prop :=
  xrun Go.Proofs.Try.prog [] [(75, Ann.nu k P)] [] 9 [] 75 [.ptr 1 0 0, .val (.int .i64 k)] [.chunk L, .own tb (.cells 3 [.sl o l c, .val (.int .i64 a), .ff] 155)] fun s h => R (den (locs h) s) (owned (locs h) h)
def nuP (bs : List Int) (i : Nat) (z : Int) : Prop := i ≤ bs.length ∧ z = numF (bs.take i)
theorem nu_step {bs : List Int} (ho : Octets bs) (h4 : bs.length ≤ 4) {i : Nat} {z : Int} (h : nuP bs i z) (hi : i < bs.length) : nuP bs (i + 1) (IntKind.wrap .u64 (IntKind.wrap .u64 (256 * z) + IntKind.wrap .u64 (bs.getD i 0))) := by
  obtain ⟨h1, rfl⟩ := h
  obtain ⟨g1, g2⟩ := numF_lt ho i (by omega)
  have g3 : numF (bs.take i) < 16777216 := by
    have : (256 : Int) ^ i ≤ 16777216 := by
      match i, (show i < 4 by omega) with
      | 0, _ => decide
      | 1, _ => decide
      | 2, _ => decide
      | 3, _ => decide
    omega
  obtain ⟨b, hb, e⟩ := octet_get ho i
  refine ⟨hi, ?_⟩
  rw [take_succ_getD hi, numF_snoc, e, wrap_u64a, wrap_u64a, wrap_u64a]
  omega
theorem nu_w {l a k : Nat} (h : a + k ≤ l) (hl : l < 1000000) : IntKind.wrap .i64 ((l : Int) - (a : Int)) = ((l - a : Nat) : Int) ∧ IntKind.wrap .i64 ((a : Int) + (k : Int)) = ((a + k : Nat) : Int) ∧ IntKind.wrap .i64 (((a + k : Nat) : Int) - (k : Int)) = (a : Int) := by
  refine ⟨?_, ?_, ?_⟩ <;> (rw [IntKind.wrap_i64]; omega)
theorem nu_goal (tb : Nat) (o : Option Addr) (l c a k : Nat) (L : Blks) (P : Nat → Int → Prop) (R : Value → Blks → Prop) (bs : List Int) (hb : BytesAt L o l bs) (ho : Octets bs) (hlc : l ≤ c) (hl : l < 1000000) (hk : 1 ≤ k ∧ k ≤ 4) (h : a + k ≤ l) (eP : P = nuP ((bs.drop a).take k))
    (hR : R (.int .u64 (numF ((bs.drop a).take k))) (L ++ [(tb, .cells [.slice o l c, .int .i64 ((a + k : Nat) : Int), .bool false] 155)])) : nuGoal tb o l c a k L P R :=
  Eq.mpr (by kernel_rfl) (show
  ((↑k : Int) < (0 : Int) → Value.oneCell' (Value.int IntKind.i64 (↑l : Int)) = Bool.true ∧ ∃ (x0 : NrX), ((((0 : Int) = (↑x0.1 : Int) ∧ (0 : Int) = x0.2 ∧ Value.slice Option.none (0 : Nat) (0 : Nat) = Value.slice Option.none (0 : Nat) (0 : Nat) ∧ (↑(0 : Nat) : Int) = (↑(0 : Nat) : Int) ∧ True) ∧ L = L ∧ (tb = tb ∧ (o = o ∧ l = l ∧ c = c) ∧ (↑l : Int) = (↑l : Int) ∧ True ∧ True) ∧ True) ∧ P x0.1 x0.2) ∧ ∀ (x : NrX), P x.1 x.2 → ((↑x.1 : Int) < (↑(0 : Nat) : Int) → False) ∧ (¬(↑x.1 : Int) < (↑(0 : Nat) : Int) →
  R (Value.int IntKind.u64 x.2) (L ++ [(tb, Blk.cells [Value.slice o l c, Value.int IntKind.i64 (↑l : Int), Value.bool Bool.true] (155 : Go.TypeId))]))) ∧ (¬(↑k : Int) < (0 : Int) → (IntKind.wrap IntKind.i64 ((↑l : Int) - (↑a : Int)) < (↑k : Int) → Value.oneCell' (Value.int IntKind.i64 (↑l : Int)) = Bool.true ∧ ∃ (x0 : NrX), ((((0 : Int) = (↑x0.1 : Int) ∧ (0 : Int) = x0.2 ∧ Value.slice Option.none (0 : Nat) (0 : Nat) = Value.slice Option.none (0 : Nat) (0 : Nat) ∧ (↑(0 : Nat) : Int) = (↑(0 : Nat) : Int) ∧ True) ∧
  L = L ∧ (tb = tb ∧ (o = o ∧ l = l ∧ c = c) ∧ (↑l : Int) = (↑l : Int) ∧ True ∧ True) ∧ True) ∧ P x0.1 x0.2) ∧ ∀ (x : NrX), P x.1 x.2 → ((↑x.1 : Int) < (↑(0 : Nat) : Int) → False) ∧ (¬(↑x.1 : Int) < (↑(0 : Nat) : Int) → R (Value.int IntKind.u64 x.2) (L ++ [(tb, Blk.cells [Value.slice o l c, Value.int IntKind.i64 (↑l : Int), Value.bool Bool.true] (155 : Go.TypeId))]))) ∧ (¬IntKind.wrap IntKind.i64 ((↑l : Int) - (↑a : Int)) < (↑k : Int) → Value.oneCell' (Value.int IntKind.i64 (IntKind.wrap IntKind.i64 ((↑a : Int) + (↑k : Int)))) = Bool.true ∧
  ((0 : Int) ≤ IntKind.wrap IntKind.i64 ((↑a : Int) + (↑k : Int)) ∧ IntKind.wrap IntKind.i64 ((↑a : Int) + (↑k : Int)) ≤ (↑c : Int)) ∧ ((0 : Int) ≤ IntKind.wrap IntKind.i64 (IntKind.wrap IntKind.i64 ((↑a : Int) + (↑k : Int)) - (↑k : Int)) ∧ IntKind.wrap IntKind.i64 (IntKind.wrap IntKind.i64 ((↑a : Int) + (↑k : Int)) - (↑k : Int)) ≤ (↑(Int.toNat (IntKind.wrap IntKind.i64 ((↑a : Int) + (↑k : Int)))) : Int)) ∧ ∃ (x0 : NrX), ((((0 : Int) = (↑x0.1 : Int) ∧ (0 : Int) = x0.2 ∧ (((if c = Int.toNat (IntKind.wrap IntKind.i64 (IntKind.wrap IntKind.i64 ((↑a : Int) + (↑k : Int)) - (↑k : Int))) then o else
  Option.map (fun (x : Go.Addr) => Go.Addr.add x (Int.toNat (IntKind.wrap IntKind.i64 (IntKind.wrap IntKind.i64 ((↑a : Int) + (↑k : Int)) - (↑k : Int))) * (1 : Nat))) o) = if c = Int.toNat (IntKind.wrap IntKind.i64 (IntKind.wrap IntKind.i64 ((↑a : Int) + (↑k : Int)) - (↑k : Int))) then o else Option.map (fun (x : Go.Addr) => Go.Addr.add x (Int.toNat (IntKind.wrap IntKind.i64 (IntKind.wrap IntKind.i64 ((↑a : Int) + (↑k : Int)) - (↑k : Int))) * (1 : Nat))) o) ∧ Int.toNat (IntKind.wrap IntKind.i64 ((↑a : Int) + (↑k : Int))) -
  Int.toNat (IntKind.wrap IntKind.i64 (IntKind.wrap IntKind.i64 ((↑a : Int) + (↑k : Int)) - (↑k : Int))) = Int.toNat (IntKind.wrap IntKind.i64 ((↑a : Int) + (↑k : Int))) - Int.toNat (IntKind.wrap IntKind.i64 (IntKind.wrap IntKind.i64 ((↑a : Int) + (↑k : Int)) - (↑k : Int))) ∧ c - Int.toNat (IntKind.wrap IntKind.i64 (IntKind.wrap IntKind.i64 ((↑a : Int) + (↑k : Int)) - (↑k : Int))) = c - Int.toNat (IntKind.wrap IntKind.i64 (IntKind.wrap IntKind.i64 ((↑a : Int) + (↑k : Int)) - (↑k : Int)))) ∧ (↑(Int.toNat (IntKind.wrap IntKind.i64 ((↑a : Int) + (↑k : Int))) -
  Int.toNat (IntKind.wrap IntKind.i64 (IntKind.wrap IntKind.i64 ((↑a : Int) + (↑k : Int)) - (↑k : Int)))) : Int) = (↑(Int.toNat (IntKind.wrap IntKind.i64 ((↑a : Int) + (↑k : Int))) - Int.toNat (IntKind.wrap IntKind.i64 (IntKind.wrap IntKind.i64 ((↑a : Int) + (↑k : Int)) - (↑k : Int)))) : Int) ∧ True) ∧ L = L ∧ (tb = tb ∧ (o = o ∧ l = l ∧ c = c) ∧ IntKind.wrap IntKind.i64 ((↑a : Int) + (↑k : Int)) = IntKind.wrap IntKind.i64 ((↑a : Int) + (↑k : Int)) ∧ True ∧ True) ∧ True) ∧ P x0.1 x0.2) ∧ ∀ (x : NrX), P x.1 x.2 → ((↑x.1 : Int) <
  (↑(Int.toNat (IntKind.wrap IntKind.i64 ((↑a : Int) + (↑k : Int))) - Int.toNat (IntKind.wrap IntKind.i64 (IntKind.wrap IntKind.i64 ((↑a : Int) + (↑k : Int)) - (↑k : Int)))) : Int) → ((0 : Int) ≤ (↑x.1 : Int) ∧ (↑x.1 : Int) < (↑(Int.toNat (IntKind.wrap IntKind.i64 ((↑a : Int) + (↑k : Int))) - Int.toNat (IntKind.wrap IntKind.i64 (IntKind.wrap IntKind.i64 ((↑a : Int) + (↑k : Int)) - (↑k : Int)))) : Int)) ∧ ∃ (b : Nat), ∃ (x0 : Nat), (if c = Int.toNat (IntKind.wrap IntKind.i64 (IntKind.wrap IntKind.i64 ((↑a : Int) + (↑k : Int)) - (↑k : Int))) then o else Option.map (fun (x : Go.Addr) =>
  Go.Addr.add x (Int.toNat (IntKind.wrap IntKind.i64 (IntKind.wrap IntKind.i64 ((↑a : Int) + (↑k : Int)) - (↑k : Int))) * (1 : Nat))) o) = Option.some { block := b, off := x0 } ∧ ∃ (n : Int), rawCell L b (x0 + x.1 * (1 : Nat)) (Value.int IntKind.u8 n) ∧ ∃ (y : NrX), k - y.1 < k - x.1 ∧ ((IntKind.wrap IntKind.i64 ((↑x.1 : Int) + (1 : Int)) = (↑y.1 : Int) ∧ IntKind.wrap IntKind.u64 (IntKind.wrap IntKind.u64 ((256 : Int) * x.2) + IntKind.wrap IntKind.u64 n) = y.2 ∧ (((if c = Int.toNat (IntKind.wrap IntKind.i64 (IntKind.wrap IntKind.i64 ((↑a : Int) + (↑k : Int)) - (↑k : Int))) then o else
  Option.map (fun (x : Go.Addr) => Go.Addr.add x (Int.toNat (IntKind.wrap IntKind.i64 (IntKind.wrap IntKind.i64 ((↑a : Int) + (↑k : Int)) - (↑k : Int))) * (1 : Nat))) o) = if c = Int.toNat (IntKind.wrap IntKind.i64 (IntKind.wrap IntKind.i64 ((↑a : Int) + (↑k : Int)) - (↑k : Int))) then o else Option.map (fun (x : Go.Addr) => Go.Addr.add x (Int.toNat (IntKind.wrap IntKind.i64 (IntKind.wrap IntKind.i64 ((↑a : Int) + (↑k : Int)) - (↑k : Int))) * (1 : Nat))) o) ∧ Int.toNat (IntKind.wrap IntKind.i64 ((↑a : Int) + (↑k : Int))) -
  Int.toNat (IntKind.wrap IntKind.i64 (IntKind.wrap IntKind.i64 ((↑a : Int) + (↑k : Int)) - (↑k : Int))) = Int.toNat (IntKind.wrap IntKind.i64 ((↑a : Int) + (↑k : Int))) - Int.toNat (IntKind.wrap IntKind.i64 (IntKind.wrap IntKind.i64 ((↑a : Int) + (↑k : Int)) - (↑k : Int))) ∧ c - Int.toNat (IntKind.wrap IntKind.i64 (IntKind.wrap IntKind.i64 ((↑a : Int) + (↑k : Int)) - (↑k : Int))) = c - Int.toNat (IntKind.wrap IntKind.i64 (IntKind.wrap IntKind.i64 ((↑a : Int) + (↑k : Int)) - (↑k : Int)))) ∧ (↑(Int.toNat (IntKind.wrap IntKind.i64 ((↑a : Int) + (↑k : Int))) -
  Int.toNat (IntKind.wrap IntKind.i64 (IntKind.wrap IntKind.i64 ((↑a : Int) + (↑k : Int)) - (↑k : Int)))) : Int) = (↑(Int.toNat (IntKind.wrap IntKind.i64 ((↑a : Int) + (↑k : Int))) - Int.toNat (IntKind.wrap IntKind.i64 (IntKind.wrap IntKind.i64 ((↑a : Int) + (↑k : Int)) - (↑k : Int)))) : Int) ∧ True) ∧ L = L ∧ (tb = tb ∧ (o = o ∧ l = l ∧ c = c) ∧ IntKind.wrap IntKind.i64 ((↑a : Int) + (↑k : Int)) = IntKind.wrap IntKind.i64 ((↑a : Int) + (↑k : Int)) ∧ True ∧ True) ∧ True) ∧ P y.1 y.2) ∧ (¬(↑x.1 : Int) < (↑(Int.toNat (IntKind.wrap IntKind.i64 ((↑a : Int) + (↑k : Int))) -
  Int.toNat (IntKind.wrap IntKind.i64 (IntKind.wrap IntKind.i64 ((↑a : Int) + (↑k : Int)) - (↑k : Int)))) : Int) → R (Value.int IntKind.u64 x.2) (L ++ [(tb, Blk.cells [Value.slice o l c, Value.int IntKind.i64 (IntKind.wrap IntKind.i64 ((↑a : Int) + (↑k : Int))), Value.bool Bool.false] (155 : Go.TypeId))])))) from by
  subst eP
  obtain ⟨e1, e2, e3⟩ := nu_w h hl
  simp only [eq_self, true_and, and_true, false_and, and_false, or_false, false_or, and_self, Nat.zero_add, Nat.add_zero, Nat.sub_zero, Nat.zero_mul, Nat.mul_one, Int.toNat_natCast, cond_true, cond_false, forall_const, implies_true, Nat.beq_refl, ne_eq, not_false_eq_true, not_true_eq_false, Classical.not_not, List.cons.injEq, List.append_nil, List.nil_append, Go.Value.int.injEq, Go.Value.bool.injEq, Go.Value.slice.injEq, Nat.le_refl, Nat.zero_le, Go.Sx.one_int, Go.Sx.one_bool, Go.Sx.one_slice, Go.Sx.one_ptr, Go.Sx.one_map, Int.cast_ofNat_Int, reduceCtorEq, Nat.reduceLeDiff, Nat.reduceMul, Nat.reduceAdd, Nat.reduceSub, Nat.reduceEqDiff, Int.reduceLE, Int.reduceLT, Int.reduceEq, Int.reduceAdd, Int.reduceSub, Int.reduceNeg, Int.reduceMul, Nat.reduceBEq]
  simp only [e1, e2, e3, Int.toNat_natCast]
  have hW := BytesAt.part hb (n := a) (m := k) hlc h
  have hwl := hW.1
  obtain ⟨b, x0, e4, hc⟩ := hW.2 (by omega)
  have how : Octets ((bs.drop a).take k) := octets_win ho a k
  refine ⟨fun h => absurd h (by omega), fun _ => ⟨fun h => absurd h (by omega), fun _ => ⟨⟨by omega, by omega⟩, ⟨by omega, by omega⟩, ⟨0, 0⟩, ⟨⟨rfl, rfl⟩, Nat.zero_le _, rfl⟩, fun y hy => ⟨fun hi => ?_, fun hi => ?_⟩⟩⟩⟩
  · have hi2 : y.i < k := by omega
    refine ⟨⟨by omega, hi⟩, b, x0, e4, _, hc y.i hi2, ⟨y.i + 1, _⟩, by show k - (y.i + 1) < k - y.i; omega, ⟨ix_w (by omega), rfl⟩, ?_⟩
    exact nu_step how (by omega) hy (by omega)
  · have hy2 := hy.2
    have hi2 : y.i = k := by have := hy.1; omega
    rw [hi2, List.take_of_length_le (by omega)] at hy2
    rw [hy2]
    exact hR)
theorem enters75 : Enters Go.Proofs.Try.prog 75 := ⟨Go.Proofs.Try.f75, Go.Proofs.Try.func75, by kernel_rfl, by kernel_rfl⟩
/-- A number from a tape. -/
noncomputable def tapeT : Trans := fun args h K => match args with
  | [.ptr n 0 0, .val (.int .i64 k)] => (match entAt h n with
    | some (.own tb (.cells 3 [.sl o l c, .val (.int .i64 a), .ff] 155)) => ∃ bs : List Int, (BytesAt (owned (locs h) (h.set n (.gone (Ent.own tb (.cells 3 [.sl o l c, .val (.int .i64 a), .ff] 155)).loc)) ++ roL (locs h) h) o l bs ∧ Octets bs ∧ l ≤ c ∧ l < 1000000 ∧ (0 ≤ a ∧ 1 ≤ k ∧ k ≤ 4) ∧ a.toNat + k.toNat ≤ l) ∧
        setK h n (.own tb (.cells 3 [.sl o l c, .val (.int .i64 ((a.toNat + k.toNat : Nat) : Int)), .ff] 155)) fun h1 => K (.val (.int .u64 (numF ((bs.drop a.toNat).take k.toNat)))) h1
    | _ => False)
  | _ => False
def TpR (tb : Nat) (o : Option Addr) (l c a k : Nat) (bs : List Int) (L : Blks) (u : Value) (L' : Blks) : Prop := u = .int .u64 (numF ((bs.drop a).take k)) ∧ ∃ G, L'.Perm ((tb, Blk.cells [.slice o l c, .int .i64 ((a + k : Nat) : Int), .bool false] 155) :: (L ++ G))
theorem tapeT_sound : SoundT Go.Proofs.Try.prog 75 tapeT := by
  intro F h w args vs K cx ha hx
  refine ⟨enters75, ?_⟩
  unfold tapeT at hx
  split at hx
  · rename_i n kk
    split at hx
    · rename_i tb o l c aa hen
      obtain ⟨bs, ⟨q1, q2, q3, q4, ⟨q5, q6, q7⟩, q8⟩, hK⟩ := hx
      obtain ⟨k, rfl⟩ : ∃ k : Nat, kk = k := ⟨kk.toNat, by omega⟩
      obtain ⟨a, rfl⟩ : ∃ a : Nat, aa = a := ⟨aa.toNat, by omega⟩
      simp only [Int.toNat_natCast] at q8 hK
      obtain ⟨-, hloc⟩ := cx.blk hen rfl
      have hvs : vs = [.pointer (some ⟨tb, 0, none⟩), .int .i64 k] := by
        have := ha []
        simp only [denL, den, hloc []] at this
        rw [← this]
        simp [SBlk.base, SBlk.wd]
      subst hvs
      refine frame_see cx hen (k' := .cells 3 [.sl o l c, .val (.int .i64 ((a + k : Nat) : Int)), .ff] 155) rfl (B := .cells [.slice o l c, .int .i64 a, .bool false] 155) (B' := .cells [.slice o l c, .int .i64 ((a + k : Nat) : Int), .bool false] 155) (fun r => rfl) (fun r => rfl) (by simp) (fun r => rfl)
        (v := .int .u64 (numF ((bs.drop a).take k))) (s := .val (.int .u64 (numF ((bs.drop a).take k)))) (fun L hs => ?_) (setK_spec hK)
      have hp : ((tb, Blk.cells [.slice o l c, .int .i64 a, .bool false] 155) :: L).Perm (L ++ [(tb, Blk.cells [.slice o l c, .int .i64 a, .bool false] 155)]) := List.perm_append_comm (l₁ := [_])
      refine Triple.mono (triple_of_run (R := TpR tb o l c a k bs L) (h := [.chunk L, .own tb (.cells 3 [.sl o l c, .val (.int .i64 a), .ff] 155)]) (args := [.ptr 1 0 0, .val (.int .i64 k)]) (vs := [.pointer (some ⟨tb, 0, none⟩), .int .i64 k]) (L := L ++ [(tb, Blk.cells [.slice o l c, .int .i64 a, .bool false] 155)])
        (run_with no_contracts _ _ _ _ _) (fun r => rfl) (fun r => by simp [owned, Ent.blocks, SBlk.den, denL, den]) (by simp) (nu_goal tb o l c a k L _ (TpR tb o l c a k bs L) bs (q1.seen hs) q2 q3 q4 ⟨by omega, by omega⟩ q8 rfl ⟨rfl, [], ?_⟩)) hp fun v L' h => h
      rw [List.append_nil]
      exact List.perm_append_comm (l₂ := [_])
    · exact hx.elim
  · exact hx.elim
end Go.Proofs.Ytpjikjhaljennaa
