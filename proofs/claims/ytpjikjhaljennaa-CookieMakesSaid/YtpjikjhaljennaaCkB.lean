/- Cookies: the document's text and seal. -/
import Derived.Test.YtpjikjhaljennaaCkA
import Derived.Test.YtpjikjhaljennaaMaL
set_option maxRecDepth 100000
set_option linter.unusedVariables false
set_option linter.unusedSimpArgs false
namespace Go.Proofs.Ytpjikjhaljennaa
open Go Go.Sx
attribute [local irreducible] Go.Sx.xrun

noncomputable def Ann.tx (n : Nat) (L : Blks) (P : MeX → MeX → Prop) : FnAnn := ⟨[],
  [(3, ⟨MeX, [(fun σ y => ⟨σ.n, keepE σ.env [0, 1, 5, 6], σ.heap⟩, fun _ y => y.ob = 0),
     (fun σ y => ⟨σ.n, (6, .val (.int .i64 ((n : Int) - 1 - (y.ob : Int)))) :: (5, .slc 1 0 y.ob y.cap) :: keepE σ.env [0, 1], [.chunk L, .own y.b (.tab 5 y.base y.cap [.ints .u8 y.xs])]⟩, fun x0 y => P x0 y)], fun y => n - y.ob⟩)]⟩
noncomputable def txGoal (v : Int) (n : Nat) (L : Blks) (P : MeX → MeX → Prop) (R : Value → Blks → Prop) : Prop :=
  xrun Go.Proofs.Try.prog [] [(74, Ann.tx n L P)] [] 9 [] 74 [.val (.int .u64 v), .val (.int .i64 n)] [.chunk L] fun s h => R (den (locs h) s) (owned (locs h) h)
noncomputable def Ann.rl (bl : Nat) (L : Blks) (P2 P3 P4 : MeX → MeX → Prop) : FnAnn := ⟨[],
  [(1000002, ⟨MeX, [(fun σ y => ⟨σ.n, (5, .slc 1 0 bl y.cap) :: keepE σ.env [0, 1], [.chunk L, .own y.b (.tab 5 y.base y.cap [.ints .u8 y.xs])]⟩, fun x0 y => P2 x0 y)], fun _ => 0⟩),
   (1000003, ⟨MeX, [(fun σ y => ⟨σ.n, (6, .ptr 2 0 0) :: keepE σ.env [5], Ann.app' σ.heap [.own y.sb (.tab 65 0 32 [.ints .u8 y.ss])]⟩, fun x0 y => P3 x0 y)], fun _ => 0⟩),
   (4, ⟨MeX, [(fun σ y => ⟨σ.n, (7, .val (.int .i64 y.ob)) :: (5, .slc 1 0 (bl + y.ob) y.cap) :: (6, .ptr 2 0 0) :: keepE σ.env [], [.chunk L, .own y.b (.tab 5 y.base y.cap [.ints .u8 y.xs]), .own y.sb (.tab 65 0 32 [.ints .u8 y.ss])]⟩, fun x0 y => P4 x0 y)], fun y => 32 - y.ob⟩)]⟩
noncomputable def rlGoal (ko : Option Addr) (kl kc : Nat) (bo : Option Addr) (bl bc : Nat) (L : Blks) (P2 P3 P4 : MeX → MeX → Prop) (R : Value → Blks → Prop) : Prop :=
  xrun Go.Proofs.Try.prog [(32, refSealT)] [(38, Ann.rl bl L P2 P3 P4)] [] 9 [] 38 [.sl ko kl kc, .sl bo bl bc] [.chunk L] fun s h => R (den (locs h) s) (owned (locs h) h)
def textF (v : Int) (n i : Nat) : List Int := (List.range i).map fun j => w8 (v.fdiv (2 ^ (8 * (n - 1 - j))))
theorem textF_len (v : Int) (n i : Nat) : (textF v n i).length = i := by simp [textF]
theorem textF_succ (v : Int) (n i : Nat) : textF v n (i + 1) = textF v n i ++ [w8 (v.fdiv (2 ^ (8 * (n - 1 - i))))] := by simp [textF, List.range_succ]
def txP (v : Int) (n : Nat) (_ y : MeX) : Prop := (1 ≤ y.ob ∧ y.ob ≤ n) ∧ y.xs.length = y.cap ∧ y.ob ≤ y.cap ∧ y.xs.take y.ob = textF v n y.ob
theorem tx_s {n i : Nat} (h : i < n) (hn : n ≤ 8) : IntKind.wrap .u64 (IntKind.wrap .i64 (8 * ((n : Int) - 1 - (i : Int)))) = ((8 * (n - 1 - i) : Nat) : Int) := by
  have : IntKind.wrap .i64 (8 * ((n : Int) - 1 - (i : Int))) = ((8 * (n - 1 - i) : Nat) : Int) := by rw [IntKind.wrap_i64]; omega
  rw [this, wrap_u64a]; omega
theorem tx_0 {n : Nat} (h : 1 ≤ n) (hn : n ≤ 8) : IntKind.wrap .i64 ((n : Int) - 1) = (n : Int) - 1 - ((0 : Nat) : Int) := by rw [IntKind.wrap_i64]; omega
theorem tx_n {n i : Nat} (h : i < n) (hn : n ≤ 8) : IntKind.wrap .i64 ((n : Int) - 1 - (i : Int) - 1) = (n : Int) - 1 - ((i + 1 : Nat) : Int) := by rw [IntKind.wrap_i64]; omega
theorem tx_goal (v : Int) (n : Nat) (L : Blks) (P : MeX → MeX → Prop) (R : Value → Blks → Prop) (h1 : 1 ≤ n) (hn : n ≤ 8) (eP : P = txP v n)
    (hR : ∀ b base cap xs, xs.length = cap → n ≤ cap → xs.take n = textF v n n → R (.slice (some ⟨b, base, none⟩) n cap) (L ++ [(b, .tab 5 base cap [.ints .u8 xs])])) : txGoal v n L P R :=
  Eq.mpr (by kernel_rfl) (show
  ∃ (x0 : MeX), (((v = v ∧ (↑n : Int) = (↑n : Int) ∧ Value.slice Option.none (0 : Nat) (0 : Nat) = Value.slice Option.none (0 : Nat) (0 : Nat) ∧ IntKind.wrap IntKind.i64 ((↑n : Int) - (1 : Int)) = IntKind.wrap IntKind.i64 ((↑n : Int) - (1 : Int)) ∧ True) ∧ L = L ∧ True) ∧ x0.1 = (0 : Nat) ∨ ((IntKind.wrap IntKind.i64 ((↑n : Int) - (1 : Int)) = (↑n : Int) - (1 : Int) - (↑x0.1 : Int) ∧ False ∧ v = v ∧ (↑n : Int) = (↑n : Int) ∧ True) ∧ L = L ∧ False ∧ True) ∧ P x0 x0) ∧ (∀ (x : MeX), x.1 = (0 : Nat) → ((0 : Int) ≤ IntKind.wrap IntKind.i64 ((↑n : Int) - (1 : Int)) →
  (0 : Int) ≤ IntKind.wrap IntKind.u64 (IntKind.wrap IntKind.i64 ((8 : Int) * IntKind.wrap IntKind.i64 ((↑n : Int) - (1 : Int)))) ∧ ∀ (b : Nat), Value.oneCell' (Value.int IntKind.u8 (IntKind.wrap IntKind.u8 (Int.fdiv v ((2 : Int) ^ Min.min (Int.toNat (IntKind.wrap IntKind.u64 (IntKind.wrap IntKind.i64 ((8 : Int) * IntKind.wrap IntKind.i64 ((↑n : Int) - (1 : Int)))))) (IntKind.bits IntKind.u64))))) = Bool.true ∧ (1 : Nat) ≤ (140737488355328 : Nat) ∧ ∀ (b cap' : Nat), (1 : Nat) ≤ cap' → ∀ (sp : List Int), List.length sp = cap' - (1 : Nat) → ∃ (y : MeX), n - y.1 < n - x.1 ∧ (((v = v ∧
  (↑n : Int) = (↑n : Int) ∧ Value.slice (Option.some { block := b, off := (0 : Nat) * (1 : Nat) }) (1 : Nat) cap' = Value.slice Option.none (0 : Nat) (0 : Nat) ∧ IntKind.wrap IntKind.i64 (IntKind.wrap IntKind.i64 ((↑n : Int) - (1 : Int)) - (1 : Int)) = IntKind.wrap IntKind.i64 ((↑n : Int) - (1 : Int)) ∧ True) ∧ L = L ∧ True) ∧ y.1 = (0 : Nat) ∨ ((IntKind.wrap IntKind.i64 (IntKind.wrap IntKind.i64 ((↑n : Int) - (1 : Int)) - (1 : Int)) = (↑n : Int) - (1 : Int) - (↑y.1 : Int) ∧ ((0 : Nat) = (0 : Nat) ∧ (1 : Nat) = y.1 ∧ cap' = y.5) ∧ v = v ∧ (↑n : Int) = (↑n : Int) ∧ True) ∧ L = L ∧ (b = y.3 ∧
  (0 : Nat) = y.4 ∧ cap' = y.5 ∧ IntKind.wrap IntKind.u8 (Int.fdiv v ((2 : Int) ^ Min.min (Int.toNat (IntKind.wrap IntKind.u64 (IntKind.wrap IntKind.i64 ((8 : Int) * IntKind.wrap IntKind.i64 ((↑n : Int) - (1 : Int)))))) (IntKind.bits IntKind.u64))) :: sp = y.7 ∧ True) ∧ True) ∧ P x0 y)) ∧ (¬(0 : Int) ≤ IntKind.wrap IntKind.i64 ((↑n : Int) - (1 : Int)) → R (Value.slice Option.none (0 : Nat) (0 : Nat)) (L ++ []))) ∧ ∀ (x : MeX), P x0 x → ((0 : Int) ≤ (↑n : Int) - (1 : Int) - (↑x.1 : Int) →
  (0 : Int) ≤ IntKind.wrap IntKind.u64 (IntKind.wrap IntKind.i64 ((8 : Int) * ((↑n : Int) - (1 : Int) - (↑x.1 : Int)))) ∧ ∀ (b : Nat), Value.oneCell' (Value.int IntKind.u8 (IntKind.wrap IntKind.u8 (Int.fdiv v ((2 : Int) ^ Min.min (Int.toNat (IntKind.wrap IntKind.u64 (IntKind.wrap IntKind.i64 ((8 : Int) * ((↑n : Int) - (1 : Int) - (↑x.1 : Int)))))) (64 : Nat))))) = Bool.true ∧ (x.1 ≤ x.5 ∧ (0 : Nat) + x.5 ≤ x.5) ∧ (0 : Nat) + x.1 ≤ x.5 ∧ (x.1 + (1 : Nat)) * (1 : Nat) ≤ (140737488355328 : Nat) ∧ ∀ (b base cap' : Nat), x.1 + (1 : Nat) ≤ cap' → (x.1 + (1 : Nat) ≤ x.5 → cap' = x.5) →
  ∀ (sp : List Int), List.length sp = cap' - (x.1 + (1 : Nat)) → ∃ (y : MeX), n - y.1 < n - x.1 ∧ (((v = v ∧ (↑n : Int) = (↑n : Int) ∧ Value.slice (Option.some { block := b, off := base * (1 : Nat) }) (x.1 + (1 : Nat)) cap' = Value.slice Option.none (0 : Nat) (0 : Nat) ∧ IntKind.wrap IntKind.i64 ((↑n : Int) - (1 : Int) - (↑x.1 : Int) - (1 : Int)) = IntKind.wrap IntKind.i64 ((↑n : Int) - (1 : Int)) ∧ True) ∧ L = L ∧ True) ∧ y.1 = (0 : Nat) ∨ ((IntKind.wrap IntKind.i64 ((↑n : Int) - (1 : Int) - (↑x.1 : Int) - (1 : Int)) = (↑n : Int) - (1 : Int) - (↑y.1 : Int) ∧
  ((0 : Nat) = (0 : Nat) ∧ x.1 + (1 : Nat) = y.1 ∧ cap' = y.5) ∧ v = v ∧ (↑n : Int) = (↑n : Int) ∧ True) ∧ L = L ∧ (b = y.3 ∧ base = y.4 ∧ cap' = y.5 ∧ List.take x.1 x.7 ++ [IntKind.wrap IntKind.u8 (Int.fdiv v ((2 : Int) ^ Min.min (Int.toNat (IntKind.wrap IntKind.u64 (IntKind.wrap IntKind.i64 ((8 : Int) * ((↑n : Int) - (1 : Int) - (↑x.1 : Int)))))) (64 : Nat)))] ++ sp = y.7 ∧ True) ∧ True) ∧ P x0 y)) ∧ (¬(0 : Int) ≤ (↑n : Int) - (1 : Int) - (↑x.1 : Int) →
  R (Value.slice (Option.some { block := x.3, off := x.4 * (1 : Nat) }) x.1 x.5) (L ++ [(x.3, Blk.tab (5 : Go.TypeId) x.4 x.5 [Col.ints IntKind.u8 x.7])])) from by
  subst eP
  simp only [eq_self, true_and, and_true, false_and, and_false, or_false, false_or, and_self, Nat.zero_add, Nat.add_zero, Nat.sub_zero, Nat.zero_mul, Nat.mul_one, Int.toNat_natCast, cond_true, cond_false, forall_const, implies_true, Nat.beq_refl, ne_eq, not_false_eq_true, not_true_eq_false, Classical.not_not, List.cons.injEq, List.append_nil, List.nil_append, Go.Value.int.injEq, Go.Value.bool.injEq, Go.Value.slice.injEq, Nat.le_refl, Nat.zero_le, Go.Sx.one_int, Go.Sx.one_bool, Go.Sx.one_slice, Go.Sx.one_ptr, Go.Sx.one_map, Int.cast_ofNat_Int, reduceCtorEq, Nat.reduceLeDiff, Nat.reduceMul, Nat.reduceAdd, Nat.reduceSub, Nat.reduceEqDiff, Int.reduceLE, Int.reduceLT, Int.reduceEq, Int.reduceAdd, Int.reduceSub, Int.reduceNeg, Int.reduceMul, Nat.reduceBEq]
  have e64 : IntKind.bits .u64 = 64 := rfl
  have e0 := tx_0 h1 hn
  simp only [e0, tx_s (i := 0) h1 hn, tx_n (i := 0) h1 hn, Int.toNat_natCast, e64]
  refine ⟨⟨0, 0, 0, 0, 0, 0, [], []⟩, rfl, fun x hx => ⟨fun _ => ⟨by omega, fun b cap hc sp hs => ⟨⟨1, 0, b, 0, cap, 0, _, []⟩, by show n - 1 < n - x.ob; omega, ⟨⟨rfl, rfl, rfl⟩, rfl, rfl, rfl, rfl⟩, ?_⟩⟩, fun h => absurd h (by omega)⟩, fun x ⟨⟨x0, x1⟩, x2, x3, x4⟩ => ⟨fun hi => ?_, fun hi => ?_⟩⟩
  · refine ⟨⟨Nat.le_refl _, h1⟩, by simp; omega, hc, ?_⟩
    show List.take 1 (_ :: sp) = textF v n 1
    rw [show min (8 * (n - 1 - 0)) 64 = 8 * (n - 1 - 0) by omega]
    rfl
  · have hlt : x.ob < n := by omega
    simp only [tx_s hlt hn, tx_n hlt hn, Int.toNat_natCast]
    refine ⟨by omega, x3, x3, by omega, fun b base cap hc hc2 sp hs => ⟨⟨x.ob + 1, 0, b, base, cap, 0, _, []⟩, by show n - (x.ob + 1) < n - x.ob; omega, ⟨⟨rfl, rfl, rfl⟩, rfl, rfl, rfl, rfl⟩, ?_⟩⟩
    obtain ⟨g1, g2⟩ := app_one (v := w8 (v.fdiv (2 ^ (8 * (n - 1 - x.ob))))) x4 (by omega) hc hs
    rw [show min (8 * (n - 1 - x.ob)) 64 = 8 * (n - 1 - x.ob) by omega]
    exact ⟨⟨by show 1 ≤ x.ob + 1; omega, hlt⟩, g1, hc, by rw [textF_succ]; exact g2⟩
  · have hn2 : x.ob = n := by omega
    rw [hn2] at x3 x4 ⊢
    exact hR _ _ _ _ x2 x3 x4)
theorem enters74 : Enters Go.Proofs.Try.prog 74 := ⟨Go.Proofs.Try.f74, Go.Proofs.Try.func74, by kernel_rfl, by kernel_rfl⟩
def TxPre (y : Int × Nat) (vs : List Value) (_ : Blks) : Prop := vs = [.int .u64 y.1, .int .i64 y.2] ∧ 1 ≤ y.2 ∧ y.2 ≤ 8
theorem text0_sound : SoundT Go.Proofs.Try.prog 74 (new1T 5 (.ints .u8) TxPre fun y => textF y.1 y.2 y.2) :=
  new1T_sound (nl := fun _ => False) (pre := TxPre) (newT_sound enters74 (fun y vs L L' _ h => h) fun y vs L ⟨h1, h2, h3⟩ => by
    subst h1
    have hl := textF_len y.1 y.2 y.2
    refine triple_of_run (R := NewR 5 (.ints .u8) False (textF y.1 y.2 y.2) L) (h := [.chunk L]) (args := [.val (.int .u64 y.1), .val (.int .i64 y.2)]) (run_with no_contracts _ _ _ _ _) (fun r => rfl) (fun r => by simp [owned, Ent.blocks]) (by simp)
      (tx_goal y.1 y.2 L _ _ h2 h3 rfl fun b base cap xs r1 r2 r3 => .inr ⟨id, b, base, cap, xs, [], by rw [hl], r1, by rw [hl]; exact r2, by rw [hl]; exact r3, ?_⟩)
    rw [List.append_nil]
    exact List.perm_append_comm (l₂ := [_])) fun x vs L h => ⟨h, id⟩
/-- The bytes of a number. -/
noncomputable def textT : Trans := fun args h K => match args with
  | [.val (.int .u64 v), .val (.int .i64 n)] => (1 ≤ n ∧ n ≤ 8) ∧ ∀ b base cap xs, xs.length = cap → n.toNat ≤ cap → xs.take n.toNat = textF v n.toNat n.toNat → appK h (.own b (.tab 5 base cap [.ints .u8 xs])) fun h' => K (.slc (lenE h) 0 n.toNat cap) h'
  | _ => False
theorem textT_sound : SoundT Go.Proofs.Try.prog 74 textT := SoundT.imp text0_sound fun args h K hx => by
  unfold textT at hx
  split at hx
  · rename_i v n
    obtain ⟨⟨h1, h2⟩, hx⟩ := hx
    obtain ⟨m, rfl⟩ : ∃ m : Nat, n = m := ⟨n.toNat, by omega⟩
    simp only [Int.toNat_natCast] at hx
    refine ⟨(v, m), ⟨rfl, by show 1 ≤ m; omega, by show m ≤ 8; omega⟩, fun b base cap xs r1 r2 r3 => ?_⟩
    simp only [textF_len] at r2 r3 ⊢
    exact hx b base cap xs r1 r2 r3
  · exact hx.elim
def rlP2 (bs : List Int) (_ y : MeX) : Prop := y.xs.length = y.cap ∧ bs.length ≤ y.cap ∧ y.xs.take bs.length = bs
def rlP3 (s : List Int) (_ y : MeX) : Prop := y.ss = s
def rlP4 (bs s : List Int) (_ y : MeX) : Prop := y.ob ≤ 32 ∧ y.ss = s ∧ y.xs.length = y.cap ∧ bs.length + y.ob ≤ y.cap ∧ y.xs.take (bs.length + y.ob) = bs ++ s.take y.ob
attribute [local irreducible] sealF
set_option maxHeartbeats 1000000 in
theorem rl_goal (ko : Option Addr) (kl kc : Nat) (bo : Option Addr) (bl bc : Nat) (L : Blks) (P2 P3 P4 : MeX → MeX → Prop) (R : Value → Blks → Prop) (key bs : List Int) (hkey : BytesAt L ko kl key) (hok : Octets key) (hkl : kl < 900000) (hbs : BytesAt L bo bl bs) (hob : Octets bs) (hbl : bl < 900000)
    (e2 : P2 = rlP2 bs) (e3 : P3 = rlP3 (sealF key bs)) (e4 : P4 = rlP4 bs (sealF key bs))
    (hR : ∀ b base cap xs G, xs.length = cap → bl + 32 ≤ cap → xs.take (bl + 32) = bs ++ sealF key bs → R (.slice (some ⟨b, base, none⟩) (bl + 32) cap) (L ++ ((b, .tab 5 base cap [.ints .u8 xs]) :: G))) : rlGoal ko kl kc bo bl bc L P2 P3 P4 R :=
  Eq.mpr (by kernel_rfl) (show
  ∃ (x0 : MeX), (∀ (b : Nat), (bl = (0 : Nat) → (0 : Nat) ≤ (0 : Nat) ∧ ∃ (y : MeX), ((((0 : Nat) = (0 : Nat) ∧ (0 : Nat) = bl ∧ (0 : Nat) = y.5) ∧ (ko = ko ∧ kl = kl ∧ kc = kc) ∧ (bo = bo ∧ bl = bl ∧ bc = bc) ∧ True) ∧ L = L ∧ (b = y.3 ∧ (0 : Nat) = y.4 ∧ (0 : Nat) = y.5 ∧ [] = y.7 ∧ True) ∧ True) ∧ P2 x0 y) ∧ ((0 : Nat) < bl → ∃ (b : Nat), ∃ (x0_1 : Nat), bo = Option.some { block := b, off := x0_1 } ∧ ∃ (xs : List Int), rawTab L b x0_1 bl [Col.ints IntKind.u8 xs] ∧ ((0 : Nat) ≤ (0 : Nat) ∧ (0 : Nat) ≤ (0 : Nat)) ∧ (0 : Nat) ≤ (0 : Nat) ∧
  ((0 : Nat) + bl) * (1 : Nat) ≤ (140737488355328 : Nat) ∧ ∀ (b base cap' : Nat), (0 : Nat) + bl ≤ cap' → ((0 : Nat) + bl ≤ (0 : Nat) → cap' = (0 : Nat)) → ∀ (sp : List Int), List.length sp = cap' - ((0 : Nat) + bl) → ∃ (y : MeX), ((((0 : Nat) = (0 : Nat) ∧ (0 : Nat) + bl = bl ∧ cap' = y.5) ∧ (ko = ko ∧ kl = kl ∧ kc = kc) ∧ (bo = bo ∧ bl = bl ∧ bc = bc) ∧ True) ∧ L = L ∧ (b = y.3 ∧ base = y.4 ∧ cap' = y.5 ∧ List.take (0 : Nat) [] ++ xs ++ sp = y.7 ∧ True) ∧ True) ∧ P2 x0 y)) ∧ ∀ (x : MeX), P2 x0 x → ∃ (x0 : MeX), (∃ (x_1 : Bv × Bv),
  RsPre x_1 [Value.slice ko kl kc, Value.slice bo bl bc] (L ++ [(x.3, Blk.tab (5 : Go.TypeId) x.4 x.5 [Col.ints IntKind.u8 x.7])] ++ []) ∧ ∀ (b : Nat), (List.length (sealF x_1.1.4 x_1.2.4) = (32 : Nat) ∧ (0 : Nat) + List.length (sealF x_1.1.4 x_1.2.4) ≤ (32 : Nat)) ∧ ∃ (y : MeX), ((((0 : Nat) = (0 : Nat) ∧ (0 : Nat) = (0 : Nat)) ∧ ((0 : Nat) = (0 : Nat) ∧ bl = bl ∧ x.5 = x.5) ∧ True) ∧ L = L ∧ (x.3 = x.3 ∧ x.4 = x.4 ∧ x.5 = x.5 ∧ x.7 = x.7 ∧ True) ∧ (b = y.6 ∧ (0 : Nat) = (0 : Nat) ∧ (32 : Nat) = (32 : Nat) ∧ List.take (0 : Nat) (List.replicate (32 : Nat) (0 : Int)) ++ sealF x_1.1.4 x_1.2.4 ++
  List.drop ((0 : Nat) + List.length (sealF x_1.1.4 x_1.2.4)) (List.replicate (32 : Nat) (0 : Int)) = y.8 ∧ True) ∧ True) ∧ P3 x0 y) ∧ ∀ (x_1 : MeX), P3 x0 x_1 → ∃ (x0 : MeX), ((((0 : Int) = (↑x0.1 : Int) ∧ ((0 : Nat) = (0 : Nat) ∧ bl = bl + x0.1 ∧ x.5 = x0.5) ∧ ((0 : Nat) = (0 : Nat) ∧ (0 : Nat) = (0 : Nat)) ∧ True) ∧ L = L ∧ (x.3 = x0.3 ∧ x.4 = x0.4 ∧ x.5 = x0.5 ∧ x.7 = x0.7 ∧ True) ∧ (x_1.6 = x0.6 ∧ (0 : Nat) = (0 : Nat) ∧ (32 : Nat) = (32 : Nat) ∧ x_1.8 = x0.8 ∧ True) ∧ True) ∧ P4 x0 x0) ∧ ∀ (x : MeX), P4 x0 x → ((↑x.1 : Int) < (32 : Int) →
  ((0 : Int) ≤ (↑x.1 : Int) ∧ (↑x.1 : Int) < (↑(32 : Nat) : Int)) ∧ (0 : Nat) + x.1 < (32 : Nat) ∧ ∀ (b : Nat), Value.oneCell' (Value.int IntKind.u8 (List.getD x.8 ((0 : Nat) + x.1) (0 : Int))) = Bool.true ∧ (bl + x.1 ≤ x.5 ∧ (0 : Nat) + x.5 ≤ x.5) ∧ (0 : Nat) + (bl + x.1) ≤ x.5 ∧ (bl + x.1 + (1 : Nat)) * (1 : Nat) ≤ (140737488355328 : Nat) ∧ ∀ (b base cap' : Nat), bl + x.1 + (1 : Nat) ≤ cap' → (bl + x.1 + (1 : Nat) ≤ x.5 → cap' = x.5) → ∀ (sp : List Int), List.length sp = cap' - (bl + x.1 + (1 : Nat)) → ∃ (y : MeX), (32 : Nat) - y.1 < (32 : Nat) - x.1 ∧
  ((IntKind.wrap IntKind.i64 ((↑x.1 : Int) + (1 : Int)) = (↑y.1 : Int) ∧ ((0 : Nat) = (0 : Nat) ∧ bl + x.1 + (1 : Nat) = bl + y.1 ∧ cap' = y.5) ∧ ((0 : Nat) = (0 : Nat) ∧ (0 : Nat) = (0 : Nat)) ∧ True) ∧ L = L ∧ (b = y.3 ∧ base = y.4 ∧ cap' = y.5 ∧ List.take (bl + x.1) x.7 ++ [List.getD x.8 ((0 : Nat) + x.1) (0 : Int)] ++ sp = y.7 ∧ True) ∧ (x.6 = y.6 ∧ (0 : Nat) = (0 : Nat) ∧ (32 : Nat) = (32 : Nat) ∧ x.8 = y.8 ∧ True) ∧ True) ∧ P4 x0 y) ∧ (¬(↑x.1 : Int) < (32 : Int) → R (Value.slice (Option.some { block := x.3, off := x.4 * (1 : Nat) }) (bl + x.1) x.5) (L ++
  [(x.3, Blk.tab (5 : Go.TypeId) x.4 x.5 [Col.ints IntKind.u8 x.7]), (x.6, Blk.tab (65 : Go.TypeId) (0 : Nat) (32 : Nat) [Col.ints IntKind.u8 x.8])])) from by
  subst e2 e3 e4
  simp only [eq_self, true_and, and_true, false_and, and_false, or_false, false_or, and_self, Nat.zero_add, Nat.add_zero, Nat.sub_zero, Nat.zero_mul, Nat.mul_one, Int.toNat_natCast, cond_true, cond_false, forall_const, implies_true, Nat.beq_refl, ne_eq, not_false_eq_true, not_true_eq_false, Classical.not_not, List.cons.injEq, List.append_nil, List.nil_append, Go.Value.int.injEq, Go.Value.bool.injEq, Go.Value.slice.injEq, Nat.le_refl, Nat.zero_le, Go.Sx.one_int, Go.Sx.one_bool, Go.Sx.one_slice, Go.Sx.one_ptr, Go.Sx.one_map, Int.cast_ofNat_Int, reduceCtorEq, Nat.reduceLeDiff, Nat.reduceMul, Nat.reduceAdd, Nat.reduceSub, Nat.reduceEqDiff, Int.reduceLE, Int.reduceLT, Int.reduceEq, Int.reduceAdd, Int.reduceSub, Int.reduceNeg, Int.reduceMul, Nat.reduceBEq]
  have hb1 := hbs.1
  have hsl := sealF_len key bs
  refine ⟨⟨0, 0, 0, 0, 0, 0, [], []⟩, fun b => ⟨fun h0 => ?_, fun h0 => ?_⟩, fun x ⟨x1, x2, x3⟩ => ⟨⟨0, 0, 0, 0, 0, 0, [], []⟩, ⟨(⟨ko, kl, kc, key⟩, ⟨bo, bl, bc, bs⟩), ⟨rfl, ⟨hkey.seen (seen_app _ _), hok, hkl⟩, hbs.seen (seen_app _ _), hob, hbl⟩, ?_⟩, fun y hy => ?_⟩⟩
  · obtain rfl : bs = [] := List.eq_nil_of_length_eq_zero (by omega)
    exact ⟨⟨0, 0, b, 0, 0, 0, [], []⟩, ⟨⟨h0.symm, rfl⟩, rfl, rfl, rfl, rfl⟩, rfl, Nat.le_refl _, rfl⟩
  · obtain ⟨b1, o1, e1, -⟩ := hbs.2 h0
    have hb' := hbs
    rw [e1] at hb'
    refine ⟨b1, o1, e1, bs, hb'.raw h0, by omega, fun b2 base cap hc hc2 sp hs => ⟨⟨0, 0, b2, base, cap, 0, _, []⟩, ⟨rfl, rfl, rfl, rfl, rfl⟩, by simp; omega, by show bs.length ≤ cap; omega, ?_⟩⟩
    show List.take bs.length (List.take 0 [] ++ bs ++ sp) = bs
    rw [List.take_zero, List.nil_append, List.take_left]
  · simp only [set_h32' hsl]
    exact fun b => ⟨⟨hsl, by omega⟩, ⟨0, 0, 0, 0, 0, b, [], _⟩, ⟨rfl, rfl⟩, rfl⟩
  · have hy : y.ss = sealF key bs := hy
    refine ⟨⟨0, 0, x.b, x.base, x.cap, y.sb, x.xs, y.ss⟩, ⟨⟨⟨rfl, rfl, rfl⟩, ⟨rfl, rfl, rfl, rfl⟩, rfl, rfl⟩, Nat.zero_le _, hy, x1, x2, by simp only [Nat.add_zero, List.take_zero, List.append_nil]; exact x3⟩, fun u ⟨u1, u2, u3, u4, u5⟩ => ⟨fun hi => ?_, fun hi => ?_⟩⟩
    · have hi2 : u.ob < 32 := by omega
      rw [hb1] at u4 u5
      refine ⟨⟨by omega, hi⟩, hi2, u4, u4, by omega, fun b2 base cap hc hc2 sp hs => ⟨⟨u.ob + 1, 0, b2, base, cap, u.sb, _, u.ss⟩, by show 32 - (u.ob + 1) < 32 - u.ob; omega, ⟨⟨ix_w (by omega), rfl, rfl⟩, ⟨rfl, rfl, rfl, rfl⟩, rfl, rfl⟩, ?_⟩⟩
      obtain ⟨g1, g2⟩ := app_one (v := u.ss.getD u.ob 0) u5 (by omega) hc hs
      refine ⟨hi2, u2, g1, by rw [hb1]; exact hc, ?_⟩
      simp only []
      rw [hb1, ← Nat.add_assoc, g2, u2, take_succ_getD (by omega), List.append_assoc]
    · have hi2 : u.ob = 32 := by omega
      rw [hb1, hi2] at u4 u5
      rw [hi2]
      rw [List.take_of_length_le (by omega : (sealF key bs).length ≤ 32)] at u5
      exact hR _ _ _ _ _ u3 u4 u5)
theorem enters38 : Enters Go.Proofs.Try.prog 38 := ⟨Go.Proofs.Try.f38, Go.Proofs.Try.func38, by kernel_rfl, by kernel_rfl⟩
theorem rl_sound : ∀ p ∈ [((32 : Nat), refSealT)], SoundT Go.Proofs.Try.prog p.1 p.2 := by
  intro p hp
  simp at hp
  subst hp
  exact refSealT_sound
def sealed (key bs : List Int) : List Int := bs ++ sealF key bs
/-- Words with their seal. -/
noncomputable def refCkSealT : Trans := new1T 5 (.ints .u8) RsPre fun y => sealed y.1.bs y.2.bs
theorem refCkSealT_sound : SoundT Go.Proofs.Try.prog 38 refCkSealT :=
  new1T_sound (nl := fun _ => False) (pre := RsPre) (newT_sound enters38 (fun x vs L L' h ⟨h1, ⟨h2, h3⟩, h4, h5⟩ => ⟨h1, ⟨h2.seen h, h3⟩, h4.seen h, h5⟩) fun x vs L ⟨h1, ⟨h2, h3, h4⟩, h5, h6, h7⟩ => by
    subst h1
    have hl : (sealed x.1.bs x.2.bs).length = x.2.l + 32 := by unfold sealed; rw [List.length_append, sealF_len, h5.1]
    refine triple_of_run (R := NewR 5 (.ints .u8) False (sealed x.1.bs x.2.bs) L) (h := [.chunk L]) (args := [.sl x.1.o x.1.l x.1.c, .sl x.2.o x.2.l x.2.c]) (run_with rl_sound _ _ _ _ _) (fun r => rfl) (fun r => by simp [owned, Ent.blocks]) (by simp)
      (rl_goal x.1.o x.1.l x.1.c x.2.o x.2.l x.2.c L _ _ _ _ x.1.bs x.2.bs h2 h3 h4 h5 h6 h7 rfl rfl rfl fun b base cap xs G r1 r2 r3 => .inr ⟨id, b, base, cap, xs, G, by rw [hl], r1, by rw [hl]; exact r2, by rw [hl]; exact r3, ?_⟩)
    exact List.perm_middle) fun x vs L h => ⟨h, id⟩
end Go.Proofs.Ytpjikjhaljennaa
