/- ref.Hash: contract. -/
import Derived.Test.YtpjikjhaljennaaMaK
set_option maxRecDepth 100000
set_option linter.unusedVariables false
set_option linter.unusedSimpArgs false
namespace Go.Proofs.Ytpjikjhaljennaa
open Go Go.Sx
attribute [local irreducible] Go.Sx.xrun

noncomputable def tbGoal (t : Nat) (L : Blks) (R : Value → Prop) : Prop := xrun Go.Proofs.Try.prog [] [] [] 9 [] 63 [.val (.int .i64 t)] [.chunk L] fun s h => R (den (locs h) s) ∧ headIs h L
theorem tb_0 (L : Blks) (R : Value → Prop) (hR : R (.int .u32 (kTab.getD 0 0))) : tbGoal 0 L R :=
  Eq.mpr (by kernel_rfl) (show ∀ b : Nat, ((0 : Int) ≤ ((0 : Nat) : Int) ∧ ((0 : Nat) : Int) < ((64 : Nat) : Int)) ∧ (R (Value.int .u32 (kTab.getD 0 0)) ∧ L = L) from fun b => ⟨by decide, hR, rfl⟩)
theorem tb_1 (L : Blks) (R : Value → Prop) (hR : R (.int .u32 (kTab.getD 1 0))) : tbGoal 1 L R :=
  Eq.mpr (by kernel_rfl) (show ∀ b : Nat, ((0 : Int) ≤ ((1 : Nat) : Int) ∧ ((1 : Nat) : Int) < ((64 : Nat) : Int)) ∧ (R (Value.int .u32 (kTab.getD 1 0)) ∧ L = L) from fun b => ⟨by decide, hR, rfl⟩)
theorem tb_2 (L : Blks) (R : Value → Prop) (hR : R (.int .u32 (kTab.getD 2 0))) : tbGoal 2 L R :=
  Eq.mpr (by kernel_rfl) (show ∀ b : Nat, ((0 : Int) ≤ ((2 : Nat) : Int) ∧ ((2 : Nat) : Int) < ((64 : Nat) : Int)) ∧ (R (Value.int .u32 (kTab.getD 2 0)) ∧ L = L) from fun b => ⟨by decide, hR, rfl⟩)
theorem tb_3 (L : Blks) (R : Value → Prop) (hR : R (.int .u32 (kTab.getD 3 0))) : tbGoal 3 L R :=
  Eq.mpr (by kernel_rfl) (show ∀ b : Nat, ((0 : Int) ≤ ((3 : Nat) : Int) ∧ ((3 : Nat) : Int) < ((64 : Nat) : Int)) ∧ (R (Value.int .u32 (kTab.getD 3 0)) ∧ L = L) from fun b => ⟨by decide, hR, rfl⟩)
theorem tb_4 (L : Blks) (R : Value → Prop) (hR : R (.int .u32 (kTab.getD 4 0))) : tbGoal 4 L R :=
  Eq.mpr (by kernel_rfl) (show ∀ b : Nat, ((0 : Int) ≤ ((4 : Nat) : Int) ∧ ((4 : Nat) : Int) < ((64 : Nat) : Int)) ∧ (R (Value.int .u32 (kTab.getD 4 0)) ∧ L = L) from fun b => ⟨by decide, hR, rfl⟩)
theorem tb_5 (L : Blks) (R : Value → Prop) (hR : R (.int .u32 (kTab.getD 5 0))) : tbGoal 5 L R :=
  Eq.mpr (by kernel_rfl) (show ∀ b : Nat, ((0 : Int) ≤ ((5 : Nat) : Int) ∧ ((5 : Nat) : Int) < ((64 : Nat) : Int)) ∧ (R (Value.int .u32 (kTab.getD 5 0)) ∧ L = L) from fun b => ⟨by decide, hR, rfl⟩)
theorem tb_6 (L : Blks) (R : Value → Prop) (hR : R (.int .u32 (kTab.getD 6 0))) : tbGoal 6 L R :=
  Eq.mpr (by kernel_rfl) (show ∀ b : Nat, ((0 : Int) ≤ ((6 : Nat) : Int) ∧ ((6 : Nat) : Int) < ((64 : Nat) : Int)) ∧ (R (Value.int .u32 (kTab.getD 6 0)) ∧ L = L) from fun b => ⟨by decide, hR, rfl⟩)
theorem tb_7 (L : Blks) (R : Value → Prop) (hR : R (.int .u32 (kTab.getD 7 0))) : tbGoal 7 L R :=
  Eq.mpr (by kernel_rfl) (show ∀ b : Nat, ((0 : Int) ≤ ((7 : Nat) : Int) ∧ ((7 : Nat) : Int) < ((64 : Nat) : Int)) ∧ (R (Value.int .u32 (kTab.getD 7 0)) ∧ L = L) from fun b => ⟨by decide, hR, rfl⟩)
theorem tb_8 (L : Blks) (R : Value → Prop) (hR : R (.int .u32 (kTab.getD 8 0))) : tbGoal 8 L R :=
  Eq.mpr (by kernel_rfl) (show ∀ b : Nat, ((0 : Int) ≤ ((8 : Nat) : Int) ∧ ((8 : Nat) : Int) < ((64 : Nat) : Int)) ∧ (R (Value.int .u32 (kTab.getD 8 0)) ∧ L = L) from fun b => ⟨by decide, hR, rfl⟩)
theorem tb_9 (L : Blks) (R : Value → Prop) (hR : R (.int .u32 (kTab.getD 9 0))) : tbGoal 9 L R :=
  Eq.mpr (by kernel_rfl) (show ∀ b : Nat, ((0 : Int) ≤ ((9 : Nat) : Int) ∧ ((9 : Nat) : Int) < ((64 : Nat) : Int)) ∧ (R (Value.int .u32 (kTab.getD 9 0)) ∧ L = L) from fun b => ⟨by decide, hR, rfl⟩)
theorem tb_10 (L : Blks) (R : Value → Prop) (hR : R (.int .u32 (kTab.getD 10 0))) : tbGoal 10 L R :=
  Eq.mpr (by kernel_rfl) (show ∀ b : Nat, ((0 : Int) ≤ ((10 : Nat) : Int) ∧ ((10 : Nat) : Int) < ((64 : Nat) : Int)) ∧ (R (Value.int .u32 (kTab.getD 10 0)) ∧ L = L) from fun b => ⟨by decide, hR, rfl⟩)
theorem tb_11 (L : Blks) (R : Value → Prop) (hR : R (.int .u32 (kTab.getD 11 0))) : tbGoal 11 L R :=
  Eq.mpr (by kernel_rfl) (show ∀ b : Nat, ((0 : Int) ≤ ((11 : Nat) : Int) ∧ ((11 : Nat) : Int) < ((64 : Nat) : Int)) ∧ (R (Value.int .u32 (kTab.getD 11 0)) ∧ L = L) from fun b => ⟨by decide, hR, rfl⟩)
theorem tb_12 (L : Blks) (R : Value → Prop) (hR : R (.int .u32 (kTab.getD 12 0))) : tbGoal 12 L R :=
  Eq.mpr (by kernel_rfl) (show ∀ b : Nat, ((0 : Int) ≤ ((12 : Nat) : Int) ∧ ((12 : Nat) : Int) < ((64 : Nat) : Int)) ∧ (R (Value.int .u32 (kTab.getD 12 0)) ∧ L = L) from fun b => ⟨by decide, hR, rfl⟩)
theorem tb_13 (L : Blks) (R : Value → Prop) (hR : R (.int .u32 (kTab.getD 13 0))) : tbGoal 13 L R :=
  Eq.mpr (by kernel_rfl) (show ∀ b : Nat, ((0 : Int) ≤ ((13 : Nat) : Int) ∧ ((13 : Nat) : Int) < ((64 : Nat) : Int)) ∧ (R (Value.int .u32 (kTab.getD 13 0)) ∧ L = L) from fun b => ⟨by decide, hR, rfl⟩)
theorem tb_14 (L : Blks) (R : Value → Prop) (hR : R (.int .u32 (kTab.getD 14 0))) : tbGoal 14 L R :=
  Eq.mpr (by kernel_rfl) (show ∀ b : Nat, ((0 : Int) ≤ ((14 : Nat) : Int) ∧ ((14 : Nat) : Int) < ((64 : Nat) : Int)) ∧ (R (Value.int .u32 (kTab.getD 14 0)) ∧ L = L) from fun b => ⟨by decide, hR, rfl⟩)
theorem tb_15 (L : Blks) (R : Value → Prop) (hR : R (.int .u32 (kTab.getD 15 0))) : tbGoal 15 L R :=
  Eq.mpr (by kernel_rfl) (show ∀ b : Nat, ((0 : Int) ≤ ((15 : Nat) : Int) ∧ ((15 : Nat) : Int) < ((64 : Nat) : Int)) ∧ (R (Value.int .u32 (kTab.getD 15 0)) ∧ L = L) from fun b => ⟨by decide, hR, rfl⟩)
theorem tb_16 (L : Blks) (R : Value → Prop) (hR : R (.int .u32 (kTab.getD 16 0))) : tbGoal 16 L R :=
  Eq.mpr (by kernel_rfl) (show ∀ b : Nat, ((0 : Int) ≤ ((16 : Nat) : Int) ∧ ((16 : Nat) : Int) < ((64 : Nat) : Int)) ∧ (R (Value.int .u32 (kTab.getD 16 0)) ∧ L = L) from fun b => ⟨by decide, hR, rfl⟩)
theorem tb_17 (L : Blks) (R : Value → Prop) (hR : R (.int .u32 (kTab.getD 17 0))) : tbGoal 17 L R :=
  Eq.mpr (by kernel_rfl) (show ∀ b : Nat, ((0 : Int) ≤ ((17 : Nat) : Int) ∧ ((17 : Nat) : Int) < ((64 : Nat) : Int)) ∧ (R (Value.int .u32 (kTab.getD 17 0)) ∧ L = L) from fun b => ⟨by decide, hR, rfl⟩)
theorem tb_18 (L : Blks) (R : Value → Prop) (hR : R (.int .u32 (kTab.getD 18 0))) : tbGoal 18 L R :=
  Eq.mpr (by kernel_rfl) (show ∀ b : Nat, ((0 : Int) ≤ ((18 : Nat) : Int) ∧ ((18 : Nat) : Int) < ((64 : Nat) : Int)) ∧ (R (Value.int .u32 (kTab.getD 18 0)) ∧ L = L) from fun b => ⟨by decide, hR, rfl⟩)
theorem tb_19 (L : Blks) (R : Value → Prop) (hR : R (.int .u32 (kTab.getD 19 0))) : tbGoal 19 L R :=
  Eq.mpr (by kernel_rfl) (show ∀ b : Nat, ((0 : Int) ≤ ((19 : Nat) : Int) ∧ ((19 : Nat) : Int) < ((64 : Nat) : Int)) ∧ (R (Value.int .u32 (kTab.getD 19 0)) ∧ L = L) from fun b => ⟨by decide, hR, rfl⟩)
theorem tb_20 (L : Blks) (R : Value → Prop) (hR : R (.int .u32 (kTab.getD 20 0))) : tbGoal 20 L R :=
  Eq.mpr (by kernel_rfl) (show ∀ b : Nat, ((0 : Int) ≤ ((20 : Nat) : Int) ∧ ((20 : Nat) : Int) < ((64 : Nat) : Int)) ∧ (R (Value.int .u32 (kTab.getD 20 0)) ∧ L = L) from fun b => ⟨by decide, hR, rfl⟩)
theorem tb_21 (L : Blks) (R : Value → Prop) (hR : R (.int .u32 (kTab.getD 21 0))) : tbGoal 21 L R :=
  Eq.mpr (by kernel_rfl) (show ∀ b : Nat, ((0 : Int) ≤ ((21 : Nat) : Int) ∧ ((21 : Nat) : Int) < ((64 : Nat) : Int)) ∧ (R (Value.int .u32 (kTab.getD 21 0)) ∧ L = L) from fun b => ⟨by decide, hR, rfl⟩)
theorem tb_22 (L : Blks) (R : Value → Prop) (hR : R (.int .u32 (kTab.getD 22 0))) : tbGoal 22 L R :=
  Eq.mpr (by kernel_rfl) (show ∀ b : Nat, ((0 : Int) ≤ ((22 : Nat) : Int) ∧ ((22 : Nat) : Int) < ((64 : Nat) : Int)) ∧ (R (Value.int .u32 (kTab.getD 22 0)) ∧ L = L) from fun b => ⟨by decide, hR, rfl⟩)
theorem tb_23 (L : Blks) (R : Value → Prop) (hR : R (.int .u32 (kTab.getD 23 0))) : tbGoal 23 L R :=
  Eq.mpr (by kernel_rfl) (show ∀ b : Nat, ((0 : Int) ≤ ((23 : Nat) : Int) ∧ ((23 : Nat) : Int) < ((64 : Nat) : Int)) ∧ (R (Value.int .u32 (kTab.getD 23 0)) ∧ L = L) from fun b => ⟨by decide, hR, rfl⟩)
theorem tb_24 (L : Blks) (R : Value → Prop) (hR : R (.int .u32 (kTab.getD 24 0))) : tbGoal 24 L R :=
  Eq.mpr (by kernel_rfl) (show ∀ b : Nat, ((0 : Int) ≤ ((24 : Nat) : Int) ∧ ((24 : Nat) : Int) < ((64 : Nat) : Int)) ∧ (R (Value.int .u32 (kTab.getD 24 0)) ∧ L = L) from fun b => ⟨by decide, hR, rfl⟩)
theorem tb_25 (L : Blks) (R : Value → Prop) (hR : R (.int .u32 (kTab.getD 25 0))) : tbGoal 25 L R :=
  Eq.mpr (by kernel_rfl) (show ∀ b : Nat, ((0 : Int) ≤ ((25 : Nat) : Int) ∧ ((25 : Nat) : Int) < ((64 : Nat) : Int)) ∧ (R (Value.int .u32 (kTab.getD 25 0)) ∧ L = L) from fun b => ⟨by decide, hR, rfl⟩)
theorem tb_26 (L : Blks) (R : Value → Prop) (hR : R (.int .u32 (kTab.getD 26 0))) : tbGoal 26 L R :=
  Eq.mpr (by kernel_rfl) (show ∀ b : Nat, ((0 : Int) ≤ ((26 : Nat) : Int) ∧ ((26 : Nat) : Int) < ((64 : Nat) : Int)) ∧ (R (Value.int .u32 (kTab.getD 26 0)) ∧ L = L) from fun b => ⟨by decide, hR, rfl⟩)
theorem tb_27 (L : Blks) (R : Value → Prop) (hR : R (.int .u32 (kTab.getD 27 0))) : tbGoal 27 L R :=
  Eq.mpr (by kernel_rfl) (show ∀ b : Nat, ((0 : Int) ≤ ((27 : Nat) : Int) ∧ ((27 : Nat) : Int) < ((64 : Nat) : Int)) ∧ (R (Value.int .u32 (kTab.getD 27 0)) ∧ L = L) from fun b => ⟨by decide, hR, rfl⟩)
theorem tb_28 (L : Blks) (R : Value → Prop) (hR : R (.int .u32 (kTab.getD 28 0))) : tbGoal 28 L R :=
  Eq.mpr (by kernel_rfl) (show ∀ b : Nat, ((0 : Int) ≤ ((28 : Nat) : Int) ∧ ((28 : Nat) : Int) < ((64 : Nat) : Int)) ∧ (R (Value.int .u32 (kTab.getD 28 0)) ∧ L = L) from fun b => ⟨by decide, hR, rfl⟩)
theorem tb_29 (L : Blks) (R : Value → Prop) (hR : R (.int .u32 (kTab.getD 29 0))) : tbGoal 29 L R :=
  Eq.mpr (by kernel_rfl) (show ∀ b : Nat, ((0 : Int) ≤ ((29 : Nat) : Int) ∧ ((29 : Nat) : Int) < ((64 : Nat) : Int)) ∧ (R (Value.int .u32 (kTab.getD 29 0)) ∧ L = L) from fun b => ⟨by decide, hR, rfl⟩)
theorem tb_30 (L : Blks) (R : Value → Prop) (hR : R (.int .u32 (kTab.getD 30 0))) : tbGoal 30 L R :=
  Eq.mpr (by kernel_rfl) (show ∀ b : Nat, ((0 : Int) ≤ ((30 : Nat) : Int) ∧ ((30 : Nat) : Int) < ((64 : Nat) : Int)) ∧ (R (Value.int .u32 (kTab.getD 30 0)) ∧ L = L) from fun b => ⟨by decide, hR, rfl⟩)
theorem tb_31 (L : Blks) (R : Value → Prop) (hR : R (.int .u32 (kTab.getD 31 0))) : tbGoal 31 L R :=
  Eq.mpr (by kernel_rfl) (show ∀ b : Nat, ((0 : Int) ≤ ((31 : Nat) : Int) ∧ ((31 : Nat) : Int) < ((64 : Nat) : Int)) ∧ (R (Value.int .u32 (kTab.getD 31 0)) ∧ L = L) from fun b => ⟨by decide, hR, rfl⟩)
theorem tb_32 (L : Blks) (R : Value → Prop) (hR : R (.int .u32 (kTab.getD 32 0))) : tbGoal 32 L R :=
  Eq.mpr (by kernel_rfl) (show ∀ b : Nat, ((0 : Int) ≤ ((32 : Nat) : Int) ∧ ((32 : Nat) : Int) < ((64 : Nat) : Int)) ∧ (R (Value.int .u32 (kTab.getD 32 0)) ∧ L = L) from fun b => ⟨by decide, hR, rfl⟩)
theorem tb_33 (L : Blks) (R : Value → Prop) (hR : R (.int .u32 (kTab.getD 33 0))) : tbGoal 33 L R :=
  Eq.mpr (by kernel_rfl) (show ∀ b : Nat, ((0 : Int) ≤ ((33 : Nat) : Int) ∧ ((33 : Nat) : Int) < ((64 : Nat) : Int)) ∧ (R (Value.int .u32 (kTab.getD 33 0)) ∧ L = L) from fun b => ⟨by decide, hR, rfl⟩)
theorem tb_34 (L : Blks) (R : Value → Prop) (hR : R (.int .u32 (kTab.getD 34 0))) : tbGoal 34 L R :=
  Eq.mpr (by kernel_rfl) (show ∀ b : Nat, ((0 : Int) ≤ ((34 : Nat) : Int) ∧ ((34 : Nat) : Int) < ((64 : Nat) : Int)) ∧ (R (Value.int .u32 (kTab.getD 34 0)) ∧ L = L) from fun b => ⟨by decide, hR, rfl⟩)
theorem tb_35 (L : Blks) (R : Value → Prop) (hR : R (.int .u32 (kTab.getD 35 0))) : tbGoal 35 L R :=
  Eq.mpr (by kernel_rfl) (show ∀ b : Nat, ((0 : Int) ≤ ((35 : Nat) : Int) ∧ ((35 : Nat) : Int) < ((64 : Nat) : Int)) ∧ (R (Value.int .u32 (kTab.getD 35 0)) ∧ L = L) from fun b => ⟨by decide, hR, rfl⟩)
theorem tb_36 (L : Blks) (R : Value → Prop) (hR : R (.int .u32 (kTab.getD 36 0))) : tbGoal 36 L R :=
  Eq.mpr (by kernel_rfl) (show ∀ b : Nat, ((0 : Int) ≤ ((36 : Nat) : Int) ∧ ((36 : Nat) : Int) < ((64 : Nat) : Int)) ∧ (R (Value.int .u32 (kTab.getD 36 0)) ∧ L = L) from fun b => ⟨by decide, hR, rfl⟩)
theorem tb_37 (L : Blks) (R : Value → Prop) (hR : R (.int .u32 (kTab.getD 37 0))) : tbGoal 37 L R :=
  Eq.mpr (by kernel_rfl) (show ∀ b : Nat, ((0 : Int) ≤ ((37 : Nat) : Int) ∧ ((37 : Nat) : Int) < ((64 : Nat) : Int)) ∧ (R (Value.int .u32 (kTab.getD 37 0)) ∧ L = L) from fun b => ⟨by decide, hR, rfl⟩)
theorem tb_38 (L : Blks) (R : Value → Prop) (hR : R (.int .u32 (kTab.getD 38 0))) : tbGoal 38 L R :=
  Eq.mpr (by kernel_rfl) (show ∀ b : Nat, ((0 : Int) ≤ ((38 : Nat) : Int) ∧ ((38 : Nat) : Int) < ((64 : Nat) : Int)) ∧ (R (Value.int .u32 (kTab.getD 38 0)) ∧ L = L) from fun b => ⟨by decide, hR, rfl⟩)
theorem tb_39 (L : Blks) (R : Value → Prop) (hR : R (.int .u32 (kTab.getD 39 0))) : tbGoal 39 L R :=
  Eq.mpr (by kernel_rfl) (show ∀ b : Nat, ((0 : Int) ≤ ((39 : Nat) : Int) ∧ ((39 : Nat) : Int) < ((64 : Nat) : Int)) ∧ (R (Value.int .u32 (kTab.getD 39 0)) ∧ L = L) from fun b => ⟨by decide, hR, rfl⟩)
theorem tb_40 (L : Blks) (R : Value → Prop) (hR : R (.int .u32 (kTab.getD 40 0))) : tbGoal 40 L R :=
  Eq.mpr (by kernel_rfl) (show ∀ b : Nat, ((0 : Int) ≤ ((40 : Nat) : Int) ∧ ((40 : Nat) : Int) < ((64 : Nat) : Int)) ∧ (R (Value.int .u32 (kTab.getD 40 0)) ∧ L = L) from fun b => ⟨by decide, hR, rfl⟩)
theorem tb_41 (L : Blks) (R : Value → Prop) (hR : R (.int .u32 (kTab.getD 41 0))) : tbGoal 41 L R :=
  Eq.mpr (by kernel_rfl) (show ∀ b : Nat, ((0 : Int) ≤ ((41 : Nat) : Int) ∧ ((41 : Nat) : Int) < ((64 : Nat) : Int)) ∧ (R (Value.int .u32 (kTab.getD 41 0)) ∧ L = L) from fun b => ⟨by decide, hR, rfl⟩)
theorem tb_42 (L : Blks) (R : Value → Prop) (hR : R (.int .u32 (kTab.getD 42 0))) : tbGoal 42 L R :=
  Eq.mpr (by kernel_rfl) (show ∀ b : Nat, ((0 : Int) ≤ ((42 : Nat) : Int) ∧ ((42 : Nat) : Int) < ((64 : Nat) : Int)) ∧ (R (Value.int .u32 (kTab.getD 42 0)) ∧ L = L) from fun b => ⟨by decide, hR, rfl⟩)
theorem tb_43 (L : Blks) (R : Value → Prop) (hR : R (.int .u32 (kTab.getD 43 0))) : tbGoal 43 L R :=
  Eq.mpr (by kernel_rfl) (show ∀ b : Nat, ((0 : Int) ≤ ((43 : Nat) : Int) ∧ ((43 : Nat) : Int) < ((64 : Nat) : Int)) ∧ (R (Value.int .u32 (kTab.getD 43 0)) ∧ L = L) from fun b => ⟨by decide, hR, rfl⟩)
theorem tb_44 (L : Blks) (R : Value → Prop) (hR : R (.int .u32 (kTab.getD 44 0))) : tbGoal 44 L R :=
  Eq.mpr (by kernel_rfl) (show ∀ b : Nat, ((0 : Int) ≤ ((44 : Nat) : Int) ∧ ((44 : Nat) : Int) < ((64 : Nat) : Int)) ∧ (R (Value.int .u32 (kTab.getD 44 0)) ∧ L = L) from fun b => ⟨by decide, hR, rfl⟩)
theorem tb_45 (L : Blks) (R : Value → Prop) (hR : R (.int .u32 (kTab.getD 45 0))) : tbGoal 45 L R :=
  Eq.mpr (by kernel_rfl) (show ∀ b : Nat, ((0 : Int) ≤ ((45 : Nat) : Int) ∧ ((45 : Nat) : Int) < ((64 : Nat) : Int)) ∧ (R (Value.int .u32 (kTab.getD 45 0)) ∧ L = L) from fun b => ⟨by decide, hR, rfl⟩)
theorem tb_46 (L : Blks) (R : Value → Prop) (hR : R (.int .u32 (kTab.getD 46 0))) : tbGoal 46 L R :=
  Eq.mpr (by kernel_rfl) (show ∀ b : Nat, ((0 : Int) ≤ ((46 : Nat) : Int) ∧ ((46 : Nat) : Int) < ((64 : Nat) : Int)) ∧ (R (Value.int .u32 (kTab.getD 46 0)) ∧ L = L) from fun b => ⟨by decide, hR, rfl⟩)
theorem tb_47 (L : Blks) (R : Value → Prop) (hR : R (.int .u32 (kTab.getD 47 0))) : tbGoal 47 L R :=
  Eq.mpr (by kernel_rfl) (show ∀ b : Nat, ((0 : Int) ≤ ((47 : Nat) : Int) ∧ ((47 : Nat) : Int) < ((64 : Nat) : Int)) ∧ (R (Value.int .u32 (kTab.getD 47 0)) ∧ L = L) from fun b => ⟨by decide, hR, rfl⟩)
theorem tb_48 (L : Blks) (R : Value → Prop) (hR : R (.int .u32 (kTab.getD 48 0))) : tbGoal 48 L R :=
  Eq.mpr (by kernel_rfl) (show ∀ b : Nat, ((0 : Int) ≤ ((48 : Nat) : Int) ∧ ((48 : Nat) : Int) < ((64 : Nat) : Int)) ∧ (R (Value.int .u32 (kTab.getD 48 0)) ∧ L = L) from fun b => ⟨by decide, hR, rfl⟩)
theorem tb_49 (L : Blks) (R : Value → Prop) (hR : R (.int .u32 (kTab.getD 49 0))) : tbGoal 49 L R :=
  Eq.mpr (by kernel_rfl) (show ∀ b : Nat, ((0 : Int) ≤ ((49 : Nat) : Int) ∧ ((49 : Nat) : Int) < ((64 : Nat) : Int)) ∧ (R (Value.int .u32 (kTab.getD 49 0)) ∧ L = L) from fun b => ⟨by decide, hR, rfl⟩)
theorem tb_50 (L : Blks) (R : Value → Prop) (hR : R (.int .u32 (kTab.getD 50 0))) : tbGoal 50 L R :=
  Eq.mpr (by kernel_rfl) (show ∀ b : Nat, ((0 : Int) ≤ ((50 : Nat) : Int) ∧ ((50 : Nat) : Int) < ((64 : Nat) : Int)) ∧ (R (Value.int .u32 (kTab.getD 50 0)) ∧ L = L) from fun b => ⟨by decide, hR, rfl⟩)
theorem tb_51 (L : Blks) (R : Value → Prop) (hR : R (.int .u32 (kTab.getD 51 0))) : tbGoal 51 L R :=
  Eq.mpr (by kernel_rfl) (show ∀ b : Nat, ((0 : Int) ≤ ((51 : Nat) : Int) ∧ ((51 : Nat) : Int) < ((64 : Nat) : Int)) ∧ (R (Value.int .u32 (kTab.getD 51 0)) ∧ L = L) from fun b => ⟨by decide, hR, rfl⟩)
theorem tb_52 (L : Blks) (R : Value → Prop) (hR : R (.int .u32 (kTab.getD 52 0))) : tbGoal 52 L R :=
  Eq.mpr (by kernel_rfl) (show ∀ b : Nat, ((0 : Int) ≤ ((52 : Nat) : Int) ∧ ((52 : Nat) : Int) < ((64 : Nat) : Int)) ∧ (R (Value.int .u32 (kTab.getD 52 0)) ∧ L = L) from fun b => ⟨by decide, hR, rfl⟩)
theorem tb_53 (L : Blks) (R : Value → Prop) (hR : R (.int .u32 (kTab.getD 53 0))) : tbGoal 53 L R :=
  Eq.mpr (by kernel_rfl) (show ∀ b : Nat, ((0 : Int) ≤ ((53 : Nat) : Int) ∧ ((53 : Nat) : Int) < ((64 : Nat) : Int)) ∧ (R (Value.int .u32 (kTab.getD 53 0)) ∧ L = L) from fun b => ⟨by decide, hR, rfl⟩)
theorem tb_54 (L : Blks) (R : Value → Prop) (hR : R (.int .u32 (kTab.getD 54 0))) : tbGoal 54 L R :=
  Eq.mpr (by kernel_rfl) (show ∀ b : Nat, ((0 : Int) ≤ ((54 : Nat) : Int) ∧ ((54 : Nat) : Int) < ((64 : Nat) : Int)) ∧ (R (Value.int .u32 (kTab.getD 54 0)) ∧ L = L) from fun b => ⟨by decide, hR, rfl⟩)
theorem tb_55 (L : Blks) (R : Value → Prop) (hR : R (.int .u32 (kTab.getD 55 0))) : tbGoal 55 L R :=
  Eq.mpr (by kernel_rfl) (show ∀ b : Nat, ((0 : Int) ≤ ((55 : Nat) : Int) ∧ ((55 : Nat) : Int) < ((64 : Nat) : Int)) ∧ (R (Value.int .u32 (kTab.getD 55 0)) ∧ L = L) from fun b => ⟨by decide, hR, rfl⟩)
theorem tb_56 (L : Blks) (R : Value → Prop) (hR : R (.int .u32 (kTab.getD 56 0))) : tbGoal 56 L R :=
  Eq.mpr (by kernel_rfl) (show ∀ b : Nat, ((0 : Int) ≤ ((56 : Nat) : Int) ∧ ((56 : Nat) : Int) < ((64 : Nat) : Int)) ∧ (R (Value.int .u32 (kTab.getD 56 0)) ∧ L = L) from fun b => ⟨by decide, hR, rfl⟩)
theorem tb_57 (L : Blks) (R : Value → Prop) (hR : R (.int .u32 (kTab.getD 57 0))) : tbGoal 57 L R :=
  Eq.mpr (by kernel_rfl) (show ∀ b : Nat, ((0 : Int) ≤ ((57 : Nat) : Int) ∧ ((57 : Nat) : Int) < ((64 : Nat) : Int)) ∧ (R (Value.int .u32 (kTab.getD 57 0)) ∧ L = L) from fun b => ⟨by decide, hR, rfl⟩)
theorem tb_58 (L : Blks) (R : Value → Prop) (hR : R (.int .u32 (kTab.getD 58 0))) : tbGoal 58 L R :=
  Eq.mpr (by kernel_rfl) (show ∀ b : Nat, ((0 : Int) ≤ ((58 : Nat) : Int) ∧ ((58 : Nat) : Int) < ((64 : Nat) : Int)) ∧ (R (Value.int .u32 (kTab.getD 58 0)) ∧ L = L) from fun b => ⟨by decide, hR, rfl⟩)
theorem tb_59 (L : Blks) (R : Value → Prop) (hR : R (.int .u32 (kTab.getD 59 0))) : tbGoal 59 L R :=
  Eq.mpr (by kernel_rfl) (show ∀ b : Nat, ((0 : Int) ≤ ((59 : Nat) : Int) ∧ ((59 : Nat) : Int) < ((64 : Nat) : Int)) ∧ (R (Value.int .u32 (kTab.getD 59 0)) ∧ L = L) from fun b => ⟨by decide, hR, rfl⟩)
theorem tb_60 (L : Blks) (R : Value → Prop) (hR : R (.int .u32 (kTab.getD 60 0))) : tbGoal 60 L R :=
  Eq.mpr (by kernel_rfl) (show ∀ b : Nat, ((0 : Int) ≤ ((60 : Nat) : Int) ∧ ((60 : Nat) : Int) < ((64 : Nat) : Int)) ∧ (R (Value.int .u32 (kTab.getD 60 0)) ∧ L = L) from fun b => ⟨by decide, hR, rfl⟩)
theorem tb_61 (L : Blks) (R : Value → Prop) (hR : R (.int .u32 (kTab.getD 61 0))) : tbGoal 61 L R :=
  Eq.mpr (by kernel_rfl) (show ∀ b : Nat, ((0 : Int) ≤ ((61 : Nat) : Int) ∧ ((61 : Nat) : Int) < ((64 : Nat) : Int)) ∧ (R (Value.int .u32 (kTab.getD 61 0)) ∧ L = L) from fun b => ⟨by decide, hR, rfl⟩)
theorem tb_62 (L : Blks) (R : Value → Prop) (hR : R (.int .u32 (kTab.getD 62 0))) : tbGoal 62 L R :=
  Eq.mpr (by kernel_rfl) (show ∀ b : Nat, ((0 : Int) ≤ ((62 : Nat) : Int) ∧ ((62 : Nat) : Int) < ((64 : Nat) : Int)) ∧ (R (Value.int .u32 (kTab.getD 62 0)) ∧ L = L) from fun b => ⟨by decide, hR, rfl⟩)
theorem tb_63 (L : Blks) (R : Value → Prop) (hR : R (.int .u32 (kTab.getD 63 0))) : tbGoal 63 L R :=
  Eq.mpr (by kernel_rfl) (show ∀ b : Nat, ((0 : Int) ≤ ((63 : Nat) : Int) ∧ ((63 : Nat) : Int) < ((64 : Nat) : Int)) ∧ (R (Value.int .u32 (kTab.getD 63 0)) ∧ L = L) from fun b => ⟨by decide, hR, rfl⟩)
theorem tb_goal (L : Blks) (R : Value → Prop) : ∀ t : Nat, t < 64 → R (.int .u32 (kTab.getD t 0)) → tbGoal t L R
  | 0, _, h => tb_0 L R h
  | 1, _, h => tb_1 L R h
  | 2, _, h => tb_2 L R h
  | 3, _, h => tb_3 L R h
  | 4, _, h => tb_4 L R h
  | 5, _, h => tb_5 L R h
  | 6, _, h => tb_6 L R h
  | 7, _, h => tb_7 L R h
  | 8, _, h => tb_8 L R h
  | 9, _, h => tb_9 L R h
  | 10, _, h => tb_10 L R h
  | 11, _, h => tb_11 L R h
  | 12, _, h => tb_12 L R h
  | 13, _, h => tb_13 L R h
  | 14, _, h => tb_14 L R h
  | 15, _, h => tb_15 L R h
  | 16, _, h => tb_16 L R h
  | 17, _, h => tb_17 L R h
  | 18, _, h => tb_18 L R h
  | 19, _, h => tb_19 L R h
  | 20, _, h => tb_20 L R h
  | 21, _, h => tb_21 L R h
  | 22, _, h => tb_22 L R h
  | 23, _, h => tb_23 L R h
  | 24, _, h => tb_24 L R h
  | 25, _, h => tb_25 L R h
  | 26, _, h => tb_26 L R h
  | 27, _, h => tb_27 L R h
  | 28, _, h => tb_28 L R h
  | 29, _, h => tb_29 L R h
  | 30, _, h => tb_30 L R h
  | 31, _, h => tb_31 L R h
  | 32, _, h => tb_32 L R h
  | 33, _, h => tb_33 L R h
  | 34, _, h => tb_34 L R h
  | 35, _, h => tb_35 L R h
  | 36, _, h => tb_36 L R h
  | 37, _, h => tb_37 L R h
  | 38, _, h => tb_38 L R h
  | 39, _, h => tb_39 L R h
  | 40, _, h => tb_40 L R h
  | 41, _, h => tb_41 L R h
  | 42, _, h => tb_42 L R h
  | 43, _, h => tb_43 L R h
  | 44, _, h => tb_44 L R h
  | 45, _, h => tb_45 L R h
  | 46, _, h => tb_46 L R h
  | 47, _, h => tb_47 L R h
  | 48, _, h => tb_48 L R h
  | 49, _, h => tb_49 L R h
  | 50, _, h => tb_50 L R h
  | 51, _, h => tb_51 L R h
  | 52, _, h => tb_52 L R h
  | 53, _, h => tb_53 L R h
  | 54, _, h => tb_54 L R h
  | 55, _, h => tb_55 L R h
  | 56, _, h => tb_56 L R h
  | 57, _, h => tb_57 L R h
  | 58, _, h => tb_58 L R h
  | 59, _, h => tb_59 L R h
  | 60, _, h => tb_60 L R h
  | 61, _, h => tb_61 L R h
  | 62, _, h => tb_62 L R h
  | 63, _, h => tb_63 L R h
  | n + 64, h, _ => absurd h (by omega)
theorem enters63 : Enters Go.Proofs.Try.prog 63 := ⟨Go.Proofs.Try.f63, Go.Proofs.Try.func63, by kernel_rfl, by kernel_rfl⟩
theorem enters33 : Enters Go.Proofs.Try.prog 33 := ⟨Go.Proofs.Try.f33, Go.Proofs.Try.func33, by kernel_rfl, by kernel_rfl⟩
theorem tab0_sound : SoundT Go.Proofs.Try.prog 63 (readT (fun x : Nat => .val (.int .u32 (kTab.getD x 0))) fun x vs _ => vs = [.int .i64 x] ∧ x < 64) :=
  readT_sound (val := fun x => .int .u32 (kTab.getD x 0)) enters63 (fun a ρ => by simp only [den]) (fun a => by simp) (fun x vs L L' _ h => h) fun x vs L ⟨h1, h2⟩ => by
    subst h1
    exact pure_of_run (args := [.val (.int .i64 x)]) (run_with no_contracts _ _ _ _ _) (fun r => rfl) (tb_goal L (fun v => v = .int .u32 (kTab.getD x 0)) x h2 rfl) fun s h' h => h
theorem tabT_sound : SoundT Go.Proofs.Try.prog 63 tabT := SoundT.imp tab0_sound fun args h K hx => by
  unfold tabT at hx
  split at hx
  · rename_i t
    obtain ⟨⟨h0, h1⟩, hx⟩ := hx
    obtain ⟨n, rfl⟩ : ∃ n : Nat, t = n := ⟨t.toNat, by omega⟩
    exact ⟨n, ⟨rfl, by omega⟩, hx⟩
  · exact hx.elim
theorem rh_sound : ∀ p ∈ [((62 : Nat), tuT), (63, tabT)], SoundT Go.Proofs.Try.prog p.1 p.2 := by
  intro p hp
  simp at hp
  rcases hp with rfl | rfl
  · exact tuT_sound
  · exact tabT_sound
def RhPre (y : Bv) (vs : List Value) (L : Blks) : Prop := vs = [.slice y.o y.l y.c] ∧ BytesAt L y.o y.l y.bs ∧ Octets y.bs ∧ y.l < 1000000
/-- The document's hash. -/
noncomputable def refHashT : Trans := readT (fun y : Bv => .arr .u8 (hashF y.bs)) RhPre
theorem refHashT_sound : SoundT Go.Proofs.Try.prog 33 refHashT :=
  readT_sound (val := fun y => arrV .u8 (hashF y.bs)) enters33 (fun a ρ => by simp only [den, arrV]) (fun a => by simp) (fun y vs L L' h ⟨h1, h2, h3⟩ => ⟨h1, h2.seen h, h3⟩) fun y vs L ⟨h1, h2, h3, h4⟩ => by
    subst h1
    exact pure_of_run (args := [.sl y.o y.l y.c]) (run_with rh_sound _ _ _ _ _) (fun r => rfl) (rh_goal y.o y.l y.c _ L _ _ _ _ _ _ _ _ _ (fun v => v = arrV .u8 (hashF y.bs)) y.bs h2 h3 h4 rfl rfl rfl rfl rfl rfl rfl rfl rfl rfl rfl) fun s h' h => h
end Go.Proofs.Ytpjikjhaljennaa
