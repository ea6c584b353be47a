/- Words: equal forms of what hashes do. -/
import Derived.Test.YtpjikjhaljennaaMaI
set_option maxRecDepth 100000
set_option linter.unusedVariables false
set_option linter.unusedSimpArgs false
namespace Go.Proofs.Ytpjikjhaljennaa
open Go Go.Sx
attribute [local irreducible] Go.Sx.xrun

theorem wrap_u32a (x : Int) : IntKind.wrap .u32 x = x % 4294967296 := by simp [IntKind.wrap, IntKind.signed, IntKind.bits]
theorem ofInt_wrap32 (a : Int) : BitVec.ofInt 32 (IntKind.wrap .u32 a) = BitVec.ofInt 32 a := by
  apply BitVec.eq_of_toInt_eq
  rw [BitVec.toInt_ofInt, BitVec.toInt_ofInt, wrap_u32a]
  exact Int.emod_bmod a (2 ^ 32)
theorem ofInt_nat32 (x : BitVec 32) : BitVec.ofInt 32 (x.toNat : Int) = x := by simp
theorem ofInt_iand (a b : Int) : BitVec.ofInt 32 (iand .u32 a b) = BitVec.ofInt 32 a &&& BitVec.ofInt 32 b := by
  unfold iand
  rw [ofInt_wrap32]
  exact ofInt_nat32 _
theorem ofInt_ior (a b : Int) : BitVec.ofInt 32 (ior .u32 a b) = BitVec.ofInt 32 a ||| BitVec.ofInt 32 b := by
  unfold ior
  rw [ofInt_wrap32]
  exact ofInt_nat32 _
theorem ofInt_ixor (a b : Int) : BitVec.ofInt 32 (ixor .u32 a b) = BitVec.ofInt 32 a ^^^ BitVec.ofInt 32 b := by
  unfold ixor
  rw [ofInt_wrap32]
  exact ofInt_nat32 _
theorem ior_u32 (a b : Int) : ior .u32 a b = IntKind.wrap .u32 (BitVec.ofInt 32 a ||| BitVec.ofInt 32 b).toNat := rfl
theorem ixor_u32 (a b : Int) : ixor .u32 a b = IntKind.wrap .u32 (BitVec.ofInt 32 a ^^^ BitVec.ofInt 32 b).toNat := rfl
theorem ofInt_not32 (e : Int) : BitVec.ofInt 32 (4294967295 - e) = BitVec.ofInt 32 4294967295 ^^^ BitVec.ofInt 32 e := by
  have h : (4294967295 : Int) - e = 4294967295 + -e := by omega
  have ha : BitVec.ofInt 32 4294967295 = BitVec.allOnes 32 := rfl
  rw [h, BitVec.ofInt_add, BitVec.ofInt_neg, ha, BitVec.allOnes_xor, ← BitVec.allOnes_sub_eq_not, BitVec.sub_eq_add_neg]
theorem ch_is (e f g : Int) : ior .u32 (iand .u32 e f) (iand .u32 (IntKind.wrap .u32 (4294967295 - e)) g) = chF e f g := by
  unfold chF
  rw [ior_u32, ixor_u32, ofInt_iand, ofInt_iand, ofInt_iand, ofInt_wrap32, ofInt_not32, ofInt_ixor]
  have ha : BitVec.ofInt 32 4294967295 = BitVec.allOnes 32 := rfl
  rw [ha, BitVec.allOnes_xor]
  congr 3
  apply BitVec.eq_of_getLsbD_eq
  intro i hi
  simp only [BitVec.getLsbD_or, BitVec.getLsbD_and, BitVec.getLsbD_xor, BitVec.getLsbD_not, hi, decide_true, Bool.true_and]
  cases (BitVec.ofInt 32 e).getLsbD i <;> simp
theorem maj_is (a b c : Int) : ior .u32 (ior .u32 (iand .u32 a b) (iand .u32 a c)) (iand .u32 b c) = majF a b c := by
  unfold majF
  rw [ior_u32, ixor_u32, ofInt_iand, ofInt_ior, ofInt_ixor, ofInt_iand, ofInt_iand]
  congr 3
  apply BitVec.eq_of_getLsbD_eq
  intro i hi
  simp only [BitVec.getLsbD_or, BitVec.getLsbD_and, BitVec.getLsbD_xor]
  cases (BitVec.ofInt 32 a).getLsbD i <;> cases (BitVec.ofInt 32 b).getLsbD i <;> cases (BitVec.ofInt 32 c).getLsbD i <;> rfl
/-- An or of numbers that do not meet. -/
theorem ior_add (k a b : Nat) (hb : b < 2 ^ k) (hs : 2 ^ k * a + b < 4294967296) : ior .u32 ((2 ^ k * a : Nat) : Int) (b : Int) = ((2 ^ k * a + b : Nat) : Int) := by
  have h1 : (BitVec.ofInt 32 ((2 ^ k * a : Nat) : Int) ||| BitVec.ofInt 32 (b : Int)).toNat = 2 ^ k * a ||| b := by
    rw [BitVec.ofInt_natCast, BitVec.ofInt_natCast, BitVec.toNat_or, BitVec.toNat_ofNat, BitVec.toNat_ofNat, Nat.mod_eq_of_lt (by omega), Nat.mod_eq_of_lt (by omega)]
  rw [ior_u32, h1, ← Nat.two_pow_add_eq_or_of_lt hb]
  rw [wrap_u32a]
  omega
theorem w32_nat {n : Nat} (h : n < 4294967296) : w32 (n : Int) = n := by
  unfold w32
  rw [wrap_u32a]
  omega
/-- A word of four bytes, step by step. -/
def partW (bs : List Int) (t : Nat) : Nat → Int
  | 0 => 0
  | j + 1 => w32 (w32 (256 * partW bs t j) + w32 (bs.getD (4 * t + j) 0))
def Octets (bs : List Int) : Prop := ∀ x ∈ bs, 0 ≤ x ∧ x < 256
theorem octet_get {bs : List Int} (h : Octets bs) (i : Nat) : ∃ n : Nat, n < 256 ∧ bs.getD i 0 = (n : Int) := by
  rw [List.getD_eq_getElem?_getD]
  cases hg : bs[i]? with
  | none => exact ⟨0, by omega, rfl⟩
  | some x =>
    have := h x (List.mem_of_getElem? hg)
    exact ⟨x.toNat, by omega, by simp only [Option.getD_some]; omega⟩
theorem word_is {bs : List Int} (h : Octets bs) (t : Nat) : partW bs t 4 = wordF bs t := by
  obtain ⟨a, ha, ea⟩ := octet_get h (4 * t)
  obtain ⟨b, hb, eb⟩ := octet_get h (4 * t + 1)
  obtain ⟨c, hc, ec⟩ := octet_get h (4 * t + 2)
  obtain ⟨d, hd, ed⟩ := octet_get h (4 * t + 3)
  have p1 : partW bs t 4 = ((((a * 256 + b) * 256 + c) * 256 + d : Nat) : Int) := by
    simp only [partW, Nat.add_zero, ea, eb, ec, ed]
    rw [w32_nat (n := a) (by omega), w32_nat (n := b) (by omega), w32_nat (n := c) (by omega), w32_nat (n := d) (by omega)]
    have e0 : w32 (w32 (256 * 0) + (a : Int)) = (a : Int) := by
      have : w32 (256 * 0) = ((0 : Nat) : Int) := rfl
      rw [this, ← Int.natCast_add, Nat.zero_add, w32_nat (by omega)]
    rw [e0]
    have e1 : w32 (w32 (256 * (a : Int)) + (b : Int)) = ((a * 256 + b : Nat) : Int) := by
      have : w32 (256 * (a : Int)) = ((a * 256 : Nat) : Int) := by rw [show (256 * (a : Int)) = ((a * 256 : Nat) : Int) by omega, w32_nat (by omega)]
      rw [this, ← Int.natCast_add, w32_nat (by omega)]
    rw [e1]
    have e2 : w32 (w32 (256 * ((a * 256 + b : Nat) : Int)) + (c : Int)) = (((a * 256 + b) * 256 + c : Nat) : Int) := by
      have : w32 (256 * ((a * 256 + b : Nat) : Int)) = (((a * 256 + b) * 256 : Nat) : Int) := by rw [show (256 * ((a * 256 + b : Nat) : Int)) = (((a * 256 + b) * 256 : Nat) : Int) by omega, w32_nat (by omega)]
      rw [this, ← Int.natCast_add, w32_nat (by omega)]
    rw [e2]
    have : w32 (256 * (((a * 256 + b) * 256 + c : Nat) : Int)) = ((((a * 256 + b) * 256 + c) * 256 : Nat) : Int) := by rw [show (256 * (((a * 256 + b) * 256 + c : Nat) : Int)) = ((((a * 256 + b) * 256 + c) * 256 : Nat) : Int) by omega, w32_nat (by omega)]
    rw [this, ← Int.natCast_add, w32_nat (by omega)]
  rw [p1]
  unfold wordF
  rw [ea, eb, ec, ed, w32_nat (n := a) (by omega), w32_nat (n := b) (by omega), w32_nat (n := c) (by omega), w32_nat (n := d) (by omega)]
  have f1 : w32 ((a : Int) * 2 ^ 24) = ((2 ^ 24 * a : Nat) : Int) := by rw [show (a : Int) * 2 ^ 24 = ((2 ^ 24 * a : Nat) : Int) by omega, w32_nat (by omega)]
  have f2 : w32 ((b : Int) * 2 ^ 16) = ((2 ^ 16 * b : Nat) : Int) := by rw [show (b : Int) * 2 ^ 16 = ((2 ^ 16 * b : Nat) : Int) by omega, w32_nat (by omega)]
  have f3 : w32 ((c : Int) * 2 ^ 8) = ((2 ^ 8 * c : Nat) : Int) := by rw [show (c : Int) * 2 ^ 8 = ((2 ^ 8 * c : Nat) : Int) by omega, w32_nat (by omega)]
  rw [f1, f2, f3, ior_add 24 a (2 ^ 16 * b) (by omega) (by omega)]
  rw [show 2 ^ 24 * a + 2 ^ 16 * b = 2 ^ 16 * (2 ^ 8 * a + b) by omega, ior_add 16 (2 ^ 8 * a + b) (2 ^ 8 * c) (by omega) (by omega)]
  rw [show 2 ^ 16 * (2 ^ 8 * a + b) + 2 ^ 8 * c = 2 ^ 8 * (2 ^ 16 * a + 2 ^ 8 * b + c) by omega, ior_add 8 (2 ^ 16 * a + 2 ^ 8 * b + c) d (by omega) (by omega)]
  congr 1
  omega
end Go.Proofs.Ytpjikjhaljennaa
