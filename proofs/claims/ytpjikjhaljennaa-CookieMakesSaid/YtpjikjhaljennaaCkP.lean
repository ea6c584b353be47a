/- What Make made is opened. -/
import Derived.Test.YtpjikjhaljennaaCkE
set_option maxRecDepth 100000
set_option linter.unusedVariables false
set_option linter.unusedSimpArgs false
namespace Go.Proofs.Ytpjikjhaljennaa
open Go Go.Sx
attribute [local irreducible] Go.Sx.xrun

theorem num_b16 {v : Int} (h : 0 ≤ v ∧ v < 65536) : numF (b16 v) = v := by
  show (0 * 256 + w8 (v.fdiv (2 ^ 8))) * 256 + w8 v = v
  rw [w8_eq, w8_eq, fdiv_pos' v (by decide)]
  have e : (2 : Int) ^ 8 = 256 := by decide
  rw [e]
  omega
theorem num_b32 {v : Int} (h : 0 ≤ v ∧ v < 4294967296) : numF (b32 v) = v := by
  show (((0 * 256 + w8 ((w16 (v.fdiv (2 ^ 16))).fdiv (2 ^ 8))) * 256 + w8 (w16 (v.fdiv (2 ^ 16)))) * 256 + w8 ((w16 v).fdiv (2 ^ 8))) * 256 + w8 (w16 v) = v
  rw [w8_eq, w8_eq, w8_eq, w8_eq, w16_eq, w16_eq, fdiv_pos' v (by decide), fdiv_pos' _ (by decide), fdiv_pos' _ (by decide)]
  have e : (2 : Int) ^ 8 = 256 := by decide
  have e2 : (2 : Int) ^ 16 = 65536 := by decide
  rw [e, e2]
  omega
attribute [local irreducible] sealF
theorem win_words (key : List Int) (x : Ck) : win (ckBytes key x) 0 38 = ckWords x := by kernel_rfl
theorem win_seal (key : List Int) (x : Ck) : win (ckBytes key x) 38 32 = sealF key (ckWords x) := by
  show List.take 32 (sealF key (ckWords x)) = _
  exact List.take_of_length_le (by rw [sealF_len]; exact Nat.le_refl _)
theorem ckOf_bytes {key : List Int} {x : Ck} (h : x.ok) : ckOf (ckBytes key x) = x := by
  obtain ⟨a, b, c, d, e, f, g, hh, i, j, k⟩ := x
  obtain ⟨ha, hb, hc, hd, he, hf, hg, h8, hi, hj, hk⟩ := h
  have e : ckOf (ckBytes key ⟨a, b, c, d, e, f, g, hh, i, j, k⟩) = Ck.mk (numF (b32 a)) (numF (b32 b)) (numF (b32 c)) (numF (b32 d)) (numF (b32 e)) (numF (b16 f)) (numF (b16 g)) (numF [hh]) (numF (b32 i)) (numF (b32 j)) (numF (b32 k)) := by kernel_rfl
  rw [e]
  rw [num_b32 ha, num_b32 hb, num_b32 hc, num_b32 hd, num_b32 he, num_b16 hf, num_b16 hg, num_b32 hi, num_b32 hj, num_b32 hk]
  have : numF [hh] = hh := by simp [numF]
  rw [this]
/-- What Make made is opened while it is fresh. -/
theorem openF_bytes {key : List Int} {x : Ck} (h : x.ok) (now : Int) : openF key (ckBytes key x) now = if 600 < IntKind.wrap .u32 (now - x.i) then (Ck.zero, 91) else (x, 0) := by
  have hl : (ckBytes key x).length = 70 := ckBytes_len key x
  have e25 : numF (win (ckBytes key x) 25 1) = 0 := by
    have : win (ckBytes key x) 25 1 = [0] := by kernel_rfl
    rw [this]
    simp [numF]
  have e26 : numF (win (ckBytes key x) 26 4) = x.i := by
    have := congrArg Ck.i (ckOf_bytes (key := key) h)
    exact this
  unfold openF
  rw [if_neg (by omega), if_neg (by omega), if_neg (by rw [win_words, win_seal]; simp), if_neg (by rw [e25]; simp), e26, ckOf_bytes h]
theorem openF_short {key bs : List Int} {now : Int} (h : bs.length < 70) : openF key bs now = (Ck.zero, 40) := by
  unfold openF
  rw [if_pos h]
structure OrX where
  on : OnX
  c : Ck
  e : Int
def OrPre (y : OrX) (vs : List Value) (L : Blks) : Prop := OpPre y.on vs L ∧ openF y.on.k.bs y.on.b.bs y.on.now = (y.c, y.e)
def RrPre (y : OrX) (vs : List Value) (L : Blks) : Prop := RoPre y.on vs L ∧ openF y.on.k.bs y.on.b.bs y.on.now = (y.c, y.e)
/-- openT with its answers as names. -/
noncomputable def openRT : Trans := readT (fun y : OrX => .tup [.agg y.c.sv, .val (.int .i64 y.e)]) OrPre
noncomputable def refOpenRT : Trans := readT (fun y : OrX => .tup [.agg y.c.sv, .val (.int .i64 y.e)]) RrPre
theorem openRT_sound : SoundT Go.Proofs.Try.prog 37 openRT := SoundT.imp openT_sound fun args h K hx => by
  revert hx
  show (bif noTop args then _ else False) → (bif noTop args then _ else False)
  cases noTop args with
  | false => exact id
  | true =>
    rintro ⟨y, ⟨h1, h2⟩, h3⟩
    refine ⟨y.on, h1, ?_⟩
    simp only [h2]
    exact h3
theorem refOpenRT_sound : SoundT Go.Proofs.Try.prog 40 refOpenRT := SoundT.imp refOpenT_sound fun args h K hx => by
  revert hx
  show (bif noTop args then _ else False) → (bif noTop args then _ else False)
  cases noTop args with
  | false => exact id
  | true =>
    rintro ⟨y, ⟨h1, h2⟩, h3⟩
    refine ⟨y.on, h1, ?_⟩
    simp only [h2]
    exact h3
end Go.Proofs.Ytpjikjhaljennaa
