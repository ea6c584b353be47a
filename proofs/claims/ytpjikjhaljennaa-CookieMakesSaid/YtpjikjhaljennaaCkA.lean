/- Cookies: Make. -/
import Derived.Test.YtpjikjhaljennaaMaM
import Derived.Test.YtpjikjhaljennaaOcB
set_option maxRecDepth 100000
set_option linter.unusedVariables false
set_option linter.unusedSimpArgs false
namespace Go.Proofs.Ytpjikjhaljennaa
open Go Go.Sx
attribute [local irreducible] Go.Sx.xrun

structure Ck where
  a : Int
  b : Int
  c : Int
  d : Int
  e : Int
  f : Int
  g : Int
  h : Int
  i : Int
  j : Int
  k : Int
def Ck.sv (x : Ck) : List SV := [.val (.int .u32 x.a), .val (.int .u32 x.b), .val (.int .u32 x.c), .val (.int .u32 x.d), .val (.int .u32 x.e), .val (.int .u16 x.f), .val (.int .u16 x.g), .val (.int .u8 x.h), .val (.int .u32 x.i), .val (.int .u32 x.j), .val (.int .u32 x.k)]
structure MeX where
  ob : Nat
  wb : Nat
  b : Nat
  base : Nat
  cap : Nat
  sb : Nat
  xs : List Int
  ss : List Int
noncomputable def Ann.me (L : Blks) (cs : List SV) (P8 P12 P17 : List Int → Nat → Prop) (P18 : MeX → MeX → Prop) : FnAnn := ⟨[],
  [(4005004, ⟨Unit, [], fun _ => 0⟩), (4003013, ⟨Unit, [], fun _ => 0⟩),
   (1000008, ⟨MeX, [(fun σ y => ⟨σ.n, (3, .ptr 1 0 0) :: (5, .ptr 2 0 0) :: (6, .bfn 64 [.ptr 2 0 0]) :: keepE σ.env [0], [.chunk L, .own y.ob (.cells 11 cs 74), .own y.wb (.cells 1 [.slc 3 0 20 y.cap] 139), .own y.b (.tab 5 y.base y.cap [.ints .u8 y.xs])]⟩, fun _ y => P8 y.xs y.cap)], fun _ => 0⟩),
   (1000012, ⟨MeX, [(fun σ y => ⟨σ.n, (3, .ptr 1 0 0) :: (5, .ptr 2 0 0) :: (6, .bfn 64 [.ptr 2 0 0]) :: keepE σ.env [0], [.chunk L, .own y.ob (.cells 11 cs 74), .own y.wb (.cells 1 [.slc 3 0 26 y.cap] 139), .own y.b (.tab 5 y.base y.cap [.ints .u8 y.xs])]⟩, fun _ y => P12 y.xs y.cap)], fun _ => 0⟩),
   (1000017, ⟨MeX, [(fun σ y => ⟨σ.n, (5, .ptr 1 0 0) :: keepE σ.env [0], [.chunk L, .own y.wb (.cells 1 [.slc 2 0 38 y.cap] 139), .own y.b (.tab 5 y.base y.cap [.ints .u8 y.xs])]⟩, fun _ y => P17 y.xs y.cap)], fun _ => 0⟩),
   (1000018, ⟨MeX, [(fun σ y => ⟨σ.n, (5, .ptr 1 0 0) :: (11, .ptr 3 0 0) :: keepE σ.env [], [.chunk L, .own y.wb (.cells 1 [.slc 2 0 38 y.cap] 139), .own y.b (.tab 5 y.base y.cap [.ints .u8 y.xs]), .own y.sb (.tab 65 0 32 [.ints .u8 y.ss])]⟩, fun x0 y => P18 x0 y)], fun _ => 0⟩)]⟩
def BvPre1 (y : Bv) (vs : List Value) (L : Blks) : Prop := BvPre y vs L ∧ y.o ≠ none
noncomputable def clone1T : Trans := new1T 5 (.ints .u8) BvPre1 fun y => y.bs
noncomputable def meGoal (ko : Option Addr) (kl kc : Nat) (x : Ck) (L : Blks) (P8 P12 P17 : List Int → Nat → Prop) (P18 : MeX → MeX → Prop) (R : Value → Blks → Prop) : Prop :=
  xrun Go.Proofs.Try.prog [(30, sealT), (44, clone1T), (64, u32T), (65, u16T), (66, u8T)] [(36, Ann.me L x.sv P8 P12 P17 P18)] [] 9 [] 36 [.sl ko kl kc, .agg x.sv] [.chunk L] fun s h => R (den (locs h) s) (owned (locs h) h)
theorem clone1T_sound : SoundT Go.Proofs.Try.prog 44 clone1T := new1T_sound cloneT_sound fun x vs L ⟨h1, h2⟩ => ⟨h1, h2⟩
/-- A cookie's words. -/
def ckW5 (x : Ck) : List Int := b32 x.a ++ b32 x.b ++ b32 x.c ++ b32 x.d ++ b32 x.e
def ckW8 (x : Ck) : List Int := ckW5 x ++ b16 x.f ++ b16 x.g ++ [x.h] ++ [0]
def ckWords (x : Ck) : List Int := ckW8 x ++ b32 x.i ++ b32 x.j ++ b32 x.k
def ckBytes (key : List Int) (x : Ck) : List Int := ckWords x ++ sealF key (ckWords x)
theorem ckWords_len (x : Ck) : (ckWords x).length = 38 := rfl
theorem ckBytes_len (key : List Int) (x : Ck) : (ckBytes key x).length = 70 := by unfold ckBytes; rw [List.length_append, sealF_len, ckWords_len]
def meP (ws : List Int) (n : Nat) (xs : List Int) (cap : Nat) : Prop := xs.take n = ws ∧ n ≤ cap ∧ xs.length = cap
theorem set_h32' {h : List Int} (hl : h.length = 32) : List.take 0 (List.replicate 32 (0 : Int)) ++ h ++ List.drop h.length (List.replicate 32 0) = h := by rw [hl]; simp
def meP18 (ws ss : List Int) (_ y : MeX) : Prop := meP ws 38 y.xs y.cap ∧ y.ss = ss
theorem wr_w2 : IntKind.wrap .i64 2 = 2 := by rw [IntKind.wrap_i64]; rfl
theorem wr_w3 : IntKind.wrap .i64 3 = 3 := by rw [IntKind.wrap_i64]; rfl
theorem wr_w4 : IntKind.wrap .i64 4 = 4 := by rw [IntKind.wrap_i64]; rfl
theorem wr_w5 : IntKind.wrap .i64 5 = 5 := by rw [IntKind.wrap_i64]; rfl
attribute [local irreducible] sealF b32 b16
set_option maxHeartbeats 1000000 in
theorem me_goal (ko : Option Addr) (kl kc : Nat) (x : Ck) (L : Blks) (P8 P12 P17 : List Int → Nat → Prop) (P18 : MeX → MeX → Prop) (R : Value → Blks → Prop) (key : List Int) (hkey : BytesAt L ko kl key) (hkl : kl < 900000)
    (e8 : P8 = meP (ckW5 x) 20) (e12 : P12 = meP (ckW8 x) 26) (e17 : P17 = meP (ckWords x) 38) (e18 : P18 = meP18 (ckWords x) (sealF key (ckWords x)))
    (hR : ∀ b base cap xs G, xs.length = cap → 70 ≤ cap → xs.take 70 = ckBytes key x → R (.slice (some ⟨b, base, none⟩) 70 cap) (L ++ (G ++ [(b, .tab 5 base cap [.ints .u8 xs])]))) : meGoal ko kl kc x L P8 P12 P17 P18 R :=
  Eq.mpr (by kernel_rfl) (show
  ∀ (b b_1 : Nat), ∃ (x0 : MeX), (∀ (b_2 : Nat), ((0 : Int) < (↑(5 : Nat) : Int) → ((0 : Int) ≤ (0 : Int) ∧ (0 : Int) < (↑(5 : Nat) : Int)) ∧ ∀ (b_3 base cap : Nat) (xs : List Int), List.length xs = cap → (4 : Nat) ≤ cap → List.take (4 : Nat) xs = b32 x.1 → (IntKind.wrap IntKind.i64 ((0 : Int) + (1 : Int)) < (↑(5 : Nat) : Int) → ((0 : Int) ≤ IntKind.wrap IntKind.i64 ((0 : Int) + (1 : Int)) ∧ IntKind.wrap IntKind.i64 ((0 : Int) + (1 : Int)) < (↑(5 : Nat) : Int)) ∧ ((4 : Nat) ≤ cap ∧ cap = cap ∧ (8 : Nat) < (1000000000 : Nat)) ∧ ∀ (b_4 base cap' : Nat) (xs_1 : List Int),
  List.length xs_1 = cap' → (8 : Nat) ≤ cap' → List.take (8 : Nat) xs_1 = List.take (4 : Nat) xs ++ b32 x.2 → (IntKind.wrap IntKind.i64 (IntKind.wrap IntKind.i64 ((0 : Int) + (1 : Int)) + (1 : Int)) < (↑(5 : Nat) : Int) → ((0 : Int) ≤ IntKind.wrap IntKind.i64 (IntKind.wrap IntKind.i64 ((0 : Int) + (1 : Int)) + (1 : Int)) ∧ IntKind.wrap IntKind.i64 (IntKind.wrap IntKind.i64 ((0 : Int) + (1 : Int)) + (1 : Int)) < (↑(5 : Nat) : Int)) ∧ ((8 : Nat) ≤ cap' ∧ cap' = cap' ∧ (12 : Nat) < (1000000000 : Nat)) ∧ ∀ (b_5 base cap' : Nat) (xs : List Int), List.length xs = cap' → (12 : Nat) ≤ cap' →
  List.take (12 : Nat) xs = List.take (8 : Nat) xs_1 ++ b32 x.3 → (IntKind.wrap IntKind.i64 (IntKind.wrap IntKind.i64 (IntKind.wrap IntKind.i64 ((0 : Int) + (1 : Int)) + (1 : Int)) + (1 : Int)) < (↑(5 : Nat) : Int) → ((0 : Int) ≤ IntKind.wrap IntKind.i64 (IntKind.wrap IntKind.i64 (IntKind.wrap IntKind.i64 ((0 : Int) + (1 : Int)) + (1 : Int)) + (1 : Int)) ∧ IntKind.wrap IntKind.i64 (IntKind.wrap IntKind.i64 (IntKind.wrap IntKind.i64 ((0 : Int) + (1 : Int)) + (1 : Int)) + (1 : Int)) < (↑(5 : Nat) : Int)) ∧ ((12 : Nat) ≤ cap' ∧ cap' = cap' ∧ (16 : Nat) < (1000000000 : Nat)) ∧
  ∀ (b_6 base cap' : Nat) (xs_2 : List Int), List.length xs_2 = cap' → (16 : Nat) ≤ cap' → List.take (16 : Nat) xs_2 = List.take (12 : Nat) xs ++ b32 x.4 → (IntKind.wrap IntKind.i64 (IntKind.wrap IntKind.i64 (IntKind.wrap IntKind.i64 (IntKind.wrap IntKind.i64 ((0 : Int) + (1 : Int)) + (1 : Int)) + (1 : Int)) + (1 : Int)) < (↑(5 : Nat) : Int) → ((0 : Int) ≤ IntKind.wrap IntKind.i64 (IntKind.wrap IntKind.i64 (IntKind.wrap IntKind.i64 (IntKind.wrap IntKind.i64 ((0 : Int) + (1 : Int)) + (1 : Int)) + (1 : Int)) + (1 : Int)) ∧ IntKind.wrap IntKind.i64 (IntKind.wrap IntKind.i64
  (IntKind.wrap IntKind.i64 (IntKind.wrap IntKind.i64 ((0 : Int) + (1 : Int)) + (1 : Int)) + (1 : Int)) + (1 : Int)) < (↑(5 : Nat) : Int)) ∧ ((16 : Nat) ≤ cap' ∧ cap' = cap' ∧ (20 : Nat) < (1000000000 : Nat)) ∧ ∀ (b_7 base cap' : Nat) (xs : List Int), List.length xs = cap' → (20 : Nat) ≤ cap' → List.take (20 : Nat) xs = List.take (16 : Nat) xs_2 ++ b32 x.5 → (IntKind.wrap IntKind.i64 (IntKind.wrap IntKind.i64 (IntKind.wrap IntKind.i64 (IntKind.wrap IntKind.i64 (IntKind.wrap IntKind.i64 ((0 : Int) + (1 : Int)) + (1 : Int)) + (1 : Int)) + (1 : Int)) + (1 : Int)) < (↑(5 : Nat) : Int) →
  ((0 : Int) ≤ IntKind.wrap IntKind.i64 (IntKind.wrap IntKind.i64 (IntKind.wrap IntKind.i64 (IntKind.wrap IntKind.i64 (IntKind.wrap IntKind.i64 ((0 : Int) + (1 : Int)) + (1 : Int)) + (1 : Int)) + (1 : Int)) + (1 : Int)) ∧ IntKind.wrap IntKind.i64 (IntKind.wrap IntKind.i64 (IntKind.wrap IntKind.i64 (IntKind.wrap IntKind.i64 (IntKind.wrap IntKind.i64 ((0 : Int) + (1 : Int)) + (1 : Int)) + (1 : Int)) + (1 : Int)) + (1 : Int)) < (↑(5 : Nat) : Int)) ∧ False) ∧ (¬IntKind.wrap IntKind.i64 (IntKind.wrap IntKind.i64 (IntKind.wrap IntKind.i64 (IntKind.wrap IntKind.i64
  (IntKind.wrap IntKind.i64 ((0 : Int) + (1 : Int)) + (1 : Int)) + (1 : Int)) + (1 : Int)) + (1 : Int)) < (↑(5 : Nat) : Int) → ∃ (y : MeX), ((((0 : Nat) = (0 : Nat) ∧ (0 : Nat) = (0 : Nat)) ∧ ((0 : Nat) = (0 : Nat) ∧ (0 : Nat) = (0 : Nat)) ∧ (((0 : Nat) = (0 : Nat) ∧ (0 : Nat) = (0 : Nat)) ∧ True) ∧ (ko = ko ∧ kl = kl ∧ kc = kc) ∧ True) ∧ L = L ∧ (b = y.1 ∧ x.1 = x.1 ∧ x.2 = x.2 ∧ x.3 = x.3 ∧ x.4 = x.4 ∧ x.5 = x.5 ∧ x.6 = x.6 ∧ x.7 = x.7 ∧ x.8 = x.8 ∧ x.9 = x.9 ∧ x.10 = x.10 ∧ x.11 = x.11 ∧ True) ∧ (b_1 = y.2 ∧ ((0 : Nat) = (0 : Nat) ∧ (20 : Nat) = (20 : Nat) ∧ cap' = y.5) ∧ True) ∧
  (b_7 = y.3 ∧ base = y.4 ∧ cap' = y.5 ∧ xs = y.7 ∧ True) ∧ True) ∧ P8 y.7 y.5)) ∧ (¬IntKind.wrap IntKind.i64 (IntKind.wrap IntKind.i64 (IntKind.wrap IntKind.i64 (IntKind.wrap IntKind.i64 ((0 : Int) + (1 : Int)) + (1 : Int)) + (1 : Int)) + (1 : Int)) < (↑(5 : Nat) : Int) → False)) ∧ (¬IntKind.wrap IntKind.i64 (IntKind.wrap IntKind.i64 (IntKind.wrap IntKind.i64 ((0 : Int) + (1 : Int)) + (1 : Int)) + (1 : Int)) < (↑(5 : Nat) : Int) → False)) ∧ (¬IntKind.wrap IntKind.i64 (IntKind.wrap IntKind.i64 ((0 : Int) + (1 : Int)) + (1 : Int)) < (↑(5 : Nat) : Int) → False)) ∧
  (¬IntKind.wrap IntKind.i64 ((0 : Int) + (1 : Int)) < (↑(5 : Nat) : Int) → False)) ∧ (¬(0 : Int) < (↑(5 : Nat) : Int) → False)) ∧ ∀ (x_1 : MeX), P8 x_1.7 x_1.5 → ((20 : Nat) ≤ x_1.5 ∧ x_1.5 = x_1.5 ∧ (22 : Nat) < (1000000000 : Nat)) ∧ ∀ (b base cap' : Nat) (xs : List Int), List.length xs = cap' → (22 : Nat) ≤ cap' → List.take (22 : Nat) xs = List.take (20 : Nat) x_1.7 ++ b16 x.6 → ((22 : Nat) ≤ cap' ∧ cap' = cap' ∧ (24 : Nat) < (1000000000 : Nat)) ∧ ∀ (b base cap' : Nat) (xs_1 : List Int), List.length xs_1 = cap' → (24 : Nat) ≤ cap' →
  List.take (24 : Nat) xs_1 = List.take (22 : Nat) xs ++ b16 x.7 → ((24 : Nat) ≤ cap' ∧ cap' = cap' ∧ (25 : Nat) < (1000000000 : Nat)) ∧ ∀ (b base cap' : Nat) (xs : List Int), List.length xs = cap' → (25 : Nat) ≤ cap' → List.take (25 : Nat) xs = List.take (24 : Nat) xs_1 ++ [x.8] → ∃ (x0 : MeX), (((25 : Nat) ≤ cap' ∧ cap' = cap' ∧ (26 : Nat) < (1000000000 : Nat)) ∧ ∀ (b base cap' : Nat) (xs_2 : List Int), List.length xs_2 = cap' → (26 : Nat) ≤ cap' → List.take (26 : Nat) xs_2 = List.take (25 : Nat) xs ++ [(0 : Int)] → ∃ (y : MeX), ((((0 : Nat) = (0 : Nat) ∧ (0 : Nat) = (0 : Nat)) ∧
  ((0 : Nat) = (0 : Nat) ∧ (0 : Nat) = (0 : Nat)) ∧ (((0 : Nat) = (0 : Nat) ∧ (0 : Nat) = (0 : Nat)) ∧ True) ∧ (ko = ko ∧ kl = kl ∧ kc = kc) ∧ True) ∧ L = L ∧ (x_1.1 = y.1 ∧ x.1 = x.1 ∧ x.2 = x.2 ∧ x.3 = x.3 ∧ x.4 = x.4 ∧ x.5 = x.5 ∧ x.6 = x.6 ∧ x.7 = x.7 ∧ x.8 = x.8 ∧ x.9 = x.9 ∧ x.10 = x.10 ∧ x.11 = x.11 ∧ True) ∧ (x_1.2 = y.2 ∧ ((0 : Nat) = (0 : Nat) ∧ (26 : Nat) = (26 : Nat) ∧ cap' = y.5) ∧ True) ∧ (b = y.3 ∧ base = y.4 ∧ cap' = y.5 ∧ xs_2 = y.7 ∧ True) ∧ True) ∧ P12 y.7 y.5) ∧ ∀ (x_2 : MeX), P12 x_2.7 x_2.5 → ∃ (x0 : MeX), (∀ (b : Nat), ((0 : Int) < (↑(3 : Nat) : Int) →
  ((0 : Int) ≤ (0 : Int) ∧ (0 : Int) < (↑(3 : Nat) : Int)) ∧ ((26 : Nat) ≤ x_2.5 ∧ x_2.5 = x_2.5 ∧ (30 : Nat) < (1000000000 : Nat)) ∧ ∀ (b base cap' : Nat) (xs : List Int), List.length xs = cap' → (30 : Nat) ≤ cap' → List.take (30 : Nat) xs = List.take (26 : Nat) x_2.7 ++ b32 x.9 → (IntKind.wrap IntKind.i64 ((0 : Int) + (1 : Int)) < (↑(3 : Nat) : Int) → ((0 : Int) ≤ IntKind.wrap IntKind.i64 ((0 : Int) + (1 : Int)) ∧ IntKind.wrap IntKind.i64 ((0 : Int) + (1 : Int)) < (↑(3 : Nat) : Int)) ∧ ((30 : Nat) ≤ cap' ∧ cap' = cap' ∧ (34 : Nat) < (1000000000 : Nat)) ∧
  ∀ (b base cap' : Nat) (xs_2 : List Int), List.length xs_2 = cap' → (34 : Nat) ≤ cap' → List.take (34 : Nat) xs_2 = List.take (30 : Nat) xs ++ b32 x.10 → (IntKind.wrap IntKind.i64 (IntKind.wrap IntKind.i64 ((0 : Int) + (1 : Int)) + (1 : Int)) < (↑(3 : Nat) : Int) → ((0 : Int) ≤ IntKind.wrap IntKind.i64 (IntKind.wrap IntKind.i64 ((0 : Int) + (1 : Int)) + (1 : Int)) ∧ IntKind.wrap IntKind.i64 (IntKind.wrap IntKind.i64 ((0 : Int) + (1 : Int)) + (1 : Int)) < (↑(3 : Nat) : Int)) ∧ ((34 : Nat) ≤ cap' ∧ cap' = cap' ∧ (38 : Nat) < (1000000000 : Nat)) ∧ ∀ (b base cap' : Nat) (xs : List Int),
  List.length xs = cap' → (38 : Nat) ≤ cap' → List.take (38 : Nat) xs = List.take (34 : Nat) xs_2 ++ b32 x.11 → (IntKind.wrap IntKind.i64 (IntKind.wrap IntKind.i64 (IntKind.wrap IntKind.i64 ((0 : Int) + (1 : Int)) + (1 : Int)) + (1 : Int)) < (↑(3 : Nat) : Int) → ((0 : Int) ≤ IntKind.wrap IntKind.i64 (IntKind.wrap IntKind.i64 (IntKind.wrap IntKind.i64 ((0 : Int) + (1 : Int)) + (1 : Int)) + (1 : Int)) ∧ IntKind.wrap IntKind.i64 (IntKind.wrap IntKind.i64 (IntKind.wrap IntKind.i64 ((0 : Int) + (1 : Int)) + (1 : Int)) + (1 : Int)) < (↑(3 : Nat) : Int)) ∧ False) ∧ (¬IntKind.wrap IntKind.i64
  (IntKind.wrap IntKind.i64 (IntKind.wrap IntKind.i64 ((0 : Int) + (1 : Int)) + (1 : Int)) + (1 : Int)) < (↑(3 : Nat) : Int) → ∃ (y : MeX), ((((0 : Nat) = (0 : Nat) ∧ (0 : Nat) = (0 : Nat)) ∧ (ko = ko ∧ kl = kl ∧ kc = kc) ∧ True) ∧ L = L ∧ (x_2.2 = y.2 ∧ ((0 : Nat) = (0 : Nat) ∧ (38 : Nat) = (38 : Nat) ∧ cap' = y.5) ∧ True) ∧ (b = y.3 ∧ base = y.4 ∧ cap' = y.5 ∧ xs = y.7 ∧ True) ∧ True) ∧ P17 y.7 y.5)) ∧ (¬IntKind.wrap IntKind.i64 (IntKind.wrap IntKind.i64 ((0 : Int) + (1 : Int)) + (1 : Int)) < (↑(3 : Nat) : Int) → False)) ∧
  (¬IntKind.wrap IntKind.i64 ((0 : Int) + (1 : Int)) < (↑(3 : Nat) : Int) → False)) ∧ (¬(0 : Int) < (↑(3 : Nat) : Int) → False)) ∧ ∀ (x : MeX), P17 x.7 x.5 → ∃ (x0 : MeX), (∃ (x_3 : Bv), BvPre1 x_3 [Value.slice (Option.some { block := x.3, off := x.4 * (1 : Nat) }) (38 : Nat) x.5] (L ++ [(x.2, Blk.cells [Value.slice (Option.some { block := x.3, off := x.4 * (1 : Nat) }) (38 : Nat) x.5] (139 : Go.TypeId)), (x.3, Blk.tab (5 : Go.TypeId) x.4 x.5 [Col.ints IntKind.u8 x.7])] ++ []) ∧ ∀ (b base cap : Nat) (xs : List Int), List.length xs = cap → List.length x_3.4 ≤ cap →
  List.take (List.length x_3.4) xs = x_3.4 → ∀ (b_2 : Nat), ∃ (x_4 : SlX), SealPre x_4 [Value.slice ko kl kc, Value.slice (Option.some { block := b_2, off := (0 : Nat) * (1 : Nat) }) (1 : Nat) (1 : Nat)] (L ++ [(x.2, Blk.cells [Value.slice (Option.some { block := x.3, off := x.4 * (1 : Nat) }) (38 : Nat) x.5] (139 : Go.TypeId)), (x.3, Blk.tab (5 : Go.TypeId) x.4 x.5 [Col.ints IntKind.u8 x.7]), (b, Blk.tab (5 : Go.TypeId) base cap [Col.ints IntKind.u8 xs]), (b_2, Blk.cells [Value.slice (Option.some { block := b, off := base * (1 : Nat) }) (List.length x_3.4) cap] (30 : Nat))] ++ []) ∧
  ∀ (b : Nat), (List.length (sealF x_4.4 (List.flatten x_4.5.5)) = (32 : Nat) ∧ (0 : Nat) + List.length (sealF x_4.4 (List.flatten x_4.5.5)) ≤ (32 : Nat)) ∧ ∃ (y : MeX), ((((0 : Nat) = (0 : Nat) ∧ (0 : Nat) = (0 : Nat)) ∧ ((0 : Nat) = (0 : Nat) ∧ (0 : Nat) = (0 : Nat)) ∧ True) ∧ L = L ∧ (x.2 = y.2 ∧ ((0 : Nat) = (0 : Nat) ∧ (38 : Nat) = (38 : Nat) ∧ x.5 = y.5) ∧ True) ∧ (x.3 = y.3 ∧ x.4 = y.4 ∧ x.5 = y.5 ∧ x.7 = y.7 ∧ True) ∧ (b = y.6 ∧ (0 : Nat) = (0 : Nat) ∧ (32 : Nat) = (32 : Nat) ∧ List.take (0 : Nat) (List.replicate (32 : Nat) (0 : Int)) ++ sealF x_4.4 (List.flatten x_4.5.5) ++ List.drop
  ((0 : Nat) + List.length (sealF x_4.4 (List.flatten x_4.5.5))) (List.replicate (32 : Nat) (0 : Int)) = y.8 ∧ True) ∧ True) ∧ P18 x0 y) ∧ ∀ (x : MeX), P18 x0 x → (32 : Nat) ≤ (32 : Nat) ∧ ((38 : Nat) ≤ x.5 ∧ (0 : Nat) + x.5 ≤ x.5) ∧ (38 : Nat) ≤ x.5 ∧ (70 : Nat) ≤ (140737488355328 : Nat) ∧ ∀ (b base cap' : Nat), (70 : Nat) ≤ cap' → ((70 : Nat) ≤ x.5 → cap' = x.5) → ∀ (sp : List Int), List.length sp = cap' - (70 : Nat) → ∃ (x_3 : Bv), BvPre1 x_3 [Value.slice (Option.some { block := b, off := base * (1 : Nat) }) (70 : Nat) cap'] (L ++ [(x.2,
  Blk.cells [Value.slice (Option.some { block := b, off := base * (1 : Nat) }) (70 : Nat) cap'] (139 : Go.TypeId)), (x.6, Blk.tab (65 : Go.TypeId) (0 : Nat) (32 : Nat) [Col.ints IntKind.u8 x.8]), (b, Blk.tab (5 : Nat) base cap' [Col.ints IntKind.u8 (List.take (38 : Nat) x.7 ++ List.take (32 : Nat) x.8 ++ sp)])] ++ []) ∧ ∀ (b_2 base_1 cap : Nat) (xs : List Int), List.length xs = cap → List.length x_3.4 ≤ cap → List.take (List.length x_3.4) xs = x_3.4 → R (Value.slice (Option.some { block := b_2, off := base_1 * (1 : Nat) }) (List.length x_3.4) cap) (L ++ [(x.2, Blk.cells
  [Value.slice (Option.some { block := b, off := base * (1 : Nat) }) (70 : Nat) cap'] (139 : Go.TypeId)), (x.6, Blk.tab (65 : Go.TypeId) (0 : Nat) (32 : Nat) [Col.ints IntKind.u8 x.8]), (b, Blk.tab (5 : Nat) base cap' [Col.ints IntKind.u8 (List.take (38 : Nat) x.7 ++ List.take (32 : Nat) x.8 ++ sp)]), (b_2, Blk.tab (5 : Go.TypeId) base_1 cap [Col.ints IntKind.u8 xs])]) from by
  subst e8 e12 e17 e18
  simp only [eq_self, true_and, and_true, false_and, and_false, or_false, false_or, and_self, Nat.zero_add, Nat.add_zero, Nat.sub_zero, Nat.zero_mul, Nat.mul_one, Int.toNat_natCast, cond_true, cond_false, forall_const, implies_true, Nat.beq_refl, ne_eq, not_false_eq_true, not_true_eq_false, Classical.not_not, List.cons.injEq, List.append_nil, List.nil_append, Go.Value.int.injEq, Go.Value.bool.injEq, Go.Value.slice.injEq, Nat.le_refl, Nat.zero_le, Go.Sx.one_int, Go.Sx.one_bool, Go.Sx.one_slice, Go.Sx.one_ptr, Go.Sx.one_map, Int.cast_ofNat_Int, reduceCtorEq, Nat.reduceLeDiff, Nat.reduceMul, Nat.reduceAdd, Nat.reduceSub, Nat.reduceEqDiff, Int.reduceLE, Int.reduceLT, Int.reduceEq, Int.reduceAdd, Int.reduceSub, Int.reduceNeg, Int.reduceMul, Nat.reduceBEq, wrap1, wr_w2, wr_w3, wr_w4, wr_w5, true_implies, false_implies]
  have hkw := ckWords_len x
  have hsl := sealF_len key (ckWords x)
  intro b b1
  refine ⟨⟨0, 0, 0, 0, 0, 0, [], []⟩, ?_, fun y hy => ?_⟩
  · intro c1 xs1 g1 g2 g3
    refine ⟨⟨g2, by omega⟩, fun c2 xs2 k1 k2 k3 => ⟨⟨k2, by omega⟩, fun c3 xs3 m1 m2 m3 => ⟨⟨m2, by omega⟩, fun c4 xs4 n1 n2 n3 => ⟨⟨n2, by omega⟩, fun b5 base5 c5 xs5 p1 p2 p3 => ⟨⟨b, b1, b5, base5, c5, 0, xs5, []⟩, ⟨rfl, ⟨rfl, rfl⟩, rfl, rfl, rfl, rfl⟩, ?_, p2, p1⟩⟩⟩⟩⟩
    show xs5.take 20 = ckW5 x
    rw [p3, n3, m3, k3, g3]
    rfl
  · obtain ⟨y1, y2, y3⟩ := hy
    refine ⟨⟨y2, by omega⟩, fun c1 xs1 g1 g2 g3 => ⟨⟨g2, by omega⟩, fun c2 xs2 k1 k2 k3 => ⟨⟨k2, by omega⟩, fun c3 xs3 m1 m2 m3 => ⟨⟨0, 0, 0, 0, 0, 0, [], []⟩, ⟨⟨m2, by omega⟩, fun b4 base4 c4 xs4 n1 n2 n3 => ⟨⟨y.ob, y.wb, b4, base4, c4, 0, xs4, []⟩, ⟨rfl, ⟨rfl, rfl⟩, rfl, rfl, rfl, rfl⟩, ?_, n2, n1⟩⟩, fun z hz => ?_⟩⟩⟩⟩
    · show xs4.take 26 = ckW8 x
      rw [n3, m3, k3, g3, y1]
      rfl
    · obtain ⟨z1, z2, z3⟩ := hz
      refine ⟨⟨0, 0, 0, 0, 0, 0, [], []⟩, ⟨⟨z2, by omega⟩, fun c1 xs1 g1 g2 g3 => ⟨⟨g2, by omega⟩, fun c2 xs2 k1 k2 k3 => ⟨⟨k2, by omega⟩, fun b3 base3 c3 xs3 m1 m2 m3 => ⟨⟨0, z.wb, b3, base3, c3, 0, xs3, []⟩, ⟨⟨rfl, rfl⟩, rfl, rfl, rfl, rfl⟩, ?_, m2, m1⟩⟩⟩⟩, fun u hu => ?_⟩
      · show xs3.take 38 = ckWords x
        rw [m3, k3, g3, z1]
        rfl
      · obtain ⟨u1, u2, u3⟩ := hu
        have eW : [ckWords x].flatten = ckWords x := by simp
        refine ⟨⟨0, 0, 0, 0, 0, 0, [], []⟩, ⟨⟨some ⟨u.b, u.base, none⟩, 38, u.cap, ckWords x⟩, ⟨⟨rfl, BytesAt.tab (t := 5) (List.mem_append_right _ (by repeat (first | exact List.Mem.head _ | apply List.Mem.tail))) hkw u2 u1, by show 38 < _; omega⟩, by simp⟩, ?_⟩, fun v hv => ?_⟩
        · simp only [hkw]
          intro b4 base4 c4 xs4 n1 n2 n3 b5
          refine ⟨⟨ko, kl, kc, key, ⟨b5, 0, 1, 1, [ckWords x]⟩⟩, ⟨rfl, hkey.seen (seen_app _ _), hkl, PartsAt.one (List.mem_append_right _ (by repeat (first | exact List.Mem.head _ | apply List.Mem.tail))) (BytesAt.tab (t := 5) (List.mem_append_right _ (by repeat (first | exact List.Mem.head _ | apply List.Mem.tail))) hkw n2 n3), (by show 0 < 1 ∧ 1 < 900000; decide), by show List.length (List.flatten _) < _; rw [eW, hkw]; decide⟩, ?_⟩
          simp only [eW, set_h32' hsl]
          exact fun b6 => ⟨⟨hsl, by omega⟩, ⟨0, u.wb, u.b, u.base, u.cap, b6, u.xs, _⟩, ⟨⟨rfl, rfl⟩, ⟨rfl, rfl, rfl, rfl⟩, rfl, rfl⟩, ⟨u1, u2, u3⟩, rfl⟩
        · obtain ⟨⟨v1, v2, v3⟩, v4⟩ := hv
          refine ⟨v2, v2, fun b4 base4 c4 hc4 hc5 sp hs => ?_⟩
          have e32 : List.take 32 v.ss = sealF key (ckWords x) := by rw [v4]; exact List.take_of_length_le (by omega)
          have eB : (ckWords x ++ sealF key (ckWords x) ++ sp).take 70 = ckBytes key x := List.take_left' (ckBytes_len key x)
          have hb70 := ckBytes_len key x
          rw [v1, e32]
          refine ⟨⟨some ⟨b4, base4, none⟩, 70, c4, ckBytes key x⟩, ⟨⟨rfl, BytesAt.tab (t := 5) (List.mem_append_right _ (by repeat (first | exact List.Mem.head _ | apply List.Mem.tail))) hb70 hc4 eB, by show 70 < _; omega⟩, by simp⟩, ?_⟩
          simp only [hb70]
          intro b5 base5 c5 xs5 n1 n2 n3
          exact hR b5 base5 c5 xs5 [_, _, _] n1 n2 n3)
theorem me_sound : ∀ p ∈ [((30 : Nat), sealT), (44, clone1T), (64, u32T), (65, u16T), (66, u8T)], SoundT Go.Proofs.Try.prog p.1 p.2 := by
  intro p hp
  simp at hp
  rcases hp with rfl | rfl | rfl | rfl | rfl
  · exact sealT_sound
  · exact clone1T_sound
  · exact u32T_sound
  · exact u16T_sound
  · exact u8T_sound
theorem enters36 : Enters Go.Proofs.Try.prog 36 := ⟨Go.Proofs.Try.f36, Go.Proofs.Try.func36, by kernel_rfl, by kernel_rfl⟩
structure MkX where
  ko : Option Addr
  kl : Nat
  kc : Nat
  key : List Int
  x : Ck
def Ck.val (x : Ck) : Value := .agg #[.int .u32 x.a, .int .u32 x.b, .int .u32 x.c, .int .u32 x.d, .int .u32 x.e, .int .u16 x.f, .int .u16 x.g, .int .u8 x.h, .int .u32 x.i, .int .u32 x.j, .int .u32 x.k]
def MakePre (y : MkX) (vs : List Value) (L : Blks) : Prop := vs = [.slice y.ko y.kl y.kc, y.x.val] ∧ BytesAt L y.ko y.kl y.key ∧ y.kl < 900000
/-- A cookie's bytes. -/
noncomputable def makeT : Trans := new1T 5 (.ints .u8) MakePre fun y => ckBytes y.key y.x
theorem makeT_sound : SoundT Go.Proofs.Try.prog 36 makeT :=
  new1T_sound (nl := fun _ => False) (pre := MakePre) (newT_sound enters36 (fun y vs L L' h ⟨h1, h2, h3⟩ => ⟨h1, h2.seen h, h3⟩) fun y vs L ⟨h1, h2, h3⟩ => by
    subst h1
    have hl := ckBytes_len y.key y.x
    refine triple_of_run (R := NewR 5 (.ints .u8) False (ckBytes y.key y.x) L) (h := [.chunk L]) (args := [.sl y.ko y.kl y.kc, .agg y.x.sv]) (run_with me_sound _ _ _ _ _) (fun r => rfl) (fun r => by simp [owned, Ent.blocks]) (by simp)
      (me_goal y.ko y.kl y.kc y.x L _ _ _ _ _ y.key h2 h3 rfl rfl rfl rfl fun b base cap xs G r1 r2 r3 => .inr ⟨id, b, base, cap, xs, G, by rw [hl], r1, by rw [hl]; exact r2, by rw [hl]; exact r3, ?_⟩)
    rw [← List.append_assoc]
    exact List.perm_append_comm (l₂ := [_])) fun x vs L h => ⟨h, id⟩
end Go.Proofs.Ytpjikjhaljennaa
