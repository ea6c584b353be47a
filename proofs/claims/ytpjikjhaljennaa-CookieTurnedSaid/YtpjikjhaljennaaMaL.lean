/- ref.Seal: its run. -/
import Derived.Test.YtpjikjhaljennaaMaT
set_option maxRecDepth 100000
set_option linter.unusedVariables false
set_option linter.unusedSimpArgs false
namespace Go.Proofs.Ytpjikjhaljennaa
open Go Go.Sx
attribute [local irreducible] Go.Sx.xrun

structure RsX where
  ob : Nat
  kb : Nat
  ib : Nat
  ibase : Nat
  icap : Nat
  ub : Nat
  ubase : Nat
  ucap : Nat
  i : Nat
  xs : List Int
  us : List Int
  vs : List Int
noncomputable def Ann.rs (L : Blks) (kl : Nat) (P5 P9 : Nat → List Int → Prop) (PK : List Int → Prop) (P14 : RsX → RsX → Prop) (P19 P20 : RsX → RsX → Prop) : FnAnn := ⟨[],
  [(5, ⟨RsX, [(fun σ y => ⟨σ.n, (7, .val (.int .i64 y.i)) :: keepE σ.env [0, 1, 4, 5, 6], Ann.setY σ.heap 2 y.xs⟩, fun _ y => P5 y.i y.xs)], fun y => 32 - y.i⟩),
   (9, ⟨RsX, [(fun σ y => ⟨σ.n, (8, .val (.int .i64 y.i)) :: keepE σ.env [0, 1, 4, 5], Ann.setY σ.heap 2 y.xs⟩, fun _ y => P9 y.i y.xs)], fun y => kl - y.i⟩),
   (1000012, ⟨RsX, [(fun σ y => ⟨σ.n, (4, .ptr 1 0 0) :: (5, .ptr 2 0 0) :: keepE σ.env [1], [.chunk L, .own y.ob (.tab 65 0 32 [.ints .u8 (List.replicate 32 0)]), .own y.kb (.tab 134 0 64 [.ints .u8 y.xs])]⟩, fun _ y => PK y.xs)], fun _ => 0⟩),
   (14, ⟨RsX, [(fun σ y => ⟨σ.n, keepE σ.env [1, 4, 5, 9, 10, 11], σ.heap⟩, fun x0 y => y.i = 0),
     (fun σ y => ⟨σ.n, (11, .val (.int .i64 y.i)) :: (9, .slc 3 0 y.i y.icap) :: (10, .slc 4 0 y.i y.ucap) :: keepE σ.env [1, 4, 5], [.chunk L, .own y.ob (.tab 65 0 32 [.ints .u8 (List.replicate 32 0)]), .own y.kb (.tab 134 0 64 [.ints .u8 y.xs]), .own y.ib (.tab 5 y.ibase y.icap [.ints .u8 y.us]), .own y.ub (.tab 5 y.ubase y.ucap [.ints .u8 y.vs])]⟩, fun x0 y => P14 x0 y)], fun y => 64 - y.i⟩),
   (1000019, ⟨RsX, [(fun σ y => ⟨σ.n, (4, .ptr 1 0 0) :: (12, .ptr 2 0 0) :: (10, .slc 3 0 64 y.ucap) :: keepE σ.env [], [.chunk L, .own y.ob (.tab 65 0 32 [.ints .u8 (List.replicate 32 0)]), .own y.kb (.tab 65 0 32 [.ints .u8 y.xs]), .own y.ub (.tab 5 y.ubase y.ucap [.ints .u8 y.vs])]⟩, fun x0 y => P19 x0 y)], fun _ => 0⟩),
   (20, ⟨RsX, [(fun σ y => ⟨σ.n, (13, .val (.int .i64 y.i)) :: (10, .slc 3 0 (64 + y.i) y.ucap) :: keepE σ.env [4, 12], [.chunk L, .own y.ob (.tab 65 0 32 [.ints .u8 (List.replicate 32 0)]), .own y.kb (.tab 65 0 32 [.ints .u8 y.xs]), .own y.ub (.tab 5 y.ubase y.ucap [.ints .u8 y.vs])]⟩, fun x0 y => P20 x0 y)], fun y => 32 - y.i⟩)]⟩
noncomputable def rsGoal (ko : Option Addr) (kl kc : Nat) (mo : Option Addr) (ml mc : Nat) (L : Blks) (P5 P9 : Nat → List Int → Prop) (PK : List Int → Prop) (P14 : RsX → RsX → Prop) (P19 P20 : RsX → RsX → Prop) (R : Value → Prop) : Prop :=
  xrun Go.Proofs.Try.prog [(33, refHashT)] [(32, Ann.rs L kl P5 P9 PK P14 P19 P20)] [] 9 [] 32 [.sl ko kl kc, .sl mo ml mc] [.chunk L] fun s h => R (den (locs h) s) ∧ headIs h L
theorem app_one {us P sp : List Int} {i c' : Nat} {v : Int} (h : us.take i = P) (hi : i ≤ us.length) (hc : i + 1 ≤ c') (hs : sp.length = c' - (i + 1)) : (us.take i ++ [v] ++ sp).length = c' ∧ (us.take i ++ [v] ++ sp).take (i + 1) = P ++ [v] := by
  have hA : (us.take i ++ [v]).length = i + 1 := by simp; omega
  refine ⟨by rw [List.length_append, hA, hs]; omega, ?_⟩
  rw [List.take_left' hA, h]
theorem xorB_succ {K : List Int} {i : Nat} (z : Int) (h : i < K.length) : xorB z (K.take (i + 1)) = xorB z (K.take i) ++ [ixor .u8 (K.getD i 0) z] := by
  rw [List.take_succ_eq_append_getElem h]
  unfold xorB
  rw [List.map_append]
  simp [List.getD_eq_getElem?_getD, List.getElem?_eq_getElem h]
theorem take_succ_getD {K : List Int} {i : Nat} (h : i < K.length) : K.take (i + 1) = K.take i ++ [K.getD i 0] := by
  rw [List.take_succ_eq_append_getElem h]
  simp [List.getD_eq_getElem?_getD, List.getElem?_eq_getElem h]
theorem wrap_u8_r (x : Int) : 0 ≤ IntKind.wrap .u8 x ∧ IntKind.wrap .u8 x < 256 := by
  have : IntKind.wrap .u8 x = x % 256 := by simp [IntKind.wrap, IntKind.signed, IntKind.bits]
  omega
theorem octets_xor (z : Int) (K : List Int) : Octets (xorB z K) := fun x hx => by
  obtain ⟨y, -, rfl⟩ := List.mem_map.1 hx
  exact wrap_u8_r _
theorem octets_hash (bs : List Int) : Octets (hashF bs) := fun x hx => by
  unfold hashF at hx
  obtain ⟨y, -, rfl⟩ := List.mem_map.1 hx
  exact wrap_u8_r _
theorem octets_app {a b : List Int} (ha : Octets a) (hb : Octets b) : Octets (a ++ b) := fun x hx => by
  rcases List.mem_append.1 hx with h | h
  · exact ha x h
  · exact hb x h
def rsP5 (hk : List Int) (i : Nat) (xs : List Int) : Prop := i ≤ 32 ∧ xs = hk.take i ++ List.replicate (64 - i) 0
def rsP9 (key : List Int) (i : Nat) (xs : List Int) : Prop := i ≤ key.length ∧ xs = key.take i ++ List.replicate (64 - i) 0
def rsPK (K : List Int) (xs : List Int) : Prop := xs = K
def rsP14 (K : List Int) (_ y : RsX) : Prop := y.i ≤ 64 ∧ y.xs = K ∧ (y.us.length = y.icap ∧ y.i ≤ y.icap ∧ y.us.take y.i = xorB 54 (K.take y.i)) ∧ (y.vs.length = y.ucap ∧ y.i ≤ y.ucap ∧ y.vs.take y.i = xorB 92 (K.take y.i))
def rsP19 (K hin : List Int) (_ y : RsX) : Prop := y.xs = hin ∧ y.vs.length = y.ucap ∧ 64 ≤ y.ucap ∧ y.vs.take 64 = xorB 92 K
def rsP20 (K hin : List Int) (_ y : RsX) : Prop := y.i ≤ 32 ∧ y.xs = hin ∧ y.vs.length = y.ucap ∧ 64 + y.i ≤ y.ucap ∧ y.vs.take (64 + y.i) = xorB 92 K ++ hin.take y.i
theorem rs_set {hk : List Int} {i : Nat} {xs : List Int} {v : Int} (hx : xs = hk.take i ++ List.replicate (64 - i) 0) (hi : i < hk.length) (h64 : i < 64) (hv : v = hk.getD i 0) : xs.set i v = hk.take (i + 1) ++ List.replicate (64 - (i + 1)) 0 := by
  rw [hx, set_app' (by simp; omega) h64, hv, take_succ_getD hi]
attribute [local irreducible] hashF ixor
set_option maxHeartbeats 2000000 in
theorem rs_goal (ko : Option Addr) (kl kc : Nat) (mo : Option Addr) (ml mc : Nat) (L : Blks) (P5 P9 : Nat → List Int → Prop) (PK : List Int → Prop) (P14 : RsX → RsX → Prop) (P19 P20 : RsX → RsX → Prop) (R : Value → Prop) (key ms K hin : List Int)
    (hkey : BytesAt L ko kl key) (hok : Octets key) (hkl : kl < 900000) (hms : BytesAt L mo ml ms) (hom : Octets ms) (hml : ml < 900000) (eK : K = padK key) (eh : hin = hashF (xorB 54 K ++ ms))
    (e5 : P5 = rsP5 (hashF key)) (e9 : P9 = rsP9 key) (ek : PK = rsPK K) (e14 : P14 = rsP14 K) (e19 : P19 = rsP19 K hin) (e20 : P20 = rsP20 K hin) (hR : R (arrV .u8 (sealF key ms))) :
    rsGoal ko kl kc mo ml mc L P5 P9 PK P14 P19 P20 R :=
  Eq.mpr (by kernel_rfl) (show
  ∀ (b b_1 : Nat), ∃ (x0 : RsX), (((64 : Int) < (↑kl : Int) → ∃ (x : Bv), RhPre x [Value.slice ko kl kc] (L ++ [(b, Blk.tab (65 : Nat) (0 : Nat) (32 : Nat) [Col.ints IntKind.u8 (List.replicate (32 : Nat) (0 : Int))]), (b_1, Blk.tab (134 : Nat) (0 : Nat) (64 : Nat) [Col.ints IntKind.u8 (List.replicate (64 : Nat) (0 : Int))])] ++ []) ∧ ∀ (b_2 : Nat), (List.length (hashF x.4) = (32 : Nat) ∧ (0 : Nat) + List.length (hashF x.4) ≤ (32 : Nat)) ∧ ∃ (x0 : RsX), ((((0 : Int) = (↑x0.9 : Int) ∧ (ko = ko ∧ kl = kl ∧ kc = kc) ∧ (mo = mo ∧ ml = ml ∧ mc = mc) ∧
  ((0 : Nat) = (0 : Nat) ∧ (0 : Nat) = (0 : Nat)) ∧ ((0 : Nat) = (0 : Nat) ∧ (0 : Nat) = (0 : Nat)) ∧ ((0 : Nat) = (0 : Nat) ∧ (0 : Nat) = (0 : Nat)) ∧ True) ∧ L = L ∧ (b = b ∧ (0 : Nat) = (0 : Nat) ∧ (32 : Nat) = (32 : Nat) ∧ List.replicate (32 : Nat) (0 : Int) = List.replicate (32 : Nat) (0 : Int) ∧ True) ∧ (b_1 = b_1 ∧ (0 : Nat) = (0 : Nat) ∧ (64 : Nat) = (64 : Nat) ∧ List.replicate (64 : Nat) (0 : Int) = x0.10 ∧ True) ∧ (b_2 = b_2 ∧ (0 : Nat) = (0 : Nat) ∧ (32 : Nat) = (32 : Nat) ∧ List.take (0 : Nat) (List.replicate (32 : Nat) (0 : Int)) ++ hashF x.4 ++
  List.drop ((0 : Nat) + List.length (hashF x.4)) (List.replicate (32 : Nat) (0 : Int)) = List.take (0 : Nat) (List.replicate (32 : Nat) (0 : Int)) ++ hashF x.4 ++ List.drop ((0 : Nat) + List.length (hashF x.4)) (List.replicate (32 : Nat) (0 : Int)) ∧ True) ∧ True) ∧ P5 x0.9 x0.10) ∧ ∀ (x_1 : RsX), P5 x_1.9 x_1.10 → ((↑x_1.9 : Int) < (32 : Int) → ((0 : Int) ≤ (↑x_1.9 : Int) ∧ (↑x_1.9 : Int) < (↑(32 : Nat) : Int)) ∧ (0 : Nat) + x_1.9 < (32 : Nat) ∧ ((0 : Int) ≤ (↑x_1.9 : Int) ∧ (↑x_1.9 : Int) < (↑(64 : Nat) : Int)) ∧ (0 : Nat) + x_1.9 < (64 : Nat) ∧ ∃ (y : RsX),
  (32 : Nat) - y.9 < (32 : Nat) - x_1.9 ∧ ((IntKind.wrap IntKind.i64 ((↑x_1.9 : Int) + (1 : Int)) = (↑y.9 : Int) ∧ (ko = ko ∧ kl = kl ∧ kc = kc) ∧ (mo = mo ∧ ml = ml ∧ mc = mc) ∧ ((0 : Nat) = (0 : Nat) ∧ (0 : Nat) = (0 : Nat)) ∧ ((0 : Nat) = (0 : Nat) ∧ (0 : Nat) = (0 : Nat)) ∧ ((0 : Nat) = (0 : Nat) ∧ (0 : Nat) = (0 : Nat)) ∧ True) ∧ L = L ∧ (b = b ∧ (0 : Nat) = (0 : Nat) ∧ (32 : Nat) = (32 : Nat) ∧ List.replicate (32 : Nat) (0 : Int) = List.replicate (32 : Nat) (0 : Int) ∧ True) ∧ (b_1 = b_1 ∧ (0 : Nat) = (0 : Nat) ∧ (64 : Nat) = (64 : Nat) ∧ List.set x_1.10 ((0 : Nat) + x_1.9) (List.getD
  (List.take (0 : Nat) (List.replicate (32 : Nat) (0 : Int)) ++ hashF x.4 ++ List.drop ((0 : Nat) + List.length (hashF x.4)) (List.replicate (32 : Nat) (0 : Int))) ((0 : Nat) + x_1.9) (0 : Int)) = y.10 ∧ True) ∧ (b_2 = b_2 ∧ (0 : Nat) = (0 : Nat) ∧ (32 : Nat) = (32 : Nat) ∧ List.take (0 : Nat) (List.replicate (32 : Nat) (0 : Int)) ++ hashF x.4 ++ List.drop ((0 : Nat) + List.length (hashF x.4)) (List.replicate (32 : Nat) (0 : Int)) = List.take (0 : Nat) (List.replicate (32 : Nat) (0 : Int)) ++ hashF x.4 ++ List.drop ((0 : Nat) + List.length (hashF x.4)) (List.replicate (32 : Nat) (0 : Int)) ∧
  True) ∧ True) ∧ P5 y.9 y.10) ∧ (¬(↑x_1.9 : Int) < (32 : Int) → ∃ (y : RsX), ((((0 : Nat) = (0 : Nat) ∧ (0 : Nat) = (0 : Nat)) ∧ ((0 : Nat) = (0 : Nat) ∧ (0 : Nat) = (0 : Nat)) ∧ (mo = mo ∧ ml = ml ∧ mc = mc) ∧ True) ∧ L = L ∧ (b = y.1 ∧ (0 : Nat) = (0 : Nat) ∧ (32 : Nat) = (32 : Nat) ∧ List.replicate (32 : Nat) (0 : Int) = List.replicate (32 : Nat) (0 : Int) ∧ True) ∧ (b_1 = y.2 ∧ (0 : Nat) = (0 : Nat) ∧ (64 : Nat) = (64 : Nat) ∧ x_1.10 = y.10 ∧ True) ∧ True) ∧ PK y.10)) ∧ (¬(64 : Int) < (↑kl : Int) → ∃ (x0 : RsX), ((((0 : Int) = (↑x0.9 : Int) ∧
  (ko = ko ∧ kl = kl ∧ kc = kc) ∧ (mo = mo ∧ ml = ml ∧ mc = mc) ∧ ((0 : Nat) = (0 : Nat) ∧ (0 : Nat) = (0 : Nat)) ∧ ((0 : Nat) = (0 : Nat) ∧ (0 : Nat) = (0 : Nat)) ∧ True) ∧ L = L ∧ (b = b ∧ (0 : Nat) = (0 : Nat) ∧ (32 : Nat) = (32 : Nat) ∧ List.replicate (32 : Nat) (0 : Int) = List.replicate (32 : Nat) (0 : Int) ∧ True) ∧ (b_1 = b_1 ∧ (0 : Nat) = (0 : Nat) ∧ (64 : Nat) = (64 : Nat) ∧ List.replicate (64 : Nat) (0 : Int) = x0.10 ∧ True) ∧ True) ∧ P9 x0.9 x0.10) ∧ ∀ (x : RsX), P9 x.9 x.10 → ((↑x.9 : Int) < (↑kl : Int) → ((0 : Int) ≤ (↑x.9 : Int) ∧ (↑x.9 : Int) < (↑kl : Int)) ∧ ∃ (b_2 : Nat),
  ∃ (x0 : Nat), ko = Option.some { block := b_2, off := x0 } ∧ ∃ (n : Int), rawCell L b_2 (x0 + x.9 * (1 : Nat)) (Value.int IntKind.u8 n) ∧ ((0 : Int) ≤ (↑x.9 : Int) ∧ (↑x.9 : Int) < (↑(64 : Nat) : Int)) ∧ (0 : Nat) + x.9 < (64 : Nat) ∧ ∃ (y : RsX), kl - y.9 < kl - x.9 ∧ ((IntKind.wrap IntKind.i64 ((↑x.9 : Int) + (1 : Int)) = (↑y.9 : Int) ∧ (ko = ko ∧ kl = kl ∧ kc = kc) ∧ (mo = mo ∧ ml = ml ∧ mc = mc) ∧ ((0 : Nat) = (0 : Nat) ∧ (0 : Nat) = (0 : Nat)) ∧ ((0 : Nat) = (0 : Nat) ∧ (0 : Nat) = (0 : Nat)) ∧ True) ∧ L = L ∧
  (b = b ∧ (0 : Nat) = (0 : Nat) ∧ (32 : Nat) = (32 : Nat) ∧ List.replicate (32 : Nat) (0 : Int) = List.replicate (32 : Nat) (0 : Int) ∧ True) ∧ (b_1 = b_1 ∧ (0 : Nat) = (0 : Nat) ∧ (64 : Nat) = (64 : Nat) ∧ List.set x.10 ((0 : Nat) + x.9) n = y.10 ∧ True) ∧ True) ∧ P9 y.9 y.10) ∧ (¬(↑x.9 : Int) < (↑kl : Int) → ∃ (y : RsX), ((((0 : Nat) = (0 : Nat) ∧ (0 : Nat) = (0 : Nat)) ∧ ((0 : Nat) = (0 : Nat) ∧ (0 : Nat) = (0 : Nat)) ∧ (mo = mo ∧ ml = ml ∧ mc = mc) ∧ True) ∧ L = L ∧
  (b = y.1 ∧ (0 : Nat) = (0 : Nat) ∧ (32 : Nat) = (32 : Nat) ∧ List.replicate (32 : Nat) (0 : Int) = List.replicate (32 : Nat) (0 : Int) ∧ True) ∧ (b_1 = y.2 ∧ (0 : Nat) = (0 : Nat) ∧ (64 : Nat) = (64 : Nat) ∧ x.10 = y.10 ∧ True) ∧ True) ∧ PK y.10))) ∧ ∀ (x : RsX), PK x.10 → ∃ (x0 : RsX), ((((mo = mo ∧ ml = ml ∧ mc = mc) ∧ ((0 : Nat) = (0 : Nat) ∧ (0 : Nat) = (0 : Nat)) ∧ ((0 : Nat) = (0 : Nat) ∧ (0 : Nat) = (0 : Nat)) ∧ Value.slice Option.none (0 : Nat) (0 : Nat) = Value.slice Option.none (0 : Nat) (0 : Nat) ∧
  Value.slice Option.none (0 : Nat) (0 : Nat) = Value.slice Option.none (0 : Nat) (0 : Nat) ∧ (0 : Int) = (0 : Int) ∧ True) ∧ L = L ∧ (x.1 = x.1 ∧ (0 : Nat) = (0 : Nat) ∧ (32 : Nat) = (32 : Nat) ∧ List.replicate (32 : Nat) (0 : Int) = List.replicate (32 : Nat) (0 : Int) ∧ True) ∧ (x.2 = x.2 ∧ (0 : Nat) = (0 : Nat) ∧ (64 : Nat) = (64 : Nat) ∧ x.10 = x.10 ∧ True) ∧ True) ∧ x0.9 = (0 : Nat) ∨ (((0 : Int) = (↑x0.9 : Int) ∧ False ∧ False ∧ (mo = mo ∧ ml = ml ∧ mc = mc) ∧ ((0 : Nat) = (0 : Nat) ∧ (0 : Nat) = (0 : Nat)) ∧ ((0 : Nat) = (0 : Nat) ∧ (0 : Nat) = (0 : Nat)) ∧ True) ∧ L = L ∧
  (x.1 = x0.1 ∧ (0 : Nat) = (0 : Nat) ∧ (32 : Nat) = (32 : Nat) ∧ List.replicate (32 : Nat) (0 : Int) = List.replicate (32 : Nat) (0 : Int) ∧ True) ∧ (x.2 = x0.2 ∧ (0 : Nat) = (0 : Nat) ∧ (64 : Nat) = (64 : Nat) ∧ x.10 = x0.10 ∧ True) ∧ False ∧ False ∧ True) ∧ P14 x0 x0) ∧ (∀ (x_1 : RsX), x_1.9 = (0 : Nat) → ((0 : Int) < (64 : Int) → ((0 : Int) ≤ (0 : Int) ∧ (0 : Int) < (↑(64 : Nat) : Int)) ∧ (0 : Nat) + Int.toNat (0 : Int) < (64 : Nat) ∧ ∀ (b : Nat), Value.oneCell' (Value.int IntKind.u8 (ixor IntKind.u8 (List.getD x.10 (0 : Nat) (0 : Int)) (54 : Int))) = Bool.true ∧
  (1 : Nat) ≤ (140737488355328 : Nat) ∧ ∀ (b cap' : Nat), (1 : Nat) ≤ cap' → ∀ (sp : List Int), List.length sp = cap' - (1 : Nat) → ((0 : Int) ≤ (0 : Int) ∧ (0 : Int) < (↑(64 : Nat) : Int)) ∧ (0 : Nat) + Int.toNat (0 : Int) < (64 : Nat) ∧ ∀ (b_2 : Nat), Value.oneCell' (Value.int IntKind.u8 (ixor IntKind.u8 (List.getD x.10 (0 : Nat) (0 : Int)) (92 : Int))) = Bool.true ∧ (1 : Nat) ≤ (140737488355328 : Nat) ∧ ∀ (b_3 cap'_1 : Nat), (1 : Nat) ≤ cap'_1 → ∀ (sp_1 : List Int), List.length sp_1 = cap'_1 - (1 : Nat) → ∃ (y : RsX), (64 : Nat) - y.9 < (64 : Nat) - x_1.9 ∧
  ((((mo = mo ∧ ml = ml ∧ mc = mc) ∧ ((0 : Nat) = (0 : Nat) ∧ (0 : Nat) = (0 : Nat)) ∧ ((0 : Nat) = (0 : Nat) ∧ (0 : Nat) = (0 : Nat)) ∧ Value.slice (Option.some { block := b, off := (0 : Nat) * (1 : Nat) }) (1 : Nat) cap' = Value.slice Option.none (0 : Nat) (0 : Nat) ∧ Value.slice (Option.some { block := b_3, off := (0 : Nat) * (1 : Nat) }) (1 : Nat) cap'_1 = Value.slice Option.none (0 : Nat) (0 : Nat) ∧ IntKind.wrap IntKind.i64 ((0 : Int) + (1 : Int)) = (0 : Int) ∧ True) ∧ L = L ∧ (x.1 = x.1 ∧ (0 : Nat) = (0 : Nat) ∧
  (32 : Nat) = (32 : Nat) ∧ List.replicate (32 : Nat) (0 : Int) = List.replicate (32 : Nat) (0 : Int) ∧ True) ∧ (x.2 = x.2 ∧ (0 : Nat) = (0 : Nat) ∧ (64 : Nat) = (64 : Nat) ∧ x.10 = x.10 ∧ True) ∧ True) ∧ y.9 = (0 : Nat) ∨ ((IntKind.wrap IntKind.i64 ((0 : Int) + (1 : Int)) = (↑y.9 : Int) ∧ ((0 : Nat) = (0 : Nat) ∧ (1 : Nat) = y.9 ∧ cap' = y.5) ∧ ((0 : Nat) = (0 : Nat) ∧ (1 : Nat) = y.9 ∧ cap'_1 = y.8) ∧ (mo = mo ∧ ml = ml ∧ mc = mc) ∧ ((0 : Nat) = (0 : Nat) ∧ (0 : Nat) = (0 : Nat)) ∧ ((0 : Nat) = (0 : Nat) ∧ (0 : Nat) = (0 : Nat)) ∧ True) ∧ L = L ∧ (x.1 = y.1 ∧ (0 : Nat) = (0 : Nat) ∧
  (32 : Nat) = (32 : Nat) ∧ List.replicate (32 : Nat) (0 : Int) = List.replicate (32 : Nat) (0 : Int) ∧ True) ∧ (x.2 = y.2 ∧ (0 : Nat) = (0 : Nat) ∧ (64 : Nat) = (64 : Nat) ∧ x.10 = y.10 ∧ True) ∧ (b = y.3 ∧ (0 : Nat) = y.4 ∧ cap' = y.5 ∧ ixor IntKind.u8 (List.getD x.10 (0 : Nat) (0 : Int)) (54 : Int) :: sp = y.11 ∧ True) ∧ (b_3 = y.6 ∧ (0 : Nat) = y.7 ∧ cap'_1 = y.8 ∧ ixor IntKind.u8 (List.getD x.10 (0 : Nat) (0 : Int)) (92 : Int) :: sp_1 = y.12 ∧ True) ∧ True) ∧ P14 x0 y)) ∧ (¬(0 : Int) < (64 : Int) → ∃ (x0 : RsX), ((ml = (0 : Nat) → ∃ (x_2 : Bv),
  RhPre x_2 [Value.slice Option.none (0 : Nat) (0 : Nat)] (L ++ [(x.1, Blk.tab (65 : Go.TypeId) (0 : Nat) (32 : Nat) [Col.ints IntKind.u8 (List.replicate (32 : Nat) (0 : Int))]), (x.2, Blk.tab (134 : Go.TypeId) (0 : Nat) (64 : Nat) [Col.ints IntKind.u8 x.10])] ++ []) ∧ ∀ (b : Nat), (List.length (hashF x_2.4) = (32 : Nat) ∧ (0 : Nat) + List.length (hashF x_2.4) ≤ (32 : Nat)) ∧ ∃ (y : RsX), False ∧ P19 x0 y) ∧ ((0 : Nat) < ml → ∃ (b : Nat), ∃ (x0_1 : Nat), mo = Option.some { block := b, off := x0_1 } ∧ ∃ (xs : List Int), rawTab L b x0_1 ml [Col.ints IntKind.u8 xs] ∧ (ml = (0 : Nat) →
  ∃ (x_2 : Bv), RhPre x_2 [Value.slice Option.none (0 : Nat) (0 : Nat)] (L ++ [(x.1, Blk.tab (65 : Go.TypeId) (0 : Nat) (32 : Nat) [Col.ints IntKind.u8 (List.replicate (32 : Nat) (0 : Int))]), (x.2, Blk.tab (134 : Go.TypeId) (0 : Nat) (64 : Nat) [Col.ints IntKind.u8 x.10])] ++ []) ∧ ∀ (b : Nat), (List.length (hashF x_2.4) = (32 : Nat) ∧ (0 : Nat) + List.length (hashF x_2.4) ≤ (32 : Nat)) ∧ ∃ (y : RsX), False ∧ P19 x0 y) ∧ ((0 : Nat) < ml → ml * (1 : Nat) ≤ (140737488355328 : Nat) ∧ ∀ (b cap' : Nat), ml ≤ cap' → ∀ (sp : List Int), List.length sp = cap' - ml → ∃ (x_2 : Bv),
  RhPre x_2 [Value.slice (Option.some { block := b, off := (0 : Nat) * (1 : Nat) }) ml cap'] (L ++ [(x.1, Blk.tab (65 : Go.TypeId) (0 : Nat) (32 : Nat) [Col.ints IntKind.u8 (List.replicate (32 : Nat) (0 : Int))]), (x.2, Blk.tab (134 : Go.TypeId) (0 : Nat) (64 : Nat) [Col.ints IntKind.u8 x.10]), (b, Blk.tab (5 : Nat) (0 : Nat) cap' [Col.ints IntKind.u8 (xs ++ sp)])] ++ []) ∧ ∀ (b_2 : Nat), (List.length (hashF x_2.4) = (32 : Nat) ∧ (0 : Nat) + List.length (hashF x_2.4) ≤ (32 : Nat)) ∧ ∃ (y : RsX),
  ((((0 : Nat) = (0 : Nat) ∧ (0 : Nat) = (0 : Nat)) ∧ ((0 : Nat) = (0 : Nat) ∧ (0 : Nat) = (0 : Nat)) ∧ False ∧ True) ∧ L = L ∧ (x.1 = y.1 ∧ (0 : Nat) = (0 : Nat) ∧ (32 : Nat) = (32 : Nat) ∧ List.replicate (32 : Nat) (0 : Int) = List.replicate (32 : Nat) (0 : Int) ∧ True) ∧ (b_2 = y.2 ∧ (0 : Nat) = (0 : Nat) ∧ (32 : Nat) = (32 : Nat) ∧ List.take (0 : Nat) (List.replicate (32 : Nat) (0 : Int)) ++ hashF x_2.4 ++ List.drop ((0 : Nat) + List.length (hashF x_2.4)) (List.replicate (32 : Nat) (0 : Int)) = y.10 ∧ True) ∧ (b = y.6 ∧ (0 : Nat) = y.7 ∧ cap' = y.8 ∧ xs ++ sp = y.12 ∧ True) ∧ True) ∧
  P19 x0 y))) ∧ ∀ (x : RsX), P19 x0 x → ∃ (x0 : RsX), ((((0 : Int) = (↑x0.9 : Int) ∧ ((0 : Nat) = (0 : Nat) ∧ (64 : Nat) = (64 : Nat) + x0.9 ∧ x.8 = x0.8) ∧ ((0 : Nat) = (0 : Nat) ∧ (0 : Nat) = (0 : Nat)) ∧ ((0 : Nat) = (0 : Nat) ∧ (0 : Nat) = (0 : Nat)) ∧ True) ∧ L = L ∧ (x.1 = x0.1 ∧ (0 : Nat) = (0 : Nat) ∧ (32 : Nat) = (32 : Nat) ∧ List.replicate (32 : Nat) (0 : Int) = List.replicate (32 : Nat) (0 : Int) ∧ True) ∧ (x.2 = x0.2 ∧ (0 : Nat) = (0 : Nat) ∧ (32 : Nat) = (32 : Nat) ∧ x.10 = x0.10 ∧ True) ∧ (x.6 = x0.6 ∧ x.7 = x0.7 ∧ x.8 = x0.8 ∧ x.12 = x0.12 ∧ True) ∧ True) ∧ P20 x0 x0) ∧
  ∀ (x : RsX), P20 x0 x → ((↑x.9 : Int) < (32 : Int) → ((0 : Int) ≤ (↑x.9 : Int) ∧ (↑x.9 : Int) < (↑(32 : Nat) : Int)) ∧ (0 : Nat) + x.9 < (32 : Nat) ∧ ∀ (b : Nat), Value.oneCell' (Value.int IntKind.u8 (List.getD x.10 ((0 : Nat) + x.9) (0 : Int))) = Bool.true ∧ ((64 : Nat) + x.9 ≤ x.8 ∧ (0 : Nat) + x.8 ≤ x.8) ∧ (0 : Nat) + ((64 : Nat) + x.9) ≤ x.8 ∧ ((64 : Nat) + x.9 + (1 : Nat)) * (1 : Nat) ≤ (140737488355328 : Nat) ∧ ∀ (b base cap' : Nat), (64 : Nat) + x.9 + (1 : Nat) ≤ cap' → ((64 : Nat) + x.9 + (1 : Nat) ≤ x.8 → cap' = x.8) → ∀ (sp : List Int),
  List.length sp = cap' - ((64 : Nat) + x.9 + (1 : Nat)) → ∃ (y : RsX), (32 : Nat) - y.9 < (32 : Nat) - x.9 ∧ ((IntKind.wrap IntKind.i64 ((↑x.9 : Int) + (1 : Int)) = (↑y.9 : Int) ∧ ((0 : Nat) = (0 : Nat) ∧ (64 : Nat) + x.9 + (1 : Nat) = (64 : Nat) + y.9 ∧ cap' = y.8) ∧ ((0 : Nat) = (0 : Nat) ∧ (0 : Nat) = (0 : Nat)) ∧ ((0 : Nat) = (0 : Nat) ∧ (0 : Nat) = (0 : Nat)) ∧ True) ∧ L = L ∧ (x.1 = y.1 ∧ (0 : Nat) = (0 : Nat) ∧ (32 : Nat) = (32 : Nat) ∧ List.replicate (32 : Nat) (0 : Int) = List.replicate (32 : Nat) (0 : Int) ∧ True) ∧
  (x.2 = y.2 ∧ (0 : Nat) = (0 : Nat) ∧ (32 : Nat) = (32 : Nat) ∧ x.10 = y.10 ∧ True) ∧ (b = y.6 ∧ base = y.7 ∧ cap' = y.8 ∧ List.take ((64 : Nat) + x.9) x.12 ++ [List.getD x.10 ((0 : Nat) + x.9) (0 : Int)] ++ sp = y.12 ∧ True) ∧ True) ∧ P20 x0 y) ∧ (¬(↑x.9 : Int) < (32 : Int) → ∃ (x_2 : Bv), RhPre x_2 [Value.slice (Option.some { block := x.6, off := x.7 * (1 : Nat) }) ((64 : Nat) + x.9) x.8] (L ++ [(x.1, Blk.tab (65 : Go.TypeId) (0 : Nat) (32 : Nat) [Col.ints IntKind.u8 (List.replicate (32 : Nat) (0 : Int))]), (x.2, Blk.tab (65 : Go.TypeId) (0 : Nat) (32 : Nat) [Col.ints IntKind.u8 x.10]),
  (x.6, Blk.tab (5 : Go.TypeId) x.7 x.8 [Col.ints IntKind.u8 x.12])] ++ []) ∧ (List.length (hashF x_2.4) = (32 : Nat) ∧ (0 : Nat) + List.length (hashF x_2.4) ≤ (32 : Nat)) ∧ (32 : Nat) ≤ (32 : Nat) ∧ R (Value.agg (List.toArray (List.map (Value.int IntKind.u8) (List.take (32 : Nat) (List.take (0 : Nat) (List.replicate (32 : Nat) (0 : Int)) ++ hashF x_2.4 ++ List.drop ((0 : Nat) + List.length (hashF x_2.4)) (List.replicate (32 : Nat) (0 : Int))))))) ∧ L = L))) ∧ ∀ (x_1 : RsX), P14 x0 x_1 → ((↑x_1.9 : Int) < (64 : Int) → ((0 : Int) ≤ (↑x_1.9 : Int) ∧ (↑x_1.9 : Int) < (↑(64 : Nat) : Int)) ∧
  (0 : Nat) + x_1.9 < (64 : Nat) ∧ ∀ (b : Nat), Value.oneCell' (Value.int IntKind.u8 (ixor IntKind.u8 (List.getD x_1.10 ((0 : Nat) + x_1.9) (0 : Int)) (54 : Int))) = Bool.true ∧ (x_1.9 ≤ x_1.5 ∧ (0 : Nat) + x_1.5 ≤ x_1.5) ∧ (0 : Nat) + x_1.9 ≤ x_1.5 ∧ (x_1.9 + (1 : Nat)) * (1 : Nat) ≤ (140737488355328 : Nat) ∧ ∀ (b base cap' : Nat), x_1.9 + (1 : Nat) ≤ cap' → (x_1.9 + (1 : Nat) ≤ x_1.5 → cap' = x_1.5) → ∀ (sp : List Int), List.length sp = cap' - (x_1.9 + (1 : Nat)) → ((0 : Int) ≤ (↑x_1.9 : Int) ∧ (↑x_1.9 : Int) < (↑(64 : Nat) : Int)) ∧ (0 : Nat) + x_1.9 < (64 : Nat) ∧ ∀ (b_2 : Nat),
  Value.oneCell' (Value.int IntKind.u8 (ixor IntKind.u8 (List.getD x_1.10 ((0 : Nat) + x_1.9) (0 : Int)) (92 : Int))) = Bool.true ∧ (x_1.9 ≤ x_1.8 ∧ (0 : Nat) + x_1.8 ≤ x_1.8) ∧ (0 : Nat) + x_1.9 ≤ x_1.8 ∧ (x_1.9 + (1 : Nat)) * (1 : Nat) ≤ (140737488355328 : Nat) ∧ ∀ (b_3 base_1 cap'_1 : Nat), x_1.9 + (1 : Nat) ≤ cap'_1 → (x_1.9 + (1 : Nat) ≤ x_1.8 → cap'_1 = x_1.8) → ∀ (sp_1 : List Int), List.length sp_1 = cap'_1 - (x_1.9 + (1 : Nat)) → ∃ (y : RsX), (64 : Nat) - y.9 < (64 : Nat) - x_1.9 ∧ ((((mo = mo ∧ ml = ml ∧ mc = mc) ∧ ((0 : Nat) = (0 : Nat) ∧ (0 : Nat) = (0 : Nat)) ∧
  ((0 : Nat) = (0 : Nat) ∧ (0 : Nat) = (0 : Nat)) ∧ Value.slice (Option.some { block := b, off := base * (1 : Nat) }) (x_1.9 + (1 : Nat)) cap' = Value.slice Option.none (0 : Nat) (0 : Nat) ∧ Value.slice (Option.some { block := b_3, off := base_1 * (1 : Nat) }) (x_1.9 + (1 : Nat)) cap'_1 = Value.slice Option.none (0 : Nat) (0 : Nat) ∧ IntKind.wrap IntKind.i64 ((↑x_1.9 : Int) + (1 : Int)) = (0 : Int) ∧ True) ∧ L = L ∧ (x_1.1 = x.1 ∧ (0 : Nat) = (0 : Nat) ∧ (32 : Nat) = (32 : Nat) ∧ List.replicate (32 : Nat) (0 : Int) = List.replicate (32 : Nat) (0 : Int) ∧ True) ∧
  (x_1.2 = x.2 ∧ (0 : Nat) = (0 : Nat) ∧ (64 : Nat) = (64 : Nat) ∧ x_1.10 = x.10 ∧ True) ∧ True) ∧ y.9 = (0 : Nat) ∨ ((IntKind.wrap IntKind.i64 ((↑x_1.9 : Int) + (1 : Int)) = (↑y.9 : Int) ∧ ((0 : Nat) = (0 : Nat) ∧ x_1.9 + (1 : Nat) = y.9 ∧ cap' = y.5) ∧ ((0 : Nat) = (0 : Nat) ∧ x_1.9 + (1 : Nat) = y.9 ∧ cap'_1 = y.8) ∧ (mo = mo ∧ ml = ml ∧ mc = mc) ∧ ((0 : Nat) = (0 : Nat) ∧ (0 : Nat) = (0 : Nat)) ∧ ((0 : Nat) = (0 : Nat) ∧ (0 : Nat) = (0 : Nat)) ∧ True) ∧ L = L ∧ (x_1.1 = y.1 ∧ (0 : Nat) = (0 : Nat) ∧
  (32 : Nat) = (32 : Nat) ∧ List.replicate (32 : Nat) (0 : Int) = List.replicate (32 : Nat) (0 : Int) ∧ True) ∧ (x_1.2 = y.2 ∧ (0 : Nat) = (0 : Nat) ∧ (64 : Nat) = (64 : Nat) ∧ x_1.10 = y.10 ∧ True) ∧ (b = y.3 ∧ base = y.4 ∧ cap' = y.5 ∧ List.take x_1.9 x_1.11 ++ [ixor IntKind.u8 (List.getD x_1.10 ((0 : Nat) + x_1.9) (0 : Int)) (54 : Int)] ++ sp = y.11 ∧ True) ∧ (b_3 = y.6 ∧ base_1 = y.7 ∧ cap'_1 = y.8 ∧ List.take x_1.9 x_1.12 ++ [ixor IntKind.u8 (List.getD x_1.10 ((0 : Nat) + x_1.9) (0 : Int)) (92 : Int)] ++ sp_1 = y.12 ∧ True) ∧ True) ∧ P14 x0 y)) ∧ (¬(↑x_1.9 : Int) < (64 : Int) →
  ∃ (x0 : RsX), ((ml = (0 : Nat) → x_1.9 ≤ x_1.5 ∧ ∃ (x : Bv), RhPre x [Value.slice (Option.some { block := x_1.3, off := x_1.4 * (1 : Nat) }) x_1.9 x_1.5] (L ++ [(x_1.1, Blk.tab (65 : Go.TypeId) (0 : Nat) (32 : Nat) [Col.ints IntKind.u8 (List.replicate (32 : Nat) (0 : Int))]), (x_1.2, Blk.tab (134 : Go.TypeId) (0 : Nat) (64 : Nat) [Col.ints IntKind.u8 x_1.10]), (x_1.3, Blk.tab (5 : Go.TypeId) x_1.4 x_1.5 [Col.ints IntKind.u8 x_1.11]), (x_1.6, Blk.tab (5 : Go.TypeId) x_1.7 x_1.8 [Col.ints IntKind.u8 x_1.12])] ++ []) ∧ ∀ (b : Nat),
  (List.length (hashF x.4) = (32 : Nat) ∧ (0 : Nat) + List.length (hashF x.4) ≤ (32 : Nat)) ∧ ∃ (y : RsX), ((((0 : Nat) = (0 : Nat) ∧ (0 : Nat) = (0 : Nat)) ∧ ((0 : Nat) = (0 : Nat) ∧ (0 : Nat) = (0 : Nat)) ∧ ((0 : Nat) = (0 : Nat) ∧ x_1.9 = (64 : Nat) ∧ x_1.8 = y.8) ∧ True) ∧ L = L ∧ (x_1.1 = y.1 ∧ (0 : Nat) = (0 : Nat) ∧ (32 : Nat) = (32 : Nat) ∧ List.replicate (32 : Nat) (0 : Int) = List.replicate (32 : Nat) (0 : Int) ∧ True) ∧ (b = y.2 ∧ (0 : Nat) = (0 : Nat) ∧ (32 : Nat) = (32 : Nat) ∧ List.take (0 : Nat) (List.replicate (32 : Nat) (0 : Int)) ++ hashF x.4 ++
  List.drop ((0 : Nat) + List.length (hashF x.4)) (List.replicate (32 : Nat) (0 : Int)) = y.10 ∧ True) ∧ (x_1.6 = y.6 ∧ x_1.7 = y.7 ∧ x_1.8 = y.8 ∧ x_1.12 = y.12 ∧ True) ∧ True) ∧ P19 x0 y) ∧ ((0 : Nat) < ml → ∃ (b : Nat), ∃ (x0_1 : Nat), mo = Option.some { block := b, off := x0_1 } ∧ ∃ (xs : List Int), rawTab L b x0_1 ml [Col.ints IntKind.u8 xs] ∧ (x_1.9 ≤ x_1.5 ∧ (0 : Nat) + x_1.5 ≤ x_1.5) ∧ (0 : Nat) + x_1.9 ≤ x_1.5 ∧ (x_1.9 + ml) * (1 : Nat) ≤ (140737488355328 : Nat) ∧ ∀ (b base cap' : Nat), x_1.9 + ml ≤ cap' → (x_1.9 + ml ≤ x_1.5 → cap' = x_1.5) → ∀ (sp : List Int),
  List.length sp = cap' - (x_1.9 + ml) → ∃ (x : Bv), RhPre x [Value.slice (Option.some { block := b, off := base * (1 : Nat) }) (x_1.9 + ml) cap'] (L ++ [(x_1.1, Blk.tab (65 : Go.TypeId) (0 : Nat) (32 : Nat) [Col.ints IntKind.u8 (List.replicate (32 : Nat) (0 : Int))]), (x_1.2, Blk.tab (134 : Go.TypeId) (0 : Nat) (64 : Nat) [Col.ints IntKind.u8 x_1.10]), (x_1.6, Blk.tab (5 : Go.TypeId) x_1.7 x_1.8 [Col.ints IntKind.u8 x_1.12]), (b, Blk.tab (5 : Nat) base cap' [Col.ints IntKind.u8 (List.take x_1.9 x_1.11 ++ xs ++ sp)])] ++ []) ∧ ∀ (b : Nat), (List.length (hashF x.4) = (32 : Nat) ∧
  (0 : Nat) + List.length (hashF x.4) ≤ (32 : Nat)) ∧ ∃ (y : RsX), ((((0 : Nat) = (0 : Nat) ∧ (0 : Nat) = (0 : Nat)) ∧ ((0 : Nat) = (0 : Nat) ∧ (0 : Nat) = (0 : Nat)) ∧ ((0 : Nat) = (0 : Nat) ∧ x_1.9 = (64 : Nat) ∧ x_1.8 = y.8) ∧ True) ∧ L = L ∧ (x_1.1 = y.1 ∧ (0 : Nat) = (0 : Nat) ∧ (32 : Nat) = (32 : Nat) ∧ List.replicate (32 : Nat) (0 : Int) = List.replicate (32 : Nat) (0 : Int) ∧ True) ∧ (b = y.2 ∧ (0 : Nat) = (0 : Nat) ∧ (32 : Nat) = (32 : Nat) ∧ List.take (0 : Nat) (List.replicate (32 : Nat) (0 : Int)) ++ hashF x.4 ++ List.drop ((0 : Nat) + List.length (hashF x.4))
  (List.replicate (32 : Nat) (0 : Int)) = y.10 ∧ True) ∧ (x_1.6 = y.6 ∧ x_1.7 = y.7 ∧ x_1.8 = y.8 ∧ x_1.12 = y.12 ∧ True) ∧ True) ∧ P19 x0 y)) ∧ ∀ (x : RsX), P19 x0 x → ∃ (x0 : RsX), ((((0 : Int) = (↑x0.9 : Int) ∧ ((0 : Nat) = (0 : Nat) ∧ (64 : Nat) = (64 : Nat) + x0.9 ∧ x.8 = x0.8) ∧ ((0 : Nat) = (0 : Nat) ∧ (0 : Nat) = (0 : Nat)) ∧ ((0 : Nat) = (0 : Nat) ∧ (0 : Nat) = (0 : Nat)) ∧ True) ∧ L = L ∧ (x.1 = x0.1 ∧ (0 : Nat) = (0 : Nat) ∧ (32 : Nat) = (32 : Nat) ∧ List.replicate (32 : Nat) (0 : Int) = List.replicate (32 : Nat) (0 : Int) ∧ True) ∧
  (x.2 = x0.2 ∧ (0 : Nat) = (0 : Nat) ∧ (32 : Nat) = (32 : Nat) ∧ x.10 = x0.10 ∧ True) ∧ (x.6 = x0.6 ∧ x.7 = x0.7 ∧ x.8 = x0.8 ∧ x.12 = x0.12 ∧ True) ∧ True) ∧ P20 x0 x0) ∧ ∀ (x : RsX), P20 x0 x → ((↑x.9 : Int) < (32 : Int) → ((0 : Int) ≤ (↑x.9 : Int) ∧ (↑x.9 : Int) < (↑(32 : Nat) : Int)) ∧ (0 : Nat) + x.9 < (32 : Nat) ∧ ∀ (b : Nat), Value.oneCell' (Value.int IntKind.u8 (List.getD x.10 ((0 : Nat) + x.9) (0 : Int))) = Bool.true ∧ ((64 : Nat) + x.9 ≤ x.8 ∧ (0 : Nat) + x.8 ≤ x.8) ∧ (0 : Nat) + ((64 : Nat) + x.9) ≤ x.8 ∧ ((64 : Nat) + x.9 + (1 : Nat)) * (1 : Nat) ≤ (140737488355328 : Nat) ∧
  ∀ (b base cap' : Nat), (64 : Nat) + x.9 + (1 : Nat) ≤ cap' → ((64 : Nat) + x.9 + (1 : Nat) ≤ x.8 → cap' = x.8) → ∀ (sp : List Int), List.length sp = cap' - ((64 : Nat) + x.9 + (1 : Nat)) → ∃ (y : RsX), (32 : Nat) - y.9 < (32 : Nat) - x.9 ∧ ((IntKind.wrap IntKind.i64 ((↑x.9 : Int) + (1 : Int)) = (↑y.9 : Int) ∧ ((0 : Nat) = (0 : Nat) ∧ (64 : Nat) + x.9 + (1 : Nat) = (64 : Nat) + y.9 ∧ cap' = y.8) ∧ ((0 : Nat) = (0 : Nat) ∧ (0 : Nat) = (0 : Nat)) ∧ ((0 : Nat) = (0 : Nat) ∧ (0 : Nat) = (0 : Nat)) ∧ True) ∧ L = L ∧ (x.1 = y.1 ∧ (0 : Nat) = (0 : Nat) ∧
  (32 : Nat) = (32 : Nat) ∧ List.replicate (32 : Nat) (0 : Int) = List.replicate (32 : Nat) (0 : Int) ∧ True) ∧ (x.2 = y.2 ∧ (0 : Nat) = (0 : Nat) ∧ (32 : Nat) = (32 : Nat) ∧ x.10 = y.10 ∧ True) ∧ (b = y.6 ∧ base = y.7 ∧ cap' = y.8 ∧ List.take ((64 : Nat) + x.9) x.12 ++ [List.getD x.10 ((0 : Nat) + x.9) (0 : Int)] ++ sp = y.12 ∧ True) ∧ True) ∧ P20 x0 y) ∧ (¬(↑x.9 : Int) < (32 : Int) → ∃ (x_2 : Bv), RhPre x_2 [Value.slice (Option.some { block := x.6, off := x.7 * (1 : Nat) }) ((64 : Nat) + x.9) x.8] (L ++
  [(x.1, Blk.tab (65 : Go.TypeId) (0 : Nat) (32 : Nat) [Col.ints IntKind.u8 (List.replicate (32 : Nat) (0 : Int))]), (x.2, Blk.tab (65 : Go.TypeId) (0 : Nat) (32 : Nat) [Col.ints IntKind.u8 x.10]), (x.6, Blk.tab (5 : Go.TypeId) x.7 x.8 [Col.ints IntKind.u8 x.12])] ++ []) ∧ (List.length (hashF x_2.4) = (32 : Nat) ∧ (0 : Nat) + List.length (hashF x_2.4) ≤ (32 : Nat)) ∧ (32 : Nat) ≤ (32 : Nat) ∧ R (Value.agg (List.toArray (List.map (Value.int IntKind.u8) (List.take (32 : Nat) (List.take (0 : Nat) (List.replicate (32 : Nat) (0 : Int)) ++ hashF x_2.4 ++
  List.drop ((0 : Nat) + List.length (hashF x_2.4)) (List.replicate (32 : Nat) (0 : Int))))))) ∧ L = L)) from by
  subst e5 e9 ek e14 e19 e20
  simp only [eq_self, true_and, and_true, false_and, and_false, or_false, false_or, and_self, Nat.zero_add, Nat.add_zero, Nat.sub_zero, Nat.zero_mul, Nat.mul_one, Int.toNat_natCast, cond_true, cond_false, forall_const, implies_true, Nat.beq_refl, ne_eq, not_false_eq_true, not_true_eq_false, Classical.not_not, List.cons.injEq, List.append_nil, List.nil_append, Go.Value.int.injEq, Go.Value.bool.injEq, Go.Value.slice.injEq, Nat.le_refl, Nat.zero_le, Go.Sx.one_int, Go.Sx.one_bool, Go.Sx.one_slice, Go.Sx.one_ptr, Go.Sx.one_map, Int.cast_ofNat_Int, reduceCtorEq, Nat.reduceLeDiff, Nat.reduceMul, Nat.reduceAdd, Nat.reduceSub, Nat.reduceEqDiff, Int.reduceLE, Int.reduceLT, Int.reduceEq, Int.reduceAdd, Int.reduceSub, Int.reduceNeg, Int.reduceMul, Nat.reduceBEq]
  have hkl2 := hkey.1
  have hml2 := hms.1
  have hKl : K.length = 64 := by rw [eK]; exact padK_len _
  have hhl : hin.length = 32 := by rw [eh]; exact hashF_len _
  have h32 := hashF_len key
  intro b b1
  refine ⟨⟨0, 0, 0, 0, 0, 0, 0, 0, 0, [], [], []⟩, ⟨fun hgt => ⟨⟨ko, kl, kc, key⟩, ⟨rfl, hkey.seen (seen_app _ _), hok, by show kl < _; omega⟩, ?_⟩, fun hle => ?_⟩, fun x hx => ?_⟩
  · simp only []
    refine ⟨⟨h32, by omega⟩, ⟨0, 0, 0, 0, 0, 0, 0, 0, 0, List.replicate 64 0, [], []⟩, ⟨⟨rfl, rfl⟩, Nat.zero_le _, by simp⟩, fun y hy => ⟨fun hi => ?_, fun hi => ?_⟩⟩
    · have hi' : y.i < 32 := by omega
      refine ⟨⟨by omega, hi⟩, hi', ⟨by omega, by omega⟩, by omega, ⟨0, 0, 0, 0, 0, 0, 0, 0, y.i + 1, _, [], []⟩, by show 32 - (y.i + 1) < 32 - y.i; omega, ⟨ix_w (by omega), rfl⟩, hi', ?_⟩
      refine rs_set hy.2 (by omega) (by omega) ?_
      have : List.take 0 (List.replicate 32 (0 : Int)) ++ hashF key ++ List.drop (hashF key).length (List.replicate 32 0) = hashF key := by rw [h32]; simp
      rw [this]
    · have hi' : y.i = 32 := by have := hy.1; omega
      refine ⟨⟨b, b1, 0, 0, 0, 0, 0, 0, 0, y.xs, [], []⟩, ⟨rfl, rfl, rfl⟩, ?_⟩
      show y.xs = K
      rw [hy.2, hi', eK]
      unfold padK
      rw [if_pos (by omega), List.take_of_length_le (by omega)]
  · refine ⟨⟨0, 0, 0, 0, 0, 0, 0, 0, 0, List.replicate 64 0, [], []⟩, ⟨⟨rfl, rfl⟩, Nat.zero_le _, by simp⟩, fun y hy => ⟨fun hi => ?_, fun hi => ?_⟩⟩
    · have hi' : y.i < kl := by omega
      obtain ⟨b2, x2, e2, hc⟩ := hkey.2 (by omega)
      refine ⟨⟨by omega, hi⟩, b2, x2, e2, _, hc y.i hi', ⟨by omega, by omega⟩, by omega, ⟨0, 0, 0, 0, 0, 0, 0, 0, y.i + 1, _, [], []⟩, by show kl - (y.i + 1) < kl - y.i; omega, ⟨ix_w (by omega), rfl⟩, by show y.i + 1 ≤ _; omega, ?_⟩
      exact rs_set hy.2 (by omega) (by omega) rfl
    · have hi' : y.i = kl := by have := hy.1; omega
      refine ⟨⟨b, b1, 0, 0, 0, 0, 0, 0, 0, y.xs, [], []⟩, ⟨rfl, rfl, rfl⟩, ?_⟩
      show y.xs = K
      rw [hy.2, hi', eK]
      unfold padK
      rw [if_neg (by omega), List.take_of_length_le (by omega), hkl2]
  · have hx : x.xs = K := hx
    have tail : ∀ z : RsX, rsP19 K hin ⟨0, 0, 0, 0, 0, 0, 0, 0, 0, [], [], []⟩ z → True := fun _ _ => trivial
    refine ⟨⟨0, 0, 0, 0, 0, 0, 0, 0, 0, [], [], []⟩, rfl, fun y0 hy0 => ⟨⟨by decide, fun b2 c2 hc2 sp2 hs2 => ⟨by decide, fun b3 c3 hc3 sp3 hs3 => ?_⟩⟩, fun h => h.elim⟩, fun y hy => ⟨fun hi => ?_, fun hi => ?_⟩⟩
    · refine ⟨⟨x.ob, x.kb, b2, 0, c2, b3, 0, c3, 1, x.xs, _, _⟩, by show 64 - 1 < 64 - y0.i; omega, ⟨⟨by rw [IntKind.wrap_i64]; rfl, ⟨rfl, rfl⟩, rfl, rfl⟩, rfl, ⟨rfl, rfl⟩, ⟨rfl, rfl, rfl, rfl⟩, rfl, rfl, rfl, rfl⟩, ?_⟩
      have ek1 : K.take 1 = [K.getD 0 0] := by
        have := take_succ_getD (K := K) (i := 0) (by omega)
        simpa using this
      refine ⟨by show 1 ≤ 64; omega, hx, ⟨by simp; omega, hc2, ?_⟩, by simp; omega, hc3, ?_⟩
      · show List.take 1 (ixor .u8 (x.xs.getD 0 0) 54 :: sp2) = xorB 54 (K.take 1)
        rw [hx, ek1]
        rfl
      · show List.take 1 (ixor .u8 (x.xs.getD 0 0) 92 :: sp3) = xorB 92 (K.take 1)
        rw [hx, ek1]
        rfl
    · have hi' : y.i < 64 := by omega
      obtain ⟨p1, p2, ⟨p3, p4, p5⟩, p6, p7, p8⟩ := hy
      refine ⟨⟨by omega, hi⟩, hi', p4, p4, by omega, fun b2 base2 c2 hc2 hc2' sp2 hs2 => ⟨⟨by omega, hi⟩, hi', p7, p7, by omega, fun b3 base3 c3 hc3 hc3' sp3 hs3 => ?_⟩⟩
      obtain ⟨g1, g2⟩ := app_one (v := ixor .u8 (y.xs.getD y.i 0) 54) p5 (by omega) hc2 hs2
      obtain ⟨g3, g4⟩ := app_one (v := ixor .u8 (y.xs.getD y.i 0) 92) p8 (by omega) hc3 hs3
      refine ⟨⟨y.ob, y.kb, b2, base2, c2, b3, base3, c3, y.i + 1, y.xs, _, _⟩, by show 64 - (y.i + 1) < 64 - y.i; omega, ⟨⟨ix_w (by omega), ⟨rfl, rfl⟩, rfl, rfl⟩, rfl, ⟨rfl, rfl⟩, ⟨rfl, rfl, rfl, rfl⟩, rfl, rfl, rfl, rfl⟩, ?_⟩
      refine ⟨hi', p2, ⟨g1, hc2, ?_⟩, g3, hc3, ?_⟩
      · simp only []
        rw [g2, p2, xorB_succ _ (by omega)]
      · simp only []
        rw [g4, p2, xorB_succ _ (by omega)]
    · obtain ⟨p1, p2, ⟨p3, p4, p5⟩, p6, p7, p8⟩ := hy
      have hi' : y.i = 64 := by omega
      rw [hi'] at p4 p5 p7 p8
      simp only [hi']
      have eK64 : K.take 64 = K := List.take_of_length_le (by omega)
      rw [eK64] at p5 p8
      have hx54 : (xorB 54 K).length = 64 := by rw [xorB_len, hKl]
      have hx92 : (xorB 92 K).length = 64 := by rw [xorB_len, hKl]
      have hset : ∀ h : List Int, h.length = 32 → List.take 0 (List.replicate 32 (0 : Int)) ++ h ++ List.drop h.length (List.replicate 32 0) = h := fun h hl => by rw [hl]; simp
      refine ⟨⟨0, 0, 0, 0, 0, 0, 0, 0, 0, [], [], []⟩, ⟨fun h0 => ⟨p4, ⟨some ⟨y.ib, y.ibase, none⟩, 64, y.icap, xorB 54 K⟩, ⟨rfl, BytesAt.tab (t := 5) (List.mem_append_right _ (by repeat (first | exact List.Mem.head _ | apply List.Mem.tail))) hx54 p4 p5, octets_xor _ _, by show 64 < _; omega⟩, ?_⟩, fun h0 => ?_⟩, fun z hz => ?_⟩
      · obtain rfl : ms = [] := List.eq_nil_of_length_eq_zero (by omega)
        have hh : hashF (xorB 54 K) = hin := by rw [eh, List.append_nil]
        simp only [hh]
        intro b4
        refine ⟨⟨hhl, by omega⟩, ⟨y.ob, b4, 0, 0, 0, y.ub, y.ubase, y.ucap, 0, _, [], y.vs⟩, ⟨⟨trivial, rfl⟩, rfl, ⟨rfl, rfl⟩, rfl, rfl, rfl, rfl⟩, hset _ hhl, p6, p7, p8⟩
      · obtain ⟨b5, x5, e5, hc⟩ := hms.2 h0
        refine ⟨b5, x5, e5, ms, (by rw [e5] at hms; exact hms.raw h0), p4, p4, by omega, fun b6 base6 c6 hc6 hc6' sp6 hs6 => ?_⟩
        have hal : (xorB 54 K ++ ms).length = 64 + ml := by rw [List.length_append, hx54, hml2]
        refine ⟨⟨some ⟨b6, base6, none⟩, 64 + ml, c6, xorB 54 K ++ ms⟩, ⟨rfl, BytesAt.tab (t := 5) (List.mem_append_right _ (by repeat (first | exact List.Mem.head _ | apply List.Mem.tail))) hal hc6 (by rw [p5]; exact List.take_left' hal), octets_app (octets_xor _ _) hom, by show 64 + ml < _; omega⟩, ?_⟩
        simp only [← eh]
        intro b4
        refine ⟨⟨hhl, by omega⟩, ⟨y.ob, b4, 0, 0, 0, y.ub, y.ubase, y.ucap, 0, _, [], y.vs⟩, ⟨⟨trivial, rfl⟩, rfl, ⟨rfl, rfl⟩, rfl, rfl, rfl, rfl⟩, hset _ hhl, p6, p7, p8⟩
      · obtain ⟨q1, q2, q3, q4⟩ := hz
        refine ⟨⟨z.ob, z.kb, 0, 0, 0, z.ub, z.ubase, z.ucap, 0, z.xs, [], z.vs⟩, ⟨⟨⟨rfl, rfl, rfl⟩, rfl, ⟨rfl, rfl⟩, rfl, rfl, rfl, rfl⟩, Nat.zero_le _, q1, q2, q3, by simp only [Nat.add_zero, List.take_zero, List.append_nil]; exact q4⟩, fun u hu => ⟨fun hi => ?_, fun hi => ?_⟩⟩
        · have hi2 : u.i < 32 := by omega
          obtain ⟨r1, r2, r3, r4, r5⟩ := hu
          refine ⟨⟨by omega, hi⟩, hi2, r4, r4, by omega, fun b7 base7 c7 hc7 hc7' sp7 hs7 => ?_⟩
          obtain ⟨g1, g2⟩ := app_one (v := u.xs.getD u.i 0) r5 (by omega) hc7 hs7
          refine ⟨⟨u.ob, u.kb, 0, 0, 0, b7, base7, c7, u.i + 1, u.xs, [], _⟩, by show 32 - (u.i + 1) < 32 - u.i; omega, ⟨⟨ix_w (by omega), rfl, rfl⟩, rfl, ⟨rfl, rfl⟩, rfl, rfl, rfl, rfl⟩, hi2, r2, g1, hc7, ?_⟩
          simp only []
          rw [← Nat.add_assoc, g2, r2, take_succ_getD (by omega), List.append_assoc]
        · obtain ⟨r1, r2, r3, r4, r5⟩ := hu
          have hi2 : u.i = 32 := by omega
          rw [hi2] at r4 r5
          simp only [hi2]
          rw [List.take_of_length_le (by omega : hin.length ≤ 32)] at r5
          have hal : (xorB 92 K ++ hin).length = 96 := by rw [List.length_append, hx92, hhl]
          refine ⟨⟨some ⟨u.ub, u.ubase, none⟩, 96, u.ucap, xorB 92 K ++ hin⟩, ⟨rfl, BytesAt.tab (t := 5) (List.mem_append_right _ (by repeat (first | exact List.Mem.head _ | apply List.Mem.tail))) hal r4 r5, octets_app (octets_xor _ _) (by rw [eh]; exact octets_hash _), by show 96 < _; omega⟩, ?_⟩
          simp only []
          have hl2 := hashF_len (xorB 92 K ++ hin)
          refine ⟨⟨hl2, by omega⟩, ?_⟩
          rw [se_h32 hl2]
          have : hashF (xorB 92 K ++ hin) = sealF key ms := by rw [eh, eK]; rfl
          rw [this]
          exact hR)
end Go.Proofs.Ytpjikjhaljennaa
