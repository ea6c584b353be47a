/- CookieTurned's run -/
import Derived.Test.YtpjikjhaljennaaCkH
set_option maxRecDepth 100000
set_option linter.unusedVariables false
set_option linter.unusedSimpArgs false
namespace Go.Proofs.Ytpjikjhaljennaa
open Go Go.Sx
attribute [local irreducible] Go.Sx.xrun

structure CtX where
  n : Nat
  xs : List Int
  b : Nat
  base : Nat
  cap : Nat
  b0 : Nat
  e : Int
  f : Int
noncomputable def Ann.ct (x : Ck) (L : Blks) : FnAnn := ⟨[],
  [(1000007, ⟨CtX, [(fun σ y => ⟨σ.n, (8, .val (.int .i64 y.n)) :: keepE σ.env [2, 3, 7], σ.heap⟩, fun x0 y => y = x0)], fun _ => 0⟩),
   (1000009, ⟨CtX, [(fun σ y => ⟨σ.n, (10, .val (.int .i64 y.e)) :: (3, .ptr 1 0 0) :: (7, .slc 2 0 70 y.cap) :: keepE σ.env [2, 8], [.chunk L, .own y.b0 (.cells 11 x.sv 74), .own y.b (.tab 5 y.base y.cap [.ints .u8 y.xs])]⟩, fun x0 y => y = x0)], fun _ => 0⟩),
   (1000010, ⟨CtX, [(fun σ y => ⟨σ.n, (12, .val (.int .i64 y.f)) :: keepE σ.env [2, 3, 7, 8, 10], [.chunk L, .own y.b0 (.cells 11 x.sv 74), .own y.b (.tab 5 y.base y.cap [.ints .u8 y.xs])]⟩, fun x0 y => y = x0)], fun _ => 0⟩)]⟩
noncomputable def ctGoal (x : Ck) (at_ turn : Int) (L : Blks) : Prop :=
  xrun Go.Proofs.Try.prog [(35, ckFirstT), (36, makeT), (37, openRT)] [(14, Ann.ct x L)] [] 9 [] 14 [.agg x.sv, .val (.int .i64 at_), .val (.int .u8 turn)] [.chunk L] fun s h => bOf s (fun p => p) ∧ headIs h L
theorem bv8_nat (x : BitVec 8) : BitVec.ofInt 8 (x.toNat : Int) = x := by
  rw [BitVec.ofInt_natCast, BitVec.ofNat_toNat, BitVec.setWidth_eq]
theorem ixor_nat (a t : Int) : ixor .u8 a t = ((BitVec.ofInt 8 a ^^^ BitVec.ofInt 8 t).toNat : Int) := by
  show IntKind.wrap .u8 ((BitVec.ofInt 8 a ^^^ BitVec.ofInt 8 t).toNat : Int) = _
  have h : (BitVec.ofInt 8 a ^^^ BitVec.ofInt 8 t).toNat < 2 ^ 8 := BitVec.isLt _
  have e : ∀ n : Int, 0 ≤ n → n < 256 → IntKind.wrap .u8 n = n := fun n h1 h2 => by
    simp [IntKind.wrap, IntKind.signed, IntKind.bits]
    omega
  exact e _ (by omega) (by omega)
theorem ofInt8 {a : Int} (h : 0 ≤ a ∧ a < 256) : ((BitVec.ofInt 8 a).toNat : Int) = a := by
  rw [BitVec.toNat_ofInt]
  omega
theorem ixor_back {a t : Int} (h : 0 ≤ a ∧ a < 256) : ixor .u8 (ixor .u8 a t) t = a := by
  rw [ixor_nat, ixor_nat a t, bv8_nat, BitVec.xor_assoc, BitVec.xor_self, BitVec.xor_zero, ofInt8 h]
theorem ixor_ne {a t : Int} (h : 0 ≤ a ∧ a < 256) (ht : 0 ≤ t ∧ t < 256) (h0 : t ≠ 0) : ixor .u8 a t ≠ a := fun e => by
  rw [ixor_nat] at e
  have e1 : BitVec.ofInt 8 a ^^^ BitVec.ofInt 8 t = BitVec.ofInt 8 a := by
    apply BitVec.eq_of_toNat_eq
    have := ofInt8 h
    omega
  have e2 : BitVec.ofInt 8 t = 0#8 := by
    have h1 : BitVec.ofInt 8 a ^^^ (BitVec.ofInt 8 a ^^^ BitVec.ofInt 8 t) = BitVec.ofInt 8 a ^^^ BitVec.ofInt 8 a := by rw [e1]
    rw [← BitVec.xor_assoc, BitVec.xor_self, BitVec.zero_xor] at h1
    exact h1
  have := ofInt8 ht
  rw [e2] at this
  simp at this
  exact h0 this.symm
theorem ixor_r (a t : Int) : 0 ≤ ixor .u8 a t ∧ ixor .u8 a t < 256 := wrap_u8_r _
theorem take_getD {xs bs : List Int} {n i : Nat} (h : xs.take n = bs) (hi : i < n) : xs.getD i 0 = bs.getD i 0 := by
  rw [← h, List.getD_eq_getElem?_getD, List.getD_eq_getElem?_getD, List.getElem?_take_of_lt hi]
attribute [local irreducible] sealF openF
theorem ct_bad {key : List Int} {x : Ck} (hx : x.ok) {n : Nat} {v : Int} (hn : n < 32) (hv : v ≠ (ckBytes key x).getD (38 + n) 0) (now : Int) : openF key ((ckBytes key x).set (38 + n) v) now = (Ck.zero, 90) := by
  have hl : ((ckBytes key x).set (38 + n) v).length = 70 := by rw [List.length_set]; exact ckBytes_len _ _
  have hlen := ckBytes_len key x
  have e1 : win ((ckBytes key x).set (38 + n) v) 0 38 = ckWords x := by
    rw [← win_words key x]
    unfold win
    rw [List.drop_zero, List.drop_zero, List.take_set_of_le (by omega)]
  have e2 : win ((ckBytes key x).set (38 + n) v) 38 32 ≠ sealF key (ckWords x) := fun e => by
    rw [← win_seal key x] at e
    have := congrArg (fun l => l.getD n 0) e
    simp only [win] at this
    rw [List.getD_eq_getElem?_getD, List.getD_eq_getElem?_getD, List.getElem?_take_of_lt hn, List.getElem?_take_of_lt hn, List.getElem?_drop, List.getElem?_drop, List.getElem?_set_self (by omega)] at this
    exact hv (by rw [List.getD_eq_getElem?_getD]; exact this)
  unfold openF
  rw [if_neg (by omega), if_neg (by omega), if_pos (by rw [e1]; exact fun h => e2 h.symm)]
theorem ct_n (n : Int) : ∃ m : Nat, m < 32 ∧ IntKind.wrap .i64 ((IntKind.wrap .u64 n).tmod 32) = (m : Int) := by
  obtain ⟨m, h1, h2⟩ := ms_n n (l := 31) (by omega)
  exact ⟨m, by omega, h2⟩
theorem ct_38 {n : Nat} (h : n < 32) : IntKind.wrap .i64 (38 + (n : Int)) = ((38 + n : Nat) : Int) := by rw [IntKind.wrap_i64]; omega
set_option maxHeartbeats 1000000 in
theorem ct_goal (x : Ck) (hx : x.ok) (at_ turn : Int) (ht : 0 ≤ turn ∧ turn < 256) (L : Blks) : ctGoal x at_ turn L :=
  Eq.mpr (by kernel_rfl) (show
  ∀ (b b_1 : Nat), Value.oneCell' (Value.int IntKind.u8 (107 : Int)) = Bool.true ∧ Value.oneCell' (Value.int IntKind.u8 (101 : Int)) = Bool.true ∧ Value.oneCell' (Value.int IntKind.u8 (121 : Int)) = Bool.true ∧ ∃ (x_1 : MkX), MakePre x_1 [Value.slice (Option.some { block := b_1, off := (0 : Nat) * (1 : Nat) }) (3 : Nat) (3 : Nat), Value.agg #[Value.int IntKind.u32 x.1, Value.int IntKind.u32 x.2, Value.int IntKind.u32 x.3, Value.int IntKind.u32 x.4, Value.int IntKind.u32 x.5,
  Value.int IntKind.u16 x.6, Value.int IntKind.u16 x.7, Value.int IntKind.u8 x.8, Value.int IntKind.u32 x.9, Value.int IntKind.u32 x.10, Value.int IntKind.u32 x.11]] (L ++ [(b, Blk.cells [Value.int IntKind.u32 x.1, Value.int IntKind.u32 x.2, Value.int IntKind.u32 x.3, Value.int IntKind.u32 x.4, Value.int IntKind.u32 x.5, Value.int IntKind.u16 x.6, Value.int IntKind.u16 x.7, Value.int IntKind.u8 x.8, Value.int IntKind.u32 x.9, Value.int IntKind.u32 x.10, Value.int IntKind.u32 x.11] (74 : Nat)),
  (b_1, Blk.tab (5 : Nat) (0 : Nat) (3 : Nat) [Col.ints IntKind.u8 [(107 : Int), (101 : Int), (121 : Int)]])] ++ []) ∧ ∀ (b_2 base cap : Nat) (xs : List Int), List.length xs = cap → List.length (ckBytes x_1.4 x_1.5) ≤ cap → List.take (List.length (ckBytes x_1.4 x_1.5)) xs = ckBytes x_1.4 x_1.5 → ((↑(List.length (ckBytes x_1.4 x_1.5)) : Int) ≠ (70 : Int) → (↑(List.length (ckBytes x_1.4 x_1.5)) : Int) = (70 : Int) ∧ L = L) ∧ (¬(↑(List.length (ckBytes x_1.4 x_1.5)) : Int) ≠ (70 : Int) → (turn = (0 : Int) → (↑(List.length (ckBytes x_1.4 x_1.5)) : Int) = (70 : Int) ∧ L = L) ∧ (¬turn = (0 : Int) →
  ∃ (x0 : CtX), ((32 : Int) ≠ (0 : Int) ∧ ∃ (y : CtX), ((IntKind.wrap IntKind.i64 (Int.tmod (IntKind.wrap IntKind.u64 at_) (32 : Int)) = (↑y.1 : Int) ∧ turn = turn ∧ ((0 : Nat) = (0 : Nat) ∧ (0 : Nat) = (0 : Nat)) ∧ ((0 : Nat) = (0 : Nat) ∧ List.length (ckBytes x_1.4 x_1.5) = List.length (ckBytes x_1.4 x_1.5) ∧ cap = cap) ∧ True) ∧ L = L ∧ (b = b ∧ x.1 = x.1 ∧ x.2 = x.2 ∧ x.3 = x.3 ∧ x.4 = x.4 ∧ x.5 = x.5 ∧ x.6 = x.6 ∧ x.7 = x.7 ∧ x.8 = x.8 ∧ x.9 = x.9 ∧ x.10 = x.10 ∧ x.11 = x.11 ∧ True) ∧
  (b_1 = b_1 ∧ (0 : Nat) = (0 : Nat) ∧ (3 : Nat) = (3 : Nat) ∧ [(107 : Int), (101 : Int), (121 : Int)] = [(107 : Int), (101 : Int), (121 : Int)] ∧ True) ∧ (b_2 = b_2 ∧ base = base ∧ cap = cap ∧ xs = xs ∧ True) ∧ True) ∧ y = x0) ∧ ∀ (x_2 : CtX), x_2 = x0 → ((0 : Int) ≤ IntKind.wrap IntKind.i64 ((38 : Int) + (↑x_2.1 : Int)) ∧ IntKind.wrap IntKind.i64 ((38 : Int) + (↑x_2.1 : Int)) < (↑(List.length (ckBytes x_1.4 x_1.5)) : Int)) ∧ (0 : Nat) + Int.toNat (IntKind.wrap IntKind.i64 ((38 : Int) + (↑x_2.1 : Int))) < cap ∧ ((0 : Int) ≤ IntKind.wrap IntKind.i64 ((38 : Int) + (↑x_2.1 : Int)) ∧
  IntKind.wrap IntKind.i64 ((38 : Int) + (↑x_2.1 : Int)) < (↑(List.length (ckBytes x_1.4 x_1.5)) : Int)) ∧ (0 : Nat) + Int.toNat (IntKind.wrap IntKind.i64 ((38 : Int) + (↑x_2.1 : Int))) < cap ∧ ∃ (x0 : CtX), (∀ (b_3 : Nat), Value.oneCell' (Value.int IntKind.u8 (107 : Int)) = Bool.true ∧ Value.oneCell' (Value.int IntKind.u8 (101 : Int)) = Bool.true ∧ Value.oneCell' (Value.int IntKind.u8 (121 : Int)) = Bool.true ∧ ∃ (x_3 : OrX), OrPre x_3 [Value.slice (Option.some { block := b_3, off := (0 : Nat) * (1 : Nat) }) (3 : Nat) (3 : Nat),
  Value.slice (Option.some { block := b_2, off := base * (1 : Nat) }) (List.length (ckBytes x_1.4 x_1.5)) cap, Value.int IntKind.u32 x.9] (L ++ [(b, Blk.cells [Value.int IntKind.u32 x.1, Value.int IntKind.u32 x.2, Value.int IntKind.u32 x.3, Value.int IntKind.u32 x.4, Value.int IntKind.u32 x.5, Value.int IntKind.u16 x.6, Value.int IntKind.u16 x.7, Value.int IntKind.u8 x.8, Value.int IntKind.u32 x.9, Value.int IntKind.u32 x.10, Value.int IntKind.u32 x.11] (74 : Nat)), (b_1, Blk.tab (5 : Nat) (0 : Nat) (3 : Nat) [Col.ints IntKind.u8 [(107 : Int), (101 : Int), (121 : Int)]]), (b_2,
  Blk.tab (5 : Go.TypeId) base cap [Col.ints IntKind.u8 (List.set xs ((0 : Nat) + Int.toNat (IntKind.wrap IntKind.i64 ((38 : Int) + (↑x_2.1 : Int)))) (ixor IntKind.u8 (List.getD xs ((0 : Nat) + Int.toNat (IntKind.wrap IntKind.i64 ((38 : Int) + (↑x_2.1 : Int)))) (0 : Int)) turn))]), (b_3, Blk.tab (5 : Nat) (0 : Nat) (3 : Nat) [Col.ints IntKind.u8 [(107 : Int), (101 : Int), (121 : Int)]])] ++ []) ∧ ∀ (b_4 : Nat), Value.oneCell' (Value.int IntKind.u32 x_3.2.1) = Bool.true ∧ Value.oneCell' (Value.int IntKind.u32 x_3.2.2) = Bool.true ∧ Value.oneCell' (Value.int IntKind.u32 x_3.2.3) = Bool.true ∧
  Value.oneCell' (Value.int IntKind.u32 x_3.2.4) = Bool.true ∧ Value.oneCell' (Value.int IntKind.u32 x_3.2.5) = Bool.true ∧ Value.oneCell' (Value.int IntKind.u16 x_3.2.6) = Bool.true ∧ Value.oneCell' (Value.int IntKind.u16 x_3.2.7) = Bool.true ∧ Value.oneCell' (Value.int IntKind.u8 x_3.2.8) = Bool.true ∧ Value.oneCell' (Value.int IntKind.u32 x_3.2.9) = Bool.true ∧ Value.oneCell' (Value.int IntKind.u32 x_3.2.10) = Bool.true ∧ Value.oneCell' (Value.int IntKind.u32 x_3.2.11) = Bool.true ∧ ∃ (y : CtX), ((x_3.3 = y.7 ∧ ((0 : Nat) = (0 : Nat) ∧ (0 : Nat) = (0 : Nat)) ∧ ((0 : Nat) = (0 : Nat) ∧
  List.length (ckBytes x_1.4 x_1.5) = (70 : Nat) ∧ cap = y.5) ∧ turn = turn ∧ (↑x_2.1 : Int) = (↑x_2.1 : Int) ∧ True) ∧ L = L ∧ (b = y.6 ∧ x.1 = x.1 ∧ x.2 = x.2 ∧ x.3 = x.3 ∧ x.4 = x.4 ∧ x.5 = x.5 ∧ x.6 = x.6 ∧ x.7 = x.7 ∧ x.8 = x.8 ∧ x.9 = x.9 ∧ x.10 = x.10 ∧ x.11 = x.11 ∧ True) ∧ (b_2 = y.3 ∧ base = y.4 ∧ cap = y.5 ∧ List.set xs ((0 : Nat) + Int.toNat (IntKind.wrap IntKind.i64 ((38 : Int) + (↑x_2.1 : Int)))) (ixor IntKind.u8 (List.getD xs ((0 : Nat) + Int.toNat (IntKind.wrap IntKind.i64 ((38 : Int) + (↑x_2.1 : Int)))) (0 : Int)) turn) = y.2 ∧ True) ∧ True) ∧ y = x0) ∧ ∀ (x_3 : CtX),
  x_3 = x0 → ∃ (x0 : CtX), (((0 : Int) ≤ (69 : Int) ∧ (69 : Int) ≤ (↑x_3.5 : Int)) ∧ (∀ (b : Nat), SV.val (Value.int IntKind.u32 x.9) = SV.val (Value.int IntKind.u32 x.9) ∧ (((0 : Int) ≤ (69 : Int) ∧ (69 : Int) ≤ (↑x_3.5 : Int)) ∧ SV.slc (2 : Nat) (0 : Nat) (69 : Nat) x_3.5 = SV.slc (2 : Nat) (0 : Nat) (69 : Nat) x_3.5) ∧ (Value.oneCell' (Value.int IntKind.u8 (107 : Int)) = Bool.true ∧ Value.oneCell' (Value.int IntKind.u8 (101 : Int)) = Bool.true ∧ Value.oneCell' (Value.int IntKind.u8 (121 : Int)) = Bool.true ∧ SV.val (Value.int IntKind.u32 x.9) = SV.val (Value.int IntKind.u32 x.9) ∧
  (((0 : Int) ≤ (69 : Int) ∧ (69 : Int) ≤ (↑x_3.5 : Int)) ∧ SV.slc (2 : Nat) (0 : Nat) (69 : Nat) x_3.5 = SV.slc (2 : Nat) (0 : Nat) (69 : Nat) x_3.5) ∧ (∃ (x_4 : OrX), OrPre x_4 [Value.slice (Option.some { block := b, off := (0 : Nat) * (1 : Nat) }) (3 : Nat) (3 : Nat), Value.slice (Option.some { block := x_3.3, off := x_3.4 * (1 : Nat) }) (69 : Nat) x_3.5, Value.int IntKind.u32 x.9] (L ++ [(x_3.6, Blk.cells [Value.int IntKind.u32 x.1, Value.int IntKind.u32 x.2, Value.int IntKind.u32 x.3, Value.int IntKind.u32 x.4, Value.int IntKind.u32 x.5, Value.int IntKind.u16 x.6,
  Value.int IntKind.u16 x.7, Value.int IntKind.u8 x.8, Value.int IntKind.u32 x.9, Value.int IntKind.u32 x.10, Value.int IntKind.u32 x.11] (74 : Go.TypeId)), (x_3.3, Blk.tab (5 : Go.TypeId) x_3.4 x_3.5 [Col.ints IntKind.u8 x_3.2]), (b, Blk.tab (5 : Nat) (0 : Nat) (3 : Nat) [Col.ints IntKind.u8 [(107 : Int), (101 : Int), (121 : Int)]])] ++ []) ∧ ∀ (b : Nat), Value.oneCell' (Value.int IntKind.u32 x_4.2.1) = Bool.true ∧ Value.oneCell' (Value.int IntKind.u32 x_4.2.2) = Bool.true ∧ Value.oneCell' (Value.int IntKind.u32 x_4.2.3) = Bool.true ∧
  Value.oneCell' (Value.int IntKind.u32 x_4.2.4) = Bool.true ∧ Value.oneCell' (Value.int IntKind.u32 x_4.2.5) = Bool.true ∧ Value.oneCell' (Value.int IntKind.u16 x_4.2.6) = Bool.true ∧ Value.oneCell' (Value.int IntKind.u16 x_4.2.7) = Bool.true ∧ Value.oneCell' (Value.int IntKind.u8 x_4.2.8) = Bool.true ∧ Value.oneCell' (Value.int IntKind.u32 x_4.2.9) = Bool.true ∧ Value.oneCell' (Value.int IntKind.u32 x_4.2.10) = Bool.true ∧ Value.oneCell' (Value.int IntKind.u32 x_4.2.11) = Bool.true ∧ ∃ (y : CtX), ((x_4.3 = y.8 ∧ turn = turn ∧ ((0 : Nat) = (0 : Nat) ∧ (0 : Nat) = (0 : Nat)) ∧
  ((0 : Nat) = (0 : Nat) ∧ (70 : Nat) = (70 : Nat) ∧ x_3.5 = x_3.5) ∧ (↑x_2.1 : Int) = (↑x_2.1 : Int) ∧ x_3.7 = x_3.7 ∧ True) ∧ L = L ∧ (x_3.6 = y.6 ∧ x.1 = x.1 ∧ x.2 = x.2 ∧ x.3 = x.3 ∧ x.4 = x.4 ∧ x.5 = x.5 ∧ x.6 = x.6 ∧ x.7 = x.7 ∧ x.8 = x.8 ∧ x.9 = x.9 ∧ x.10 = x.10 ∧ x.11 = x.11 ∧ True) ∧ (x_3.3 = y.3 ∧ x_3.4 = y.4 ∧ x_3.5 = y.5 ∧ x_3.2 = y.2 ∧ True) ∧ True) ∧ y = x0) ∧ ∀ (b_3 : Nat), SV.val (Value.int IntKind.u32 x.9) = SV.val (Value.int IntKind.u32 x.9) ∧ (((0 : Int) ≤ (69 : Int) ∧ (69 : Int) ≤ (↑x_3.5 : Int)) ∧
  SV.slc (2 : Nat) (0 : Nat) (69 : Nat) x_3.5 = SV.slc (2 : Nat) (0 : Nat) (69 : Nat) x_3.5) ∧ ∃ (x_4 : OrX), OrPre x_4 [Value.slice (Option.some { block := b, off := (0 : Nat) * (1 : Nat) }) (3 : Nat) (3 : Nat), Value.slice (Option.some { block := x_3.3, off := x_3.4 * (1 : Nat) }) (69 : Nat) x_3.5, Value.int IntKind.u32 x.9] (L ++ [(x_3.6, Blk.cells [Value.int IntKind.u32 x.1, Value.int IntKind.u32 x.2, Value.int IntKind.u32 x.3, Value.int IntKind.u32 x.4, Value.int IntKind.u32 x.5, Value.int IntKind.u16 x.6, Value.int IntKind.u16 x.7, Value.int IntKind.u8 x.8,
  Value.int IntKind.u32 x.9, Value.int IntKind.u32 x.10, Value.int IntKind.u32 x.11] (74 : Go.TypeId)), (x_3.3, Blk.tab (5 : Go.TypeId) x_3.4 x_3.5 [Col.ints IntKind.u8 x_3.2]), (b, Blk.tab (5 : Nat) (0 : Nat) (3 : Nat) [Col.ints IntKind.u8 [(107 : Int), (101 : Int), (121 : Int)]]), (b_3, Blk.cells [Value.int IntKind.u32 (0 : Int), Value.int IntKind.u32 (0 : Int), Value.int IntKind.u32 (0 : Int), Value.int IntKind.u32 (0 : Int), Value.int IntKind.u32 (0 : Int), Value.int IntKind.u16 (0 : Int), Value.int IntKind.u16 (0 : Int), Value.int IntKind.u8 (0 : Int),
  Value.int IntKind.u32 (0 : Int), Value.int IntKind.u32 (0 : Int), Value.int IntKind.u32 (0 : Int)] (74 : Nat))] ++ []) ∧ Value.oneCell' (Value.int IntKind.u32 x_4.2.1) = Bool.true ∧ Value.oneCell' (Value.int IntKind.u32 x_4.2.2) = Bool.true ∧ Value.oneCell' (Value.int IntKind.u32 x_4.2.3) = Bool.true ∧ Value.oneCell' (Value.int IntKind.u32 x_4.2.4) = Bool.true ∧ Value.oneCell' (Value.int IntKind.u32 x_4.2.5) = Bool.true ∧ Value.oneCell' (Value.int IntKind.u16 x_4.2.6) = Bool.true ∧ Value.oneCell' (Value.int IntKind.u16 x_4.2.7) = Bool.true ∧
  Value.oneCell' (Value.int IntKind.u8 x_4.2.8) = Bool.true ∧ Value.oneCell' (Value.int IntKind.u32 x_4.2.9) = Bool.true ∧ Value.oneCell' (Value.int IntKind.u32 x_4.2.10) = Bool.true ∧ Value.oneCell' (Value.int IntKind.u32 x_4.2.11) = Bool.true ∧ ∃ (y : CtX), ((x_4.3 = y.8 ∧ turn = turn ∧ ((0 : Nat) = (0 : Nat) ∧ (0 : Nat) = (0 : Nat)) ∧ ((0 : Nat) = (0 : Nat) ∧ (70 : Nat) = (70 : Nat) ∧ x_3.5 = x_3.5) ∧ (↑x_2.1 : Int) = (↑x_2.1 : Int) ∧ x_3.7 = x_3.7 ∧ True) ∧ L = L ∧ (x_3.6 = y.6 ∧ x.1 = x.1 ∧ x.2 = x.2 ∧ x.3 = x.3 ∧ x.4 = x.4 ∧ x.5 = x.5 ∧ x.6 = x.6 ∧ x.7 = x.7 ∧
  x.8 = x.8 ∧ x.9 = x.9 ∧ x.10 = x.10 ∧ x.11 = x.11 ∧ True) ∧ (x_3.3 = y.3 ∧ x_3.4 = y.4 ∧ x_3.5 = y.5 ∧ x_3.2 = y.2 ∧ True) ∧ True) ∧ y = x0) ∧ ∀ (b_3 : Nat), SV.val (Value.int IntKind.u32 x.9) = SV.val (Value.int IntKind.u32 x.9) ∧ (((0 : Int) ≤ (69 : Int) ∧ (69 : Int) ≤ (↑x_3.5 : Int)) ∧ SV.slc (2 : Nat) (0 : Nat) (69 : Nat) x_3.5 = SV.slc (2 : Nat) (0 : Nat) (69 : Nat) x_3.5) ∧ Value.oneCell' (Value.int IntKind.u8 (107 : Int)) = Bool.true ∧ Value.oneCell' (Value.int IntKind.u8 (101 : Int)) = Bool.true ∧ Value.oneCell' (Value.int IntKind.u8 (121 : Int)) = Bool.true ∧
  SV.val (Value.int IntKind.u32 x.9) = SV.val (Value.int IntKind.u32 x.9) ∧ (((0 : Int) ≤ (69 : Int) ∧ (69 : Int) ≤ (↑x_3.5 : Int)) ∧ SV.slc (2 : Nat) (0 : Nat) (69 : Nat) x_3.5 = SV.slc (2 : Nat) (0 : Nat) (69 : Nat) x_3.5) ∧ ∃ (x_4 : OrX), OrPre x_4 [Value.slice (Option.some { block := b, off := (0 : Nat) * (1 : Nat) }) (3 : Nat) (3 : Nat), Value.slice (Option.some { block := x_3.3, off := x_3.4 * (1 : Nat) }) (69 : Nat) x_3.5, Value.int IntKind.u32 x.9] (L ++ [(x_3.6, Blk.cells [Value.int IntKind.u32 x.1, Value.int IntKind.u32 x.2, Value.int IntKind.u32 x.3,
  Value.int IntKind.u32 x.4, Value.int IntKind.u32 x.5, Value.int IntKind.u16 x.6, Value.int IntKind.u16 x.7, Value.int IntKind.u8 x.8, Value.int IntKind.u32 x.9, Value.int IntKind.u32 x.10, Value.int IntKind.u32 x.11] (74 : Go.TypeId)), (x_3.3, Blk.tab (5 : Go.TypeId) x_3.4 x_3.5 [Col.ints IntKind.u8 x_3.2]), (b, Blk.tab (5 : Nat) (0 : Nat) (3 : Nat) [Col.ints IntKind.u8 [(107 : Int), (101 : Int), (121 : Int)]]), (b_3, Blk.cells [Value.int IntKind.u32 (0 : Int), Value.int IntKind.u32 (0 : Int), Value.int IntKind.u32 (0 : Int), Value.int IntKind.u32 (0 : Int),
  Value.int IntKind.u32 (0 : Int), Value.int IntKind.u16 (0 : Int), Value.int IntKind.u16 (0 : Int), Value.int IntKind.u8 (0 : Int), Value.int IntKind.u32 (0 : Int), Value.int IntKind.u32 (0 : Int), Value.int IntKind.u32 (0 : Int)] (74 : Nat))] ++ []) ∧ Value.oneCell' (Value.int IntKind.u32 x_4.2.1) = Bool.true ∧ Value.oneCell' (Value.int IntKind.u32 x_4.2.2) = Bool.true ∧ Value.oneCell' (Value.int IntKind.u32 x_4.2.3) = Bool.true ∧ Value.oneCell' (Value.int IntKind.u32 x_4.2.4) = Bool.true ∧ Value.oneCell' (Value.int IntKind.u32 x_4.2.5) = Bool.true ∧
  Value.oneCell' (Value.int IntKind.u16 x_4.2.6) = Bool.true ∧ Value.oneCell' (Value.int IntKind.u16 x_4.2.7) = Bool.true ∧ Value.oneCell' (Value.int IntKind.u8 x_4.2.8) = Bool.true ∧ Value.oneCell' (Value.int IntKind.u32 x_4.2.9) = Bool.true ∧ Value.oneCell' (Value.int IntKind.u32 x_4.2.10) = Bool.true ∧ Value.oneCell' (Value.int IntKind.u32 x_4.2.11) = Bool.true ∧ ∃ (y : CtX), ((x_4.3 = y.8 ∧ turn = turn ∧ ((0 : Nat) = (0 : Nat) ∧ (0 : Nat) = (0 : Nat)) ∧ ((0 : Nat) = (0 : Nat) ∧ (70 : Nat) = (70 : Nat) ∧ x_3.5 = x_3.5) ∧ (↑x_2.1 : Int) = (↑x_2.1 : Int) ∧ x_3.7 = x_3.7 ∧ True) ∧ L = L ∧
  (x_3.6 = y.6 ∧ x.1 = x.1 ∧ x.2 = x.2 ∧ x.3 = x.3 ∧ x.4 = x.4 ∧ x.5 = x.5 ∧ x.6 = x.6 ∧ x.7 = x.7 ∧ x.8 = x.8 ∧ x.9 = x.9 ∧ x.10 = x.10 ∧ x.11 = x.11 ∧ True) ∧ (x_3.3 = y.3 ∧ x_3.4 = y.4 ∧ x_3.5 = y.5 ∧ x_3.2 = y.2 ∧ True) ∧ True) ∧ y = x0) ∧ ∀ (b : Nat), SV.val (Value.int IntKind.u32 x.9) = SV.val (Value.int IntKind.u32 x.9) ∧ (((0 : Int) ≤ (69 : Int) ∧ (69 : Int) ≤ (↑x_3.5 : Int)) ∧ SV.slc (2 : Nat) (0 : Nat) (69 : Nat) x_3.5 = SV.slc (2 : Nat) (0 : Nat) (69 : Nat) x_3.5) ∧ ∀ (b_3 : Nat), SV.val (Value.int IntKind.u32 x.9) = SV.val (Value.int IntKind.u32 x.9) ∧
  (((0 : Int) ≤ (69 : Int) ∧ (69 : Int) ≤ (↑x_3.5 : Int)) ∧ SV.slc (2 : Nat) (0 : Nat) (69 : Nat) x_3.5 = SV.slc (2 : Nat) (0 : Nat) (69 : Nat) x_3.5) ∧ Value.oneCell' (Value.int IntKind.u8 (107 : Int)) = Bool.true ∧ Value.oneCell' (Value.int IntKind.u8 (101 : Int)) = Bool.true ∧ Value.oneCell' (Value.int IntKind.u8 (121 : Int)) = Bool.true ∧ SV.val (Value.int IntKind.u32 x.9) = SV.val (Value.int IntKind.u32 x.9) ∧ (((0 : Int) ≤ (69 : Int) ∧ (69 : Int) ≤ (↑x_3.5 : Int)) ∧ SV.slc (2 : Nat) (0 : Nat) (69 : Nat) x_3.5 = SV.slc (2 : Nat) (0 : Nat) (69 : Nat) x_3.5) ∧ ∃ (x_4 : OrX), OrPre x_4
  [Value.slice (Option.some { block := b_3, off := (0 : Nat) * (1 : Nat) }) (3 : Nat) (3 : Nat), Value.slice (Option.some { block := x_3.3, off := x_3.4 * (1 : Nat) }) (69 : Nat) x_3.5, Value.int IntKind.u32 x.9] (L ++ [(x_3.6, Blk.cells [Value.int IntKind.u32 x.1, Value.int IntKind.u32 x.2, Value.int IntKind.u32 x.3, Value.int IntKind.u32 x.4, Value.int IntKind.u32 x.5, Value.int IntKind.u16 x.6, Value.int IntKind.u16 x.7, Value.int IntKind.u8 x.8, Value.int IntKind.u32 x.9, Value.int IntKind.u32 x.10, Value.int IntKind.u32 x.11] (74 : Go.TypeId)),
  (x_3.3, Blk.tab (5 : Go.TypeId) x_3.4 x_3.5 [Col.ints IntKind.u8 x_3.2]), (b, Blk.cells [Value.int IntKind.u32 (0 : Int), Value.int IntKind.u32 (0 : Int), Value.int IntKind.u32 (0 : Int), Value.int IntKind.u32 (0 : Int), Value.int IntKind.u32 (0 : Int), Value.int IntKind.u16 (0 : Int), Value.int IntKind.u16 (0 : Int), Value.int IntKind.u8 (0 : Int), Value.int IntKind.u32 (0 : Int), Value.int IntKind.u32 (0 : Int), Value.int IntKind.u32 (0 : Int)] (74 : Nat)), (b_3, Blk.tab (5 : Nat) (0 : Nat) (3 : Nat) [Col.ints IntKind.u8 [(107 : Int), (101 : Int), (121 : Int)]])] ++ []) ∧
  Value.oneCell' (Value.int IntKind.u32 x_4.2.1) = Bool.true ∧ Value.oneCell' (Value.int IntKind.u32 x_4.2.2) = Bool.true ∧ Value.oneCell' (Value.int IntKind.u32 x_4.2.3) = Bool.true ∧ Value.oneCell' (Value.int IntKind.u32 x_4.2.4) = Bool.true ∧ Value.oneCell' (Value.int IntKind.u32 x_4.2.5) = Bool.true ∧ Value.oneCell' (Value.int IntKind.u16 x_4.2.6) = Bool.true ∧ Value.oneCell' (Value.int IntKind.u16 x_4.2.7) = Bool.true ∧ Value.oneCell' (Value.int IntKind.u8 x_4.2.8) = Bool.true ∧ Value.oneCell' (Value.int IntKind.u32 x_4.2.9) = Bool.true ∧
  Value.oneCell' (Value.int IntKind.u32 x_4.2.10) = Bool.true ∧ Value.oneCell' (Value.int IntKind.u32 x_4.2.11) = Bool.true ∧ ∃ (y : CtX), ((x_4.3 = y.8 ∧ turn = turn ∧ ((0 : Nat) = (0 : Nat) ∧ (0 : Nat) = (0 : Nat)) ∧ ((0 : Nat) = (0 : Nat) ∧ (70 : Nat) = (70 : Nat) ∧ x_3.5 = x_3.5) ∧ (↑x_2.1 : Int) = (↑x_2.1 : Int) ∧ x_3.7 = x_3.7 ∧ True) ∧ L = L ∧ (x_3.6 = y.6 ∧ x.1 = x.1 ∧ x.2 = x.2 ∧ x.3 = x.3 ∧ x.4 = x.4 ∧ x.5 = x.5 ∧ x.6 = x.6 ∧ x.7 = x.7 ∧ x.8 = x.8 ∧ x.9 = x.9 ∧ x.10 = x.10 ∧ x.11 = x.11 ∧ True) ∧ (x_3.3 = y.3 ∧ x_3.4 = y.4 ∧ x_3.5 = y.5 ∧ x_3.2 = y.2 ∧ True) ∧ True) ∧ y = x0) ∧
  ∀ (x_4 : CtX), x_4 = x0 → ((0 : Int) ≤ IntKind.wrap IntKind.i64 ((38 : Int) + (↑x_2.1 : Int)) ∧ IntKind.wrap IntKind.i64 ((38 : Int) + (↑x_2.1 : Int)) < (↑(70 : Nat) : Int)) ∧ (0 : Nat) + Int.toNat (IntKind.wrap IntKind.i64 ((38 : Int) + (↑x_2.1 : Int))) < x_4.5 ∧ ((0 : Int) ≤ IntKind.wrap IntKind.i64 ((38 : Int) + (↑x_2.1 : Int)) ∧ IntKind.wrap IntKind.i64 ((38 : Int) + (↑x_2.1 : Int)) < (↑(70 : Nat) : Int)) ∧ (0 : Nat) + Int.toNat (IntKind.wrap IntKind.i64 ((38 : Int) + (↑x_2.1 : Int))) < x_4.5 ∧ ∀ (b : Nat), Value.oneCell' (Value.int IntKind.u8 (107 : Int)) = Bool.true ∧
  Value.oneCell' (Value.int IntKind.u8 (101 : Int)) = Bool.true ∧ Value.oneCell' (Value.int IntKind.u8 (121 : Int)) = Bool.true ∧ ∃ (x_5 : OrX), OrPre x_5 [Value.slice (Option.some { block := b, off := (0 : Nat) * (1 : Nat) }) (3 : Nat) (3 : Nat), Value.slice (Option.some { block := x_4.3, off := x_4.4 * (1 : Nat) }) (70 : Nat) x_3.5, Value.int IntKind.u32 x.9] (L ++ [(x_4.6, Blk.cells [Value.int IntKind.u32 x.1, Value.int IntKind.u32 x.2, Value.int IntKind.u32 x.3, Value.int IntKind.u32 x.4, Value.int IntKind.u32 x.5, Value.int IntKind.u16 x.6,
  Value.int IntKind.u16 x.7, Value.int IntKind.u8 x.8, Value.int IntKind.u32 x.9, Value.int IntKind.u32 x.10, Value.int IntKind.u32 x.11] (74 : Go.TypeId)), (x_4.3, Blk.tab (5 : Go.TypeId) x_4.4 x_4.5 [Col.ints IntKind.u8 (List.set x_4.2 ((0 : Nat) + Int.toNat (IntKind.wrap IntKind.i64 ((38 : Int) + (↑x_2.1 : Int)))) (ixor IntKind.u8 (List.getD x_4.2 ((0 : Nat) + Int.toNat (IntKind.wrap IntKind.i64 ((38 : Int) + (↑x_2.1 : Int)))) (0 : Int)) turn))]), (b, Blk.tab (5 : Nat) (0 : Nat) (3 : Nat) [Col.ints IntKind.u8 [(107 : Int), (101 : Int), (121 : Int)]])] ++ []) ∧ ∀ (b : Nat),
  Value.oneCell' (Value.int IntKind.u32 x_5.2.1) = Bool.true ∧ Value.oneCell' (Value.int IntKind.u32 x_5.2.2) = Bool.true ∧ Value.oneCell' (Value.int IntKind.u32 x_5.2.3) = Bool.true ∧ Value.oneCell' (Value.int IntKind.u32 x_5.2.4) = Bool.true ∧ Value.oneCell' (Value.int IntKind.u32 x_5.2.5) = Bool.true ∧ Value.oneCell' (Value.int IntKind.u16 x_5.2.6) = Bool.true ∧ Value.oneCell' (Value.int IntKind.u16 x_5.2.7) = Bool.true ∧ Value.oneCell' (Value.int IntKind.u8 x_5.2.8) = Bool.true ∧ Value.oneCell' (Value.int IntKind.u32 x_5.2.9) = Bool.true ∧
  Value.oneCell' (Value.int IntKind.u32 x_5.2.10) = Bool.true ∧ Value.oneCell' (Value.int IntKind.u32 x_5.2.11) = Bool.true ∧ (x_3.7 = (90 : Int) → (x_4.8 = (40 : Int) → (x_5.3 = (0 : Int) → plainStruct Go.Proofs.Try.prog (74 : Nat) (11 : Nat) = Bool.true ∧ (x_5.2.1 = x.1 ∧ x_5.2.2 = x.2 ∧ x_5.2.3 = x.3 ∧ x_5.2.4 = x.4 ∧ x_5.2.5 = x.5 ∧ x_5.2.6 = x.6 ∧ x_5.2.7 = x.7 ∧ x_5.2.8 = x.8 ∧ x_5.2.9 = x.9 ∧ x_5.2.10 = x.10 ∧ x_5.2.11 = x.11 ∧ True) ∧ L = L) ∧ (¬x_5.3 = (0 : Int) → False ∧ L = L)) ∧ (¬x_4.8 = (40 : Int) → False ∧ L = L)) ∧ (¬x_3.7 = (90 : Int) → False ∧ L = L))) from by
  simp only [eq_self, true_and, and_true, false_and, and_false, or_false, false_or, and_self, Nat.zero_add, Nat.add_zero, Nat.sub_zero, Nat.zero_mul, Nat.mul_one, Int.toNat_natCast, cond_true, cond_false, forall_const, implies_true, Nat.beq_refl, ne_eq, not_false_eq_true, not_true_eq_false, Classical.not_not, List.cons.injEq, List.append_nil, List.nil_append, Go.Value.int.injEq, Go.Value.bool.injEq, Go.Value.slice.injEq, Nat.le_refl, Nat.zero_le, Go.Sx.one_int, Go.Sx.one_bool, Go.Sx.one_slice, Go.Sx.one_ptr, Go.Sx.one_map, Int.cast_ofNat_Int, reduceCtorEq, Nat.reduceLeDiff, Nat.reduceMul, Nat.reduceAdd, Nat.reduceSub, Nat.reduceEqDiff, Int.reduceLE, Int.reduceLT, Int.reduceEq, Int.reduceAdd, Int.reduceSub, Int.reduceNeg, Int.reduceMul, Nat.reduceBEq]
  have hl : (ckBytes [107, 101, 121] x).length = 70 := ckBytes_len _ _
  have hoc : Octets (ckBytes [107, 101, 121] x) := octets_ck hx
  intro b b1
  refine ⟨⟨some ⟨b1, 0, none⟩, 3, 3, [107, 101, 121], x⟩, ⟨rfl, BytesAt.tab (t := 5) (List.mem_append_right _ (by repeat (first | exact List.Mem.head _ | apply List.Mem.tail))) rfl (Nat.le_refl _) rfl, by show 3 < 900000; decide⟩, ?_⟩
  show ∀ (b_2 base cap : Nat) (xs : List Int), _
  simp only [hl]
  intro b2 base cap xs g1 g2 g3
  refine ⟨fun _ => rfl, fun _ => ⟨fun _ => rfl, fun h0 => ?_⟩⟩
  obtain ⟨n, hn, en⟩ := ct_n at_
  refine ⟨⟨n, [], 0, 0, 0, 0, 0, 0⟩, ⟨_, en, rfl⟩, fun x2 e2 => ?_⟩
  subst e2
  dsimp only
  have e38 := ct_38 hn
  simp only [e38, Int.toNat_natCast]
  have hb0 : (0 : Int) ≤ ((38 + n : Nat) : Int) ∧ ((38 + n : Nat) : Int) < ((70 : Nat) : Int) := ⟨by omega, by omega⟩
  have hb1 : 38 + n < cap := by omega
  have hg : xs.getD (38 + n) 0 = (ckBytes [107, 101, 121] x).getD (38 + n) 0 := take_getD g3 (by omega)
  have hge : 0 ≤ (ckBytes [107, 101, 121] x).getD (38 + n) 0 ∧ (ckBytes [107, 101, 121] x).getD (38 + n) 0 < 256 := by
    rw [List.getD_eq_getElem?_getD, List.getElem?_eq_getElem (show 38 + n < (ckBytes [107, 101, 121] x).length by omega)]
    exact hoc _ (List.getElem_mem _)
  rw [hg]
  generalize ev : ixor IntKind.u8 ((ckBytes [107, 101, 121] x).getD (38 + n) 0) turn = v
  have hv : v ≠ (ckBytes [107, 101, 121] x).getD (38 + n) 0 := by rw [← ev]; exact ixor_ne hge ht h0
  have hvr : 0 ≤ v ∧ v < 256 := by rw [← ev]; exact ixor_r _ _
  have t1 : (xs.set (38 + n) v).take 70 = (ckBytes [107, 101, 121] x).set (38 + n) v := by rw [List.take_set, g3]
  have l1 : ((ckBytes [107, 101, 121] x).set (38 + n) v).length = 70 := by rw [List.length_set, hl]
  have o1 : Octets ((ckBytes [107, 101, 121] x).set (38 + n) v) := fun z hz => by
    rcases List.mem_or_eq_of_mem_set hz with hz | rfl
    · exact hoc z hz
    · exact hvr
  have t2 : (xs.set (38 + n) v).take 69 = win ((ckBytes [107, 101, 121] x).set (38 + n) v) 0 69 := by
    unfold win
    rw [← t1, List.drop_zero, List.take_take, show min 69 70 = 69 by decide]
  have l2 : (win ((ckBytes [107, 101, 121] x).set (38 + n) v) 0 69).length = 69 := by unfold win; rw [List.drop_zero, List.length_take, l1]; rfl
  have hv1 : (xs.set (38 + n) v).getD (38 + n) 0 = v := by
    rw [List.getD_eq_getElem?_getD, List.getElem?_set_self (by omega)]
    rfl
  have et : ∀ ys : List Int, ys = xs.set (38 + n) v → (ys.set (38 + n) (ixor IntKind.u8 (ys.getD (38 + n) 0) turn)).take 70 = ckBytes [107, 101, 121] x := fun ys e => by
    rw [e, hv1, ← ev, ixor_back hge, List.set_set, List.take_set, g3, ← List.getElem_eq_getD (h := by omega) 0, List.set_getElem_self]
  refine ⟨hb0, hb1, hb0, hb1, ⟨0, xs.set (38 + n) v, b2, base, cap, b, 90, 0⟩, fun b3 => ⟨⟨⟨⟨some ⟨b3, 0, none⟩, 3, 3, [107, 101, 121]⟩, ⟨some ⟨b2, base, none⟩, 70, cap, (ckBytes [107, 101, 121] x).set (38 + n) v⟩, x.i⟩, Ck.zero, 90⟩,
    ⟨⟨rfl, ⟨BytesAt.tab (t := 5) (List.mem_append_right _ (by repeat (first | exact List.Mem.head _ | apply List.Mem.tail))) rfl (Nat.le_refl _) rfl, by show 3 < 900000; decide⟩, BytesAt.tab (t := 5) (n := 70) (List.mem_append_right _ (by repeat (first | exact List.Mem.head _ | apply List.Mem.tail))) l1 g2 t1, o1, g2⟩, ct_bad hx hn hv _⟩, _, ⟨⟨rfl, trivial, rfl⟩, rfl, rfl, rfl, rfl, rfl⟩, rfl⟩, fun x3 e3 => ?_⟩
  subst e3
  dsimp only
  have h69 : ((69 : Nat) : Int) ≤ (cap : Int) := by omega
  have hS : ∀ (b' : Nat) (M : Blks), (b', Blk.tab 5 0 3 [Col.ints IntKind.u8 [107, 101, 121]]) ∈ M → (b2, Blk.tab 5 base cap [Col.ints IntKind.u8 (xs.set (38 + n) v)]) ∈ M →
      ∃ x_4 : OrX, OrPre x_4 [Value.slice (some ⟨b', 0, none⟩) 3 3, Value.slice (some ⟨b2, base, none⟩) 69 cap, Value.int IntKind.u32 x.i] M ∧ ∃ y : CtX, (x_4.e = y.f ∧ b = y.b0 ∧ b2 = y.b ∧ base = y.base ∧ cap = y.cap ∧ xs.set (38 + n) v = y.xs) ∧ y = (⟨0, xs.set (38 + n) v, b2, base, cap, b, 0, 40⟩ : CtX) := fun b' M m1 m2 =>
    ⟨⟨⟨⟨some ⟨b', 0, none⟩, 3, 3, [107, 101, 121]⟩, ⟨some ⟨b2, base, none⟩, 69, cap, win ((ckBytes [107, 101, 121] x).set (38 + n) v) 0 69⟩, x.i⟩, Ck.zero, 40⟩,
      ⟨⟨rfl, ⟨BytesAt.tab (t := 5) m1 rfl (Nat.le_refl _) rfl, by show 3 < 900000; decide⟩, BytesAt.tab (t := 5) (n := 69) m2 l2 (by omega) t2, octets_win o1 0 69, by show 69 ≤ cap; omega⟩, openF_short (by show (win _ 0 69).length < 70; rw [l2]; decide)⟩, _, ⟨rfl, rfl, rfl, rfl, rfl, rfl⟩, rfl⟩
  refine ⟨⟨0, xs.set (38 + n) v, b2, base, cap, b, 0, 40⟩, ⟨h69, fun b4 => ⟨h69, ⟨h69, hS _ _ (List.mem_append_right _ (by repeat (first | exact List.Mem.head _ | apply List.Mem.tail))) (List.mem_append_right _ (by repeat (first | exact List.Mem.head _ | apply List.Mem.tail))), fun b5 => ⟨h69, hS _ _ (List.mem_append_right _ (by repeat (first | exact List.Mem.head _ | apply List.Mem.tail))) (List.mem_append_right _ (by repeat (first | exact List.Mem.head _ | apply List.Mem.tail)))⟩⟩, fun b5 => ⟨h69, h69, hS _ _ (List.mem_append_right _ (by repeat (first | exact List.Mem.head _ | apply List.Mem.tail))) (List.mem_append_right _ (by repeat (first | exact List.Mem.head _ | apply List.Mem.tail)))⟩⟩, fun b4 => ⟨h69, fun b5 => ⟨h69, h69, hS _ _ (List.mem_append_right _ (by repeat (first | exact List.Mem.head _ | apply List.Mem.tail))) (List.mem_append_right _ (by repeat (first | exact List.Mem.head _ | apply List.Mem.tail)))⟩⟩⟩, fun x4 e4 => ?_⟩
  subst e4
  dsimp only
  have hok : openF [107, 101, 121] (ckBytes [107, 101, 121] x) x.i = (x, 0) := by
    rw [openF_bytes hx, Int.sub_self, if_neg (by decide)]
  refine ⟨hb0, hb1, hb0, hb1, fun b6 => ⟨⟨⟨⟨some ⟨b6, 0, none⟩, 3, 3, [107, 101, 121]⟩, ⟨some ⟨b2, base, none⟩, 70, cap, ckBytes [107, 101, 121] x⟩, x.i⟩, x, 0⟩,
    ⟨⟨rfl, ⟨BytesAt.tab (t := 5) (List.mem_append_right _ (by repeat (first | exact List.Mem.head _ | apply List.Mem.tail))) rfl (Nat.le_refl _) rfl, by show 3 < 900000; decide⟩, BytesAt.tab (t := 5) (n := 70) (List.mem_append_right _ (by repeat (first | exact List.Mem.head _ | apply List.Mem.tail))) hl g2 (et _ rfl), hoc, g2⟩, hok⟩, fun _ => ⟨fun _ => ⟨fun _ => ⟨ps74, rfl, rfl, rfl, rfl, rfl, rfl, rfl, rfl, rfl, rfl, rfl⟩, fun h => h rfl⟩, fun h => h rfl⟩, fun h => h rfl⟩⟩)
theorem ct_sound : ∀ p ∈ [((35 : Nat), ckFirstT), (36, makeT), (37, openRT)], SoundT Go.Proofs.Try.prog p.1 p.2 := by
  intro p hp
  simp at hp
  rcases hp with rfl | rfl | rfl
  · exact ckFirstT_sound
  · exact makeT_sound
  · exact openRT_sound
end Go.Proofs.Ytpjikjhaljennaa
