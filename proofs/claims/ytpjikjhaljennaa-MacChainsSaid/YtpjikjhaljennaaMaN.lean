/- MacSeals: its run. -/
import Derived.Test.YtpjikjhaljennaaMaM
set_option maxRecDepth 100000
set_option linter.unusedVariables false
set_option linter.unusedSimpArgs false
namespace Go.Proofs.Ytpjikjhaljennaa
open Go Go.Sx
attribute [local irreducible] Go.Sx.xrun

structure MsX where
  ko : Option Addr
  kl : Nat
  kc : Nat
  bo : Option Addr
  bl : Nat
  bc : Nat
  ob : Nat
  base : Nat
  cap : Nat
  n : Nat
  xs : List Int
noncomputable def Ann.ms (L : Blks) (P4 : MsX → Prop) (P5 P6 : MsX → MsX → Prop) : FnAnn := ⟨[],
  [(1000004, ⟨MsX, [(fun σ y => ⟨σ.n, (7, .sl y.ko y.kl y.kc) :: (8, .sl y.bo y.bl y.bc) :: keepE σ.env [2], [.chunk L]⟩, fun _ y => P4 y)], fun _ => 0⟩),
   (1000005, ⟨MsX, [(fun σ y => ⟨σ.n, (9, .slc 1 0 y.kl y.cap) :: keepE σ.env [2, 7, 8], [.chunk L, .own y.ob (.tab 5 y.base y.cap [.ints .u8 y.xs])]⟩, fun x0 y => P5 x0 y)], fun _ => 0⟩),
   (1000006, ⟨MsX, [(fun σ y => ⟨σ.n, (10, .val (.int .i64 y.n)) :: keepE σ.env [7, 8, 9], σ.heap⟩, fun x0 y => P6 x0 y)], fun _ => 0⟩),
   (1000007, ⟨MsX, [(fun σ y => ⟨σ.n, (11, .ptr 2 0 0) :: keepE σ.env [7, 8, 9, 10], Ann.app' σ.heap [.own y.ob (.tab 65 0 32 [.ints .u8 y.xs])]⟩, fun x0 y => y.xs = x0.xs)], fun _ => 0⟩),
   (1000008, ⟨MsX, [(fun σ y => ⟨σ.n, (12, .ptr 3 0 0) :: keepE σ.env [7, 8, 9, 10, 11], Ann.app' σ.heap [.own y.ob (.tab 65 0 32 [.ints .u8 y.xs])]⟩, fun x0 y => y.xs = x0.xs)], fun _ => 0⟩)]⟩
noncomputable def msGoal (ko : Option Addr) (kl kc : Nat) (bo : Option Addr) (bl bc : Nat) (cut : Int) (L : Blks) (P4 : MsX → Prop) (P5 P6 : MsX → MsX → Prop) : Prop :=
  xrun Go.Proofs.Try.prog [(29, firstT), (30, sealT), (31, hashT), (34, sameT), (32, refSealT), (33, refHashT)] [(8, Ann.ms L P4 P5 P6)] [] 9 [] 8 [.sl ko kl kc, .sl bo bl bc, .val (.int .i64 cut)] [.chunk L] fun s h => bOf s (fun p => p) ∧ headIs h L
theorem BytesAt.part {L : Blks} {o : Option Addr} {l : Nat} {bs : List Int} (h : BytesAt L o l bs) {c n m : Nat} (hlc : l ≤ c) (hm : n + m ≤ l) : BytesAt L (if c = n then o else o.map fun x => x.add n) m ((bs.drop n).take m) := by
  obtain ⟨h1, h2⟩ := h
  refine ⟨by simp; omega, fun h0 => ?_⟩
  obtain ⟨b, x, rfl, hc⟩ := h2 (by omega)
  have hne : ¬ c = n := by omega
  rw [if_neg hne]
  refine ⟨b, x + n, by simp [addr_add], fun i hi => ?_⟩
  have := hc (n + i) (by omega)
  rw [show x + n + i = x + (n + i) by omega]
  have e : ((bs.drop n).take m).getD i 0 = bs.getD (n + i) 0 := by
    rw [List.getD_eq_getElem?_getD, List.getD_eq_getElem?_getD, List.getElem?_take_of_lt hi, List.getElem?_drop]
  rw [e]
  exact this
theorem PartsAt.three {L : Blks} {b : Nat} {t : TypeId} {o0 o1 o2 : Option Addr} {l0 c0 l1 c1 l2 c2 : Nat} {p0 p1 p2 : List Int} (hm : (b, Blk.cells [.slice o0 l0 c0, .slice o1 l1 c1, .slice o2 l2 c2] t) ∈ L) (h0 : BytesAt L o0 l0 p0) (h1 : BytesAt L o1 l1 p1) (h2 : BytesAt L o2 l2 p2) : PartsAt L b 0 3 [p0, p1, p2] :=
  ⟨rfl, fun i hi => by
    match i, hi with
    | 0, _ => exact ⟨o0, l0, c0, rawCell_cells hm rfl, h0⟩
    | 1, _ => exact ⟨o1, l1, c1, rawCell_cells hm rfl, h1⟩
    | 2, _ => exact ⟨o2, l2, c2, rawCell_cells hm rfl, h2⟩⟩
theorem BytesAt.nil (L : Blks) : BytesAt L none 0 [] := ⟨rfl, fun h => absurd h (by omega)⟩
theorem eq65 : (!Go.Proofs.Try.prog.eqGuardType Go.Proofs.Try.prog.depth 65 && Nat.beq 32 32 && Nat.beq 1 1) = true := by kernel_rfl
def msP4 (L : Blks) (K X : List Int) (y : MsX) : Prop := BytesAt L y.ko y.kl K ∧ BytesAt L y.bo y.bl X ∧ y.bl ≤ y.bc
def msP5 (K : List Int) (_ y : MsX) : Prop := y.kl = K.length ∧ y.kl ≤ y.cap ∧ y.xs.length = y.cap ∧ y.xs.take y.kl = K
def msP6 (X : List Int) (_ y : MsX) : Prop := y.n ≤ X.length
theorem ms_n (cut : Int) {l : Nat} (hl : l < 1000000) : ∃ n : Nat, n ≤ l ∧ IntKind.wrap .i64 ((IntKind.wrap .u64 cut).tmod (IntKind.wrap .u64 (IntKind.wrap .i64 ((l : Int) + 1)))) = (n : Int) := by
  have e1 : IntKind.wrap .u64 (IntKind.wrap .i64 ((l : Int) + 1)) = ((l + 1 : Nat) : Int) := by rw [IntKind.wrap_i64, wrap_u64a]; omega
  obtain ⟨c, hc⟩ : ∃ c : Nat, IntKind.wrap .u64 cut = (c : Int) := ⟨(IntKind.wrap .u64 cut).toNat, by rw [wrap_u64a]; omega⟩
  rw [e1, hc]
  have e2 : ((c : Int)).tmod ((l + 1 : Nat) : Int) = ((c % (l + 1) : Nat) : Int) := rfl
  have h3 : c % (l + 1) < l + 1 := Nat.mod_lt _ (by omega)
  refine ⟨c % (l + 1), by omega, ?_⟩
  rw [e2, IntKind.wrap_i64]
  omega
theorem ms_u {l : Nat} (hl : l < 1000000) : ¬ IntKind.wrap .u64 (IntKind.wrap .i64 ((l : Int) + 1)) = 0 := by rw [IntKind.wrap_i64, wrap_u64a]; omega
theorem set_h32 {h : List Int} (hl : h.length = 32) : List.take 0 (List.replicate 32 (0 : Int)) ++ h ++ List.drop h.length (List.replicate 32 0) = h := by rw [hl]; simp
attribute [local irreducible] hashF sealF
set_option maxHeartbeats 2000000 in
theorem ms_goal (ko : Option Addr) (kl kc : Nat) (bo : Option Addr) (bl bc : Nat) (cut : Int) (L : Blks) (P4 : MsX → Prop) (P5 P6 : MsX → MsX → Prop) (key bs K X : List Int) (hkey : BytesAt L ko kl key) (hok : Octets key) (hkc : kl ≤ kc) (hbs : BytesAt L bo bl bs) (hob : Octets bs) (hbc : bl ≤ bc)
    (eK : K = key.take (min kl 400)) (eX : X = bs.take (min bl 800)) (e4 : P4 = msP4 L K X) (e5 : P5 = msP5 K) (e6 : P6 = msP6 X) : msGoal ko kl kc bo bl bc cut L P4 P5 P6 :=
  Eq.mpr (by kernel_rfl) (show
  ∃ (x0 : MsX), (((0 : Int) ≤ Min.min (↑kl : Int) (400 : Int) ∧ Min.min (↑kl : Int) (400 : Int) ≤ (↑kc : Int)) ∧ ((0 : Int) ≤ Min.min (↑bl : Int) (800 : Int) ∧ Min.min (↑bl : Int) (800 : Int) ≤ (↑bc : Int)) ∧ ∃ (y : MsX), ((((if kc = (0 : Nat) then ko else Option.map (fun (x : Go.Addr) => Go.Addr.add x (0 : Nat)) ko) = y.1 ∧ Int.toNat (Min.min (↑kl : Int) (400 : Int)) - (0 : Nat) = y.2 ∧ kc - (0 : Nat) = y.3) ∧ ((if bc = (0 : Nat) then bo else Option.map (fun (x : Go.Addr) => Go.Addr.add x (0 : Nat)) bo) = y.4 ∧
  Int.toNat (Min.min (↑bl : Int) (800 : Int)) - (0 : Nat) = y.5 ∧ bc - (0 : Nat) = y.6) ∧ cut = cut ∧ True) ∧ L = L ∧ True) ∧ P4 y) ∧ ∀ (x : MsX), P4 x → ∃ (x0 : MsX), (∀ (b : Nat), (x.2 = (0 : Nat) → (0 : Nat) ≤ (0 : Nat) ∧ ∃ (y : MsX), ((((0 : Nat) = (0 : Nat) ∧ (0 : Nat) = y.2 ∧ (0 : Nat) = y.9) ∧ cut = cut ∧ (x.1 = x.1 ∧ x.2 = x.2 ∧ x.3 = x.3) ∧ (x.4 = x.4 ∧ x.5 = x.5 ∧ x.6 = x.6) ∧ True) ∧ L = L ∧ (b = y.7 ∧ (0 : Nat) = y.8 ∧ (0 : Nat) = y.9 ∧ [] = y.11 ∧ True) ∧ True) ∧ P5 x0 y) ∧ ((0 : Nat) < x.2 → ∃ (b : Nat), ∃ (x0_1 : Nat), x.1 = Option.some { block := b, off := x0_1 } ∧
  ∃ (xs : List Int), rawTab L b x0_1 x.2 [Col.ints IntKind.u8 xs] ∧ ((0 : Nat) ≤ (0 : Nat) ∧ (0 : Nat) ≤ (0 : Nat)) ∧ (0 : Nat) ≤ (0 : Nat) ∧ ((0 : Nat) + x.2) * (1 : Nat) ≤ (140737488355328 : Nat) ∧ ∀ (b base cap' : Nat), (0 : Nat) + x.2 ≤ cap' → ((0 : Nat) + x.2 ≤ (0 : Nat) → cap' = (0 : Nat)) → ∀ (sp : List Int), List.length sp = cap' - ((0 : Nat) + x.2) → ∃ (y : MsX), ((((0 : Nat) = (0 : Nat) ∧ (0 : Nat) + x.2 = y.2 ∧ cap' = y.9) ∧ cut = cut ∧ (x.1 = x.1 ∧ x.2 = x.2 ∧ x.3 = x.3) ∧ (x.4 = x.4 ∧ x.5 = x.5 ∧ x.6 = x.6) ∧ True) ∧
  L = L ∧ (b = y.7 ∧ base = y.8 ∧ cap' = y.9 ∧ List.take (0 : Nat) [] ++ xs ++ sp = y.11 ∧ True) ∧ True) ∧ P5 x0 y)) ∧ ∀ (x_1 : MsX), P5 x0 x_1 → ∃ (x0 : MsX), (IntKind.wrap IntKind.u64 (IntKind.wrap IntKind.i64 ((↑x.5 : Int) + (1 : Int))) ≠ (0 : Int) ∧ ∃ (y : MsX), ((IntKind.wrap IntKind.i64 (Int.tmod (IntKind.wrap IntKind.u64 cut) (IntKind.wrap IntKind.u64 (IntKind.wrap IntKind.i64 ((↑x.5 : Int) + (1 : Int))))) = (↑y.10 : Int) ∧ (x.1 = x.1 ∧ x.2 = x.2 ∧ x.3 = x.3) ∧ (x.4 = x.4 ∧ x.5 = x.5 ∧ x.6 = x.6) ∧ ((0 : Nat) = (0 : Nat) ∧ x_1.2 = x_1.2 ∧ x_1.9 = x_1.9) ∧ True) ∧
  L = L ∧ (x_1.7 = x_1.7 ∧ x_1.8 = x_1.8 ∧ x_1.9 = x_1.9 ∧ x_1.11 = x_1.11 ∧ True) ∧ True) ∧ P6 x0 y) ∧ ∀ (x_2 : MsX), P6 x0 x_2 → ∃ (x0 : MsX), (((0 : Int) ≤ (↑x_2.10 : Int) ∧ (↑x_2.10 : Int) ≤ (↑x.6 : Int)) ∧ ((0 : Int) ≤ (↑x_2.10 : Int) ∧ (↑x_2.10 : Int) ≤ (↑x.5 : Int)) ∧ (∀ (b : Nat), (∃ (x_3 : SlX), SealPre x_3 [Value.slice (Option.some { block := x_1.7, off := x_1.8 * (1 : Nat) }) x_1.2 x_1.9, Value.slice (Option.some { block := b, off := (0 : Nat) * (1 : Nat) }) (2 : Nat) (2 : Nat)] (L ++ [(x_1.7, Blk.tab (5 : Go.TypeId) x_1.8 x_1.9 [Col.ints IntKind.u8 x_1.11]), (b, Blk.cells
  [Value.slice (if x.6 = (0 : Nat) then x.4 else Option.map (fun (x : Go.Addr) => Go.Addr.add x (0 : Nat)) x.4) (x_2.10 - (0 : Nat)) (x.6 - (0 : Nat)), Value.slice (if x.6 = x_2.10 then x.4 else Option.map (fun (x : Go.Addr) => Go.Addr.add x (x_2.10 * (1 : Nat))) x.4) (x.5 - x_2.10) (x.6 - x_2.10)] (30 : Nat))] ++ []) ∧ ∀ (b : Nat), (List.length (sealF x_3.4 (List.flatten x_3.5.5)) = (32 : Nat) ∧ (0 : Nat) + List.length (sealF x_3.4 (List.flatten x_3.5.5)) ≤ (32 : Nat)) ∧ ∃ (y : MsX), ((((0 : Nat) = (0 : Nat) ∧ (0 : Nat) = (0 : Nat)) ∧ (x.1 = x.1 ∧ x.2 = x.2 ∧ x.3 = x.3) ∧
  (x.4 = x.4 ∧ x.5 = x.5 ∧ x.6 = x.6) ∧ ((0 : Nat) = (0 : Nat) ∧ x_1.2 = x_1.2 ∧ x_1.9 = x_1.9) ∧ (↑x_2.10 : Int) = (↑x_2.10 : Int) ∧ True) ∧ L = L ∧ (x_1.7 = x_1.7 ∧ x_1.8 = x_1.8 ∧ x_1.9 = x_1.9 ∧ x_1.11 = x_1.11 ∧ True) ∧ (b = y.7 ∧ (0 : Nat) = (0 : Nat) ∧ (32 : Nat) = (32 : Nat) ∧ List.take (0 : Nat) (List.replicate (32 : Nat) (0 : Int)) ++ sealF x_3.4 (List.flatten x_3.5.5) ++ List.drop ((0 : Nat) + List.length (sealF x_3.4 (List.flatten x_3.5.5))) (List.replicate (32 : Nat) (0 : Int)) = y.11 ∧ True) ∧ True) ∧ y.11 = x0.11) ∧ ∀ (b_1 : Nat), ∃ (x_3 : SlX), SealPre x_3
  [Value.slice (Option.some { block := x_1.7, off := x_1.8 * (1 : Nat) }) x_1.2 x_1.9, Value.slice (Option.some { block := b, off := (0 : Nat) * (1 : Nat) }) (2 : Nat) (2 : Nat)] (L ++ [(x_1.7, Blk.tab (5 : Go.TypeId) x_1.8 x_1.9 [Col.ints IntKind.u8 x_1.11]), (b, Blk.cells [Value.slice (if x.6 = (0 : Nat) then x.4 else Option.map (fun (x : Go.Addr) => Go.Addr.add x (0 : Nat)) x.4) (x_2.10 - (0 : Nat)) (x.6 - (0 : Nat)), Value.slice (if x.6 = x_2.10 then x.4 else Option.map (fun (x : Go.Addr) => Go.Addr.add x (x_2.10 * (1 : Nat))) x.4) (x.5 - x_2.10) (x.6 - x_2.10)] (30 : Nat)),
  (b_1, Blk.tab (65 : Nat) (0 : Nat) (32 : Nat) [Col.ints IntKind.u8 (List.replicate (32 : Nat) (0 : Int))])] ++ []) ∧ (List.length (sealF x_3.4 (List.flatten x_3.5.5)) = (32 : Nat) ∧ (0 : Nat) + List.length (sealF x_3.4 (List.flatten x_3.5.5)) ≤ (32 : Nat)) ∧ ∃ (y : MsX), ((((0 : Nat) = (0 : Nat) ∧ (0 : Nat) = (0 : Nat)) ∧ (x.1 = x.1 ∧ x.2 = x.2 ∧ x.3 = x.3) ∧ (x.4 = x.4 ∧ x.5 = x.5 ∧ x.6 = x.6) ∧ ((0 : Nat) = (0 : Nat) ∧ x_1.2 = x_1.2 ∧ x_1.9 = x_1.9) ∧ (↑x_2.10 : Int) = (↑x_2.10 : Int) ∧ True) ∧ L = L ∧ (x_1.7 = x_1.7 ∧ x_1.8 = x_1.8 ∧ x_1.9 = x_1.9 ∧ x_1.11 = x_1.11 ∧ True) ∧ (b_1 = y.7 ∧
  (0 : Nat) = (0 : Nat) ∧ (32 : Nat) = (32 : Nat) ∧ List.take (0 : Nat) (List.replicate (32 : Nat) (0 : Int)) ++ sealF x_3.4 (List.flatten x_3.5.5) ++ List.drop ((0 : Nat) + List.length (sealF x_3.4 (List.flatten x_3.5.5))) (List.replicate (32 : Nat) (0 : Int)) = y.11 ∧ True) ∧ True) ∧ y.11 = x0.11) ∧ ∀ (b : Nat), (((0 : Int) ≤ (↑x_2.10 : Int) ∧ (↑x_2.10 : Int) ≤ (↑x.5 : Int)) ∧ SV.sl (if x.6 = x_2.10 then x.4 else Option.map (fun (x : Go.Addr) => Go.Addr.add x (x_2.10 * (1 : Nat))) x.4) (x.5 - x_2.10) (x.6 - x_2.10) =
  SV.sl (if x.6 = x_2.10 then x.4 else Option.map (fun (x : Go.Addr) => Go.Addr.add x (x_2.10 * (1 : Nat))) x.4) (x.5 - x_2.10) (x.6 - x_2.10)) ∧ (((0 : Int) ≤ (↑x_2.10 : Int) ∧ (↑x_2.10 : Int) ≤ (↑x.6 : Int)) ∧ SV.sl (if x.6 = (0 : Nat) then x.4 else Option.map (fun (x : Go.Addr) => Go.Addr.add x (0 : Nat)) x.4) (x_2.10 - (0 : Nat)) (x.6 - (0 : Nat)) = SV.sl (if x.6 = (0 : Nat) then x.4 else Option.map (fun (x : Go.Addr) => Go.Addr.add x (0 : Nat)) x.4) (x_2.10 - (0 : Nat)) (x.6 - (0 : Nat))) ∧ ∀ (b_1 : Nat), ∃ (x_3 : SlX), SealPre x_3
  [Value.slice (Option.some { block := x_1.7, off := x_1.8 * (1 : Nat) }) x_1.2 x_1.9, Value.slice (Option.some { block := b_1, off := (0 : Nat) * (1 : Nat) }) (2 : Nat) (2 : Nat)] (L ++ [(x_1.7, Blk.tab (5 : Go.TypeId) x_1.8 x_1.9 [Col.ints IntKind.u8 x_1.11]), (b, Blk.tab (65 : Nat) (0 : Nat) (32 : Nat) [Col.ints IntKind.u8 (List.replicate (32 : Nat) (0 : Int))]), (b_1, Blk.cells [Value.slice (if x.6 = (0 : Nat) then x.4 else Option.map (fun (x : Go.Addr) => Go.Addr.add x (0 : Nat)) x.4) (x_2.10 - (0 : Nat)) (x.6 - (0 : Nat)),
  Value.slice (if x.6 = x_2.10 then x.4 else Option.map (fun (x : Go.Addr) => Go.Addr.add x (x_2.10 * (1 : Nat))) x.4) (x.5 - x_2.10) (x.6 - x_2.10)] (30 : Nat))] ++ []) ∧ (List.length (sealF x_3.4 (List.flatten x_3.5.5)) = (32 : Nat) ∧ (0 : Nat) + List.length (sealF x_3.4 (List.flatten x_3.5.5)) ≤ (32 : Nat)) ∧ ∃ (y : MsX), ((((0 : Nat) = (0 : Nat) ∧ (0 : Nat) = (0 : Nat)) ∧ (x.1 = x.1 ∧ x.2 = x.2 ∧ x.3 = x.3) ∧ (x.4 = x.4 ∧ x.5 = x.5 ∧ x.6 = x.6) ∧ ((0 : Nat) = (0 : Nat) ∧ x_1.2 = x_1.2 ∧ x_1.9 = x_1.9) ∧ (↑x_2.10 : Int) = (↑x_2.10 : Int) ∧ True) ∧ L = L ∧
  (x_1.7 = x_1.7 ∧ x_1.8 = x_1.8 ∧ x_1.9 = x_1.9 ∧ x_1.11 = x_1.11 ∧ True) ∧ (b = y.7 ∧ (0 : Nat) = (0 : Nat) ∧ (32 : Nat) = (32 : Nat) ∧ List.take (0 : Nat) (List.replicate (32 : Nat) (0 : Int)) ++ sealF x_3.4 (List.flatten x_3.5.5) ++ List.drop ((0 : Nat) + List.length (sealF x_3.4 (List.flatten x_3.5.5))) (List.replicate (32 : Nat) (0 : Int)) = y.11 ∧ True) ∧ True) ∧ y.11 = x0.11) ∧ ∀ (x_3 : MsX), x_3.11 = x0.11 → ∃ (x0 : MsX), (((0 : Int) ≤ (↑x_2.10 : Int) ∧ (↑x_2.10 : Int) ≤ (↑x.6 : Int)) ∧ ((0 : Int) ≤ (↑x_2.10 : Int) ∧ (↑x_2.10 : Int) ≤ (↑x.5 : Int)) ∧ (∀ (b : Nat), (∃ (x_4 : PsX),
  PartsPre x_4 [Value.slice (Option.some { block := b, off := (0 : Nat) * (1 : Nat) }) (3 : Nat) (3 : Nat)] (L ++ [(x_1.7, Blk.tab (5 : Go.TypeId) x_1.8 x_1.9 [Col.ints IntKind.u8 x_1.11]), (x_3.7, Blk.tab (65 : Go.TypeId) (0 : Nat) (32 : Nat) [Col.ints IntKind.u8 x_3.11]), (b, Blk.cells [Value.slice (if x.6 = (0 : Nat) then x.4 else Option.map (fun (x : Go.Addr) => Go.Addr.add x (0 : Nat)) x.4) (x_2.10 - (0 : Nat)) (x.6 - (0 : Nat)), Value.slice Option.none (0 : Nat) (0 : Nat),
  Value.slice (if x.6 = x_2.10 then x.4 else Option.map (fun (x : Go.Addr) => Go.Addr.add x (x_2.10 * (1 : Nat))) x.4) (x.5 - x_2.10) (x.6 - x_2.10)] (30 : Nat))] ++ []) ∧ ∀ (b : Nat), (List.length (hashF (List.flatten x_4.5)) = (32 : Nat) ∧ (0 : Nat) + List.length (hashF (List.flatten x_4.5)) ≤ (32 : Nat)) ∧ ∃ (y : MsX), ((((0 : Nat) = (0 : Nat) ∧ (0 : Nat) = (0 : Nat)) ∧ (x.1 = x.1 ∧ x.2 = x.2 ∧ x.3 = x.3) ∧ (x.4 = x.4 ∧ x.5 = x.5 ∧ x.6 = x.6) ∧ ((0 : Nat) = (0 : Nat) ∧ x_1.2 = x_1.2 ∧ x_1.9 = x_1.9) ∧
  (↑x_2.10 : Int) = (↑x_2.10 : Int) ∧ ((0 : Nat) = (0 : Nat) ∧ (0 : Nat) = (0 : Nat)) ∧ True) ∧ L = L ∧ (x_1.7 = x_1.7 ∧ x_1.8 = x_1.8 ∧ x_1.9 = x_1.9 ∧ x_1.11 = x_1.11 ∧ True) ∧ (x_3.7 = x_3.7 ∧ (0 : Nat) = (0 : Nat) ∧ (32 : Nat) = (32 : Nat) ∧ x_3.11 = x_3.11 ∧ True) ∧ (b = y.7 ∧ (0 : Nat) = (0 : Nat) ∧ (32 : Nat) = (32 : Nat) ∧ List.take (0 : Nat) (List.replicate (32 : Nat) (0 : Int)) ++ hashF (List.flatten x_4.5) ++ List.drop ((0 : Nat) + List.length (hashF (List.flatten x_4.5))) (List.replicate (32 : Nat) (0 : Int)) = y.11 ∧ True) ∧ True) ∧ y.11 = x0.11) ∧ ∀ (b_1 : Nat), ∃ (x_4 : PsX),
  PartsPre x_4 [Value.slice (Option.some { block := b, off := (0 : Nat) * (1 : Nat) }) (3 : Nat) (3 : Nat)] (L ++ [(x_1.7, Blk.tab (5 : Go.TypeId) x_1.8 x_1.9 [Col.ints IntKind.u8 x_1.11]), (x_3.7, Blk.tab (65 : Go.TypeId) (0 : Nat) (32 : Nat) [Col.ints IntKind.u8 x_3.11]), (b, Blk.cells [Value.slice (if x.6 = (0 : Nat) then x.4 else Option.map (fun (x : Go.Addr) => Go.Addr.add x (0 : Nat)) x.4) (x_2.10 - (0 : Nat)) (x.6 - (0 : Nat)), Value.slice Option.none (0 : Nat) (0 : Nat),
  Value.slice (if x.6 = x_2.10 then x.4 else Option.map (fun (x : Go.Addr) => Go.Addr.add x (x_2.10 * (1 : Nat))) x.4) (x.5 - x_2.10) (x.6 - x_2.10)] (30 : Nat)), (b_1, Blk.tab (65 : Nat) (0 : Nat) (32 : Nat) [Col.ints IntKind.u8 (List.replicate (32 : Nat) (0 : Int))])] ++ []) ∧ (List.length (hashF (List.flatten x_4.5)) = (32 : Nat) ∧ (0 : Nat) + List.length (hashF (List.flatten x_4.5)) ≤ (32 : Nat)) ∧ ∃ (y : MsX), ((((0 : Nat) = (0 : Nat) ∧ (0 : Nat) = (0 : Nat)) ∧ (x.1 = x.1 ∧ x.2 = x.2 ∧ x.3 = x.3) ∧ (x.4 = x.4 ∧ x.5 = x.5 ∧ x.6 = x.6) ∧
  ((0 : Nat) = (0 : Nat) ∧ x_1.2 = x_1.2 ∧ x_1.9 = x_1.9) ∧ (↑x_2.10 : Int) = (↑x_2.10 : Int) ∧ ((0 : Nat) = (0 : Nat) ∧ (0 : Nat) = (0 : Nat)) ∧ True) ∧ L = L ∧ (x_1.7 = x_1.7 ∧ x_1.8 = x_1.8 ∧ x_1.9 = x_1.9 ∧ x_1.11 = x_1.11 ∧ True) ∧ (x_3.7 = x_3.7 ∧ (0 : Nat) = (0 : Nat) ∧ (32 : Nat) = (32 : Nat) ∧ x_3.11 = x_3.11 ∧ True) ∧ (b_1 = y.7 ∧ (0 : Nat) = (0 : Nat) ∧ (32 : Nat) = (32 : Nat) ∧ List.take (0 : Nat) (List.replicate (32 : Nat) (0 : Int)) ++ hashF (List.flatten x_4.5) ++ List.drop ((0 : Nat) + List.length (hashF (List.flatten x_4.5))) (List.replicate (32 : Nat) (0 : Int)) = y.11 ∧
  True) ∧ True) ∧ y.11 = x0.11) ∧ ∀ (b : Nat), (((0 : Int) ≤ (↑x_2.10 : Int) ∧ (↑x_2.10 : Int) ≤ (↑x.5 : Int)) ∧ SV.sl (if x.6 = x_2.10 then x.4 else Option.map (fun (x : Go.Addr) => Go.Addr.add x (x_2.10 * (1 : Nat))) x.4) (x.5 - x_2.10) (x.6 - x_2.10) = SV.sl (if x.6 = x_2.10 then x.4 else Option.map (fun (x : Go.Addr) => Go.Addr.add x (x_2.10 * (1 : Nat))) x.4) (x.5 - x_2.10) (x.6 - x_2.10)) ∧ (((0 : Int) ≤ (↑x_2.10 : Int) ∧ (↑x_2.10 : Int) ≤ (↑x.6 : Int)) ∧
  SV.sl (if x.6 = (0 : Nat) then x.4 else Option.map (fun (x : Go.Addr) => Go.Addr.add x (0 : Nat)) x.4) (x_2.10 - (0 : Nat)) (x.6 - (0 : Nat)) = SV.sl (if x.6 = (0 : Nat) then x.4 else Option.map (fun (x : Go.Addr) => Go.Addr.add x (0 : Nat)) x.4) (x_2.10 - (0 : Nat)) (x.6 - (0 : Nat))) ∧ ∀ (b_1 : Nat), ∃ (x_4 : PsX), PartsPre x_4 [Value.slice (Option.some { block := b_1, off := (0 : Nat) * (1 : Nat) }) (3 : Nat) (3 : Nat)] (L ++ [(x_1.7, Blk.tab (5 : Go.TypeId) x_1.8 x_1.9 [Col.ints IntKind.u8 x_1.11]), (x_3.7, Blk.tab (65 : Go.TypeId) (0 : Nat) (32 : Nat) [Col.ints IntKind.u8 x_3.11]),
  (b, Blk.tab (65 : Nat) (0 : Nat) (32 : Nat) [Col.ints IntKind.u8 (List.replicate (32 : Nat) (0 : Int))]), (b_1, Blk.cells [Value.slice (if x.6 = (0 : Nat) then x.4 else Option.map (fun (x : Go.Addr) => Go.Addr.add x (0 : Nat)) x.4) (x_2.10 - (0 : Nat)) (x.6 - (0 : Nat)), Value.slice Option.none (0 : Nat) (0 : Nat), Value.slice (if x.6 = x_2.10 then x.4 else Option.map (fun (x : Go.Addr) => Go.Addr.add x (x_2.10 * (1 : Nat))) x.4) (x.5 - x_2.10) (x.6 - x_2.10)] (30 : Nat))] ++ []) ∧ (List.length (hashF (List.flatten x_4.5)) = (32 : Nat) ∧
  (0 : Nat) + List.length (hashF (List.flatten x_4.5)) ≤ (32 : Nat)) ∧ ∃ (y : MsX), ((((0 : Nat) = (0 : Nat) ∧ (0 : Nat) = (0 : Nat)) ∧ (x.1 = x.1 ∧ x.2 = x.2 ∧ x.3 = x.3) ∧ (x.4 = x.4 ∧ x.5 = x.5 ∧ x.6 = x.6) ∧ ((0 : Nat) = (0 : Nat) ∧ x_1.2 = x_1.2 ∧ x_1.9 = x_1.9) ∧ (↑x_2.10 : Int) = (↑x_2.10 : Int) ∧ ((0 : Nat) = (0 : Nat) ∧ (0 : Nat) = (0 : Nat)) ∧ True) ∧ L = L ∧ (x_1.7 = x_1.7 ∧ x_1.8 = x_1.8 ∧ x_1.9 = x_1.9 ∧ x_1.11 = x_1.11 ∧ True) ∧ (x_3.7 = x_3.7 ∧ (0 : Nat) = (0 : Nat) ∧ (32 : Nat) = (32 : Nat) ∧ x_3.11 = x_3.11 ∧ True) ∧ (b = y.7 ∧ (0 : Nat) = (0 : Nat) ∧ (32 : Nat) = (32 : Nat) ∧
  List.take (0 : Nat) (List.replicate (32 : Nat) (0 : Int)) ++ hashF (List.flatten x_4.5) ++ List.drop ((0 : Nat) + List.length (hashF (List.flatten x_4.5))) (List.replicate (32 : Nat) (0 : Int)) = y.11 ∧ True) ∧ True) ∧ y.11 = x0.11) ∧ ∀ (x_4 : MsX), x_4.11 = x0.11 → (0 : Nat) + x_1.2 ≤ x_1.9 ∧ ∃ (xs : List Int), (List.length xs = x.2 ∧ ((0 : Nat) < x.2 → ∃ (b : Nat), ∃ (x0 : Nat), x.1 = Option.some { block := b, off := x0 } ∧ ∀ (i : Nat), i < x.2 → rawCell L b (x0 + i) (Value.int IntKind.u8 (List.getD xs i (0 : Int))))) ∧
  (ByteArray.toList { data := List.toArray (List.map (fun (n : Int) => UInt8.ofNat (Int.toNat n)) (List.take x_1.2 x_1.11)) } = ByteArray.toList { data := List.toArray (List.map (fun (n : Int) => UInt8.ofNat (Int.toNat n)) (List.take x.2 xs)) } → (32 : Nat) ≤ (32 : Nat) ∧ ∃ (x_5 : Bv × Bv), RsPre x_5 [Value.slice x.1 x.2 x.3, Value.slice x.4 x.5 x.6] (L ++ [(x_1.7, Blk.tab (5 : Go.TypeId) x_1.8 x_1.9 [Col.ints IntKind.u8 x_1.11]), (x_3.7, Blk.tab (65 : Go.TypeId) (0 : Nat) (32 : Nat) [Col.ints IntKind.u8 x_3.11]),
  (x_4.7, Blk.tab (65 : Go.TypeId) (0 : Nat) (32 : Nat) [Col.ints IntKind.u8 x_4.11])] ++ []) ∧ ((32 : Nat) ≤ (32 : Nat) ∧ SV.arr IntKind.u8 (List.take (32 : Nat) x_3.11) = SV.arr IntKind.u8 (List.take (32 : Nat) x_3.11)) ∧ (!Go.Program.eqGuardType Go.Proofs.Try.prog (Go.Program.depth Go.Proofs.Try.prog) (65 : Nat) && Nat.beq (32 : Nat) (32 : Nat) && Nat.beq (1 : Nat) (1 : Nat)) = Bool.true ∧ (List.length (List.take (32 : Nat) x_3.11) = (32 : Nat) ∧ List.length (sealF x_5.1.4 x_5.2.4) = (32 : Nat)) ∧ (List.take (32 : Nat) x_3.11 = sealF x_5.1.4 x_5.2.4 → (32 : Nat) ≤ (32 : Nat) ∧ ∃ (x_6 : Bv),
  RhPre x_6 [Value.slice x.4 x.5 x.6] (L ++ [(x_1.7, Blk.tab (5 : Go.TypeId) x_1.8 x_1.9 [Col.ints IntKind.u8 x_1.11]), (x_3.7, Blk.tab (65 : Go.TypeId) (0 : Nat) (32 : Nat) [Col.ints IntKind.u8 x_3.11]), (x_4.7, Blk.tab (65 : Go.TypeId) (0 : Nat) (32 : Nat) [Col.ints IntKind.u8 x_4.11])] ++ []) ∧ ((32 : Nat) ≤ (32 : Nat) ∧ SV.arr IntKind.u8 (List.take (32 : Nat) x_4.11) = SV.arr IntKind.u8 (List.take (32 : Nat) x_4.11)) ∧ (!Go.Program.eqGuardType Go.Proofs.Try.prog (Go.Program.depth Go.Proofs.Try.prog) (65 : Nat) && Nat.beq (32 : Nat) (32 : Nat) && Nat.beq (1 : Nat) (1 : Nat)) = Bool.true ∧
  (List.length (List.take (32 : Nat) x_4.11) = (32 : Nat) ∧ List.length (hashF x_6.4) = (32 : Nat)) ∧ (List.take (32 : Nat) x_4.11 = hashF x_6.4 → (32 : Nat) ≤ (32 : Nat) ∧ ∃ (x_7 : Bv × Bv), RsPre x_7 [Value.slice x.1 x.2 x.3, Value.slice x.4 x.5 x.6] (L ++ [(x_1.7, Blk.tab (5 : Go.TypeId) x_1.8 x_1.9 [Col.ints IntKind.u8 x_1.11]), (x_3.7, Blk.tab (65 : Go.TypeId) (0 : Nat) (32 : Nat) [Col.ints IntKind.u8 x_3.11]), (x_4.7, Blk.tab (65 : Go.TypeId) (0 : Nat) (32 : Nat) [Col.ints IntKind.u8 x_4.11])] ++ []) ∧ ((32 : Nat) ≤ (32 : Nat) ∧ SV.arr IntKind.u8 (List.take (32 : Nat) x_3.11) =
  SV.arr IntKind.u8 (List.take (32 : Nat) x_3.11)) ∧ (List.length (List.take (32 : Nat) x_3.11) = (32 : Nat) ∧ List.length (sealF x_7.1.4 x_7.2.4) = (32 : Nat)) ∧ (List.take (32 : Nat) x_3.11 = sealF x_7.1.4 x_7.2.4 → (32 : Nat) ≤ (32 : Nat) ∧ (32 : Nat) ≤ (32 : Nat) ∧ (32 : Nat) ≤ (32 : Nat) ∧ (32 : Nat) ≤ (32 : Nat) ∧ (!Go.Program.eqGuardType Go.Proofs.Try.prog (Go.Program.depth Go.Proofs.Try.prog) (65 : Nat) && Nat.beq (32 : Nat) (32 : Nat) && Nat.beq (1 : Nat) (1 : Nat)) = Bool.true ∧ (List.length (List.take (32 : Nat) x_3.11) = (32 : Nat) ∧
  List.length (List.take (32 : Nat) x_4.11) = (32 : Nat)) ∧ (List.length (List.take (32 : Nat) x_3.11) = (32 : Nat) ∧ List.length (List.take (32 : Nat) x_4.11) = (32 : Nat)) ∧ ((!Go.Program.eqGuardType Go.Proofs.Try.prog (Go.Program.depth Go.Proofs.Try.prog) (65 : Nat) && Nat.beq (32 : Nat) (32 : Nat) && Nat.beq (1 : Nat) (1 : Nat)) = Bool.true ∧ (List.length (List.take (32 : Nat) x_3.11) = (32 : Nat) ∧ List.length (List.take (32 : Nat) x_4.11) = (32 : Nat)) ∧ SV.prop (List.take (32 : Nat) x_3.11 = List.take (32 : Nat) x_4.11) =
  SV.prop (List.take (32 : Nat) x_3.11 = List.take (32 : Nat) x_4.11)) ∧ ((32 : Nat) ≤ (32 : Nat) ∧ SV.arr IntKind.u8 (List.take (32 : Nat) x_4.11) = SV.arr IntKind.u8 (List.take (32 : Nat) x_4.11)) ∧ ((32 : Nat) ≤ (32 : Nat) ∧ SV.arr IntKind.u8 (List.take (32 : Nat) x_3.11) = SV.arr IntKind.u8 (List.take (32 : Nat) x_3.11)) ∧ (List.take (32 : Nat) x_3.11 = List.take (32 : Nat) x_4.11 ↔ List.take (32 : Nat) x_3.11 = List.take (32 : Nat) x_4.11) ∧ L = L) ∧ (¬List.take (32 : Nat) x_3.11 = sealF x_7.1.4 x_7.2.4 → False ∧ L = L)) ∧ (¬List.take (32 : Nat) x_4.11 = hashF x_6.4 → False ∧ L = L)) ∧
  (¬List.take (32 : Nat) x_3.11 = sealF x_5.1.4 x_5.2.4 → False ∧ L = L)) ∧ (¬ByteArray.toList { data := List.toArray (List.map (fun (n : Int) => UInt8.ofNat (Int.toNat n)) (List.take x_1.2 x_1.11)) } = ByteArray.toList { data := List.toArray (List.map (fun (n : Int) => UInt8.ofNat (Int.toNat n)) (List.take x.2 xs)) } → False ∧ L = L) from by
  subst e4 e5 e6
  have m1 : min (kl : Int) 400 = ((min kl 400 : Nat) : Int) := by omega
  have m2 : min (bl : Int) 800 = ((min bl 800 : Nat) : Int) := by omega
  simp only [eq_self, true_and, and_true, false_and, and_false, or_false, false_or, and_self, Nat.zero_add, Nat.add_zero, Nat.sub_zero, Nat.zero_mul, Nat.mul_one, Int.toNat_natCast, cond_true, cond_false, forall_const, implies_true, Nat.beq_refl, ne_eq, not_false_eq_true, not_true_eq_false, Classical.not_not, List.cons.injEq, List.append_nil, List.nil_append, Go.Value.int.injEq, Go.Value.bool.injEq, Go.Value.slice.injEq, Nat.le_refl, Nat.zero_le, Go.Sx.one_int, Go.Sx.one_bool, Go.Sx.one_slice, Go.Sx.one_ptr, Go.Sx.one_map, Int.cast_ofNat_Int, reduceCtorEq, Nat.reduceLeDiff, Nat.reduceMul, Nat.reduceAdd, Nat.reduceSub, Nat.reduceEqDiff, Int.reduceLE, Int.reduceLT, Int.reduceEq, Int.reduceAdd, Int.reduceSub, Int.reduceNeg, Int.reduceMul, Nat.reduceBEq]
  simp only [m1, m2, Int.toNat_natCast]
  have hK := BytesAt.part hkey (n := 0) (m := min kl 400) hkc (by omega)
  have hX := BytesAt.part hbs (n := 0) (m := min bl 800) hbc (by omega)
  rw [List.drop_zero, ← eK] at hK
  rw [List.drop_zero, ← eX] at hX
  have hoK : Octets K := fun x hx => by rw [eK] at hx; exact hok x (List.mem_of_mem_take hx)
  have hoX : Octets X := fun x hx => by rw [eX] at hx; exact hob x (List.mem_of_mem_take hx)
  refine ⟨⟨none, 0, 0, none, 0, 0, 0, 0, 0, 0, []⟩, ⟨⟨by omega, by omega⟩, ⟨by omega, by omega⟩, ⟨_, _, _, _, _, _, 0, 0, 0, 0, []⟩, ⟨⟨rfl, rfl, rfl⟩, rfl, rfl, rfl⟩, hK, hX, by show min bl 800 ≤ bc; omega⟩, fun x ⟨x1, x2, x3⟩ => ?_⟩
  have hxk := x1.1
  have hxb := x2.1
  have hk4 : K.length ≤ 400 := by rw [eK]; simp; omega
  have hb8 : X.length ≤ 800 := by rw [eX]; simp; omega
  refine ⟨⟨none, 0, 0, none, 0, 0, 0, 0, 0, 0, []⟩, fun b => ⟨fun h0 => ?_, fun h0 => ?_⟩, fun y hy => ?_⟩
  · obtain rfl : K = [] := List.eq_nil_of_length_eq_zero (by omega)
    exact ⟨⟨none, 0, 0, none, 0, 0, b, 0, 0, 0, []⟩, ⟨⟨rfl, rfl⟩, rfl, rfl, rfl, rfl⟩, rfl, Nat.le_refl _, rfl, rfl⟩
  · obtain ⟨b1, o1, e1, -⟩ := x1.2 h0
    rw [e1] at x1
    refine ⟨b1, o1, e1, K, x1.raw h0, by omega, fun b2 base cap hc hc2 sp hs => ⟨⟨none, x.kl, 0, none, 0, 0, b2, base, cap, 0, _⟩, ⟨⟨rfl, rfl⟩, rfl, rfl, rfl, rfl⟩, hxk.symm, hc, ?_, ?_⟩⟩
    · simp; omega
    · show List.take x.kl (List.take 0 [] ++ K ++ sp) = K
      rw [List.take_zero, List.nil_append, ← hxk, List.take_left]
  · obtain ⟨y1, y2, y3, y4⟩ := hy
    obtain ⟨n, hn, en⟩ := ms_n cut (l := x.bl) (by omega)
    have hu := ms_u (l := x.bl) (by omega)
    refine ⟨⟨none, 0, 0, none, 0, 0, 0, 0, 0, 0, []⟩, ⟨hu, ⟨none, 0, 0, none, 0, 0, 0, 0, 0, n, []⟩, en, by show n ≤ X.length; omega⟩, fun z hz => ?_⟩
    have hz : z.n ≤ X.length := hz
    have hzn : (0 : Int) ≤ (z.n : Int) ∧ (z.n : Int) ≤ (x.bc : Int) := ⟨by omega, by omega⟩
    have hzb : (0 : Int) ≤ (z.n : Int) ∧ (z.n : Int) ≤ (x.bl : Int) := ⟨by omega, by omega⟩
    have hA := BytesAt.part x2 (n := 0) (m := z.n) x3 (by omega)
    have hB := BytesAt.part x2 (n := z.n) (m := x.bl - z.n) x3 (by omega)
    rw [List.drop_zero] at hA
    have hdl : (X.drop z.n).length = x.bl - z.n := by simp; omega
    have eB : (X.drop z.n).take (x.bl - z.n) = X.drop z.n := by rw [← hdl, List.take_length]
    rw [eB] at hB
    have eF2 : [X.take z.n, X.drop z.n].flatten = X := by simp
    have eF3 : [X.take z.n, [], X.drop z.n].flatten = X := by simp
    have hSP : ∀ (G : Blks) (b c : Nat), (y.ob, Blk.tab 5 y.base y.cap [Col.ints .u8 y.xs]) ∈ L ++ G → (b, Blk.cells [Value.slice (if x.bc = 0 then x.bo else Option.map (fun x => x.add 0) x.bo) z.n x.bc, Value.slice (if x.bc = z.n then x.bo else Option.map (fun x => x.add z.n) x.bo) (x.bl - z.n) (x.bc - z.n)] 30) ∈ L ++ G →
        SealPre ⟨some ⟨y.ob, y.base, none⟩, y.kl, y.cap, K, ⟨b, 0, 2, 2, [X.take z.n, X.drop z.n]⟩⟩ [Value.slice (some { block := y.ob, off := y.base }) y.kl y.cap, Value.slice (some { block := b, off := 0 }) 2 2] (L ++ G) := fun G b c m1 m2 =>
      ⟨rfl, BytesAt.tab (t := 5) m1 y1.symm y2 y4, by show y.kl < _; omega, PartsAt.two m2 (hA.seen (seen_app _ _)) (hB.seen (seen_app _ _)), (by show 0 < 2 ∧ 2 < 900000; decide), by show List.length (List.flatten _) < _; rw [eF2]; omega⟩
    have hHP : ∀ (G : Blks) (b : Nat), (b, Blk.cells [Value.slice (if x.bc = 0 then x.bo else Option.map (fun x => x.add 0) x.bo) z.n x.bc, Value.slice none 0 0, Value.slice (if x.bc = z.n then x.bo else Option.map (fun x => x.add z.n) x.bo) (x.bl - z.n) (x.bc - z.n)] 30) ∈ L ++ G →
        PartsPre ⟨b, 0, 3, 3, [X.take z.n, [], X.drop z.n]⟩ [Value.slice (some { block := b, off := 0 }) 3 3] (L ++ G) := fun G b m2 =>
      ⟨rfl, PartsAt.three m2 (hA.seen (seen_app _ _)) (BytesAt.nil _) (hB.seen (seen_app _ _)), (by show 3 < 1000000; decide), by show List.length (List.flatten _) < _; rw [eF3]; omega⟩
    have hsl := sealF_len K X
    have hhl := hashF_len X
    have hs32 := set_h32 hsl
    have hh32 := set_h32 hhl
    have hsle : (sealF K X).length ≤ 32 := by omega
    have hhle : (hashF X).length ≤ 32 := by omega
    refine ⟨⟨none, 0, 0, none, 0, 0, 0, 0, 0, 0, sealF K X⟩, ⟨hzn, hzb, fun b => ⟨⟨_, hSP _ b 0 (List.mem_append_right _ (by repeat (first | exact List.Mem.head _ | apply List.Mem.tail))) (List.mem_append_right _ (by repeat (first | exact List.Mem.head _ | apply List.Mem.tail))), ?_⟩, fun b1 => ⟨_, hSP _ b 0 (List.mem_append_right _ (by repeat (first | exact List.Mem.head _ | apply List.Mem.tail))) (List.mem_append_right _ (by repeat (first | exact List.Mem.head _ | apply List.Mem.tail))), ?_⟩⟩, fun b => ⟨hzb, hzn, fun b1 => ⟨_, hSP _ b1 0 (List.mem_append_right _ (by repeat (first | exact List.Mem.head _ | apply List.Mem.tail))) (List.mem_append_right _ (by repeat (first | exact List.Mem.head _ | apply List.Mem.tail))), ?_⟩⟩⟩, fun u hu => ?_⟩
    · simp only [eF2, hs32]
      exact fun b1 => ⟨⟨hsl, hsle⟩, ⟨none, 0, 0, none, 0, 0, b1, 0, 0, 0, _⟩, ⟨rfl, rfl⟩, rfl⟩
    · simp only [eF2, hs32]
      exact ⟨⟨hsl, hsle⟩, ⟨none, 0, 0, none, 0, 0, b1, 0, 0, 0, _⟩, ⟨rfl, rfl⟩, rfl⟩
    · simp only [eF2, hs32]
      exact ⟨⟨hsl, hsle⟩, ⟨none, 0, 0, none, 0, 0, b, 0, 0, 0, _⟩, ⟨rfl, rfl⟩, rfl⟩
    · have hu : u.xs = sealF K X := hu
      refine ⟨⟨none, 0, 0, none, 0, 0, 0, 0, 0, 0, hashF X⟩, ⟨hzn, hzb, fun b => ⟨⟨_, hHP _ b (List.mem_append_right _ (by repeat (first | exact List.Mem.head _ | apply List.Mem.tail))), ?_⟩, fun b1 => ⟨_, hHP _ b (List.mem_append_right _ (by repeat (first | exact List.Mem.head _ | apply List.Mem.tail))), ?_⟩⟩, fun b => ⟨hzb, hzn, fun b1 => ⟨_, hHP _ b1 (List.mem_append_right _ (by repeat (first | exact List.Mem.head _ | apply List.Mem.tail))), ?_⟩⟩⟩, fun v hv => ?_⟩
      · simp only [eF3, hh32]
        exact fun b1 => ⟨⟨hhl, hhle⟩, ⟨none, 0, 0, none, 0, 0, b1, 0, 0, 0, _⟩, ⟨rfl, rfl⟩, rfl⟩
      · simp only [eF3, hh32]
        exact ⟨⟨hhl, hhle⟩, ⟨none, 0, 0, none, 0, 0, b1, 0, 0, 0, _⟩, ⟨rfl, rfl⟩, rfl⟩
      · simp only [eF3, hh32]
        exact ⟨⟨hhl, hhle⟩, ⟨none, 0, 0, none, 0, 0, b, 0, 0, 0, _⟩, ⟨rfl, rfl⟩, rfl⟩
      · have hv : v.xs = hashF X := hv
        have hkt : K.take x.kl = K := by rw [← hxk, List.take_length]
        have ts : List.take 32 (sealF K X) = sealF K X := List.take_of_length_le hsle
        have th : List.take 32 (hashF X) = hashF X := List.take_of_length_le hhle
        refine ⟨y2, K, ⟨hxk, fun h0 => x1.2 h0⟩, ?_⟩
        rw [y4, hkt, hu, hv, ts, th]
        refine ⟨fun _ => ?_, fun h => h rfl⟩
        refine ⟨(⟨x.ko, x.kl, x.kc, K⟩, ⟨x.bo, x.bl, x.bc, X⟩), ⟨rfl, ⟨x1.seen (seen_app _ _), hoK, by show x.kl < _; omega⟩, x2.seen (seen_app _ _), hoX, by show x.bl < _; omega⟩, eq65, ⟨hsl, hsl⟩, fun _ => ?_, fun h => h rfl⟩
        refine ⟨⟨x.bo, x.bl, x.bc, X⟩, ⟨rfl, x2.seen (seen_app _ _), hoX, by show x.bl < _; omega⟩, eq65, ⟨hhl, hhl⟩, fun _ => ?_, fun h => h rfl⟩
        refine ⟨(⟨x.ko, x.kl, x.kc, K⟩, ⟨x.bo, x.bl, x.bc, X⟩), ⟨rfl, ⟨x1.seen (seen_app _ _), hoK, by show x.kl < _; omega⟩, x2.seen (seen_app _ _), hoX, by show x.bl < _; omega⟩, ⟨hsl, hsl⟩, fun _ => ?_, fun h => h rfl⟩
        exact ⟨eq65, ⟨hsl, hhl⟩, ⟨hsl, hhl⟩, eq65, hsl, hhl⟩)
theorem ms_sound : ∀ p ∈ [((29 : Nat), firstT), (30, sealT), (31, hashT), (34, sameT), (32, refSealT), (33, refHashT)], SoundT Go.Proofs.Try.prog p.1 p.2 := by
  intro p hp
  simp at hp
  rcases hp with rfl | rfl | rfl | rfl | rfl | rfl
  · exact firstT_sound
  · exact sealT_sound
  · exact hashT_sound
  · exact sameT_sound
  · exact refSealT_sound
  · exact refHashT_sound
end Go.Proofs.Ytpjikjhaljennaa
