/- Seal: contract. -/
import Derived.Test.YtpjikjhaljennaaMaH
set_option maxRecDepth 100000
set_option linter.unusedVariables false
set_option linter.unusedSimpArgs false
namespace Go.Proofs.Ytpjikjhaljennaa
open Go Go.Sx
attribute [local irreducible] Go.Sx.xrun

structure SeX where
  ob : Nat
  kb : Nat
  b : Nat
  base : Nat
  cap : Nat
  xs : List Int
noncomputable def Ann.se (L : Blks) (P : Nat → List Int → Prop) : FnAnn := ⟨[],
  [(2001006, ⟨SeX, [(fun σ y => ⟨σ.n, (5, .ptr 2 0 0) :: (4, .ptr 1 0 0) :: keepE σ.env [1], [.chunk L, .own y.ob (.tab 65 0 32 [.ints .u8 (List.replicate 32 0)]), .own y.kb (.cells 1 [.slc 3 0 64 y.cap] 30), .own y.b (.tab 5 y.base y.cap [.ints .u8 y.xs])]⟩, fun _ y => P y.cap y.xs)], fun _ => 0⟩)]⟩
noncomputable def seGoal (ko : Option Addr) (kl kc pb px n pc : Nat) (L : Blks) (P : Nat → List Int → Prop) (R : Value → Prop) : Prop :=
  xrun Go.Proofs.Try.prog [(44, cloneT), (31, hashT), (58, cloneV1T), (56, turnT), (57, insT)] [(30, Ann.se L P)] [] 9 [] 30 [.sl ko kl kc, .val (.slice (some ⟨pb, px, none⟩) n pc)] [.chunk L] fun s h => R (den (locs h) s) ∧ headIs h L
theorem seen_app (L G : Blks) : SeenIn L (L ++ G) := fun _ _ _ ⟨k, h1, h2⟩ => ⟨k, List.mem_append_left _ h1, h2⟩
theorem BytesAt.tab {L : Blks} {b base cap n : Nat} {t : TypeId} {xs bs : List Int} (hm : (b, Blk.tab t base cap [.ints .u8 xs]) ∈ L) (h1 : bs.length = n) (h2 : n ≤ cap) (h3 : xs.take n = bs) : BytesAt L (some ⟨b, base, none⟩) n bs := by
  refine ⟨h1, fun _ => ⟨b, base, rfl, fun i hi => rawCell_tab1 (i := i) hm (by omega) rfl ?_⟩⟩
  simp only [Col.get]
  rw [← h3, List.getD_eq_getElem?_getD, List.getD_eq_getElem?_getD, List.getElem?_take_of_lt hi]
theorem PartsAt.raws {L : Blks} {b x n : Nat} {ps : List (List Int)} (h : PartsAt L b x n ps) : ∃ vs, RawsAt L (some ⟨b, x, none⟩) n vs ∧ ∀ i, i < n → ∃ o l c, vs.getD i .nilIface = .slice o l c ∧ BytesAt L o l (ps.getD i []) := by
  have h2 : ∀ i, ∃ v : Value, v.oneCell' = true ∧ (i < n → rawCell L b (x + i) v ∧ ∃ o l c, v = .slice o l c ∧ BytesAt L o l (ps.getD i [])) := fun i => by
    by_cases hi : i < n
    · obtain ⟨o, l, c, e1, e2⟩ := h.2 i hi
      exact ⟨.slice o l c, rfl, fun _ => ⟨e1, o, l, c, rfl, e2⟩⟩
    · exact ⟨.nilIface, rfl, fun h => absurd h hi⟩
  let f : Nat → Value := fun i => Classical.choose (h2 i)
  have hf : ∀ i, (f i).oneCell' = true ∧ (i < n → rawCell L b (x + i) (f i) ∧ ∃ o l c, f i = .slice o l c ∧ BytesAt L o l (ps.getD i [])) := fun i => Classical.choose_spec (h2 i)
  have hg : ∀ i, i < n → ((List.range n).map f).getD i .nilIface = f i := fun i hi => by
    rw [List.getD_eq_getElem?_getD, List.getElem?_map, List.getElem?_range hi]; rfl
  refine ⟨(List.range n).map f, ⟨by simp, fun v hv => ?_, fun _ => ⟨b, x, rfl, fun i hi => ?_⟩⟩, fun i hi => ?_⟩
  · obtain ⟨i, -, rfl⟩ := List.mem_map.1 hv
    exact (hf i).1
  · rw [hg i hi]; exact ((hf i).2 hi).1
  · rw [hg i hi]; exact ((hf i).2 hi).2
theorem PartsAt.cons {L : Blks} {b base cap l : Nat} {zs ws : List Value} {o0 : Option Addr} {l0 c0 : Nat} {p0 : List Int} {ps : List (List Int)} (hm : (b, Blk.tab 30 base cap [.raws zs]) ∈ L) (hc : l + 1 ≤ cap)
    (hz : zs.take (l + 1) = .slice o0 l0 c0 :: ws) (h0 : BytesAt L o0 l0 p0) (hp : ps.length = l) (hw : ∀ i, i < l → ∃ o l c, ws.getD i .nilIface = .slice o l c ∧ BytesAt L o l (ps.getD i [])) : PartsAt L b base (l + 1) (p0 :: ps) := by
  have hg : ∀ i, i < l + 1 → zs.getD i .nilIface = (Value.slice o0 l0 c0 :: ws).getD i .nilIface := fun i hi => by
    rw [← hz, List.getD_eq_getElem?_getD, List.getD_eq_getElem?_getD, List.getElem?_take_of_lt hi]
  refine ⟨by simp [hp], fun i hi => ?_⟩
  cases i with
  | zero => exact ⟨o0, l0, c0, rawCell_tab1 (i := 0) hm (by omega) rfl (by simp only [Col.get]; rw [hg 0 hi]; rfl), h0⟩
  | succ i =>
    obtain ⟨o, l2, c, e1, e2⟩ := hw i (by omega)
    refine ⟨o, l2, c, rawCell_tab1 (i := i + 1) hm (by omega) rfl (by simp only [Col.get]; rw [hg _ hi]; exact e1.symm), e2⟩
theorem PartsAt.one {L : Blks} {b : Nat} {t : TypeId} {o0 : Option Addr} {l0 c0 : Nat} {p0 : List Int} (hm : (b, Blk.cells [.slice o0 l0 c0] t) ∈ L) (h0 : BytesAt L o0 l0 p0) : PartsAt L b 0 1 [p0] :=
  ⟨rfl, fun i hi => by
    obtain rfl : i = 0 := by omega
    exact ⟨o0, l0, c0, rawCell_cells hm rfl, h0⟩⟩
theorem PartsAt.two {L : Blks} {b : Nat} {t : TypeId} {o0 o1 : Option Addr} {l0 c0 l1 c1 : Nat} {p0 p1 : List Int} (hm : (b, Blk.cells [.slice o0 l0 c0, .slice o1 l1 c1] t) ∈ L) (h0 : BytesAt L o0 l0 p0) (h1 : BytesAt L o1 l1 p1) : PartsAt L b 0 2 [p0, p1] :=
  ⟨rfl, fun i hi => by
    match i, hi with
    | 0, _ => exact ⟨o0, l0, c0, rawCell_cells hm rfl, h0⟩
    | 1, _ => exact ⟨o1, l1, c1, rawCell_cells hm rfl, h1⟩⟩
def padK (key : List Int) : List Int := if 64 < key.length then hashF key ++ List.replicate 32 0 else key ++ List.replicate (64 - key.length) 0
/-- The seal of bytes with a key. -/
def sealF (key ms : List Int) : List Int := hashF (xorB 92 (padK key) ++ hashF (xorB 54 (padK key) ++ ms))
theorem padK_len (key : List Int) : (padK key).length = 64 := by
  unfold padK
  split
  · rw [List.length_append, hashF_len]; simp
  · simp; omega
theorem xorB_len (z : Int) (l : List Int) : (xorB z l).length = l.length := by simp [xorB]
theorem sealF_len (key ms : List Int) : (sealF key ms).length = 32 := hashF_len _
def seP (key : List Int) (cap : Nat) (xs : List Int) : Prop := xs.length = cap ∧ 64 ≤ cap ∧ xs.take 64 = padK key
theorem se_h32 {h : List Int} (hl : h.length = 32) : List.take 32 (List.take 0 (List.replicate 32 (0 : Int)) ++ h ++ List.drop h.length (List.replicate 32 0)) = h := by
  rw [List.take_zero, List.nil_append, List.take_left' hl]
theorem se_len {n : Nat} (h : n ≤ 64) : IntKind.wrap .i64 (64 - (n : Int)) = ((64 - n : Nat) : Int) := by rw [IntKind.wrap_i64]; omega
theorem se_pad0 {cap : Nat} {sp : List Int} (hc : 64 ≤ cap) (hs : sp.length = cap - 64) : seP [] cap (List.replicate 64 0 ++ sp) := by
  refine ⟨by simp [hs]; omega, hc, ?_⟩
  rw [List.take_left' (by simp)]
  rfl
theorem se_pad1 {key : List Int} {cap : Nat} {sp : List Int} (hk : 64 < key.length) (hc : 64 ≤ cap) (hs : sp.length = cap - 64) : seP key cap (hashF key ++ List.replicate 32 0 ++ sp) := by
  have hl := hashF_len key
  refine ⟨by simp [hs, hl]; omega, hc, ?_⟩
  rw [List.take_left' (by simp [hl])]
  unfold padK
  rw [if_pos hk]
theorem se_pad2 {key : List Int} {cap : Nat} {sp : List Int} (hk : key.length ≤ 64) (hc : 64 ≤ cap) (hs : sp.length = cap - 64) : seP key cap (key ++ List.replicate (64 - key.length) 0 ++ sp) := by
  refine ⟨by simp [hs]; omega, hc, ?_⟩
  rw [List.take_left' (by simp; omega)]
  unfold padK
  rw [if_neg (by omega)]
attribute [local irreducible] hashF
set_option maxHeartbeats 1000000 in
theorem se_goal (ko : Option Addr) (kl kc pb px n pc : Nat) (L : Blks) (P : Nat → List Int → Prop) (R : Value → Prop) (key : List Int) (ps : List (List Int)) (hkey : BytesAt L ko kl key) (hkl : kl < 900000) (hp : PartsAt L pb px n ps) (hn : 0 < n ∧ n < 900000) (hf : ps.flatten.length < 900000)
    (eP : P = seP key) (hR : R (arrV .u8 (sealF key ps.flatten))) : seGoal ko kl kc pb px n pc L P R :=
  Eq.mpr (by kernel_rfl) (show
  ∀ (b : Nat), ∃ (x0 : SeX), (∃ (x : Bv), BvPre x [Value.slice ko kl kc] (L ++ [(b, Blk.tab (65 : Nat) (0 : Nat) (32 : Nat) [Col.ints IntKind.u8 (List.replicate (32 : Nat) (0 : Int))])] ++ []) ∧ (x.1 = Option.none → ∀ (b_1 : Nat), Value.oneCell' (Value.slice Option.none (0 : Nat) (0 : Nat)) = Bool.true ∧ ((64 : Int) < (↑(0 : Nat) : Int) → ∀ (b_2 : Nat), ∃ (x : PsX), PartsPre x [Value.slice (Option.some { block := b_2, off := (0 : Nat) * (1 : Nat) }) (1 : Nat) (1 : Nat)] (L ++ [(b, Blk.tab (65 : Nat) (0 : Nat) (32 : Nat) [Col.ints IntKind.u8 (List.replicate (32 : Nat) (0 : Int))]),
  (b_1, Blk.cells [Value.slice Option.none (0 : Nat) (0 : Nat)] (30 : Nat)), (b_2, Blk.cells [Value.slice Option.none (0 : Nat) (0 : Nat)] (30 : Nat))] ++ []) ∧ ∀ (b_3 : Nat), (List.length (hashF (List.flatten x.5)) = (32 : Nat) ∧ (0 : Nat) + List.length (hashF (List.flatten x.5)) ≤ (32 : Nat)) ∧ ((0 : Int) ≤ IntKind.wrap IntKind.i64 ((64 : Int) - (↑(32 : Nat) : Int)) ∧ (32 : Nat) ≤ (140737488355328 : Nat)) ∧ (32 : Nat) < (32 : Nat) + Int.toNat (IntKind.wrap IntKind.i64 ((64 : Int) - (↑(32 : Nat) : Int))) ∧ ((32 : Nat) ≤ (32 : Nat) ∧ (32 : Nat) ≤ (32 : Nat)) ∧ (32 : Nat) ≤ (32 : Nat) ∧
  (64 : Nat) ≤ (140737488355328 : Nat) ∧ ∀ (b_4 cap' : Nat), (32 : Nat) + Int.toNat (IntKind.wrap IntKind.i64 ((64 : Int) - (↑(32 : Nat) : Int))) ≤ cap' → ∀ (sp : List Int), List.length sp = cap' - ((32 : Nat) + Int.toNat (IntKind.wrap IntKind.i64 ((64 : Int) - (↑(32 : Nat) : Int)))) → ∃ (y : SeX), ((((0 : Nat) = (0 : Nat) ∧ (0 : Nat) = (0 : Nat)) ∧ ((0 : Nat) = (0 : Nat) ∧ (0 : Nat) = (0 : Nat)) ∧ Value.slice (Option.some { block := pb, off := px }) n pc = Value.slice (Option.some { block := pb, off := px }) n pc ∧ True) ∧ L = L ∧ (b = y.1 ∧
  (0 : Nat) = (0 : Nat) ∧ (32 : Nat) = (32 : Nat) ∧ List.replicate (32 : Nat) (0 : Int) = List.replicate (32 : Nat) (0 : Int) ∧ True) ∧ (b_1 = y.2 ∧ ((0 : Nat) = (0 : Nat) ∧ (32 : Nat) + Int.toNat (IntKind.wrap IntKind.i64 ((64 : Int) - (↑(32 : Nat) : Int))) = (64 : Nat) ∧ cap' = y.5) ∧ True) ∧ (b_4 = y.3 ∧ (0 : Nat) = y.4 ∧ cap' = y.5 ∧ List.take (32 : Nat) (List.take (0 : Nat) (List.replicate (32 : Nat) (0 : Int)) ++ hashF (List.flatten x.5) ++ List.drop ((0 : Nat) + List.length (hashF (List.flatten x.5))) (List.replicate (32 : Nat) (0 : Int))) ++
  List.replicate (Int.toNat (IntKind.wrap IntKind.i64 ((64 : Int) - (↑(32 : Nat) : Int)))) (0 : Int) ++ sp = y.6 ∧ True) ∧ True) ∧ P y.5 y.6) ∧ (¬(64 : Int) < (↑(0 : Nat) : Int) → ((0 : Int) ≤ IntKind.wrap IntKind.i64 ((64 : Int) - (↑(0 : Nat) : Int)) ∧ (64 : Nat) ≤ (140737488355328 : Nat)) ∧ (Int.toNat (IntKind.wrap IntKind.i64 ((64 : Int) - (↑(0 : Nat) : Int))) = (0 : Nat) → Value.oneCell' (Value.slice Option.none (0 : Nat) (0 : Nat)) = Bool.true ∧ ∃ (y : SeX), ((((0 : Nat) = (0 : Nat) ∧ (0 : Nat) = (0 : Nat)) ∧ ((0 : Nat) = (0 : Nat) ∧ (0 : Nat) = (0 : Nat)) ∧
  Value.slice (Option.some { block := pb, off := px }) n pc = Value.slice (Option.some { block := pb, off := px }) n pc ∧ True) ∧ L = L ∧ (b = y.1 ∧ (0 : Nat) = (0 : Nat) ∧ (32 : Nat) = (32 : Nat) ∧ List.replicate (32 : Nat) (0 : Int) = List.replicate (32 : Nat) (0 : Int) ∧ True) ∧ (b_1 = y.2 ∧ False ∧ True) ∧ False ∧ True) ∧ P y.5 y.6) ∧ ((0 : Nat) < Int.toNat (IntKind.wrap IntKind.i64 ((64 : Int) - (↑(0 : Nat) : Int))) → (64 : Nat) ≤ (140737488355328 : Nat) ∧ ∀ (b_2 cap' : Nat), Int.toNat (IntKind.wrap IntKind.i64 ((64 : Int) - (↑(0 : Nat) : Int))) ≤ cap' → ∀ (sp : List Int),
  List.length sp = cap' - Int.toNat (IntKind.wrap IntKind.i64 ((64 : Int) - (↑(0 : Nat) : Int))) → ∃ (y : SeX), ((((0 : Nat) = (0 : Nat) ∧ (0 : Nat) = (0 : Nat)) ∧ ((0 : Nat) = (0 : Nat) ∧ (0 : Nat) = (0 : Nat)) ∧ Value.slice (Option.some { block := pb, off := px }) n pc = Value.slice (Option.some { block := pb, off := px }) n pc ∧ True) ∧ L = L ∧ (b = y.1 ∧ (0 : Nat) = (0 : Nat) ∧ (32 : Nat) = (32 : Nat) ∧ List.replicate (32 : Nat) (0 : Int) = List.replicate (32 : Nat) (0 : Int) ∧ True) ∧
  (b_1 = y.2 ∧ ((0 : Nat) = (0 : Nat) ∧ Int.toNat (IntKind.wrap IntKind.i64 ((64 : Int) - (↑(0 : Nat) : Int))) = (64 : Nat) ∧ cap' = y.5) ∧ True) ∧ (b_2 = y.3 ∧ (0 : Nat) = y.4 ∧ cap' = y.5 ∧ List.replicate (Int.toNat (IntKind.wrap IntKind.i64 ((64 : Int) - (↑(0 : Nat) : Int)))) (0 : Int) ++ sp = y.6 ∧ True) ∧ True) ∧ P y.5 y.6))) ∧ (¬x.1 = Option.none → ∀ (b_1 base cap : Nat) (xs : List Int), List.length xs = cap → List.length x.4 ≤ cap → List.take (List.length x.4) xs = x.4 → ∀ (b_2 : Nat), ((64 : Int) < (↑(List.length x.4) : Int) → ∀ (b_3 : Nat), ∃ (x_1 : PsX),
  PartsPre x_1 [Value.slice (Option.some { block := b_3, off := (0 : Nat) * (1 : Nat) }) (1 : Nat) (1 : Nat)] (L ++ [(b, Blk.tab (65 : Nat) (0 : Nat) (32 : Nat) [Col.ints IntKind.u8 (List.replicate (32 : Nat) (0 : Int))]), (b_1, Blk.tab (5 : Go.TypeId) base cap [Col.ints IntKind.u8 xs]), (b_2, Blk.cells [Value.slice (Option.some { block := b_1, off := base * (1 : Nat) }) (List.length x.4) cap] (30 : Nat)), (b_3, Blk.cells [Value.slice (Option.some { block := b_1, off := base * (1 : Nat) }) (List.length x.4) cap] (30 : Nat))] ++ []) ∧ ∀ (b_4 : Nat),
  (List.length (hashF (List.flatten x_1.5)) = (32 : Nat) ∧ (0 : Nat) + List.length (hashF (List.flatten x_1.5)) ≤ (32 : Nat)) ∧ ((0 : Int) ≤ IntKind.wrap IntKind.i64 ((64 : Int) - (↑(32 : Nat) : Int)) ∧ (32 : Nat) ≤ (140737488355328 : Nat)) ∧ (32 : Nat) < (32 : Nat) + Int.toNat (IntKind.wrap IntKind.i64 ((64 : Int) - (↑(32 : Nat) : Int))) ∧ ((32 : Nat) ≤ (32 : Nat) ∧ (32 : Nat) ≤ (32 : Nat)) ∧ (32 : Nat) ≤ (32 : Nat) ∧ (64 : Nat) ≤ (140737488355328 : Nat) ∧ ∀ (b_5 cap' : Nat), (32 : Nat) + Int.toNat (IntKind.wrap IntKind.i64 ((64 : Int) - (↑(32 : Nat) : Int))) ≤ cap' → ∀ (sp : List Int),
  List.length sp = cap' - ((32 : Nat) + Int.toNat (IntKind.wrap IntKind.i64 ((64 : Int) - (↑(32 : Nat) : Int)))) → ∃ (y : SeX), ((((0 : Nat) = (0 : Nat) ∧ (0 : Nat) = (0 : Nat)) ∧ ((0 : Nat) = (0 : Nat) ∧ (0 : Nat) = (0 : Nat)) ∧ Value.slice (Option.some { block := pb, off := px }) n pc = Value.slice (Option.some { block := pb, off := px }) n pc ∧ True) ∧ L = L ∧ (b = y.1 ∧ (0 : Nat) = (0 : Nat) ∧ (32 : Nat) = (32 : Nat) ∧ List.replicate (32 : Nat) (0 : Int) = List.replicate (32 : Nat) (0 : Int) ∧ True) ∧ (b_2 = y.2 ∧ ((0 : Nat) = (0 : Nat) ∧
  (32 : Nat) + Int.toNat (IntKind.wrap IntKind.i64 ((64 : Int) - (↑(32 : Nat) : Int))) = (64 : Nat) ∧ cap' = y.5) ∧ True) ∧ (b_5 = y.3 ∧ (0 : Nat) = y.4 ∧ cap' = y.5 ∧ List.take (32 : Nat) (List.take (0 : Nat) (List.replicate (32 : Nat) (0 : Int)) ++ hashF (List.flatten x_1.5) ++ List.drop ((0 : Nat) + List.length (hashF (List.flatten x_1.5))) (List.replicate (32 : Nat) (0 : Int))) ++ List.replicate (Int.toNat (IntKind.wrap IntKind.i64 ((64 : Int) - (↑(32 : Nat) : Int)))) (0 : Int) ++ sp = y.6 ∧ True) ∧ True) ∧ P y.5 y.6) ∧ (¬(64 : Int) < (↑(List.length x.4) : Int) →
  ((0 : Int) ≤ IntKind.wrap IntKind.i64 ((64 : Int) - (↑(List.length x.4) : Int)) ∧ Int.toNat (IntKind.wrap IntKind.i64 ((64 : Int) - (↑(List.length x.4) : Int))) * (1 : Nat) ≤ (140737488355328 : Nat)) ∧ (List.length x.4 ≤ cap ∧ (0 : Nat) + cap ≤ cap) ∧ (0 : Nat) + List.length x.4 ≤ cap ∧ (List.length x.4 + Int.toNat (IntKind.wrap IntKind.i64 ((64 : Int) - (↑(List.length x.4) : Int)))) * (1 : Nat) ≤ (140737488355328 : Nat) ∧ ∀ (b_3 base cap' : Nat), List.length x.4 + Int.toNat (IntKind.wrap IntKind.i64 ((64 : Int) - (↑(List.length x.4) : Int))) ≤ cap' →
  (List.length x.4 + Int.toNat (IntKind.wrap IntKind.i64 ((64 : Int) - (↑(List.length x.4) : Int))) ≤ cap → cap' = cap) → ∀ (sp : List Int), List.length sp = cap' - (List.length x.4 + Int.toNat (IntKind.wrap IntKind.i64 ((64 : Int) - (↑(List.length x.4) : Int)))) → ∃ (y : SeX), ((((0 : Nat) = (0 : Nat) ∧ (0 : Nat) = (0 : Nat)) ∧ ((0 : Nat) = (0 : Nat) ∧ (0 : Nat) = (0 : Nat)) ∧ Value.slice (Option.some { block := pb, off := px }) n pc = Value.slice (Option.some { block := pb, off := px }) n pc ∧ True) ∧ L = L ∧
  (b = y.1 ∧ (0 : Nat) = (0 : Nat) ∧ (32 : Nat) = (32 : Nat) ∧ List.replicate (32 : Nat) (0 : Int) = List.replicate (32 : Nat) (0 : Int) ∧ True) ∧ (b_2 = y.2 ∧ ((0 : Nat) = (0 : Nat) ∧ List.length x.4 + Int.toNat (IntKind.wrap IntKind.i64 ((64 : Int) - (↑(List.length x.4) : Int))) = (64 : Nat) ∧ cap' = y.5) ∧ True) ∧ (b_3 = y.3 ∧ base = y.4 ∧ cap' = y.5 ∧ List.take (List.length x.4) xs ++ List.replicate (Int.toNat (IntKind.wrap IntKind.i64 ((64 : Int) - (↑(List.length x.4) : Int)))) (0 : Int) ++ sp = y.6 ∧ True) ∧ True) ∧ P y.5 y.6))) ∧ ∀ (x : SeX), P x.5 x.6 → ∃ (x_1 : Rv),
  RvPre1 x_1 [Value.slice (Option.some { block := pb, off := px }) n pc] (L ++ [(x.1, Blk.tab (65 : Go.TypeId) (0 : Nat) (32 : Nat) [Col.ints IntKind.u8 (List.replicate (32 : Nat) (0 : Int))]), (x.2, Blk.cells [Value.slice (Option.some { block := x.3, off := x.4 * (1 : Nat) }) (64 : Nat) x.5] (30 : Go.TypeId)), (x.3, Blk.tab (5 : Go.TypeId) x.4 x.5 [Col.ints IntKind.u8 x.6])] ++ []) ∧ ∀ (b base cap : Nat) (xs : List Go.Value), List.length xs = cap → List.length x_1.4 ≤ cap → List.take (List.length x_1.4) xs = x_1.4 → ∃ (x_2 : TnX),
  TnPre x_2 [Value.int IntKind.u8 (54 : Int), Value.pointer (Option.some { block := x.2, off := (0 : Nat) * (1 : Nat) })] (L ++ [(x.1, Blk.tab (65 : Go.TypeId) (0 : Nat) (32 : Nat) [Col.ints IntKind.u8 (List.replicate (32 : Nat) (0 : Int))]), (x.2, Blk.cells [Value.slice (Option.some { block := x.3, off := x.4 * (1 : Nat) }) (64 : Nat) x.5] (30 : Go.TypeId)), (x.3, Blk.tab (5 : Go.TypeId) x.4 x.5 [Col.ints IntKind.u8 x.6]), (b, Blk.tab (30 : Go.TypeId) base cap [Col.raws xs])] ++ []) ∧ ∀ (b base cap_1 : Nat) (xs_1 : List Int), List.length xs_1 = cap_1 → List.length (xorB x_2.6 x_2.7) ≤ cap_1 →
  List.take (List.length (xorB x_2.6 x_2.7)) xs_1 = xorB x_2.6 x_2.7 → ∀ (b_1 : Nat), ((0 : Nat) < List.length x_1.4 ∧ List.length x_1.4 ≤ cap ∧ cap = cap ∧ List.length x_1.4 < (1000000000 : Nat)) ∧ ∃ (vo : Option Go.Addr), ∃ (vl : Nat), ∃ (vc : Nat), Value.slice (Option.some { block := b, off := base * (1 : Nat) }) (List.length (xorB x_2.6 x_2.7)) cap_1 = Value.slice vo vl vc ∧ ∀ (b' base' cap : Nat) (zs : List Go.Value), List.length zs = cap → List.length x_1.4 + (1 : Nat) ≤ cap → List.take (List.length x_1.4 + (1 : Nat)) zs = Value.slice vo vl vc :: List.take (List.length x_1.4) xs →
  ∃ (x_3 : PsX), PartsPre x_3 [Value.slice (Option.some { block := b', off := base' * (1 : Nat) }) (List.length x_1.4 + (1 : Nat)) cap] (L ++ [(x.1, Blk.tab (65 : Go.TypeId) (0 : Nat) (32 : Nat) [Col.ints IntKind.u8 (List.replicate (32 : Nat) (0 : Int))]), (x.2, Blk.cells [Value.slice (Option.some { block := x.3, off := x.4 * (1 : Nat) }) (64 : Nat) x.5] (30 : Go.TypeId)), (x.3, Blk.tab (5 : Go.TypeId) x.4 x.5 [Col.ints IntKind.u8 x.6]), (b, Blk.tab (5 : Go.TypeId) base cap_1 [Col.ints IntKind.u8 xs_1]), (b_1, Blk.cells
  [Value.slice (Option.some { block := b, off := base * (1 : Nat) }) (List.length (xorB x_2.6 x_2.7)) cap_1] (30 : Nat)), (b', Blk.tab (30 : Go.TypeId) base' cap [Col.raws zs])] ++ []) ∧ ∀ (b_2 : Nat), (List.length (hashF (List.flatten x_3.5)) = (32 : Nat) ∧ (0 : Nat) + List.length (hashF (List.flatten x_3.5)) ≤ (32 : Nat)) ∧ ∃ (x_4 : TnX), TnPre x_4 [Value.int IntKind.u8 (92 : Int), Value.pointer (Option.some { block := x.2, off := (0 : Nat) * (1 : Nat) })] (L ++ [(x.1, Blk.tab (65 : Go.TypeId) (0 : Nat) (32 : Nat) [Col.ints IntKind.u8 (List.replicate (32 : Nat) (0 : Int))]), (x.2,
  Blk.cells [Value.slice (Option.some { block := x.3, off := x.4 * (1 : Nat) }) (64 : Nat) x.5] (30 : Go.TypeId)), (x.3, Blk.tab (5 : Go.TypeId) x.4 x.5 [Col.ints IntKind.u8 x.6]), (b, Blk.tab (5 : Go.TypeId) base cap_1 [Col.ints IntKind.u8 xs_1]), (b_1, Blk.cells [Value.slice (Option.some { block := b, off := base * (1 : Nat) }) (List.length (xorB x_2.6 x_2.7)) cap_1] (30 : Nat)), (b', Blk.tab (30 : Go.TypeId) base' cap [Col.raws zs]), (b_2, Blk.tab (65 : Nat) (0 : Nat) (32 : Nat) [Col.ints IntKind.u8 (List.take (0 : Nat) (List.replicate (32 : Nat) (0 : Int)) ++ hashF (List.flatten x_3.5) ++
  List.drop ((0 : Nat) + List.length (hashF (List.flatten x_3.5))) (List.replicate (32 : Nat) (0 : Int)))])] ++ []) ∧ ∀ (b_3 base_1 cap_2 : Nat) (xs : List Int), List.length xs = cap_2 → List.length (xorB x_4.6 x_4.7) ≤ cap_2 → List.take (List.length (xorB x_4.6 x_4.7)) xs = xorB x_4.6 x_4.7 → SV.slc (8 : Nat) (0 : Nat) (32 : Nat) (32 : Nat) = SV.slc (8 : Nat) (0 : Nat) (32 : Nat) (32 : Nat) ∧ ∀ (b_4 : Nat), ∃ (x_5 : PsX), PartsPre x_5 [Value.slice (Option.some { block := b_4, off := (0 : Nat) * (1 : Nat) }) (2 : Nat) (2 : Nat)] (L ++ [(x.1, Blk.tab (65 : Go.TypeId) (0 : Nat) (32 : Nat)
  [Col.ints IntKind.u8 (List.replicate (32 : Nat) (0 : Int))]), (x.2, Blk.cells [Value.slice (Option.some { block := x.3, off := x.4 * (1 : Nat) }) (64 : Nat) x.5] (30 : Go.TypeId)), (x.3, Blk.tab (5 : Go.TypeId) x.4 x.5 [Col.ints IntKind.u8 x.6]), (b, Blk.tab (5 : Go.TypeId) base cap_1 [Col.ints IntKind.u8 xs_1]), (b_1, Blk.cells [Value.slice (Option.some { block := b, off := base * (1 : Nat) }) (List.length (xorB x_2.6 x_2.7)) cap_1] (30 : Nat)), (b', Blk.tab (30 : Go.TypeId) base' cap [Col.raws zs]), (b_2, Blk.tab (65 : Nat) (0 : Nat) (32 : Nat) [Col.ints IntKind.u8
  (List.take (0 : Nat) (List.replicate (32 : Nat) (0 : Int)) ++ hashF (List.flatten x_3.5) ++ List.drop ((0 : Nat) + List.length (hashF (List.flatten x_3.5))) (List.replicate (32 : Nat) (0 : Int)))]), (b_3, Blk.tab (5 : Go.TypeId) base_1 cap_2 [Col.ints IntKind.u8 xs]), (b_4, Blk.cells [Value.slice (Option.some { block := b_3, off := base_1 * (1 : Nat) }) (List.length (xorB x_4.6 x_4.7)) cap_2, Value.slice (Option.some { block := b_2, off := (0 : Nat) * (1 : Nat) }) (32 : Nat) (32 : Nat)] (30 : Nat))] ++ []) ∧ (List.length (hashF (List.flatten x_5.5)) = (32 : Nat) ∧
  (0 : Nat) + List.length (hashF (List.flatten x_5.5)) ≤ (32 : Nat)) ∧ (32 : Nat) ≤ (32 : Nat) ∧ R (Value.agg (List.toArray (List.map (Value.int IntKind.u8) (List.take (32 : Nat) (List.take (0 : Nat) (List.replicate (32 : Nat) (0 : Int)) ++ hashF (List.flatten x_5.5) ++ List.drop ((0 : Nat) + List.length (hashF (List.flatten x_5.5))) (List.replicate (32 : Nat) (0 : Int))))))) ∧ L = L from by
  subst eP
  have w64 : IntKind.wrap .i64 64 = 64 := by rw [IntKind.wrap_i64]; rfl
  have w32 : IntKind.wrap .i64 32 = 32 := by rw [IntKind.wrap_i64]; rfl
  have t64 : Int.toNat 64 = 64 := rfl
  have t32 : Int.toNat 32 = 32 := rfl
  simp only [eq_self, true_and, and_true, false_and, and_false, or_false, false_or, and_self, Nat.zero_add, Nat.add_zero, Nat.sub_zero, Nat.zero_mul, Nat.mul_one, Int.toNat_natCast, cond_true, cond_false, forall_const, implies_true, Nat.beq_refl, ne_eq, not_false_eq_true, not_true_eq_false, Classical.not_not, List.cons.injEq, List.append_nil, List.nil_append, Go.Value.int.injEq, Go.Value.bool.injEq, Go.Value.slice.injEq, Nat.le_refl, Nat.zero_le, Go.Sx.one_int, Go.Sx.one_bool, Go.Sx.one_slice, Go.Sx.one_ptr, Go.Sx.one_map, Int.cast_ofNat_Int, reduceCtorEq, Nat.reduceLeDiff, Nat.reduceMul, Nat.reduceAdd, Nat.reduceSub, Nat.reduceEqDiff, Int.reduceLE, Int.reduceLT, Int.reduceEq, Int.reduceAdd, Int.reduceSub, Int.reduceNeg, Int.reduceMul, Nat.reduceBEq]
  have hk2 := hkey.1
  intro b
  refine ⟨⟨0, 0, 0, 0, 0, []⟩, ⟨⟨ko, kl, kc, key⟩, ⟨rfl, hkey.seen (seen_app _ _), Nat.lt_trans hkl (by decide)⟩, fun e => ?_, fun e b1 base cap xs r1 r2 r3 b2 => ⟨fun hlt b3 => ?_, fun hge => ?_⟩⟩, fun y hy => ?_⟩
  · have e : ko = none := e
    have hk0 : kl = 0 := by
      rcases Nat.eq_zero_or_pos kl with h | h
      · exact h
      · obtain ⟨x, y, e2, -⟩ := hkey.2 h
        rw [e] at e2; cases e2
    obtain rfl : key = [] := List.eq_nil_of_length_eq_zero (by omega)
    intro b1
    refine ⟨fun h => h.elim, ?_⟩
    simp only [w64, t64]
    refine ⟨by omega, fun h => absurd h (by omega), fun _ b2 cap hc sp hs => ⟨⟨b, b1, b2, 0, cap, _⟩, ⟨rfl, ⟨rfl, trivial, rfl⟩, rfl, rfl, rfl, rfl⟩, ?_⟩⟩
    exact se_pad0 hc hs
  · simp only [] at hlt r2 r3 ⊢
    refine ⟨⟨b3, 0, 1, 1, [key]⟩, ⟨rfl, PartsAt.one (List.mem_append_right _ (by repeat (first | exact List.Mem.head _ | apply List.Mem.tail))) (BytesAt.tab (t := 5) (List.mem_append_right _ (by repeat (first | exact List.Mem.head _ | apply List.Mem.tail))) rfl r2 r3), by show 1 < _; omega, by simp only [List.flatten_cons, List.flatten_nil, List.append_nil]; omega⟩, ?_⟩
    simp only [List.flatten_cons, List.flatten_nil, List.append_nil, w32, t32]
    refine ⟨⟨hashF_len _, by rw [hashF_len]; exact Nat.le_refl _⟩, by omega, by omega, fun b5 cap' hc sp hs => ⟨⟨b, b2, b5, 0, cap', _⟩, ⟨rfl, ⟨rfl, trivial, rfl⟩, rfl, rfl, rfl, rfl⟩, ?_⟩⟩
    rw [se_h32 (hashF_len _)]
    exact se_pad1 (by omega) hc hs
  · simp only [] at hge r2 r3 ⊢
    have hge' : key.length ≤ 64 := by omega
    simp only [se_len hge', Int.toNat_natCast]
    have h64 : key.length + (64 - key.length) = 64 := by omega
    simp only [h64]
    refine ⟨⟨by omega, by omega⟩, r2, r2, by omega, fun b3 base cap' hc hc2 sp hs => ⟨⟨b, b2, b3, base, cap', _⟩, ⟨rfl, ⟨rfl, trivial, rfl⟩, rfl, rfl, rfl, rfl⟩, ?_⟩⟩
    rw [r3]
    exact se_pad2 hge' hc hs
  · obtain ⟨y1, y2, y3⟩ := hy
    obtain ⟨vs, v1, v2⟩ := hp.raws
    have hvl : vs.length = n := v1.1
    refine ⟨⟨some ⟨pb, px, none⟩, n, pc, vs⟩, ⟨⟨rfl, v1.seen (seen_app _ _), by show n < _; omega⟩, hn.1⟩, ?_⟩
    simp only [hvl]
    intro b base cap ws r1 r2 r3
    refine ⟨⟨y.kb, 0, some ⟨y.b, y.base, none⟩, 64, y.cap, 54, padK key⟩, ⟨rfl, rawCell_cells (List.mem_append_right _ (by repeat (first | exact List.Mem.head _ | apply List.Mem.tail))) rfl, BytesAt.tab (t := 5) (List.mem_append_right _ (by repeat (first | exact List.Mem.head _ | apply List.Mem.tail))) (padK_len _) y2 y3, by show 0 < 64; omega, by show 64 < _; omega⟩, ?_⟩
    simp only [xorB_len, padK_len]
    intro b' base' cap' xs q1 q2 q3 b1
    refine ⟨⟨hn.1, r2, by omega⟩, _, _, _, ⟨rfl, rfl, rfl⟩, fun c1 cbase ccap zs z1 z2 z3 => ?_⟩
    have hv : ∀ i, i < n → ∃ o l c, (List.take n ws).getD i .nilIface = .slice o l c ∧ BytesAt L o l (ps.getD i []) := fun i hi => by rw [r3]; exact v2 i hi
    refine ⟨⟨c1, cbase, n + 1, ccap, xorB 54 (padK key) :: ps⟩, ⟨rfl, PartsAt.cons (List.mem_append_right _ (by repeat (first | exact List.Mem.head _ | apply List.Mem.tail))) z2 z3 (BytesAt.tab (t := 5) (List.mem_append_right _ (by repeat (first | exact List.Mem.head _ | apply List.Mem.tail))) (by rw [xorB_len, padK_len]) q2 q3) hp.1 (fun i hi => by
      obtain ⟨o, l, c, e1, e2⟩ := hv i hi
      exact ⟨o, l, c, e1, e2.seen (seen_app _ _)⟩), by show n + 1 < _; omega, by simp only [List.flatten_cons, List.length_append, xorB_len, padK_len]; omega⟩, ?_⟩
    simp only [List.flatten_cons]
    intro d1
    have hl32 := hashF_len (xorB 54 (padK key) ++ ps.flatten)
    refine ⟨⟨hl32, by rw [hl32]; exact Nat.le_refl _⟩, ⟨y.kb, 0, some ⟨y.b, y.base, none⟩, 64, y.cap, 92, padK key⟩, ⟨rfl, rawCell_cells (List.mem_append_right _ (by repeat (first | exact List.Mem.head _ | apply List.Mem.tail))) rfl, BytesAt.tab (t := 5) (List.mem_append_right _ (by repeat (first | exact List.Mem.head _ | apply List.Mem.tail))) (padK_len _) y2 y3, by show 0 < 64; omega, by show 64 < _; omega⟩, ?_⟩
    simp only [xorB_len, padK_len]
    intro f1 fbase fcap us u1 u2 u3 g1
    refine ⟨⟨g1, 0, 2, 2, [xorB 92 (padK key), hashF (xorB 54 (padK key) ++ ps.flatten)]⟩, ⟨rfl, PartsAt.two (List.mem_append_right _ (by repeat (first | exact List.Mem.head _ | apply List.Mem.tail))) (BytesAt.tab (t := 5) (List.mem_append_right _ (by repeat (first | exact List.Mem.head _ | apply List.Mem.tail))) (by rw [xorB_len, padK_len]) u2 u3) (BytesAt.tab (t := 65) (List.mem_append_right _ (by repeat (first | exact List.Mem.head _ | apply List.Mem.tail))) hl32 (Nat.le_refl _) (se_h32 hl32)), by show 2 < _; omega, by simp only [List.flatten_cons, List.flatten_nil, List.append_nil, List.length_append, xorB_len, padK_len, hl32]; omega⟩, ?_⟩
    simp only [List.flatten_cons, List.flatten_nil, List.append_nil]
    have hl33 := hashF_len (xorB 92 (padK key) ++ hashF (xorB 54 (padK key) ++ ps.flatten))
    refine ⟨⟨hl33, by rw [hl33]; exact Nat.le_refl _⟩, ?_⟩
    rw [se_h32 hl33]
    exact hR)
theorem enters30 : Enters Go.Proofs.Try.prog 30 := ⟨Go.Proofs.Try.f30, Go.Proofs.Try.func30, by kernel_rfl, by kernel_rfl⟩
structure SlX where
  ko : Option Addr
  kl : Nat
  kc : Nat
  key : List Int
  y : PsX
def SealPre (x : SlX) (vs : List Value) (L : Blks) : Prop := vs = [.slice x.ko x.kl x.kc, .slice (some ⟨x.y.b, x.y.x, none⟩) x.y.n x.y.c] ∧ BytesAt L x.ko x.kl x.key ∧ x.kl < 900000 ∧ PartsAt L x.y.b x.y.x x.y.n x.y.ps ∧ (0 < x.y.n ∧ x.y.n < 900000) ∧ x.y.ps.flatten.length < 900000
theorem five_sound : ∀ p ∈ [((44 : Nat), cloneT), (31, hashT), (58, cloneV1T), (56, turnT), (57, insT)], SoundT Go.Proofs.Try.prog p.1 p.2 := by
  intro p hp
  simp at hp
  rcases hp with rfl | rfl | rfl | rfl | rfl
  · exact cloneT_sound
  · exact hashT_sound
  · exact cloneV1T_sound
  · exact turnT_sound
  · exact insT_sound
/-- Seal of parts with a key. -/
noncomputable def sealT : Trans := readT (fun x : SlX => .arr .u8 (sealF x.key x.y.ps.flatten)) SealPre
theorem sealT_sound : SoundT Go.Proofs.Try.prog 30 sealT :=
  readT_sound (val := fun x => arrV .u8 (sealF x.key x.y.ps.flatten)) enters30 (fun a ρ => by simp only [den, arrV]) (fun a => by simp) (fun x vs L L' h ⟨h1, h2, h3, h4, h5⟩ => ⟨h1, h2.seen h, h3, h4.seen h, h5⟩) fun x vs L ⟨h1, h2, h3, h4, h5, h6⟩ => by
    subst h1
    exact pure_of_run (args := [.sl x.ko x.kl x.kc, .val (.slice (some ⟨x.y.b, x.y.x, none⟩) x.y.n x.y.c)]) (run_with five_sound _ _ _ _ _) (fun r => rfl) (se_goal x.ko x.kl x.kc x.y.b x.y.x x.y.n x.y.c L _ (fun v => v = arrV .u8 (sealF x.key x.y.ps.flatten)) x.key x.y.ps h2 h3 h4 h5 h6 rfl rfl) fun s h' h => h
end Go.Proofs.Ytpjikjhaljennaa
