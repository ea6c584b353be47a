/- ref.Hash: its run. -/
import Derived.Test.YtpjikjhaljennaaMaJ
set_option maxRecDepth 100000
set_option linter.unusedVariables false
set_option linter.unusedSimpArgs false
namespace Go.Proofs.Ytpjikjhaljennaa
open Go Go.Sx
attribute [local irreducible] Go.Sx.xrun

structure RhX where
  ob : Nat
  b : Nat
  base : Nat
  cap : Nat
  len : Nat
  i : Nat
  z : Int
  xs : List Int
  hs : List Int
  ws : List Int
  vs : List Int
noncomputable def tabT : Trans := fun args h K => match args with
  | [.val (.int .i64 t)] => (0 ≤ t ∧ t < 64) ∧ K (.val (.int .u32 (kTab.getD t.toNat 0))) h
  | _ => False
noncomputable def Ann.rh (l : Nat) (L : Blks) (m : Nat) (P0 P1 P2 P3 P8 : RhX → Prop) (P4 P5 P6 P7 : RhX → RhX → Prop) : FnAnn := ⟨[],
  [(1000002, ⟨RhX, [(fun σ y => ⟨σ.n, (2, .ptr 1 0 0) :: (3, .slc 2 0 l y.cap) :: keepE σ.env [0], [.chunk L, .own y.ob (.tab 65 0 32 [.ints .u8 (List.replicate 32 0)]), .own y.b (.tab 5 y.base y.cap [.ints .u8 y.xs])]⟩, fun _ y => P0 y)], fun _ => 0⟩),
   (3, ⟨RhX, [(fun σ y => ⟨σ.n, (2, .ptr 1 0 0) :: (3, .slc 2 0 y.len y.cap) :: keepE σ.env [0], [.chunk L, .own y.ob (.tab 65 0 32 [.ints .u8 (List.replicate 32 0)]), .own y.b (.tab 5 y.base y.cap [.ints .u8 y.xs])]⟩, fun _ y => P1 y)], fun y => (120 - y.len % 64) % 64⟩),
   (6, ⟨RhX, [(fun σ y => ⟨σ.n, (4, .val (.int .i64 (7 - (y.i : Int)))) :: (2, .ptr 1 0 0) :: (3, .slc 2 0 y.len y.cap) :: keepE σ.env [0], [.chunk L, .own y.ob (.tab 65 0 32 [.ints .u8 (List.replicate 32 0)]), .own y.b (.tab 5 y.base y.cap [.ints .u8 y.xs])]⟩, fun _ y => P2 y)], fun y => 8 - y.i⟩),
   (11, ⟨RhX, [(fun σ y => ⟨σ.n, (6, .val (.int .i64 (64 * (y.i : Int)))) :: keepE σ.env [2, 3, 5], Ann.setY σ.heap 3 y.hs⟩, fun _ y => P3 y)], fun y => m - y.i⟩),
   (15, ⟨RhX, [(fun σ y => ⟨σ.n, (8, .val (.int .i64 y.i)) :: keepE σ.env [2, 3, 5, 6, 7], Ann.setY σ.heap 4 y.ws⟩, fun x0 y => P4 x0 y)], fun y => 64 - y.i⟩),
   (19, ⟨RhX, [(fun σ y => ⟨σ.n, (9, .val (.int .i64 y.i)) :: keepE σ.env [2, 3, 5, 6, 7, 8], Ann.setY σ.heap 4 y.ws⟩, fun x0 y => P5 x0 y)], fun y => 4 - y.i⟩),
   (1000023, ⟨RhX, [(fun σ y => ⟨σ.n, (10, .val (.int .u32 y.z)) :: keepE σ.env [2, 3, 5, 6, 7, 8], σ.heap⟩, fun x0 y => y.z = x0.z)], fun _ => 0⟩),
   (1000024, ⟨RhX, [(fun σ y => ⟨σ.n, (11, .val (.int .u32 y.z)) :: keepE σ.env [2, 3, 5, 6, 7, 8, 10], σ.heap⟩, fun x0 y => y.z = x0.z)], fun _ => 0⟩),
   (27, ⟨RhX, [(fun σ y => ⟨σ.n, (13, .val (.int .i64 y.i)) :: keepE σ.env [2, 3, 5, 6, 7, 12], Ann.setY σ.heap 5 y.vs⟩, fun x0 y => P6 x0 y)], fun y => 64 - y.i⟩),
   (1000032, ⟨RhX, [(fun σ y => ⟨σ.n, (16, .val (.int .u32 y.z)) :: keepE σ.env [2, 3, 5, 6, 7, 12, 13, 15], σ.heap⟩, fun x0 y => y.z = x0.z)], fun _ => 0⟩),
   (1000033, ⟨RhX, [(fun σ y => ⟨σ.n, (17, .val (.int .u32 y.z)) :: keepE σ.env [2, 3, 5, 6, 7, 12, 13, 16], σ.heap⟩, fun x0 y => y.z = x0.z)], fun _ => 0⟩),
   (35, ⟨RhX, [(fun σ y => ⟨σ.n, (18, .val (.int .i64 y.i)) :: keepE σ.env [2, 3, 5, 6, 12], Ann.setY σ.heap 3 y.hs⟩, fun x0 y => P7 x0 y)], fun y => 8 - y.i⟩),
   (40, ⟨RhX, [(fun σ y => ⟨σ.n, (20, .val (.int .i64 y.i)) :: keepE σ.env [2, 5, 19], Ann.setY σ.heap 4 y.xs⟩, fun _ y => P8 y)], fun y => 32 - y.i⟩)]⟩
noncomputable def rhGoal (o : Option Addr) (l c m : Nat) (L : Blks) (P0 P1 P2 P3 P8 : RhX → Prop) (P4 P5 P6 P7 : RhX → RhX → Prop) (R : Value → Prop) : Prop :=
  xrun Go.Proofs.Try.prog [(62, tuT), (63, tabT)] [(33, Ann.rh l L m P0 P1 P2 P3 P8 P4 P5 P6 P7)] [] 9 [] 33 [.sl o l c] [.chunk L] fun s h => R (den (locs h) s) ∧ headIs h L
def wPre (bs : List Int) (i : Nat) : List Int := if i ≤ 16 then (List.range i).map (wordF bs) else wGo (i - 16) ((List.range 16).map (wordF bs))
theorem wPre_len (bs : List Int) (i : Nat) : (wPre bs i).length = i := by
  unfold wPre
  split
  · simp
  · rw [wGo_len]; simp; omega
theorem wPre_lo {bs : List Int} {i : Nat} (h : i < 16) : wPre bs (i + 1) = wPre bs i ++ [wordF bs i] := by
  unfold wPre
  rw [if_pos (by omega), if_pos (by omega), List.range_succ, List.map_append]
  rfl
theorem wPre_hi {bs : List Int} {i : Nat} (h : 16 ≤ i) : wPre bs (i + 1) = wPre bs i ++ [wNext (wPre bs i) i] := by
  have h1 : wPre bs i = wGo (i - 16) ((List.range 16).map (wordF bs)) := by
    unfold wPre
    split
    · obtain rfl : i = 16 := by omega
      rfl
    · rfl
  have h2 : wPre bs (i + 1) = wGo (i - 16 + 1) ((List.range 16).map (wordF bs)) := by
    unfold wPre
    rw [if_neg (by omega), show i + 1 - 16 = i - 16 + 1 by omega]
  have h3 := wPre_len bs i
  rw [h2, wGo_snoc, ← h1, h3]
theorem wPre_all (bs : List Int) : wPre bs 64 = wTab bs := rfl
def rhP0 (bs : List Int) (y : RhX) : Prop := y.xs.length = y.cap ∧ bs.length ≤ y.cap ∧ y.xs.take bs.length = bs
def rhP1 (bs : List Int) (y : RhX) : Prop := y.xs.length = y.cap ∧ y.len ≤ y.cap ∧ bs.length + 1 ≤ y.len ∧ y.len ≤ bs.length + 1 + pzF bs.length ∧ y.xs.take y.len = bs ++ [128] ++ List.replicate (y.len - (bs.length + 1)) 0
def rhP2 (bs : List Int) (y : RhX) : Prop := y.i ≤ 8 ∧ y.len = (preF bs).length + y.i ∧ y.xs.take y.len = preF bs ++ lenB bs.length y.i ∧ y.len ≤ y.cap ∧ y.xs.length = y.cap
def rhP3 (bs : List Int) (m : Nat) (y : RhX) : Prop := y.i ≤ m ∧ y.hs = hashS (padF bs) y.i
def rhP4 (x y : RhX) : Prop := y.i ≤ 64 ∧ y.ws = wPre x.xs y.i ++ List.replicate (64 - y.i) 0
def rhP5 (x y : RhX) : Prop := y.i ≤ 4 ∧ y.ws = x.ws.set x.len (partW x.xs x.len y.i)
def rhP6 (x y : RhX) : Prop := y.i ≤ 64 ∧ y.vs = rndsF x.ws y.i x.vs
def rhP7 (x y : RhX) : Prop := y.i ≤ 8 ∧ y.hs = (List.range y.i).map (fun i => w32 (x.ws.getD i 0 + x.vs.getD i 0)) ++ x.ws.drop y.i
def rhP8 (s : List Int) (y : RhX) : Prop := y.i ≤ 32 ∧ y.xs = outW s y.i
theorem rh1_step {bs : List Int} {x : RhX} (h : rhP1 bs x) (hm : ¬ x.len % 64 = 56) {cap' : Nat} {sp : List Int} (hc : x.len + 1 ≤ cap') (hs : sp.length = cap' - (x.len + 1)) (b base : Nat) :
    rhP1 bs ⟨x.ob, b, base, cap', x.len + 1, x.i, x.z, x.xs.take x.len ++ [0] ++ sp, x.hs, x.ws, x.vs⟩ ∧ (120 - (x.len + 1) % 64) % 64 < (120 - x.len % 64) % 64 := by
  obtain ⟨h1, h2, h3, h4, h5⟩ := h
  have hlt : x.len < bs.length + 1 + pzF bs.length := by
    rcases Nat.lt_or_ge x.len (bs.length + 1 + pzF bs.length) with h | h
    · exact h
    · have : x.len = bs.length + 1 + pzF bs.length := by omega
      unfold pzF at this
      omega
  have hb : (x.xs.take x.len).length = x.len := by rw [List.length_take]; omega
  have hA : (x.xs.take x.len ++ [(0 : Int)]).length = x.len + 1 := by rw [List.length_append, hb]; rfl
  have k1 : (x.xs.take x.len ++ [(0 : Int)] ++ sp).length = cap' := by rw [List.length_append, hA, hs]; omega
  have k2 : (x.xs.take x.len ++ [(0 : Int)] ++ sp).take (x.len + 1) = bs ++ [128] ++ List.replicate (x.len + 1 - (bs.length + 1)) 0 := by
    rw [List.take_left' hA, h5, List.append_assoc _ _ [(0 : Int)], show x.len + 1 - (bs.length + 1) = x.len - (bs.length + 1) + 1 by omega, List.replicate_succ']
  exact ⟨⟨k1, hc, by show bs.length + 1 ≤ x.len + 1; omega, by show x.len + 1 ≤ _; omega, k2⟩, by omega⟩
theorem rh1_end {bs : List Int} {x : RhX} (h : rhP1 bs x) (hm : x.len % 64 = 56) : x.len = (preF bs).length ∧ x.xs.take x.len = preF bs := by
  obtain ⟨h1, h2, h3, h4, h5⟩ := h
  have : x.len = bs.length + 1 + pzF bs.length := by unfold pzF at h4 ⊢; omega
  refine ⟨by rw [preF_len]; exact this, ?_⟩
  rw [h5, this, show bs.length + 1 + pzF bs.length - (bs.length + 1) = pzF bs.length by omega]
  rfl
theorem rh_w8 {n i : Nat} (hn : n < 1000000) (hi : i < 8) : (IntKind.wrap .u64 (IntKind.wrap .i64 (8 * (n : Int)))).fdiv (2 ^ min (IntKind.wrap .u64 (IntKind.wrap .i64 (8 * (7 - (i : Int))))).toNat 64) = ((8 * n : Nat) : Int).fdiv (2 ^ (56 - 8 * i)) := by
  have e1 : IntKind.wrap .u64 (IntKind.wrap .i64 (8 * (n : Int))) = ((8 * n : Nat) : Int) := by rw [IntKind.wrap_i64, wrap_u64a]; omega
  have e2 : IntKind.wrap .u64 (IntKind.wrap .i64 (8 * (7 - (i : Int)))) = ((56 - 8 * i : Nat) : Int) := by rw [IntKind.wrap_i64, wrap_u64a]; omega
  rw [e1, e2, Int.toNat_natCast, show min (56 - 8 * i) 64 = 56 - 8 * i by omega]
theorem rh2_step {bs : List Int} {x : RhX} (h : rhP2 bs x) (hi : x.i < 8) {cap' : Nat} {sp : List Int} (hc : x.len + 1 ≤ cap') (hs : sp.length = cap' - (x.len + 1)) (b base : Nat) :
    rhP2 bs ⟨x.ob, b, base, cap', x.len + 1, x.i + 1, x.z, x.xs.take x.len ++ [IntKind.wrap .u8 (((8 * bs.length : Nat) : Int).fdiv (2 ^ (56 - 8 * x.i)))] ++ sp, x.hs, x.ws, x.vs⟩ := by
  obtain ⟨h1, h3, h4, h5, h6⟩ := h
  have hb : (x.xs.take x.len).length = x.len := by rw [List.length_take]; omega
  have hA : (x.xs.take x.len ++ [IntKind.wrap .u8 (((8 * bs.length : Nat) : Int).fdiv (2 ^ (56 - 8 * x.i)))]).length = x.len + 1 := by rw [List.length_append, hb]; rfl
  refine ⟨hi, ?_, ?_, hc, ?_⟩
  · simp only []; omega
  · simp only []
    rw [← hA, List.take_left, h4]
    simp [lenB, List.range_succ]
  · simp only []; rw [List.length_append, hA, hs]; omega
theorem rh_ix {i t j n : Nat} (h : 64 * i + 64 ≤ n) (hn : n < 2000000) (ht : t < 16) (hj : j < 4) : IntKind.wrap .i64 (IntKind.wrap .i64 (64 * (i : Int) + IntKind.wrap .i64 (4 * (t : Int))) + (j : Int)) = ((64 * i + (4 * t + j) : Nat) : Int) := by
  have e1 : IntKind.wrap .i64 (4 * (t : Int)) = ((4 * t : Nat) : Int) := by rw [IntKind.wrap_i64]; omega
  have e2 : IntKind.wrap .i64 (64 * (i : Int) + ((4 * t : Nat) : Int)) = ((64 * i + 4 * t : Nat) : Int) := by rw [IntKind.wrap_i64]; omega
  rw [e1, e2, IntKind.wrap_i64]; omega
theorem rh_sub {t k : Nat} (h : k ≤ t) (ht : t < 64) : IntKind.wrap .i64 ((t : Int) - (k : Int)) = ((t - k : Nat) : Int) := by rw [IntKind.wrap_i64]; omega
theorem rh_64 {i : Nat} (h : i < 100000) : IntKind.wrap .i64 (64 * (i : Int) + 64) = 64 * ((i + 1 : Nat) : Int) := by rw [IntKind.wrap_i64]; omega
theorem rh5_step {x y : RhX} (h : rhP5 x y) (hi : y.i < 4) (hl : x.len < x.ws.length) : y.ws.set x.len (IntKind.wrap .u32 (IntKind.wrap .u32 (256 * y.ws.getD x.len 0) + IntKind.wrap .u32 (x.xs.getD (4 * x.len + y.i) 0))) = x.ws.set x.len (partW x.xs x.len (y.i + 1)) := by
  rw [h.2, List.set_set, getD_set_eq _ _ _ hl]
  rfl
theorem rh4_start (bs : List Int) : List.replicate 64 (0 : Int) = wPre bs 0 ++ List.replicate 64 0 := rfl
theorem rh5_start {W : List Int} {t : Nat} (hW : W.length = t) (ht : t < 64) (bs : List Int) : W ++ List.replicate (64 - t) 0 = (W ++ List.replicate (64 - t) 0).set t (partW bs t 0) := by
  rw [set_app' hW ht]
  show _ = W ++ [0] ++ _
  rw [List.append_assoc, show 64 - t = 64 - (t + 1) + 1 by omega, List.replicate_succ]
  rfl
theorem rh5_end {bs ws W : List Int} {t : Nat} (hb : Octets bs) (hW : W = wPre bs t) (ht : t < 16) (hw : ws = W ++ List.replicate (64 - t) 0) : ws.set t (partW bs t 4) = wPre bs (t + 1) ++ List.replicate (64 - (t + 1)) 0 := by
  rw [hw, set_app' (by rw [hW, wPre_len]) (by omega), word_is hb, hW, wPre_lo ht]
theorem rh4_hi {bs ws : List Int} {t : Nat} {z10 z11 : Int} (h16 : 16 ≤ t) (ht : t < 64) (hw : ws = wPre bs t ++ List.replicate (64 - t) 0) (e10 : z10 = sg0 (ws.getD (t - 15) 0)) (e11 : z11 = sg1 (ws.getD (t - 2) 0)) :
    ws.set t (IntKind.wrap .u32 (IntKind.wrap .u32 (IntKind.wrap .u32 (z11 + ws.getD (t - 7) 0) + z10) + ws.getD (t - 16) 0)) = wPre bs (t + 1) ++ List.replicate (64 - (t + 1)) 0 := by
  have hl := wPre_len bs t
  have g : ∀ k, 0 < k → k ≤ 16 → ws.getD (t - k) 0 = (wPre bs t).getD (t - k) 0 := fun k h0 h1 => by rw [hw, getD_app (by omega)]
  rw [e10, e11, g 15 (by omega) (by omega), g 2 (by omega) (by omega), g 7 (by omega) (by omega), g 16 (by omega) (by omega), hw, set_app' hl ht, wPre_hi h16]
  rfl
theorem rh6_step {x y : RhX} {z t2 : Int} {W : List Int} (h : rhP6 x y) (hW : x.ws = W) (ez : z = t1F y.vs (kTab.getD y.i 0) (W.getD y.i 0)) (e2 : t2 = t2F y.vs) (hl : y.vs.length = 8) :
    List.take 0 y.vs ++ [IntKind.wrap .u32 (z + t2), y.vs.getD 0 0, y.vs.getD 1 0, y.vs.getD 2 0, IntKind.wrap .u32 (y.vs.getD 3 0 + z), y.vs.getD 4 0, y.vs.getD 5 0, y.vs.getD 6 0] ++ List.drop 8 y.vs = rndsF x.ws (y.i + 1) x.vs := by
  rw [List.take_zero, List.nil_append, List.drop_eq_nil_of_le (by omega), List.append_nil, ez, e2, ← hW]
  show _ = rndF (rndsF x.ws y.i x.vs) _ _
  rw [← h.2]
  rfl
theorem rh7_step {x y : RhX} (h : rhP7 x y) (hs : x.ws.length = 8) (hi : y.i < 8) : y.hs.set y.i (IntKind.wrap .u32 (y.hs.getD y.i 0 + x.vs.getD y.i 0)) = (List.range (y.i + 1)).map (fun i => w32 (x.ws.getD i 0 + x.vs.getD i 0)) ++ x.ws.drop (y.i + 1) := by
  rw [h.2]
  exact p25_step (f := fun i => x.vs.getD i 0) hs hi
theorem rh_win {x : RhX} {ps : List Int} {n i t j : Nat} (h : x.xs.take n = ps) (hi : 64 * i + 64 ≤ n) (ht : t < 16) (hj : j < 4) : x.xs.getD (64 * i + (4 * t + j)) 0 = ((ps.drop (64 * i)).take 64).getD (4 * t + j) 0 := by
  rw [← win_getD (ys := ps) (o := 64 * i) (n := 64) (by omega), ← h, List.getD_eq_getElem?_getD, List.getD_eq_getElem?_getD, List.getElem?_take_of_lt (by omega)]
theorem octets_pad {bs : List Int} (h : Octets bs) : Octets (padF bs) := by
  intro x hx
  unfold padF preF lenB at hx
  simp only [List.mem_append, List.mem_singleton, List.mem_replicate, List.mem_map] at hx
  rcases hx with ((hx | rfl) | ⟨-, rfl⟩) | ⟨j, -, rfl⟩
  · exact h x hx
  · omega
  · omega
  · simp only [IntKind.wrap, IntKind.signed, IntKind.bits, Bool.false_and, Bool.false_eq_true, if_false]
    omega
theorem octets_win {bs : List Int} (h : Octets bs) (i n : Nat) : Octets ((bs.drop i).take n) := fun x hx => h x (List.mem_of_mem_drop (List.mem_of_mem_take hx))
theorem rh_out {u : Nat} (hu : u < 32) : IntKind.wrap .i64 ((u : Int).tdiv 4) = ((u / 4 : Nat) : Int) ∧ IntKind.wrap .u64 (IntKind.wrap .i64 (24 - IntKind.wrap .i64 (8 * (u : Int).tmod 4))) = ((24 - 8 * (u % 4) : Nat) : Int) := by
  have h1 : (u : Int).tdiv 4 = ((u / 4 : Nat) : Int) := rfl
  have h2 : (u : Int).tmod 4 = ((u % 4 : Nat) : Int) := rfl
  rw [h1, h2]
  have h3 : IntKind.wrap .i64 (8 * ((u % 4 : Nat) : Int)) = ((8 * (u % 4) : Nat) : Int) := by rw [IntKind.wrap_i64]; omega
  have h4 : IntKind.wrap .i64 (24 - ((8 * (u % 4) : Nat) : Int)) = ((24 - 8 * (u % 4) : Nat) : Int) := by rw [IntKind.wrap_i64]; omega
  rw [h3, h4]
  refine ⟨by rw [IntKind.wrap_i64]; omega, by rw [wrap_u64a]; omega⟩
theorem rh8_step {s : List Int} {u : Nat} (hu : u < 32) : (outW s u).set u (outB s u) = outW s (u + 1) := by
  unfold outW
  rw [set_app' (by simp) hu, List.range_succ, List.map_append]
  rfl
theorem rh_tmod (n : Nat) : (n : Int).tmod 64 = 56 ↔ n % 64 = 56 := by
  have : (n : Int).tmod 64 = ((n % 64 : Nat) : Int) := rfl
  rw [this]; omega
attribute [local irreducible] hashF hashS wTab wPre rndsF chF majF outW outB ixor iand ior rotr32
set_option maxHeartbeats 2000000 in
theorem rh_goal (o : Option Addr) (l c m : Nat) (L : Blks) (P0 P1 P2 P3 P8 : RhX → Prop) (P4 P5 P6 P7 : RhX → RhX → Prop) (R : Value → Prop) (bs : List Int) (hb : BytesAt L o l bs) (hoc : Octets bs) (hl : l < 1000000)
    (em : m = (padF bs).length / 64) (e0 : P0 = rhP0 bs) (e1 : P1 = rhP1 bs) (e2 : P2 = rhP2 bs) (e3 : P3 = rhP3 bs m) (e4 : P4 = rhP4) (e5 : P5 = rhP5) (e6 : P6 = rhP6) (e7 : P7 = rhP7) (e8 : P8 = rhP8 (hashS (padF bs) m)) (hR : R (arrV .u8 (hashF bs))) :
    rhGoal o l c m L P0 P1 P2 P3 P8 P4 P5 P6 P7 R :=
  Eq.mpr (by kernel_rfl) (show
  ∀ (b : Nat), ∃ (x0 : RhX), (∀ (b_1 : Nat), (l = (0 : Nat) → (0 : Nat) ≤ (0 : Nat) ∧ ∃ (y : RhX), ((((0 : Nat) = (0 : Nat) ∧ (0 : Nat) = (0 : Nat)) ∧ ((0 : Nat) = (0 : Nat) ∧ (0 : Nat) = l ∧ (0 : Nat) = y.4) ∧ (o = o ∧ l = l ∧ c = c) ∧ True) ∧ L = L ∧ (b = y.1 ∧ (0 : Nat) = (0 : Nat) ∧ (32 : Nat) = (32 : Nat) ∧ List.replicate (32 : Nat) (0 : Int) = List.replicate (32 : Nat) (0 : Int) ∧ True) ∧ (b_1 = y.2 ∧ (0 : Nat) = y.3 ∧ (0 : Nat) = y.4 ∧ [] = y.8 ∧ True) ∧ True) ∧ P0 y) ∧ ((0 : Nat) < l → ∃ (b_2 : Nat), ∃ (x0 : Nat), o = Option.some { block := b_2, off := x0 } ∧ ∃ (xs : List Int),
  rawTab L b_2 x0 l [Col.ints IntKind.u8 xs] ∧ ((0 : Nat) ≤ (0 : Nat) ∧ (0 : Nat) ≤ (0 : Nat)) ∧ (0 : Nat) ≤ (0 : Nat) ∧ ((0 : Nat) + l) * (1 : Nat) ≤ (140737488355328 : Nat) ∧ ∀ (b_3 base cap' : Nat), (0 : Nat) + l ≤ cap' → ((0 : Nat) + l ≤ (0 : Nat) → cap' = (0 : Nat)) → ∀ (sp : List Int), List.length sp = cap' - ((0 : Nat) + l) → ∃ (y : RhX), ((((0 : Nat) = (0 : Nat) ∧ (0 : Nat) = (0 : Nat)) ∧ ((0 : Nat) = (0 : Nat) ∧ (0 : Nat) + l = l ∧ cap' = y.4) ∧ (o = o ∧ l = l ∧ c = c) ∧ True) ∧ L = L ∧
  (b = y.1 ∧ (0 : Nat) = (0 : Nat) ∧ (32 : Nat) = (32 : Nat) ∧ List.replicate (32 : Nat) (0 : Int) = List.replicate (32 : Nat) (0 : Int) ∧ True) ∧ (b_3 = y.2 ∧ base = y.3 ∧ cap' = y.4 ∧ List.take (0 : Nat) [] ++ xs ++ sp = y.8 ∧ True) ∧ True) ∧ P0 y)) ∧ ∀ (x : RhX), P0 x → ∀ (b : Nat), Value.oneCell' (Value.int IntKind.u8 (128 : Int)) = Bool.true ∧ (l ≤ x.4 ∧ (0 : Nat) + x.4 ≤ x.4) ∧ (0 : Nat) + l ≤ x.4 ∧ (l + (1 : Nat)) * (1 : Nat) ≤ (140737488355328 : Nat) ∧ ∀ (b base cap' : Nat), l + (1 : Nat) ≤ cap' → (l + (1 : Nat) ≤ x.4 → cap' = x.4) → ∀ (sp : List Int),
  List.length sp = cap' - (l + (1 : Nat)) → ∃ (x0 : RhX), (((((0 : Nat) = (0 : Nat) ∧ (0 : Nat) = (0 : Nat)) ∧ ((0 : Nat) = (0 : Nat) ∧ l + (1 : Nat) = x0.5 ∧ cap' = x0.4) ∧ (o = o ∧ l = l ∧ c = c) ∧ True) ∧ L = L ∧ (x.1 = x0.1 ∧ (0 : Nat) = (0 : Nat) ∧ (32 : Nat) = (32 : Nat) ∧ List.replicate (32 : Nat) (0 : Int) = List.replicate (32 : Nat) (0 : Int) ∧ True) ∧ (b = x0.2 ∧ base = x0.3 ∧ cap' = x0.4 ∧ List.take l x.8 ++ [(128 : Int)] ++ sp = x0.8 ∧ True) ∧ True) ∧ P1 x0) ∧ ∀ (x : RhX), P1 x → (64 : Int) ≠ (0 : Int) ∧ (Int.tmod (↑x.5 : Int) (64 : Int) ≠ (56 : Int) → ∀ (b : Nat),
  Value.oneCell' (Value.int IntKind.u8 (0 : Int)) = Bool.true ∧ (x.5 ≤ x.4 ∧ (0 : Nat) + x.4 ≤ x.4) ∧ (0 : Nat) + x.5 ≤ x.4 ∧ (x.5 + (1 : Nat)) * (1 : Nat) ≤ (140737488355328 : Nat) ∧ ∀ (b base cap' : Nat), x.5 + (1 : Nat) ≤ cap' → (x.5 + (1 : Nat) ≤ x.4 → cap' = x.4) → ∀ (sp : List Int), List.length sp = cap' - (x.5 + (1 : Nat)) → ∃ (y : RhX), ((120 : Nat) - y.5 % (64 : Nat)) % (64 : Nat) < ((120 : Nat) - x.5 % (64 : Nat)) % (64 : Nat) ∧ ((((0 : Nat) = (0 : Nat) ∧ (0 : Nat) = (0 : Nat)) ∧ ((0 : Nat) = (0 : Nat) ∧ x.5 + (1 : Nat) = y.5 ∧ cap' = y.4) ∧ (o = o ∧ l = l ∧ c = c) ∧ True) ∧ L = L ∧
  (x.1 = y.1 ∧ (0 : Nat) = (0 : Nat) ∧ (32 : Nat) = (32 : Nat) ∧ List.replicate (32 : Nat) (0 : Int) = List.replicate (32 : Nat) (0 : Int) ∧ True) ∧ (b = y.2 ∧ base = y.3 ∧ cap' = y.4 ∧ List.take x.5 x.8 ++ [(0 : Int)] ++ sp = y.8 ∧ True) ∧ True) ∧ P1 y) ∧ (¬Int.tmod (↑x.5 : Int) (64 : Int) ≠ (56 : Int) → ∃ (x0 : RhX), ((((7 : Int) = (7 : Int) - (↑x0.6 : Int) ∧ ((0 : Nat) = (0 : Nat) ∧ (0 : Nat) = (0 : Nat)) ∧ ((0 : Nat) = (0 : Nat) ∧ x.5 = x0.5 ∧ x.4 = x0.4) ∧ (o = o ∧ l = l ∧ c = c) ∧ True) ∧ L = L ∧ (x.1 = x0.1 ∧
  (0 : Nat) = (0 : Nat) ∧ (32 : Nat) = (32 : Nat) ∧ List.replicate (32 : Nat) (0 : Int) = List.replicate (32 : Nat) (0 : Int) ∧ True) ∧ (x.2 = x0.2 ∧ x.3 = x0.3 ∧ x.4 = x0.4 ∧ x.8 = x0.8 ∧ True) ∧ True) ∧ P2 x0) ∧ ∀ (x : RhX), P2 x → ((0 : Int) ≤ (7 : Int) - (↑x.6 : Int) → (0 : Int) ≤ IntKind.wrap IntKind.u64 (IntKind.wrap IntKind.i64 ((8 : Int) * ((7 : Int) - (↑x.6 : Int)))) ∧ ∀ (b : Nat), Value.oneCell' (Value.int IntKind.u8 (IntKind.wrap IntKind.u8 (Int.fdiv (IntKind.wrap IntKind.u64 (IntKind.wrap IntKind.i64 ((8 : Int) * (↑l : Int)))) ((2 : Int) ^
  Min.min (Int.toNat (IntKind.wrap IntKind.u64 (IntKind.wrap IntKind.i64 ((8 : Int) * ((7 : Int) - (↑x.6 : Int)))))) (64 : Nat))))) = Bool.true ∧ (x.5 ≤ x.4 ∧ (0 : Nat) + x.4 ≤ x.4) ∧ (0 : Nat) + x.5 ≤ x.4 ∧ (x.5 + (1 : Nat)) * (1 : Nat) ≤ (140737488355328 : Nat) ∧ ∀ (b base cap' : Nat), x.5 + (1 : Nat) ≤ cap' → (x.5 + (1 : Nat) ≤ x.4 → cap' = x.4) → ∀ (sp : List Int), List.length sp = cap' - (x.5 + (1 : Nat)) → ∃ (y : RhX), (8 : Nat) - y.6 < (8 : Nat) - x.6 ∧ ((IntKind.wrap IntKind.i64 ((7 : Int) - (↑x.6 : Int) - (1 : Int)) = (7 : Int) - (↑y.6 : Int) ∧
  ((0 : Nat) = (0 : Nat) ∧ (0 : Nat) = (0 : Nat)) ∧ ((0 : Nat) = (0 : Nat) ∧ x.5 + (1 : Nat) = y.5 ∧ cap' = y.4) ∧ (o = o ∧ l = l ∧ c = c) ∧ True) ∧ L = L ∧ (x.1 = y.1 ∧ (0 : Nat) = (0 : Nat) ∧ (32 : Nat) = (32 : Nat) ∧ List.replicate (32 : Nat) (0 : Int) = List.replicate (32 : Nat) (0 : Int) ∧ True) ∧ (b = y.2 ∧ base = y.3 ∧ cap' = y.4 ∧ List.take x.5 x.8 ++ [IntKind.wrap IntKind.u8 (Int.fdiv (IntKind.wrap IntKind.u64 (IntKind.wrap IntKind.i64 ((8 : Int) * (↑l : Int)))) ((2 : Int) ^ Min.min (Int.toNat (IntKind.wrap IntKind.u64
  (IntKind.wrap IntKind.i64 ((8 : Int) * ((7 : Int) - (↑x.6 : Int)))))) (64 : Nat)))] ++ sp = y.8 ∧ True) ∧ True) ∧ P2 y) ∧ (¬(0 : Int) ≤ (7 : Int) - (↑x.6 : Int) → ∀ (b : Nat), ((8 : Nat) = (8 : Nat) ∧ (8 : Nat) ≤ (8 : Nat)) ∧ ∃ (x0 : RhX), ((((0 : Int) = (64 : Int) * (↑x0.6 : Int) ∧ ((0 : Nat) = (0 : Nat) ∧ (0 : Nat) = (0 : Nat)) ∧ ((0 : Nat) = (0 : Nat) ∧ x.5 = x.5 ∧ x.4 = x.4) ∧ ((0 : Nat) = (0 : Nat) ∧ (0 : Nat) = (0 : Nat)) ∧ True) ∧ L = L ∧ (x.1 = x.1 ∧ (0 : Nat) = (0 : Nat) ∧ (32 : Nat) = (32 : Nat) ∧ List.replicate (32 : Nat) (0 : Int) = List.replicate (32 : Nat) (0 : Int) ∧ True) ∧
  (x.2 = x.2 ∧ x.3 = x.3 ∧ x.4 = x.4 ∧ x.8 = x.8 ∧ True) ∧ (b = b ∧ (0 : Nat) = (0 : Nat) ∧ (8 : Nat) = (8 : Nat) ∧ List.take (0 : Nat) (List.replicate (8 : Nat) (0 : Int)) ++ [(1779033703 : Int), (3144134277 : Int), (1013904242 : Int), (2773480762 : Int), (1359893119 : Int), (2600822924 : Int), (528734635 : Int), (1541459225 : Int)] ++ List.drop (8 : Nat) (List.replicate (8 : Nat) (0 : Int)) = x0.9 ∧ True) ∧ True) ∧ P3 x0) ∧ ∀ (x_1 : RhX), P3 x_1 → ((64 : Int) * (↑x_1.6 : Int) < (↑x.5 : Int) → ∀ (b_1 : Nat), ∃ (x0 : RhX), ((((0 : Int) = (↑x0.6 : Int) ∧
  ((0 : Nat) = (0 : Nat) ∧ (0 : Nat) = (0 : Nat)) ∧ ((0 : Nat) = (0 : Nat) ∧ x.5 = x.5 ∧ x.4 = x.4) ∧ ((0 : Nat) = (0 : Nat) ∧ (0 : Nat) = (0 : Nat)) ∧ (64 : Int) * (↑x_1.6 : Int) = (64 : Int) * (↑x_1.6 : Int) ∧ ((0 : Nat) = (0 : Nat) ∧ (0 : Nat) = (0 : Nat)) ∧ True) ∧ L = L ∧ (x.1 = x.1 ∧ (0 : Nat) = (0 : Nat) ∧ (32 : Nat) = (32 : Nat) ∧ List.replicate (32 : Nat) (0 : Int) = List.replicate (32 : Nat) (0 : Int) ∧ True) ∧ (x.2 = x.2 ∧ x.3 = x.3 ∧ x.4 = x.4 ∧ x.8 = x.8 ∧ True) ∧ (b = b ∧ (0 : Nat) = (0 : Nat) ∧ (8 : Nat) = (8 : Nat) ∧ x_1.9 = x_1.9 ∧ True) ∧ (b_1 = b_1 ∧
  (0 : Nat) = (0 : Nat) ∧ (64 : Nat) = (64 : Nat) ∧ List.replicate (64 : Nat) (0 : Int) = x0.10 ∧ True) ∧ True) ∧ P4 x0 x0) ∧ ∀ (x_2 : RhX), P4 x0 x_2 → ((↑x_2.6 : Int) < (64 : Int) → ((↑x_2.6 : Int) < (16 : Int) → ∃ (x0_1 : RhX), ((((0 : Int) = (↑x0_1.6 : Int) ∧ ((0 : Nat) = (0 : Nat) ∧ (0 : Nat) = (0 : Nat)) ∧ ((0 : Nat) = (0 : Nat) ∧ x.5 = x.5 ∧ x.4 = x.4) ∧ ((0 : Nat) = (0 : Nat) ∧ (0 : Nat) = (0 : Nat)) ∧ (64 : Int) * (↑x_1.6 : Int) = (64 : Int) * (↑x_1.6 : Int) ∧ ((0 : Nat) = (0 : Nat) ∧ (0 : Nat) = (0 : Nat)) ∧ (↑x_2.6 : Int) = (↑x_2.6 : Int) ∧ True) ∧ L = L ∧ (x.1 = x.1 ∧
  (0 : Nat) = (0 : Nat) ∧ (32 : Nat) = (32 : Nat) ∧ List.replicate (32 : Nat) (0 : Int) = List.replicate (32 : Nat) (0 : Int) ∧ True) ∧ (x.2 = x.2 ∧ x.3 = x.3 ∧ x.4 = x.4 ∧ x.8 = x.8 ∧ True) ∧ (b = b ∧ (0 : Nat) = (0 : Nat) ∧ (8 : Nat) = (8 : Nat) ∧ x_1.9 = x_1.9 ∧ True) ∧ (b_1 = b_1 ∧ (0 : Nat) = (0 : Nat) ∧ (64 : Nat) = (64 : Nat) ∧ x_2.10 = x0_1.10 ∧ True) ∧ True) ∧ P5 x0_1 x0_1) ∧ ∀ (x_3 : RhX), P5 x0_1 x_3 → ((↑x_3.6 : Int) < (4 : Int) → ((0 : Int) ≤ (↑x_2.6 : Int) ∧ (↑x_2.6 : Int) < (↑(64 : Nat) : Int)) ∧ (0 : Nat) + x_2.6 < (64 : Nat) ∧ ((0 : Int) ≤ IntKind.wrap IntKind.i64
  (IntKind.wrap IntKind.i64 ((64 : Int) * (↑x_1.6 : Int) + IntKind.wrap IntKind.i64 ((4 : Int) * (↑x_2.6 : Int))) + (↑x_3.6 : Int)) ∧ IntKind.wrap IntKind.i64 (IntKind.wrap IntKind.i64 ((64 : Int) * (↑x_1.6 : Int) + IntKind.wrap IntKind.i64 ((4 : Int) * (↑x_2.6 : Int))) + (↑x_3.6 : Int)) < (↑x.5 : Int)) ∧ (0 : Nat) + Int.toNat (IntKind.wrap IntKind.i64 (IntKind.wrap IntKind.i64 ((64 : Int) * (↑x_1.6 : Int) + IntKind.wrap IntKind.i64 ((4 : Int) * (↑x_2.6 : Int))) + (↑x_3.6 : Int))) < x.4 ∧ ((0 : Int) ≤ (↑x_2.6 : Int) ∧ (↑x_2.6 : Int) < (↑(64 : Nat) : Int)) ∧ (0 : Nat) + x_2.6 < (64 : Nat) ∧
  ∃ (y : RhX), (4 : Nat) - y.6 < (4 : Nat) - x_3.6 ∧ ((IntKind.wrap IntKind.i64 ((↑x_3.6 : Int) + (1 : Int)) = (↑y.6 : Int) ∧ ((0 : Nat) = (0 : Nat) ∧ (0 : Nat) = (0 : Nat)) ∧ ((0 : Nat) = (0 : Nat) ∧ x.5 = x.5 ∧ x.4 = x.4) ∧ ((0 : Nat) = (0 : Nat) ∧ (0 : Nat) = (0 : Nat)) ∧ (64 : Int) * (↑x_1.6 : Int) = (64 : Int) * (↑x_1.6 : Int) ∧ ((0 : Nat) = (0 : Nat) ∧ (0 : Nat) = (0 : Nat)) ∧ (↑x_2.6 : Int) = (↑x_2.6 : Int) ∧ True) ∧ L = L ∧ (x.1 = x.1 ∧ (0 : Nat) = (0 : Nat) ∧ (32 : Nat) = (32 : Nat) ∧ List.replicate (32 : Nat) (0 : Int) = List.replicate (32 : Nat) (0 : Int) ∧ True) ∧
  (x.2 = x.2 ∧ x.3 = x.3 ∧ x.4 = x.4 ∧ x.8 = x.8 ∧ True) ∧ (b = b ∧ (0 : Nat) = (0 : Nat) ∧ (8 : Nat) = (8 : Nat) ∧ x_1.9 = x_1.9 ∧ True) ∧ (b_1 = b_1 ∧ (0 : Nat) = (0 : Nat) ∧ (64 : Nat) = (64 : Nat) ∧ List.set x_3.10 ((0 : Nat) + x_2.6) (IntKind.wrap IntKind.u32 (IntKind.wrap IntKind.u32 ((256 : Int) * List.getD x_3.10 ((0 : Nat) + x_2.6) (0 : Int)) + IntKind.wrap IntKind.u32 (List.getD x.8 ((0 : Nat) + Int.toNat (IntKind.wrap IntKind.i64 (IntKind.wrap IntKind.i64 ((64 : Int) * (↑x_1.6 : Int) + IntKind.wrap IntKind.i64 ((4 : Int) * (↑x_2.6 : Int))) + (↑x_3.6 : Int)))) (0 : Int)))) = y.10 ∧
  True) ∧ True) ∧ P5 x0_1 y) ∧ (¬(↑x_3.6 : Int) < (4 : Int) → ∃ (y : RhX), (64 : Nat) - y.6 < (64 : Nat) - x_2.6 ∧ ((IntKind.wrap IntKind.i64 ((↑x_2.6 : Int) + (1 : Int)) = (↑y.6 : Int) ∧ ((0 : Nat) = (0 : Nat) ∧ (0 : Nat) = (0 : Nat)) ∧ ((0 : Nat) = (0 : Nat) ∧ x.5 = x.5 ∧ x.4 = x.4) ∧ ((0 : Nat) = (0 : Nat) ∧ (0 : Nat) = (0 : Nat)) ∧ (64 : Int) * (↑x_1.6 : Int) = (64 : Int) * (↑x_1.6 : Int) ∧ ((0 : Nat) = (0 : Nat) ∧ (0 : Nat) = (0 : Nat)) ∧ True) ∧ L = L ∧ (x.1 = x.1 ∧ (0 : Nat) = (0 : Nat) ∧ (32 : Nat) = (32 : Nat) ∧
  List.replicate (32 : Nat) (0 : Int) = List.replicate (32 : Nat) (0 : Int) ∧ True) ∧ (x.2 = x.2 ∧ x.3 = x.3 ∧ x.4 = x.4 ∧ x.8 = x.8 ∧ True) ∧ (b = b ∧ (0 : Nat) = (0 : Nat) ∧ (8 : Nat) = (8 : Nat) ∧ x_1.9 = x_1.9 ∧ True) ∧ (b_1 = b_1 ∧ (0 : Nat) = (0 : Nat) ∧ (64 : Nat) = (64 : Nat) ∧ x_3.10 = y.10 ∧ True) ∧ True) ∧ P4 x0 y)) ∧ (¬(↑x_2.6 : Int) < (16 : Int) → ∃ (x0_1 : RhX), (((0 : Int) ≤ IntKind.wrap IntKind.i64 ((↑x_2.6 : Int) - (15 : Int)) ∧ IntKind.wrap IntKind.i64 ((↑x_2.6 : Int) - (15 : Int)) < (↑(64 : Nat) : Int)) ∧
  (0 : Nat) + Int.toNat (IntKind.wrap IntKind.i64 ((↑x_2.6 : Int) - (15 : Int))) < (64 : Nat) ∧ ((0 : Int) ≤ IntKind.wrap IntKind.i64 ((↑x_2.6 : Int) - (15 : Int)) ∧ IntKind.wrap IntKind.i64 ((↑x_2.6 : Int) - (15 : Int)) < (↑(64 : Nat) : Int)) ∧ (0 : Nat) + Int.toNat (IntKind.wrap IntKind.i64 ((↑x_2.6 : Int) - (15 : Int))) < (64 : Nat) ∧ ((0 : Int) ≤ IntKind.wrap IntKind.i64 ((↑x_2.6 : Int) - (15 : Int)) ∧ IntKind.wrap IntKind.i64 ((↑x_2.6 : Int) - (15 : Int)) < (↑(64 : Nat) : Int)) ∧ (0 : Nat) + Int.toNat (IntKind.wrap IntKind.i64 ((↑x_2.6 : Int) - (15 : Int))) < (64 : Nat) ∧
  (0 : Int) ≤ (3 : Int) ∧ ((1 : Int) ≤ (7 : Int) ∧ (7 : Int) ≤ (31 : Int)) ∧ ((0 : Int) ≤ (3 : Int) ∧ SV.val (Value.int IntKind.u32 (Int.fdiv (List.getD x_2.10 ((0 : Nat) + Int.toNat (IntKind.wrap IntKind.i64 ((↑x_2.6 : Int) - (15 : Int)))) (0 : Int)) ((2 : Int) ^ Min.min (Int.toNat (3 : Int)) (IntKind.bits IntKind.u32)))) = SV.val (Value.int IntKind.u32 (Int.fdiv (List.getD x_2.10 ((0 : Nat) + Int.toNat (IntKind.wrap IntKind.i64 ((↑x_2.6 : Int) - (15 : Int)))) (0 : Int)) ((2 : Int) ^ Min.min (Int.toNat (3 : Int)) (IntKind.bits IntKind.u32))))) ∧
  ((0 : Nat) + Int.toNat (IntKind.wrap IntKind.i64 ((↑x_2.6 : Int) - (15 : Int))) < (64 : Nat) ∧ SV.val (Value.int IntKind.u32 (List.getD x_2.10 ((0 : Nat) + Int.toNat (IntKind.wrap IntKind.i64 ((↑x_2.6 : Int) - (15 : Int)))) (0 : Int))) = SV.val (Value.int IntKind.u32 (List.getD x_2.10 ((0 : Nat) + Int.toNat (IntKind.wrap IntKind.i64 ((↑x_2.6 : Int) - (15 : Int)))) (0 : Int)))) ∧ (((0 : Int) ≤ IntKind.wrap IntKind.i64 ((↑x_2.6 : Int) - (15 : Int)) ∧ IntKind.wrap IntKind.i64 ((↑x_2.6 : Int) - (15 : Int)) < (↑(64 : Nat) : Int)) ∧ SV.ptr (4 : Nat) ((0 : Nat) +
  Int.toNat (IntKind.wrap IntKind.i64 ((↑x_2.6 : Int) - (15 : Int)))) (0 : Nat) = SV.ptr (4 : Nat) ((0 : Nat) + Int.toNat (IntKind.wrap IntKind.i64 ((↑x_2.6 : Int) - (15 : Int)))) (0 : Nat)) ∧ SV.val (Value.int IntKind.i64 (IntKind.wrap IntKind.i64 ((↑x_2.6 : Int) - (15 : Int)))) = SV.val (Value.int IntKind.i64 (IntKind.wrap IntKind.i64 ((↑x_2.6 : Int) - (15 : Int)))) ∧ ((0 : Nat) + Int.toNat (IntKind.wrap IntKind.i64 ((↑x_2.6 : Int) - (15 : Int))) < (64 : Nat) ∧ SV.val (Value.int IntKind.u32 (List.getD x_2.10 ((0 : Nat) + Int.toNat (IntKind.wrap IntKind.i64 ((↑x_2.6 : Int) - (15 : Int))))
  (0 : Int))) = SV.val (Value.int IntKind.u32 (List.getD x_2.10 ((0 : Nat) + Int.toNat (IntKind.wrap IntKind.i64 ((↑x_2.6 : Int) - (15 : Int)))) (0 : Int)))) ∧ (((0 : Int) ≤ IntKind.wrap IntKind.i64 ((↑x_2.6 : Int) - (15 : Int)) ∧ IntKind.wrap IntKind.i64 ((↑x_2.6 : Int) - (15 : Int)) < (↑(64 : Nat) : Int)) ∧ SV.ptr (4 : Nat) ((0 : Nat) + Int.toNat (IntKind.wrap IntKind.i64 ((↑x_2.6 : Int) - (15 : Int)))) (0 : Nat) = SV.ptr (4 : Nat) ((0 : Nat) + Int.toNat (IntKind.wrap IntKind.i64 ((↑x_2.6 : Int) - (15 : Int)))) (0 : Nat)) ∧ SV.val (Value.int IntKind.i64
  (IntKind.wrap IntKind.i64 ((↑x_2.6 : Int) - (15 : Int)))) = SV.val (Value.int IntKind.i64 (IntKind.wrap IntKind.i64 ((↑x_2.6 : Int) - (15 : Int)))) ∧ ((1 : Int) ≤ (18 : Int) ∧ (18 : Int) ≤ (31 : Int)) ∧ ((0 : Int) ≤ (3 : Int) ∧ SV.val (Value.int IntKind.u32 (Int.fdiv (List.getD x_2.10 ((0 : Nat) + Int.toNat (IntKind.wrap IntKind.i64 ((↑x_2.6 : Int) - (15 : Int)))) (0 : Int)) ((2 : Int) ^ Min.min (Int.toNat (3 : Int)) (IntKind.bits IntKind.u32)))) = SV.val (Value.int IntKind.u32 (Int.fdiv (List.getD x_2.10 ((0 : Nat) + Int.toNat (IntKind.wrap IntKind.i64 ((↑x_2.6 : Int) - (15 : Int))))
  (0 : Int)) ((2 : Int) ^ Min.min (Int.toNat (3 : Int)) (IntKind.bits IntKind.u32))))) ∧ ((0 : Nat) + Int.toNat (IntKind.wrap IntKind.i64 ((↑x_2.6 : Int) - (15 : Int))) < (64 : Nat) ∧ SV.val (Value.int IntKind.u32 (List.getD x_2.10 ((0 : Nat) + Int.toNat (IntKind.wrap IntKind.i64 ((↑x_2.6 : Int) - (15 : Int)))) (0 : Int))) = SV.val (Value.int IntKind.u32 (List.getD x_2.10 ((0 : Nat) + Int.toNat (IntKind.wrap IntKind.i64 ((↑x_2.6 : Int) - (15 : Int)))) (0 : Int)))) ∧ (((0 : Int) ≤ IntKind.wrap IntKind.i64 ((↑x_2.6 : Int) - (15 : Int)) ∧ IntKind.wrap IntKind.i64 ((↑x_2.6 : Int) - (15 : Int)) <
  (↑(64 : Nat) : Int)) ∧ SV.ptr (4 : Nat) ((0 : Nat) + Int.toNat (IntKind.wrap IntKind.i64 ((↑x_2.6 : Int) - (15 : Int)))) (0 : Nat) = SV.ptr (4 : Nat) ((0 : Nat) + Int.toNat (IntKind.wrap IntKind.i64 ((↑x_2.6 : Int) - (15 : Int)))) (0 : Nat)) ∧ SV.val (Value.int IntKind.i64 (IntKind.wrap IntKind.i64 ((↑x_2.6 : Int) - (15 : Int)))) = SV.val (Value.int IntKind.i64 (IntKind.wrap IntKind.i64 ((↑x_2.6 : Int) - (15 : Int)))) ∧ ∃ (y : RhX), ((ixor IntKind.u32 (ixor IntKind.u32 (rotr32 (List.getD x_2.10 ((0 : Nat) + Int.toNat (IntKind.wrap IntKind.i64 ((↑x_2.6 : Int) - (15 : Int)))) (0 : Int))
  (7 : Int)) (rotr32 (List.getD x_2.10 ((0 : Nat) + Int.toNat (IntKind.wrap IntKind.i64 ((↑x_2.6 : Int) - (15 : Int)))) (0 : Int)) (18 : Int))) (Int.fdiv (List.getD x_2.10 ((0 : Nat) + Int.toNat (IntKind.wrap IntKind.i64 ((↑x_2.6 : Int) - (15 : Int)))) (0 : Int)) ((2 : Int) ^ Min.min (Int.toNat (3 : Int)) (IntKind.bits IntKind.u32))) = y.7 ∧ ((0 : Nat) = (0 : Nat) ∧ (0 : Nat) = (0 : Nat)) ∧ ((0 : Nat) = (0 : Nat) ∧ x.5 = x.5 ∧ x.4 = x.4) ∧ ((0 : Nat) = (0 : Nat) ∧ (0 : Nat) = (0 : Nat)) ∧ (64 : Int) * (↑x_1.6 : Int) = (64 : Int) * (↑x_1.6 : Int) ∧
  ((0 : Nat) = (0 : Nat) ∧ (0 : Nat) = (0 : Nat)) ∧ (↑x_2.6 : Int) = (↑x_2.6 : Int) ∧ True) ∧ L = L ∧ (x.1 = x.1 ∧ (0 : Nat) = (0 : Nat) ∧ (32 : Nat) = (32 : Nat) ∧ List.replicate (32 : Nat) (0 : Int) = List.replicate (32 : Nat) (0 : Int) ∧ True) ∧ (x.2 = x.2 ∧ x.3 = x.3 ∧ x.4 = x.4 ∧ x.8 = x.8 ∧ True) ∧ (b = b ∧ (0 : Nat) = (0 : Nat) ∧ (8 : Nat) = (8 : Nat) ∧ x_1.9 = x_1.9 ∧ True) ∧ (b_1 = b_1 ∧ (0 : Nat) = (0 : Nat) ∧ (64 : Nat) = (64 : Nat) ∧ x_2.10 = x_2.10 ∧ True) ∧ True) ∧ y.7 = x0_1.7) ∧ ∀ (x_3 : RhX), x_3.7 = x0_1.7 → ∃ (x0_2 : RhX),
  (((0 : Int) ≤ IntKind.wrap IntKind.i64 ((↑x_2.6 : Int) - (2 : Int)) ∧ IntKind.wrap IntKind.i64 ((↑x_2.6 : Int) - (2 : Int)) < (↑(64 : Nat) : Int)) ∧ (0 : Nat) + Int.toNat (IntKind.wrap IntKind.i64 ((↑x_2.6 : Int) - (2 : Int))) < (64 : Nat) ∧ ((0 : Int) ≤ IntKind.wrap IntKind.i64 ((↑x_2.6 : Int) - (2 : Int)) ∧ IntKind.wrap IntKind.i64 ((↑x_2.6 : Int) - (2 : Int)) < (↑(64 : Nat) : Int)) ∧ (0 : Nat) + Int.toNat (IntKind.wrap IntKind.i64 ((↑x_2.6 : Int) - (2 : Int))) < (64 : Nat) ∧ ((0 : Int) ≤ IntKind.wrap IntKind.i64 ((↑x_2.6 : Int) - (2 : Int)) ∧
  IntKind.wrap IntKind.i64 ((↑x_2.6 : Int) - (2 : Int)) < (↑(64 : Nat) : Int)) ∧ (0 : Nat) + Int.toNat (IntKind.wrap IntKind.i64 ((↑x_2.6 : Int) - (2 : Int))) < (64 : Nat) ∧ (0 : Int) ≤ (10 : Int) ∧ ((1 : Int) ≤ (17 : Int) ∧ (17 : Int) ≤ (31 : Int)) ∧ ((0 : Int) ≤ (10 : Int) ∧ SV.val (Value.int IntKind.u32 (Int.fdiv (List.getD x_2.10 ((0 : Nat) + Int.toNat (IntKind.wrap IntKind.i64 ((↑x_2.6 : Int) - (2 : Int)))) (0 : Int)) ((2 : Int) ^ Min.min (Int.toNat (10 : Int)) (IntKind.bits IntKind.u32)))) = SV.val (Value.int IntKind.u32 (Int.fdiv (List.getD x_2.10 ((0 : Nat) + Int.toNat
  (IntKind.wrap IntKind.i64 ((↑x_2.6 : Int) - (2 : Int)))) (0 : Int)) ((2 : Int) ^ Min.min (Int.toNat (10 : Int)) (IntKind.bits IntKind.u32))))) ∧ ((0 : Nat) + Int.toNat (IntKind.wrap IntKind.i64 ((↑x_2.6 : Int) - (2 : Int))) < (64 : Nat) ∧ SV.val (Value.int IntKind.u32 (List.getD x_2.10 ((0 : Nat) + Int.toNat (IntKind.wrap IntKind.i64 ((↑x_2.6 : Int) - (2 : Int)))) (0 : Int))) = SV.val (Value.int IntKind.u32 (List.getD x_2.10 ((0 : Nat) + Int.toNat (IntKind.wrap IntKind.i64 ((↑x_2.6 : Int) - (2 : Int)))) (0 : Int)))) ∧ (((0 : Int) ≤ IntKind.wrap IntKind.i64 ((↑x_2.6 : Int) - (2 : Int)) ∧
  IntKind.wrap IntKind.i64 ((↑x_2.6 : Int) - (2 : Int)) < (↑(64 : Nat) : Int)) ∧ SV.ptr (4 : Nat) ((0 : Nat) + Int.toNat (IntKind.wrap IntKind.i64 ((↑x_2.6 : Int) - (2 : Int)))) (0 : Nat) = SV.ptr (4 : Nat) ((0 : Nat) + Int.toNat (IntKind.wrap IntKind.i64 ((↑x_2.6 : Int) - (2 : Int)))) (0 : Nat)) ∧ SV.val (Value.int IntKind.i64 (IntKind.wrap IntKind.i64 ((↑x_2.6 : Int) - (2 : Int)))) = SV.val (Value.int IntKind.i64 (IntKind.wrap IntKind.i64 ((↑x_2.6 : Int) - (2 : Int)))) ∧ ((0 : Nat) + Int.toNat (IntKind.wrap IntKind.i64 ((↑x_2.6 : Int) - (2 : Int))) < (64 : Nat) ∧ SV.val
  (Value.int IntKind.u32 (List.getD x_2.10 ((0 : Nat) + Int.toNat (IntKind.wrap IntKind.i64 ((↑x_2.6 : Int) - (2 : Int)))) (0 : Int))) = SV.val (Value.int IntKind.u32 (List.getD x_2.10 ((0 : Nat) + Int.toNat (IntKind.wrap IntKind.i64 ((↑x_2.6 : Int) - (2 : Int)))) (0 : Int)))) ∧ (((0 : Int) ≤ IntKind.wrap IntKind.i64 ((↑x_2.6 : Int) - (2 : Int)) ∧ IntKind.wrap IntKind.i64 ((↑x_2.6 : Int) - (2 : Int)) < (↑(64 : Nat) : Int)) ∧ SV.ptr (4 : Nat) ((0 : Nat) + Int.toNat (IntKind.wrap IntKind.i64 ((↑x_2.6 : Int) - (2 : Int)))) (0 : Nat) = SV.ptr (4 : Nat) ((0 : Nat) + Int.toNat
  (IntKind.wrap IntKind.i64 ((↑x_2.6 : Int) - (2 : Int)))) (0 : Nat)) ∧ SV.val (Value.int IntKind.i64 (IntKind.wrap IntKind.i64 ((↑x_2.6 : Int) - (2 : Int)))) = SV.val (Value.int IntKind.i64 (IntKind.wrap IntKind.i64 ((↑x_2.6 : Int) - (2 : Int)))) ∧ ((1 : Int) ≤ (19 : Int) ∧ (19 : Int) ≤ (31 : Int)) ∧ ((0 : Int) ≤ (10 : Int) ∧ SV.val (Value.int IntKind.u32 (Int.fdiv (List.getD x_2.10 ((0 : Nat) + Int.toNat (IntKind.wrap IntKind.i64 ((↑x_2.6 : Int) - (2 : Int)))) (0 : Int)) ((2 : Int) ^ Min.min (Int.toNat (10 : Int)) (IntKind.bits IntKind.u32)))) = SV.val (Value.int IntKind.u32 (Int.fdiv
  (List.getD x_2.10 ((0 : Nat) + Int.toNat (IntKind.wrap IntKind.i64 ((↑x_2.6 : Int) - (2 : Int)))) (0 : Int)) ((2 : Int) ^ Min.min (Int.toNat (10 : Int)) (IntKind.bits IntKind.u32))))) ∧ ((0 : Nat) + Int.toNat (IntKind.wrap IntKind.i64 ((↑x_2.6 : Int) - (2 : Int))) < (64 : Nat) ∧ SV.val (Value.int IntKind.u32 (List.getD x_2.10 ((0 : Nat) + Int.toNat (IntKind.wrap IntKind.i64 ((↑x_2.6 : Int) - (2 : Int)))) (0 : Int))) = SV.val (Value.int IntKind.u32 (List.getD x_2.10 ((0 : Nat) + Int.toNat (IntKind.wrap IntKind.i64 ((↑x_2.6 : Int) - (2 : Int)))) (0 : Int)))) ∧ (((0 : Int) ≤
  IntKind.wrap IntKind.i64 ((↑x_2.6 : Int) - (2 : Int)) ∧ IntKind.wrap IntKind.i64 ((↑x_2.6 : Int) - (2 : Int)) < (↑(64 : Nat) : Int)) ∧ SV.ptr (4 : Nat) ((0 : Nat) + Int.toNat (IntKind.wrap IntKind.i64 ((↑x_2.6 : Int) - (2 : Int)))) (0 : Nat) = SV.ptr (4 : Nat) ((0 : Nat) + Int.toNat (IntKind.wrap IntKind.i64 ((↑x_2.6 : Int) - (2 : Int)))) (0 : Nat)) ∧ SV.val (Value.int IntKind.i64 (IntKind.wrap IntKind.i64 ((↑x_2.6 : Int) - (2 : Int)))) = SV.val (Value.int IntKind.i64 (IntKind.wrap IntKind.i64 ((↑x_2.6 : Int) - (2 : Int)))) ∧ ∃ (y : RhX), ((ixor IntKind.u32 (ixor IntKind.u32 (rotr32
  (List.getD x_2.10 ((0 : Nat) + Int.toNat (IntKind.wrap IntKind.i64 ((↑x_2.6 : Int) - (2 : Int)))) (0 : Int)) (17 : Int)) (rotr32 (List.getD x_2.10 ((0 : Nat) + Int.toNat (IntKind.wrap IntKind.i64 ((↑x_2.6 : Int) - (2 : Int)))) (0 : Int)) (19 : Int))) (Int.fdiv (List.getD x_2.10 ((0 : Nat) + Int.toNat (IntKind.wrap IntKind.i64 ((↑x_2.6 : Int) - (2 : Int)))) (0 : Int)) ((2 : Int) ^ Min.min (Int.toNat (10 : Int)) (IntKind.bits IntKind.u32))) = y.7 ∧ ((0 : Nat) = (0 : Nat) ∧ (0 : Nat) = (0 : Nat)) ∧ ((0 : Nat) = (0 : Nat) ∧ x.5 = x.5 ∧ x.4 = x.4) ∧ ((0 : Nat) = (0 : Nat) ∧
  (0 : Nat) = (0 : Nat)) ∧ (64 : Int) * (↑x_1.6 : Int) = (64 : Int) * (↑x_1.6 : Int) ∧ ((0 : Nat) = (0 : Nat) ∧ (0 : Nat) = (0 : Nat)) ∧ (↑x_2.6 : Int) = (↑x_2.6 : Int) ∧ x_3.7 = x_3.7 ∧ True) ∧ L = L ∧ (x.1 = x.1 ∧ (0 : Nat) = (0 : Nat) ∧ (32 : Nat) = (32 : Nat) ∧ List.replicate (32 : Nat) (0 : Int) = List.replicate (32 : Nat) (0 : Int) ∧ True) ∧ (x.2 = x.2 ∧ x.3 = x.3 ∧ x.4 = x.4 ∧ x.8 = x.8 ∧ True) ∧ (b = b ∧ (0 : Nat) = (0 : Nat) ∧ (8 : Nat) = (8 : Nat) ∧ x_1.9 = x_1.9 ∧ True) ∧ (b_1 = b_1 ∧ (0 : Nat) = (0 : Nat) ∧ (64 : Nat) = (64 : Nat) ∧ x_2.10 = x_2.10 ∧ True) ∧ True) ∧ y.7 = x0_2.7) ∧
  ∀ (x_4 : RhX), x_4.7 = x0_2.7 → ((0 : Int) ≤ IntKind.wrap IntKind.i64 ((↑x_2.6 : Int) - (7 : Int)) ∧ IntKind.wrap IntKind.i64 ((↑x_2.6 : Int) - (7 : Int)) < (↑(64 : Nat) : Int)) ∧ (0 : Nat) + Int.toNat (IntKind.wrap IntKind.i64 ((↑x_2.6 : Int) - (7 : Int))) < (64 : Nat) ∧ ((0 : Int) ≤ IntKind.wrap IntKind.i64 ((↑x_2.6 : Int) - (16 : Int)) ∧ IntKind.wrap IntKind.i64 ((↑x_2.6 : Int) - (16 : Int)) < (↑(64 : Nat) : Int)) ∧ (0 : Nat) + Int.toNat (IntKind.wrap IntKind.i64 ((↑x_2.6 : Int) - (16 : Int))) < (64 : Nat) ∧ ((0 : Int) ≤ (↑x_2.6 : Int) ∧ (↑x_2.6 : Int) < (↑(64 : Nat) : Int)) ∧
  (0 : Nat) + x_2.6 < (64 : Nat) ∧ ∃ (y : RhX), (64 : Nat) - y.6 < (64 : Nat) - x_2.6 ∧ ((IntKind.wrap IntKind.i64 ((↑x_2.6 : Int) + (1 : Int)) = (↑y.6 : Int) ∧ ((0 : Nat) = (0 : Nat) ∧ (0 : Nat) = (0 : Nat)) ∧ ((0 : Nat) = (0 : Nat) ∧ x.5 = x.5 ∧ x.4 = x.4) ∧ ((0 : Nat) = (0 : Nat) ∧ (0 : Nat) = (0 : Nat)) ∧ (64 : Int) * (↑x_1.6 : Int) = (64 : Int) * (↑x_1.6 : Int) ∧ ((0 : Nat) = (0 : Nat) ∧ (0 : Nat) = (0 : Nat)) ∧ True) ∧ L = L ∧ (x.1 = x.1 ∧ (0 : Nat) = (0 : Nat) ∧ (32 : Nat) = (32 : Nat) ∧ List.replicate (32 : Nat) (0 : Int) = List.replicate (32 : Nat) (0 : Int) ∧ True) ∧
  (x.2 = x.2 ∧ x.3 = x.3 ∧ x.4 = x.4 ∧ x.8 = x.8 ∧ True) ∧ (b = b ∧ (0 : Nat) = (0 : Nat) ∧ (8 : Nat) = (8 : Nat) ∧ x_1.9 = x_1.9 ∧ True) ∧ (b_1 = b_1 ∧ (0 : Nat) = (0 : Nat) ∧ (64 : Nat) = (64 : Nat) ∧ List.set x_2.10 ((0 : Nat) + x_2.6) (IntKind.wrap IntKind.u32 (IntKind.wrap IntKind.u32 (IntKind.wrap IntKind.u32 (x_4.7 + List.getD x_2.10 ((0 : Nat) + Int.toNat (IntKind.wrap IntKind.i64 ((↑x_2.6 : Int) - (7 : Int)))) (0 : Int)) + x_3.7) + List.getD x_2.10 ((0 : Nat) + Int.toNat (IntKind.wrap IntKind.i64 ((↑x_2.6 : Int) - (16 : Int)))) (0 : Int))) = y.10 ∧ True) ∧ True) ∧ P4 x0 y)) ∧
  (¬(↑x_2.6 : Int) < (64 : Int) → (8 : Nat) ≤ (8 : Nat) ∧ ∀ (b_2 : Nat), (List.length (List.take (8 : Nat) x_1.9) = (8 : Nat) ∧ (0 : Nat) + List.length (List.take (8 : Nat) x_1.9) ≤ (8 : Nat)) ∧ ∃ (x0 : RhX), ((((0 : Int) = (↑x0.6 : Int) ∧ ((0 : Nat) = (0 : Nat) ∧ (0 : Nat) = (0 : Nat)) ∧ ((0 : Nat) = (0 : Nat) ∧ x.5 = x.5 ∧ x.4 = x.4) ∧ ((0 : Nat) = (0 : Nat) ∧ (0 : Nat) = (0 : Nat)) ∧ (64 : Int) * (↑x_1.6 : Int) = (64 : Int) * (↑x_1.6 : Int) ∧ ((0 : Nat) = (0 : Nat) ∧ (0 : Nat) = (0 : Nat)) ∧ ((0 : Nat) = (0 : Nat) ∧ (0 : Nat) = (0 : Nat)) ∧ True) ∧ L = L ∧ (x.1 = x.1 ∧
  (0 : Nat) = (0 : Nat) ∧ (32 : Nat) = (32 : Nat) ∧ List.replicate (32 : Nat) (0 : Int) = List.replicate (32 : Nat) (0 : Int) ∧ True) ∧ (x.2 = x.2 ∧ x.3 = x.3 ∧ x.4 = x.4 ∧ x.8 = x.8 ∧ True) ∧ (b = b ∧ (0 : Nat) = (0 : Nat) ∧ (8 : Nat) = (8 : Nat) ∧ x_1.9 = x_1.9 ∧ True) ∧ (b_1 = b_1 ∧ (0 : Nat) = (0 : Nat) ∧ (64 : Nat) = (64 : Nat) ∧ x_2.10 = x_2.10 ∧ True) ∧ (b_2 = b_2 ∧ (0 : Nat) = (0 : Nat) ∧ (8 : Nat) = (8 : Nat) ∧ List.take (0 : Nat) (List.replicate (8 : Nat) (0 : Int)) ++ List.take (8 : Nat) x_1.9 ++ List.drop ((0 : Nat) + List.length (List.take (8 : Nat) x_1.9))
  (List.replicate (8 : Nat) (0 : Int)) = x0.11 ∧ True) ∧ True) ∧ P6 x0 x0) ∧ ∀ (x_3 : RhX), P6 x0 x_3 → ((↑x_3.6 : Int) < (64 : Int) → ((0 : Int) ≤ (4 : Int) ∧ (4 : Int) < (↑(8 : Nat) : Int)) ∧ (4 : Nat) < (8 : Nat) ∧ ((0 : Int) ≤ (5 : Int) ∧ (5 : Int) < (↑(8 : Nat) : Int)) ∧ (5 : Nat) < (8 : Nat) ∧ ((0 : Int) ≤ (4 : Int) ∧ (4 : Int) < (↑(8 : Nat) : Int)) ∧ (4 : Nat) < (8 : Nat) ∧ ((0 : Int) ≤ (6 : Int) ∧ (6 : Int) < (↑(8 : Nat) : Int)) ∧ (6 : Nat) < (8 : Nat) ∧ ((0 : Int) ≤ (0 : Int) ∧ (0 : Int) < (↑(8 : Nat) : Int)) ∧ (0 : Nat) < (8 : Nat) ∧
  ((0 : Int) ≤ (1 : Int) ∧ (1 : Int) < (↑(8 : Nat) : Int)) ∧ (1 : Nat) < (8 : Nat) ∧ ((0 : Int) ≤ (0 : Int) ∧ (0 : Int) < (↑(8 : Nat) : Int)) ∧ (0 : Nat) < (8 : Nat) ∧ ((0 : Int) ≤ (2 : Int) ∧ (2 : Int) < (↑(8 : Nat) : Int)) ∧ (2 : Nat) < (8 : Nat) ∧ ((0 : Int) ≤ (1 : Int) ∧ (1 : Int) < (↑(8 : Nat) : Int)) ∧ (1 : Nat) < (8 : Nat) ∧ ((0 : Int) ≤ (2 : Int) ∧ (2 : Int) < (↑(8 : Nat) : Int)) ∧ (2 : Nat) < (8 : Nat) ∧ ∃ (x0_1 : RhX), (((0 : Int) ≤ (7 : Int) ∧ (7 : Int) < (↑(8 : Nat) : Int)) ∧ (7 : Nat) < (8 : Nat) ∧ ((0 : Int) ≤ (4 : Int) ∧ (4 : Int) < (↑(8 : Nat) : Int)) ∧ (4 : Nat) < (8 : Nat) ∧
  ((0 : Int) ≤ (4 : Int) ∧ (4 : Int) < (↑(8 : Nat) : Int)) ∧ (4 : Nat) < (8 : Nat) ∧ ((0 : Int) ≤ (4 : Int) ∧ (4 : Int) < (↑(8 : Nat) : Int)) ∧ (4 : Nat) < (8 : Nat) ∧ ((0 : Int) ≤ (↑x_3.6 : Int) ∧ (↑x_3.6 : Int) < (↑(64 : Nat) : Int)) ∧ (0 : Nat) + x_3.6 < (64 : Nat) ∧ ((1 : Int) ≤ (6 : Int) ∧ (6 : Int) ≤ (31 : Int)) ∧ ((0 : Nat) + x_3.6 < (64 : Nat) ∧ SV.val (Value.int IntKind.u32 (List.getD x_2.10 ((0 : Nat) + x_3.6) (0 : Int))) = SV.val (Value.int IntKind.u32 (List.getD x_2.10 ((0 : Nat) + x_3.6) (0 : Int)))) ∧ (((0 : Int) ≤ (↑x_3.6 : Int) ∧ (↑x_3.6 : Int) < (↑(64 : Nat) : Int)) ∧
  SV.ptr (4 : Nat) ((0 : Nat) + x_3.6) (0 : Nat) = SV.ptr (4 : Nat) ((0 : Nat) + x_3.6) (0 : Nat)) ∧ ((4 : Nat) < (8 : Nat) ∧ SV.val (Value.int IntKind.u32 (List.getD x_3.11 (4 : Nat) (0 : Int))) = SV.val (Value.int IntKind.u32 (List.getD x_3.11 (4 : Nat) (0 : Int)))) ∧ (((0 : Int) ≤ (4 : Int) ∧ (4 : Int) < (↑(8 : Nat) : Int)) ∧ SV.ptr (5 : Nat) (4 : Nat) (0 : Nat) = SV.ptr (5 : Nat) (4 : Nat) (0 : Nat)) ∧ ((4 : Nat) < (8 : Nat) ∧ SV.val (Value.int IntKind.u32 (List.getD x_3.11 (4 : Nat) (0 : Int))) = SV.val (Value.int IntKind.u32 (List.getD x_3.11 (4 : Nat) (0 : Int)))) ∧ (((0 : Int) ≤
  (4 : Int) ∧ (4 : Int) < (↑(8 : Nat) : Int)) ∧ SV.ptr (5 : Nat) (4 : Nat) (0 : Nat) = SV.ptr (5 : Nat) (4 : Nat) (0 : Nat)) ∧ ((7 : Nat) < (8 : Nat) ∧ SV.val (Value.int IntKind.u32 (List.getD x_3.11 (7 : Nat) (0 : Int))) = SV.val (Value.int IntKind.u32 (List.getD x_3.11 (7 : Nat) (0 : Int)))) ∧ (((0 : Int) ≤ (7 : Int) ∧ (7 : Int) < (↑(8 : Nat) : Int)) ∧ SV.ptr (5 : Nat) (7 : Nat) (0 : Nat) = SV.ptr (5 : Nat) (7 : Nat) (0 : Nat)) ∧ ((1 : Int) ≤ (11 : Int) ∧ (11 : Int) ≤ (31 : Int)) ∧ ((0 : Nat) + x_3.6 < (64 : Nat) ∧ SV.val (Value.int IntKind.u32 (List.getD x_2.10 ((0 : Nat) + x_3.6) (0 :
  Int))) = SV.val (Value.int IntKind.u32 (List.getD x_2.10 ((0 : Nat) + x_3.6) (0 : Int)))) ∧ (((0 : Int) ≤ (↑x_3.6 : Int) ∧ (↑x_3.6 : Int) < (↑(64 : Nat) : Int)) ∧ SV.ptr (4 : Nat) ((0 : Nat) + x_3.6) (0 : Nat) = SV.ptr (4 : Nat) ((0 : Nat) + x_3.6) (0 : Nat)) ∧ ((4 : Nat) < (8 : Nat) ∧ SV.val (Value.int IntKind.u32 (List.getD x_3.11 (4 : Nat) (0 : Int))) = SV.val (Value.int IntKind.u32 (List.getD x_3.11 (4 : Nat) (0 : Int)))) ∧ (((0 : Int) ≤ (4 : Int) ∧ (4 : Int) < (↑(8 : Nat) : Int)) ∧ SV.ptr (5 : Nat) (4 : Nat) (0 : Nat) = SV.ptr (5 : Nat) (4 : Nat) (0 : Nat)) ∧ ((7 : Nat) < (8 : Nat) ∧
  SV.val (Value.int IntKind.u32 (List.getD x_3.11 (7 : Nat) (0 : Int))) = SV.val (Value.int IntKind.u32 (List.getD x_3.11 (7 : Nat) (0 : Int)))) ∧ (((0 : Int) ≤ (7 : Int) ∧ (7 : Int) < (↑(8 : Nat) : Int)) ∧ SV.ptr (5 : Nat) (7 : Nat) (0 : Nat) = SV.ptr (5 : Nat) (7 : Nat) (0 : Nat)) ∧ ((1 : Int) ≤ (25 : Int) ∧ (25 : Int) ≤ (31 : Int)) ∧ SV.val (Value.int IntKind.u32 (ixor IntKind.u32 (rotr32 (List.getD x_3.11 (4 : Nat) (0 : Int)) (6 : Int)) (rotr32 (List.getD x_3.11 (4 : Nat) (0 : Int)) (11 : Int)))) = SV.val (Value.int IntKind.u32 (ixor IntKind.u32 (rotr32 (List.getD x_3.11 (4 : Nat) (0 :
  Int)) (6 : Int)) (rotr32 (List.getD x_3.11 (4 : Nat) (0 : Int)) (11 : Int)))) ∧ ((0 : Nat) + x_3.6 < (64 : Nat) ∧ SV.val (Value.int IntKind.u32 (List.getD x_2.10 ((0 : Nat) + x_3.6) (0 : Int))) = SV.val (Value.int IntKind.u32 (List.getD x_2.10 ((0 : Nat) + x_3.6) (0 : Int)))) ∧ (((0 : Int) ≤ (↑x_3.6 : Int) ∧ (↑x_3.6 : Int) < (↑(64 : Nat) : Int)) ∧ SV.ptr (4 : Nat) ((0 : Nat) + x_3.6) (0 : Nat) = SV.ptr (4 : Nat) ((0 : Nat) + x_3.6) (0 : Nat)) ∧ ((7 : Nat) < (8 : Nat) ∧ SV.val (Value.int IntKind.u32 (List.getD x_3.11 (7 : Nat) (0 : Int))) = SV.val (Value.int IntKind.u32 (List.getD x_3.11 (7 :
  Nat) (0 : Int)))) ∧ (((0 : Int) ≤ (7 : Int) ∧ (7 : Int) < (↑(8 : Nat) : Int)) ∧ SV.ptr (5 : Nat) (7 : Nat) (0 : Nat) = SV.ptr (5 : Nat) (7 : Nat) (0 : Nat)) ∧ ((0 : Int) ≤ (↑x_3.6 : Int) ∧ (↑x_3.6 : Int) < (64 : Int)) ∧ SV.val (Value.int IntKind.u32 (IntKind.wrap IntKind.u32 (IntKind.wrap IntKind.u32 (List.getD x_3.11 (7 : Nat) (0 : Int) + ixor IntKind.u32 (ixor IntKind.u32 (rotr32 (List.getD x_3.11 (4 : Nat) (0 : Int)) (6 : Int)) (rotr32 (List.getD x_3.11 (4 : Nat) (0 : Int)) (11 : Int))) (rotr32 (List.getD x_3.11 (4 : Nat) (0 : Int)) (25 : Int))) + ior IntKind.u32 (iand IntKind.u32
  (List.getD x_3.11 (4 : Nat) (0 : Int)) (List.getD x_3.11 (5 : Nat) (0 : Int))) (iand IntKind.u32 (IntKind.wrap IntKind.u32 ((4294967295 : Int) - List.getD x_3.11 (4 : Nat) (0 : Int))) (List.getD x_3.11 (6 : Nat) (0 : Int)))))) = SV.val (Value.int IntKind.u32 (IntKind.wrap IntKind.u32 (IntKind.wrap IntKind.u32 (List.getD x_3.11 (7 : Nat) (0 : Int) + ixor IntKind.u32 (ixor IntKind.u32 (rotr32 (List.getD x_3.11 (4 : Nat) (0 : Int)) (6 : Int)) (rotr32 (List.getD x_3.11 (4 : Nat) (0 : Int)) (11 : Int))) (rotr32 (List.getD x_3.11 (4 : Nat) (0 : Int)) (25 : Int))) + ior IntKind.u32 (iand
  IntKind.u32 (List.getD x_3.11 (4 : Nat) (0 : Int)) (List.getD x_3.11 (5 : Nat) (0 : Int))) (iand IntKind.u32 (IntKind.wrap IntKind.u32 ((4294967295 : Int) - List.getD x_3.11 (4 : Nat) (0 : Int))) (List.getD x_3.11 (6 : Nat) (0 : Int)))))) ∧ SV.val (Value.int IntKind.u32 (IntKind.wrap IntKind.u32 (List.getD x_3.11 (7 : Nat) (0 : Int) + ixor IntKind.u32 (ixor IntKind.u32 (rotr32 (List.getD x_3.11 (4 : Nat) (0 : Int)) (6 : Int)) (rotr32 (List.getD x_3.11 (4 : Nat) (0 : Int)) (11 : Int))) (rotr32 (List.getD x_3.11 (4 : Nat) (0 : Int)) (25 : Int))))) = SV.val (Value.int IntKind.u32 (IntKind.wrap
  IntKind.u32 (List.getD x_3.11 (7 : Nat) (0 : Int) + ixor IntKind.u32 (ixor IntKind.u32 (rotr32 (List.getD x_3.11 (4 : Nat) (0 : Int)) (6 : Int)) (rotr32 (List.getD x_3.11 (4 : Nat) (0 : Int)) (11 : Int))) (rotr32 (List.getD x_3.11 (4 : Nat) (0 : Int)) (25 : Int))))) ∧ SV.val (Value.int IntKind.u32 (ixor IntKind.u32 (ixor IntKind.u32 (rotr32 (List.getD x_3.11 (4 : Nat) (0 : Int)) (6 : Int)) (rotr32 (List.getD x_3.11 (4 : Nat) (0 : Int)) (11 : Int))) (rotr32 (List.getD x_3.11 (4 : Nat) (0 : Int)) (25 : Int)))) = SV.val (Value.int IntKind.u32 (ixor IntKind.u32 (ixor IntKind.u32 (rotr32
  (List.getD x_3.11 (4 : Nat) (0 : Int)) (6 : Int)) (rotr32 (List.getD x_3.11 (4 : Nat) (0 : Int)) (11 : Int))) (rotr32 (List.getD x_3.11 (4 : Nat) (0 : Int)) (25 : Int)))) ∧ SV.val (Value.int IntKind.u32 (ixor IntKind.u32 (rotr32 (List.getD x_3.11 (4 : Nat) (0 : Int)) (6 : Int)) (rotr32 (List.getD x_3.11 (4 : Nat) (0 : Int)) (11 : Int)))) = SV.val (Value.int IntKind.u32 (ixor IntKind.u32 (rotr32 (List.getD x_3.11 (4 : Nat) (0 : Int)) (6 : Int)) (rotr32 (List.getD x_3.11 (4 : Nat) (0 : Int)) (11 : Int)))) ∧ ((0 : Nat) + x_3.6 < (64 : Nat) ∧ SV.val (Value.int IntKind.u32 (List.getD x_2.10 ((0 :
  Nat) + x_3.6) (0 : Int))) = SV.val (Value.int IntKind.u32 (List.getD x_2.10 ((0 : Nat) + x_3.6) (0 : Int)))) ∧ (((0 : Int) ≤ (↑x_3.6 : Int) ∧ (↑x_3.6 : Int) < (↑(64 : Nat) : Int)) ∧ SV.ptr (4 : Nat) ((0 : Nat) + x_3.6) (0 : Nat) = SV.ptr (4 : Nat) ((0 : Nat) + x_3.6) (0 : Nat)) ∧ ((7 : Nat) < (8 : Nat) ∧ SV.val (Value.int IntKind.u32 (List.getD x_3.11 (7 : Nat) (0 : Int))) = SV.val (Value.int IntKind.u32 (List.getD x_3.11 (7 : Nat) (0 : Int)))) ∧ (((0 : Int) ≤ (7 : Int) ∧ (7 : Int) < (↑(8 : Nat) : Int)) ∧ SV.ptr (5 : Nat) (7 : Nat) (0 : Nat) = SV.ptr (5 : Nat) (7 : Nat) (0 : Nat)) ∧ ∃ (y :
  RhX), ((IntKind.wrap IntKind.u32 (IntKind.wrap IntKind.u32 (IntKind.wrap IntKind.u32 (IntKind.wrap IntKind.u32 (List.getD x_3.11 (7 : Nat) (0 : Int) + ixor IntKind.u32 (ixor IntKind.u32 (rotr32 (List.getD x_3.11 (4 : Nat) (0 : Int)) (6 : Int)) (rotr32 (List.getD x_3.11 (4 : Nat) (0 : Int)) (11 : Int))) (rotr32 (List.getD x_3.11 (4 : Nat) (0 : Int)) (25 : Int))) + ior IntKind.u32 (iand IntKind.u32 (List.getD x_3.11 (4 : Nat) (0 : Int)) (List.getD x_3.11 (5 : Nat) (0 : Int))) (iand IntKind.u32 (IntKind.wrap IntKind.u32 ((4294967295 : Int) - List.getD x_3.11 (4 : Nat) (0 : Int))) (List.getD
  x_3.11 (6 : Nat) (0 : Int)))) + List.getD kTab x_3.6 (0 : Int)) + List.getD x_2.10 ((0 : Nat) + x_3.6) (0 : Int)) = y.7 ∧ ((0 : Nat) = (0 : Nat) ∧ (0 : Nat) = (0 : Nat)) ∧ ((0 : Nat) = (0 : Nat) ∧ x.5 = x.5 ∧ x.4 = x.4) ∧ ((0 : Nat) = (0 : Nat) ∧ (0 : Nat) = (0 : Nat)) ∧ (64 : Int) * (↑x_1.6 : Int) = (64 : Int) * (↑x_1.6 : Int) ∧ ((0 : Nat) = (0 : Nat) ∧ (0 : Nat) = (0 : Nat)) ∧ ((0 : Nat) = (0 : Nat) ∧ (0 : Nat) = (0 : Nat)) ∧ (↑x_3.6 : Int) = (↑x_3.6 : Int) ∧ ior IntKind.u32 (ior IntKind.u32 (iand IntKind.u32 (List.getD x_3.11 (0 : Nat) (0 : Int)) (List.getD x_3.11 (1 : Nat) (0 : Int)))
  (iand IntKind.u32 (List.getD x_3.11 (0 : Nat) (0 : Int)) (List.getD x_3.11 (2 : Nat) (0 : Int)))) (iand IntKind.u32 (List.getD x_3.11 (1 : Nat) (0 : Int)) (List.getD x_3.11 (2 : Nat) (0 : Int))) = ior IntKind.u32 (ior IntKind.u32 (iand IntKind.u32 (List.getD x_3.11 (0 : Nat) (0 : Int)) (List.getD x_3.11 (1 : Nat) (0 : Int))) (iand IntKind.u32 (List.getD x_3.11 (0 : Nat) (0 : Int)) (List.getD x_3.11 (2 : Nat) (0 : Int)))) (iand IntKind.u32 (List.getD x_3.11 (1 : Nat) (0 : Int)) (List.getD x_3.11 (2 : Nat) (0 : Int))) ∧ True) ∧ L = L ∧ (x.1 = x.1 ∧ (0 : Nat) = (0 : Nat) ∧ (32 : Nat) = (32 :
  Nat) ∧ List.replicate (32 : Nat) (0 : Int) = List.replicate (32 : Nat) (0 : Int) ∧ True) ∧ (x.2 = x.2 ∧ x.3 = x.3 ∧ x.4 = x.4 ∧ x.8 = x.8 ∧ True) ∧ (b = b ∧ (0 : Nat) = (0 : Nat) ∧ (8 : Nat) = (8 : Nat) ∧ x_1.9 = x_1.9 ∧ True) ∧ (b_1 = b_1 ∧ (0 : Nat) = (0 : Nat) ∧ (64 : Nat) = (64 : Nat) ∧ x_2.10 = x_2.10 ∧ True) ∧ (b_2 = b_2 ∧ (0 : Nat) = (0 : Nat) ∧ (8 : Nat) = (8 : Nat) ∧ x_3.11 = x_3.11 ∧ True) ∧ True) ∧ y.7 = x0_1.7) ∧ ∀ (x_4 : RhX), x_4.7 = x0_1.7 → ∃ (x0_2 : RhX), (((0 : Int) ≤ (0 : Int) ∧ (0 : Int) < (↑(8 : Nat) : Int)) ∧ (0 : Nat) < (8 : Nat) ∧ ((0 : Int) ≤ (0 : Int) ∧
  (0 : Int) < (↑(8 : Nat) : Int)) ∧ (0 : Nat) < (8 : Nat) ∧ ((0 : Int) ≤ (0 : Int) ∧ (0 : Int) < (↑(8 : Nat) : Int)) ∧ (0 : Nat) < (8 : Nat) ∧ ((1 : Int) ≤ (2 : Int) ∧ (2 : Int) ≤ (31 : Int)) ∧ ((0 : Nat) < (8 : Nat) ∧ SV.val (Value.int IntKind.u32 (List.getD x_3.11 (0 : Nat) (0 : Int))) = SV.val (Value.int IntKind.u32 (List.getD x_3.11 (0 : Nat) (0 : Int)))) ∧ (((0 : Int) ≤ (0 : Int) ∧ (0 : Int) < (↑(8 : Nat) : Int)) ∧ SV.ptr (5 : Nat) (0 : Nat) (0 : Nat) = SV.ptr (5 : Nat) (0 : Nat) (0 : Nat)) ∧ ((0 : Nat) < (8 : Nat) ∧ SV.val (Value.int IntKind.u32 (List.getD x_3.11 (0 : Nat) (0 : Int))) =
  SV.val (Value.int IntKind.u32 (List.getD x_3.11 (0 : Nat) (0 : Int)))) ∧ (((0 : Int) ≤ (0 : Int) ∧ (0 : Int) < (↑(8 : Nat) : Int)) ∧ SV.ptr (5 : Nat) (0 : Nat) (0 : Nat) = SV.ptr (5 : Nat) (0 : Nat) (0 : Nat)) ∧ ((1 : Int) ≤ (13 : Int) ∧ (13 : Int) ≤ (31 : Int)) ∧ ((0 : Nat) < (8 : Nat) ∧ SV.val (Value.int IntKind.u32 (List.getD x_3.11 (0 : Nat) (0 : Int))) = SV.val (Value.int IntKind.u32 (List.getD x_3.11 (0 : Nat) (0 : Int)))) ∧ (((0 : Int) ≤ (0 : Int) ∧ (0 : Int) < (↑(8 : Nat) : Int)) ∧ SV.ptr (5 : Nat) (0 : Nat) (0 : Nat) = SV.ptr (5 : Nat) (0 : Nat) (0 : Nat)) ∧ ((1 : Int) ≤ (22 :
  Int) ∧ (22 : Int) ≤ (31 : Int)) ∧ SV.val (Value.int IntKind.u32 (ixor IntKind.u32 (rotr32 (List.getD x_3.11 (0 : Nat) (0 : Int)) (2 : Int)) (rotr32 (List.getD x_3.11 (0 : Nat) (0 : Int)) (13 : Int)))) = SV.val (Value.int IntKind.u32 (ixor IntKind.u32 (rotr32 (List.getD x_3.11 (0 : Nat) (0 : Int)) (2 : Int)) (rotr32 (List.getD x_3.11 (0 : Nat) (0 : Int)) (13 : Int)))) ∧ ∃ (y : RhX), ((IntKind.wrap IntKind.u32 (ixor IntKind.u32 (ixor IntKind.u32 (rotr32 (List.getD x_3.11 (0 : Nat) (0 : Int)) (2 : Int)) (rotr32 (List.getD x_3.11 (0 : Nat) (0 : Int)) (13 : Int))) (rotr32 (List.getD x_3.11 (0 :
  Nat) (0 : Int)) (22 : Int)) + ior IntKind.u32 (ior IntKind.u32 (iand IntKind.u32 (List.getD x_3.11 (0 : Nat) (0 : Int)) (List.getD x_3.11 (1 : Nat) (0 : Int))) (iand IntKind.u32 (List.getD x_3.11 (0 : Nat) (0 : Int)) (List.getD x_3.11 (2 : Nat) (0 : Int)))) (iand IntKind.u32 (List.getD x_3.11 (1 : Nat) (0 : Int)) (List.getD x_3.11 (2 : Nat) (0 : Int)))) = y.7 ∧ ((0 : Nat) = (0 : Nat) ∧ (0 : Nat) = (0 : Nat)) ∧ ((0 : Nat) = (0 : Nat) ∧ x.5 = x.5 ∧ x.4 = x.4) ∧ ((0 : Nat) = (0 : Nat) ∧ (0 : Nat) = (0 : Nat)) ∧ (64 : Int) * (↑x_1.6 : Int) = (64 : Int) * (↑x_1.6 : Int) ∧ ((0 : Nat) = (0 : Nat) ∧
  (0 : Nat) = (0 : Nat)) ∧ ((0 : Nat) = (0 : Nat) ∧ (0 : Nat) = (0 : Nat)) ∧ (↑x_3.6 : Int) = (↑x_3.6 : Int) ∧ x_4.7 = x_4.7 ∧ True) ∧ L = L ∧ (x.1 = x.1 ∧ (0 : Nat) = (0 : Nat) ∧ (32 : Nat) = (32 : Nat) ∧ List.replicate (32 : Nat) (0 : Int) = List.replicate (32 : Nat) (0 : Int) ∧ True) ∧ (x.2 = x.2 ∧ x.3 = x.3 ∧ x.4 = x.4 ∧ x.8 = x.8 ∧ True) ∧ (b = b ∧ (0 : Nat) = (0 : Nat) ∧ (8 : Nat) = (8 : Nat) ∧ x_1.9 = x_1.9 ∧ True) ∧ (b_1 = b_1 ∧ (0 : Nat) = (0 : Nat) ∧ (64 : Nat) = (64 : Nat) ∧ x_2.10 = x_2.10 ∧ True) ∧ (b_2 = b_2 ∧ (0 : Nat) = (0 : Nat) ∧ (8 : Nat) = (8 : Nat) ∧ x_3.11 = x_3.11 ∧
  True) ∧ True) ∧ y.7 = x0_2.7) ∧ ∀ (x_5 : RhX), x_5.7 = x0_2.7 → ((0 : Int) ≤ (0 : Int) ∧ (0 : Int) < (↑(8 : Nat) : Int)) ∧ (0 : Nat) < (8 : Nat) ∧ ((0 : Int) ≤ (1 : Int) ∧ (1 : Int) < (↑(8 : Nat) : Int)) ∧ (1 : Nat) < (8 : Nat) ∧ ((0 : Int) ≤ (2 : Int) ∧ (2 : Int) < (↑(8 : Nat) : Int)) ∧ (2 : Nat) < (8 : Nat) ∧ ((0 : Int) ≤ (3 : Int) ∧ (3 : Int) < (↑(8 : Nat) : Int)) ∧ (3 : Nat) < (8 : Nat) ∧ ((0 : Int) ≤ (4 : Int) ∧ (4 : Int) < (↑(8 : Nat) : Int)) ∧ (4 : Nat) < (8 : Nat) ∧ ((0 : Int) ≤ (5 : Int) ∧ (5 : Int) < (↑(8 : Nat) : Int)) ∧ (5 : Nat) < (8 : Nat) ∧ ((0 : Int) ≤ (6 : Int) ∧ (6 : Int) <
  (↑(8 : Nat) : Int)) ∧ (6 : Nat) < (8 : Nat) ∧ ((8 : Nat) = (8 : Nat) ∧ (8 : Nat) ≤ (8 : Nat)) ∧ ∃ (y : RhX), (64 : Nat) - y.6 < (64 : Nat) - x_3.6 ∧ ((IntKind.wrap IntKind.i64 ((↑x_3.6 : Int) + (1 : Int)) = (↑y.6 : Int) ∧ ((0 : Nat) = (0 : Nat) ∧ (0 : Nat) = (0 : Nat)) ∧ ((0 : Nat) = (0 : Nat) ∧ x.5 = x.5 ∧ x.4 = x.4) ∧ ((0 : Nat) = (0 : Nat) ∧ (0 : Nat) = (0 : Nat)) ∧ (64 : Int) * (↑x_1.6 : Int) = (64 : Int) * (↑x_1.6 : Int) ∧ ((0 : Nat) = (0 : Nat) ∧ (0 : Nat) = (0 : Nat)) ∧ ((0 : Nat) = (0 : Nat) ∧ (0 : Nat) = (0 : Nat)) ∧ True) ∧ L = L ∧ (x.1 = x.1 ∧ (0 : Nat) = (0 : Nat) ∧ (32 : Nat) =
  (32 : Nat) ∧ List.replicate (32 : Nat) (0 : Int) = List.replicate (32 : Nat) (0 : Int) ∧ True) ∧ (x.2 = x.2 ∧ x.3 = x.3 ∧ x.4 = x.4 ∧ x.8 = x.8 ∧ True) ∧ (b = b ∧ (0 : Nat) = (0 : Nat) ∧ (8 : Nat) = (8 : Nat) ∧ x_1.9 = x_1.9 ∧ True) ∧ (b_1 = b_1 ∧ (0 : Nat) = (0 : Nat) ∧ (64 : Nat) = (64 : Nat) ∧ x_2.10 = x_2.10 ∧ True) ∧ (b_2 = b_2 ∧ (0 : Nat) = (0 : Nat) ∧ (8 : Nat) = (8 : Nat) ∧ List.take (0 : Nat) x_3.11 ++ [IntKind.wrap IntKind.u32 (x_4.7 + x_5.7), List.getD x_3.11 (0 : Nat) (0 : Int), List.getD x_3.11 (1 : Nat) (0 : Int), List.getD x_3.11 (2 : Nat) (0 : Int), IntKind.wrap IntKind.u32
  (List.getD x_3.11 (3 : Nat) (0 : Int) + x_4.7), List.getD x_3.11 (4 : Nat) (0 : Int), List.getD x_3.11 (5 : Nat) (0 : Int), List.getD x_3.11 (6 : Nat) (0 : Int)] ++ List.drop (8 : Nat) x_3.11 = y.11 ∧ True) ∧ True) ∧ P6 x0 y) ∧ (¬(↑x_3.6 : Int) < (64 : Int) → ∃ (x0 : RhX), ((((0 : Int) = (↑x0.6 : Int) ∧ ((0 : Nat) = (0 : Nat) ∧ (0 : Nat) = (0 : Nat)) ∧ ((0 : Nat) = (0 : Nat) ∧ x.5 = x.5 ∧ x.4 = x.4) ∧ ((0 : Nat) = (0 : Nat) ∧ (0 : Nat) = (0 : Nat)) ∧ (64 : Int) * (↑x_1.6 : Int) = (64 : Int) * (↑x_1.6 : Int) ∧ ((0 : Nat) = (0 : Nat) ∧ (0 : Nat) = (0 : Nat)) ∧ True) ∧ L = L ∧ (x.1 = x.1 ∧
  (0 : Nat) = (0 : Nat) ∧ (32 : Nat) = (32 : Nat) ∧ List.replicate (32 : Nat) (0 : Int) = List.replicate (32 : Nat) (0 : Int) ∧ True) ∧ (x.2 = x.2 ∧ x.3 = x.3 ∧ x.4 = x.4 ∧ x.8 = x.8 ∧ True) ∧ (b = b ∧ (0 : Nat) = (0 : Nat) ∧ (8 : Nat) = (8 : Nat) ∧ x_1.9 = x0.9 ∧ True) ∧ (b_1 = b_1 ∧ (0 : Nat) = (0 : Nat) ∧ (64 : Nat) = (64 : Nat) ∧ x_2.10 = x_2.10 ∧ True) ∧ (b_2 = b_2 ∧ (0 : Nat) = (0 : Nat) ∧ (8 : Nat) = (8 : Nat) ∧ x_3.11 = x_3.11 ∧ True) ∧ True) ∧ P7 x0 x0) ∧ ∀ (x_4 : RhX), P7 x0 x_4 → ((↑x_4.6 : Int) < (8 : Int) → ((0 : Int) ≤ (↑x_4.6 : Int) ∧ (↑x_4.6 : Int) < (↑(8 : Nat) : Int)) ∧
  (0 : Nat) + x_4.6 < (8 : Nat) ∧ ((0 : Int) ≤ (↑x_4.6 : Int) ∧ (↑x_4.6 : Int) < (↑(8 : Nat) : Int)) ∧ (0 : Nat) + x_4.6 < (8 : Nat) ∧ ((0 : Int) ≤ (↑x_4.6 : Int) ∧ (↑x_4.6 : Int) < (↑(8 : Nat) : Int)) ∧ (0 : Nat) + x_4.6 < (8 : Nat) ∧ ∃ (y : RhX), (8 : Nat) - y.6 < (8 : Nat) - x_4.6 ∧ ((IntKind.wrap IntKind.i64 ((↑x_4.6 : Int) + (1 : Int)) = (↑y.6 : Int) ∧ ((0 : Nat) = (0 : Nat) ∧ (0 : Nat) = (0 : Nat)) ∧ ((0 : Nat) = (0 : Nat) ∧ x.5 = x.5 ∧ x.4 = x.4) ∧ ((0 : Nat) = (0 : Nat) ∧ (0 : Nat) = (0 : Nat)) ∧ (64 : Int) * (↑x_1.6 : Int) = (64 : Int) * (↑x_1.6 : Int) ∧
  ((0 : Nat) = (0 : Nat) ∧ (0 : Nat) = (0 : Nat)) ∧ True) ∧ L = L ∧ (x.1 = x.1 ∧ (0 : Nat) = (0 : Nat) ∧ (32 : Nat) = (32 : Nat) ∧ List.replicate (32 : Nat) (0 : Int) = List.replicate (32 : Nat) (0 : Int) ∧ True) ∧ (x.2 = x.2 ∧ x.3 = x.3 ∧ x.4 = x.4 ∧ x.8 = x.8 ∧ True) ∧ (b = b ∧ (0 : Nat) = (0 : Nat) ∧ (8 : Nat) = (8 : Nat) ∧ List.set x_4.9 ((0 : Nat) + x_4.6) (IntKind.wrap IntKind.u32 (List.getD x_4.9 ((0 : Nat) + x_4.6) (0 : Int) + List.getD x_3.11 ((0 : Nat) + x_4.6) (0 : Int))) = y.9 ∧ True) ∧ (b_1 = b_1 ∧ (0 : Nat) = (0 : Nat) ∧ (64 : Nat) = (64 : Nat) ∧ x_2.10 = x_2.10 ∧ True) ∧
  (b_2 = b_2 ∧ (0 : Nat) = (0 : Nat) ∧ (8 : Nat) = (8 : Nat) ∧ x_3.11 = x_3.11 ∧ True) ∧ True) ∧ P7 x0 y) ∧ (¬(↑x_4.6 : Int) < (8 : Int) → ∃ (y : RhX), m - y.6 < m - x_1.6 ∧ ((IntKind.wrap IntKind.i64 ((64 : Int) * (↑x_1.6 : Int) + (64 : Int)) = (64 : Int) * (↑y.6 : Int) ∧ ((0 : Nat) = (0 : Nat) ∧ (0 : Nat) = (0 : Nat)) ∧ ((0 : Nat) = (0 : Nat) ∧ x.5 = x.5 ∧ x.4 = x.4) ∧ ((0 : Nat) = (0 : Nat) ∧ (0 : Nat) = (0 : Nat)) ∧ True) ∧ L = L ∧ (x.1 = x.1 ∧ (0 : Nat) = (0 : Nat) ∧ (32 : Nat) = (32 : Nat) ∧ List.replicate (32 : Nat) (0 : Int) = List.replicate (32 : Nat) (0 : Int) ∧ True) ∧
  (x.2 = x.2 ∧ x.3 = x.3 ∧ x.4 = x.4 ∧ x.8 = x.8 ∧ True) ∧ (b = b ∧ (0 : Nat) = (0 : Nat) ∧ (8 : Nat) = (8 : Nat) ∧ x_4.9 = y.9 ∧ True) ∧ True) ∧ P3 y)))) ∧ (¬(64 : Int) * (↑x_1.6 : Int) < (↑x.5 : Int) → ∀ (b_1 : Nat), ∃ (x0 : RhX), ((((0 : Int) = (↑x0.6 : Int) ∧ ((0 : Nat) = (0 : Nat) ∧ (0 : Nat) = (0 : Nat)) ∧ ((0 : Nat) = (0 : Nat) ∧ (0 : Nat) = (0 : Nat)) ∧ ((0 : Nat) = (0 : Nat) ∧ (0 : Nat) = (0 : Nat)) ∧ True) ∧ L = L ∧ (x.1 = x.1 ∧ (0 : Nat) = (0 : Nat) ∧ (32 : Nat) = (32 : Nat) ∧ List.replicate (32 : Nat) (0 : Int) = List.replicate (32 : Nat) (0 : Int) ∧ True) ∧
  (x.2 = x.2 ∧ x.3 = x.3 ∧ x.4 = x.4 ∧ x.8 = x.8 ∧ True) ∧ (b = b ∧ (0 : Nat) = (0 : Nat) ∧ (8 : Nat) = (8 : Nat) ∧ x_1.9 = x_1.9 ∧ True) ∧ (b_1 = b_1 ∧ (0 : Nat) = (0 : Nat) ∧ (32 : Nat) = (32 : Nat) ∧ List.replicate (32 : Nat) (0 : Int) = x0.8 ∧ True) ∧ True) ∧ P8 x0) ∧ ∀ (x_2 : RhX), P8 x_2 → ((↑x_2.6 : Int) < (32 : Int) → (4 : Int) ≠ (0 : Int) ∧ ((0 : Int) ≤ IntKind.wrap IntKind.i64 (Int.tdiv (↑x_2.6 : Int) (4 : Int)) ∧ IntKind.wrap IntKind.i64 (Int.tdiv (↑x_2.6 : Int) (4 : Int)) < (↑(8 : Nat) : Int)) ∧
  (0 : Nat) + Int.toNat (IntKind.wrap IntKind.i64 (Int.tdiv (↑x_2.6 : Int) (4 : Int))) < (8 : Nat) ∧ (4 : Int) ≠ (0 : Int) ∧ (0 : Int) ≤ IntKind.wrap IntKind.u64 (IntKind.wrap IntKind.i64 ((24 : Int) - IntKind.wrap IntKind.i64 ((8 : Int) * Int.tmod (↑x_2.6 : Int) (4 : Int)))) ∧ ((0 : Int) ≤ (↑x_2.6 : Int) ∧ (↑x_2.6 : Int) < (↑(32 : Nat) : Int)) ∧ (0 : Nat) + x_2.6 < (32 : Nat) ∧ ∃ (y : RhX), (32 : Nat) - y.6 < (32 : Nat) - x_2.6 ∧ ((IntKind.wrap IntKind.i64 ((↑x_2.6 : Int) + (1 : Int)) = (↑y.6 : Int) ∧ ((0 : Nat) = (0 : Nat) ∧ (0 : Nat) = (0 : Nat)) ∧
  ((0 : Nat) = (0 : Nat) ∧ (0 : Nat) = (0 : Nat)) ∧ ((0 : Nat) = (0 : Nat) ∧ (0 : Nat) = (0 : Nat)) ∧ True) ∧ L = L ∧ (x.1 = x.1 ∧ (0 : Nat) = (0 : Nat) ∧ (32 : Nat) = (32 : Nat) ∧ List.replicate (32 : Nat) (0 : Int) = List.replicate (32 : Nat) (0 : Int) ∧ True) ∧ (x.2 = x.2 ∧ x.3 = x.3 ∧ x.4 = x.4 ∧ x.8 = x.8 ∧ True) ∧ (b = b ∧ (0 : Nat) = (0 : Nat) ∧ (8 : Nat) = (8 : Nat) ∧ x_1.9 = x_1.9 ∧ True) ∧ (b_1 = b_1 ∧ (0 : Nat) = (0 : Nat) ∧ (32 : Nat) = (32 : Nat) ∧ List.set x_2.8 ((0 : Nat) + x_2.6) (IntKind.wrap IntKind.u8 (Int.fdiv (List.getD x_1.9 ((0 : Nat) + Int.toNat
  (IntKind.wrap IntKind.i64 (Int.tdiv (↑x_2.6 : Int) (4 : Int)))) (0 : Int)) ((2 : Int) ^ Min.min (Int.toNat (IntKind.wrap IntKind.u64 (IntKind.wrap IntKind.i64 ((24 : Int) - IntKind.wrap IntKind.i64 ((8 : Int) * Int.tmod (↑x_2.6 : Int) (4 : Int)))))) (32 : Nat)))) = y.8 ∧ True) ∧ True) ∧ P8 y) ∧ (¬(↑x_2.6 : Int) < (32 : Int) → (32 : Nat) ≤ (32 : Nat) ∧ (List.length (List.take (32 : Nat) x_2.8) = (32 : Nat) ∧ (0 : Nat) + List.length (List.take (32 : Nat) x_2.8) ≤ (32 : Nat)) ∧ (32 : Nat) ≤ (32 : Nat) ∧ R (Value.agg (List.toArray (List.map (Value.int IntKind.u8) (List.take (32 : Nat)
  (List.take (0 : Nat) (List.replicate (32 : Nat) (0 : Int)) ++ List.take (32 : Nat) x_2.8 ++ List.drop ((0 : Nat) + List.length (List.take (32 : Nat) x_2.8)) (List.replicate (32 : Nat) (0 : Int))))))) ∧ L = L)))) from by
  subst e0 e1 e2 e3 e4 e5 e6 e7 e8
  simp only [eq_self, true_and, and_true, false_and, and_false, or_false, false_or, and_self, Nat.zero_add, Nat.add_zero, Nat.sub_zero, Nat.zero_mul, Nat.mul_one, Int.toNat_natCast, cond_true, cond_false, forall_const, implies_true, Nat.beq_refl, ne_eq, not_false_eq_true, not_true_eq_false, Classical.not_not, List.cons.injEq, List.append_nil, List.nil_append, Go.Value.int.injEq, Go.Value.bool.injEq, Go.Value.slice.injEq, Nat.le_refl, Nat.zero_le, Go.Sx.one_int, Go.Sx.one_bool, Go.Sx.one_slice, Go.Sx.one_ptr, Go.Sx.one_map, Int.cast_ofNat_Int, reduceCtorEq, Nat.reduceLeDiff, Nat.reduceMul, Nat.reduceAdd, Nat.reduceSub, Nat.reduceEqDiff, Int.reduceLE, Int.reduceLT, Int.reduceEq, Int.reduceAdd, Int.reduceSub, Int.reduceNeg, Int.reduceMul, Nat.reduceBEq]
  have hl2 := hb.1
  have hpre := preF_len bs
  have hpz : pzF bs.length < 64 := by unfold pzF; omega
  intro b
  refine ⟨⟨0, 0, 0, 0, 0, 0, 0, [], [], [], []⟩, fun b1 => ⟨fun h0 => ⟨⟨b, b1, 0, 0, 0, 0, 0, [], [], [], []⟩, ⟨⟨h0.symm, rfl⟩, rfl, rfl, rfl, rfl, rfl⟩, ?_⟩, fun h0 => ?_⟩, fun y0 q0 => ?_⟩
  · obtain rfl : bs = [] := List.eq_nil_of_length_eq_zero (by omega)
    exact ⟨rfl, Nat.le_refl _, rfl⟩
  · obtain ⟨b2, x2, rfl, -⟩ := hb.2 h0
    refine ⟨b2, x2, rfl, bs, hb.raw h0, by omega, fun b3 base cap hc hc2 sp hs => ⟨⟨b, b3, base, cap, 0, 0, 0, _, [], [], []⟩, ⟨rfl, rfl, rfl, rfl, rfl, rfl⟩, ?_⟩⟩
    refine ⟨by simp; omega, by show bs.length ≤ cap; omega, ?_⟩
    show List.take bs.length (List.take 0 [] ++ bs ++ sp) = bs
    rw [List.take_zero, List.nil_append, List.take_left]
  · obtain ⟨q1, q2, q3⟩ := q0
    rw [hl2] at q2 q3
    refine ⟨q2, q2, by omega, fun b3 base cap hc hc2 sp hs => ⟨⟨y0.ob, b3, base, cap, l + 1, 0, 0, _, [], [], []⟩, ⟨⟨⟨rfl, rfl⟩, rfl, rfl, rfl, rfl, rfl⟩, ?_⟩, fun x1 r1 => ⟨fun hne => ?_, fun heq => ?_⟩⟩⟩
    · have hA : (List.take l y0.xs ++ [(128 : Int)]).length = l + 1 := by rw [List.length_append, List.length_take]; simp; omega
      refine ⟨by show (_ ++ _ : List Int).length = cap; rw [List.length_append, hA, hs]; omega, hc, by show bs.length + 1 ≤ l + 1; omega, by show l + 1 ≤ _; omega, ?_⟩
      show List.take (l + 1) (List.take l y0.xs ++ [128] ++ sp) = bs ++ [128] ++ List.replicate (l + 1 - (bs.length + 1)) 0
      rw [List.take_left' hA, q3, hl2, Nat.sub_self]
      simp
    · have hm56 : ¬ x1.len % 64 = 56 := fun h => hne ((rh_tmod _).2 h)
      have r1' := r1
      obtain ⟨s1, s2, s3, s4, s5⟩ := r1'
      refine ⟨s2, s2, by omega, fun b4 base4 cap4 hc4 hc4' sp4 hs4 => ?_⟩
      obtain ⟨k1, k2⟩ := rh1_step r1 hm56 hc4 hs4 b4 base4
      exact ⟨⟨x1.ob, b4, base4, cap4, x1.len + 1, x1.i, x1.z, _, x1.hs, x1.ws, x1.vs⟩, k2, ⟨⟨rfl, rfl⟩, rfl, rfl, rfl, rfl, rfl⟩, k1⟩
    · have hm56 := (rh_tmod _).1 heq
      have r1' := r1
      obtain ⟨s1, s2, s3, s4, s5⟩ := r1'
      obtain ⟨k1, k2⟩ := rh1_end r1 hm56
      refine ⟨⟨x1.ob, x1.b, x1.base, x1.cap, x1.len, 0, 0, x1.xs, [], [], []⟩, ⟨⟨⟨by simp, rfl, rfl⟩, rfl, rfl, rfl, rfl, rfl⟩, ⟨Nat.zero_le _, k1, by simp only []; rw [k2]; simp [lenB], s2, s1⟩⟩, fun x2 r2 => ⟨fun hi => ?_, fun hi => ?_⟩⟩
      · have hi8 : x2.i < 8 := by omega
        have r2' := r2
        obtain ⟨t1, t2, t3, t4, t5⟩ := r2'
        have hw8 := rh_w8 (n := l) (i := x2.i) hl hi8
        have hw7 : IntKind.wrap .i64 (7 - (x2.i : Int) - 1) = 7 - ((x2.i + 1 : Nat) : Int) := by rw [IntKind.wrap_i64]; omega
        have e64 : IntKind.bits .u64 = 64 := rfl
        refine ⟨by rw [wrap_u64a]; omega, t4, t4, by omega, fun b4 base4 cap4 hc4 hc4' sp4 hs4 => ?_⟩
        have k1 := rh2_step r2 hi8 hc4 hs4 b4 base4
        rw [hl2, ← hw8] at k1
        exact ⟨⟨x2.ob, b4, base4, cap4, x2.len + 1, x2.i + 1, x2.z, _, x2.hs, x2.ws, x2.vs⟩, by show 8 - (x2.i + 1) < 8 - x2.i; omega, ⟨⟨hw7, rfl, rfl⟩, rfl, rfl, rfl, rfl, rfl⟩, k1⟩
      · have hi8 : x2.i = 8 := by have := r2.1; omega
        obtain ⟨t1, t2, t3, t4, t5⟩ := r2
        rw [hi8] at t2 t3
        have hpl : (padF bs).length = x2.len := by rw [padF_len, t2, preF_len]
        have hm : 64 * m = x2.len := by rw [em, padF_64, hpl]
        have t3' : x2.xs.take x2.len = padF bs := by rw [t3]; rfl
        have hmx : m < 100000 := by omega
        have hlx : x2.len < 2000000 := by omega
        refine ⟨⟨0, 0, 0, 0, 0, 0, 0, [], hash0, [], []⟩, ⟨⟨rfl, rfl⟩, Nat.zero_le _, (hashS_zero _).symm⟩, fun x3 r3 => ⟨fun hi => ?_, fun hi => ?_⟩⟩
        · have him : x3.i < m := by omega
          obtain ⟨B, eB⟩ : ∃ B, B = List.take 64 (List.drop (64 * x3.i) (padF bs)) := ⟨_, rfl⟩
          have hov : Octets B := by rw [eB]; exact octets_win (octets_pad hoc) (64 * x3.i) 64
          have hh8 : x3.hs.length = 8 := by rw [r3.2]; exact hashS_len (padF bs) x3.i
          refine ⟨⟨0, 0, 0, 0, 0, 0, 0, B, [], List.replicate 64 0, []⟩, ⟨⟨rfl, rfl⟩, Nat.zero_le _, rh4_start _⟩, fun x4 r4 => ⟨fun hi => ?_, fun hi => ?_⟩⟩
          · have hi4 : x4.i < 64 := by omega
            have w4 : x4.ws = wPre B x4.i ++ List.replicate (64 - x4.i) 0 := r4.2
            have hwl : x4.ws.length = 64 := by rw [w4, List.length_append, wPre_len, List.length_replicate]; omega
            have hnx := ix_w (i := x4.i) (by omega)
            refine ⟨fun h16 => ?_, fun h16 => ?_⟩
            · have h16' : x4.i < 16 := by omega
              refine ⟨⟨0, 0, 0, 0, x4.i, 0, 0, B, [], x4.ws, []⟩, ⟨⟨rfl, rfl⟩, Nat.zero_le _, by show x4.ws = x4.ws.set x4.i (partW B x4.i 0); rw [w4]; exact rh5_start (wPre_len _ _) hi4 B⟩, fun x5 r5 => ⟨fun hj => ?_, fun hj => ?_⟩⟩
              · have hj4 : x5.i < 4 := by omega
                have hix := rh_ix (i := x3.i) (t := x4.i) (j := x5.i) (n := x2.len) (by omega) hlx h16' hj4
                simp only [hix, Int.toNat_natCast]
                refine ⟨⟨by omega, hi⟩, hi4, ⟨by omega, by omega⟩, by omega, ⟨by omega, hi⟩, hi4, ⟨0, 0, 0, 0, 0, x5.i + 1, 0, [], [], _, []⟩, by show 4 - (x5.i + 1) < 4 - x5.i; omega, ⟨ix_w (by omega), rfl⟩, hj4, ?_⟩
                have hg : x2.xs.getD (64 * x3.i + (4 * x4.i + x5.i)) 0 = B.getD (4 * x4.i + x5.i) 0 := by rw [eB]; exact rh_win t3' (by omega) h16' hj4
                simp only []
                rw [hg]
                exact rh5_step r5 hj4 (by show x4.i < x4.ws.length; omega)
              · have hj4 : x5.i = 4 := by have := r5.1; omega
                refine ⟨⟨0, 0, 0, 0, 0, x4.i + 1, 0, [], [], x5.ws, []⟩, by show 64 - (x4.i + 1) < 64 - x4.i; omega, ⟨hnx, rfl⟩, by show x4.i + 1 ≤ 64; omega, ?_⟩
                have := r5.2
                rw [hj4] at this
                simp only [] at this ⊢
                rw [this]
                exact rh5_end hov rfl h16' w4
            · have h16' : 16 ≤ x4.i := by omega
              have u15 : IntKind.wrap .i64 ((x4.i : Int) - 15) = ((x4.i - 15 : Nat) : Int) := rh_sub (k := 15) (by omega) hi4
              have u2 : IntKind.wrap .i64 ((x4.i : Int) - 2) = ((x4.i - 2 : Nat) : Int) := rh_sub (k := 2) (by omega) hi4
              have u7 : IntKind.wrap .i64 ((x4.i : Int) - 7) = ((x4.i - 7 : Nat) : Int) := rh_sub (k := 7) (by omega) hi4
              have u16 : IntKind.wrap .i64 ((x4.i : Int) - 16) = ((x4.i - 16 : Nat) : Int) := rh_sub (k := 16) (by omega) hi4
              have b15 : (0 : Int) ≤ ((x4.i - 15 : Nat) : Int) ∧ ((x4.i - 15 : Nat) : Int) < 64 := ⟨by omega, by omega⟩
              have b2 : (0 : Int) ≤ ((x4.i - 2 : Nat) : Int) ∧ ((x4.i - 2 : Nat) : Int) < 64 := ⟨by omega, by omega⟩
              have b7 : (0 : Int) ≤ ((x4.i - 7 : Nat) : Int) ∧ ((x4.i - 7 : Nat) : Int) < 64 := ⟨by omega, by omega⟩
              have b16 : (0 : Int) ≤ ((x4.i - 16 : Nat) : Int) ∧ ((x4.i - 16 : Nat) : Int) < 64 := ⟨by omega, by omega⟩
              have c15 : x4.i - 15 < 64 := by omega
              have c2 : x4.i - 2 < 64 := by omega
              have c7 : x4.i - 7 < 64 := by omega
              have c16 : x4.i - 16 < 64 := by omega
              have e3 : min (Int.toNat 3) IntKind.u32.bits = 3 := rfl
              have e10 : min (Int.toNat 10) IntKind.u32.bits = 10 := rfl
              simp only [u15, u2, u7, u16, Int.toNat_natCast, b15, b2, b7, b16, c15, c2, c7, c16, e3, e10, and_self, true_and]
              refine ⟨⟨0, 0, 0, 0, 0, 0, sg0 (x4.ws.getD (x4.i - 15) 0), [], [], [], []⟩, ⟨⟨0, 0, 0, 0, 0, 0, sg0 (x4.ws.getD (x4.i - 15) 0), [], [], [], []⟩, rfl, rfl⟩, fun x5 r5 => ⟨⟨0, 0, 0, 0, 0, 0, sg1 (x4.ws.getD (x4.i - 2) 0), [], [], [], []⟩, ⟨⟨0, 0, 0, 0, 0, 0, sg1 (x4.ws.getD (x4.i - 2) 0), [], [], [], []⟩, rfl, rfl⟩, fun x6 r6 => ?_⟩⟩
              refine ⟨⟨by omega, hi⟩, hi4, ⟨0, 0, 0, 0, 0, x4.i + 1, 0, [], [], _, []⟩, by show 64 - (x4.i + 1) < 64 - x4.i; omega, ⟨hnx, rfl⟩, by show x4.i + 1 ≤ 64; omega, ?_⟩
              exact rh4_hi h16' hi4 w4 r5 r6
          · have hi4 : x4.i = 64 := by have := r4.1; omega
            have w4 : x4.ws = wTab B := by
              have := r4.2
              simp only [hi4] at this
              rw [this, ← wPre_all]
              simp
            have h8 : List.take 8 x3.hs = x3.hs := List.take_of_length_le (by omega)
            rw [h8, hh8]
            refine ⟨⟨rfl, Nat.le_refl _⟩, ⟨0, 0, 0, 0, 0, 0, 0, [], [], wTab B, x3.hs⟩, ⟨⟨rfl, by simp⟩, Nat.zero_le _, by unfold rndsF; rfl⟩, fun x5 r5 => ⟨fun hi => ?_, fun hi => ?_⟩⟩
            · have hi5 : x5.i < 64 := by omega
              have v5 : x5.vs = rndsF (wTab B) x5.i x3.hs := r5.2
              have hv8 : x5.vs.length = 8 := by rw [v5]; exact rnds_len hh8 _
              have g0 : (0 : Int) ≤ (x5.i : Int) := by omega
              have d0 : 0 < 8 := by decide
              have d1 : 1 < 8 := by decide
              have d2 : 2 < 8 := by decide
              have d3 : 3 < 8 := by decide
              have d4 : 4 < 8 := by decide
              have d5 : 5 < 8 := by decide
              have d6 : 6 < 8 := by decide
              have d7 : 7 < 8 := by decide
              simp only [hi5, hi, g0, d0, d1, d2, d3, d4, d5, d6, d7, ch_is, maj_is, w4, and_self, true_and]
              refine ⟨⟨0, 0, 0, 0, 0, 0, t1F x5.vs (kTab.getD x5.i 0) ((wTab B).getD x5.i 0), [], [], [], []⟩, ⟨⟨0, 0, 0, 0, 0, 0, t1F x5.vs (kTab.getD x5.i 0) ((wTab B).getD x5.i 0), [], [], [], []⟩, rfl, rfl⟩, fun x6 r6 => ⟨⟨0, 0, 0, 0, 0, 0, t2F x5.vs, [], [], [], []⟩, ⟨⟨0, 0, 0, 0, 0, 0, t2F x5.vs, [], [], [], []⟩, rfl, rfl⟩, fun x7 r7 => ?_⟩⟩
              refine ⟨⟨0, 0, 0, 0, 0, x5.i + 1, 0, [], [], [], _⟩, by show 64 - (x5.i + 1) < 64 - x5.i; omega, ⟨ix_w (by omega), rfl⟩, by show x5.i + 1 ≤ 64; omega, ?_⟩
              exact rh6_step r5 rfl r6 r7 hv8
            · have hi5 : x5.i = 64 := by have := r5.1; omega
              have v5 : x5.vs = rndsF (wTab B) 64 x3.hs := by rw [← hi5]; exact r5.2
              refine ⟨⟨0, 0, 0, 0, 0, 0, 0, [], x3.hs, x3.hs, x5.vs⟩, ⟨⟨rfl, rfl⟩, Nat.zero_le _, by show x3.hs = _; simp⟩, fun x6 r6 => ⟨fun hi => ?_, fun hi => ?_⟩⟩
              · have hi6 : x6.i < 8 := by omega
                have g0 : (0 : Int) ≤ (x6.i : Int) := by omega
                simp only [hi6, hi, g0, and_self, true_and]
                refine ⟨⟨0, 0, 0, 0, 0, x6.i + 1, 0, [], _, [], []⟩, by show 8 - (x6.i + 1) < 8 - x6.i; omega, ⟨ix_w (by omega), rfl⟩, hi6, ?_⟩
                exact rh7_step r6 hh8 hi6
              · have hi6 : x6.i = 8 := by have := r6.1; omega
                refine ⟨⟨0, 0, 0, 0, 0, x3.i + 1, 0, [], x6.hs, [], []⟩, by show m - (x3.i + 1) < m - x3.i; omega, ⟨rh_64 (by omega), rfl⟩, him, ?_⟩
                have h6 := r6.2
                simp only [hi6] at h6
                rw [List.drop_eq_nil_of_le (by omega), List.append_nil] at h6
                show x6.hs = hashS (padF bs) (x3.i + 1)
                rw [h6, v5, hashS_succ, ← r3.2, ← eB]
                rfl
        · have him : x3.i = m := by have := r3.1; omega
          have hh : x3.hs = hashS (padF bs) m := by rw [← him]; exact r3.2
          have hh8 : x3.hs.length = 8 := by rw [hh]; exact hashS_len _ _
          refine ⟨⟨0, 0, 0, 0, 0, 0, 0, List.replicate 32 0, [], [], []⟩, ⟨⟨rfl, rfl⟩, Nat.zero_le _, by unfold outW; rfl⟩, fun x4 r4 => ⟨fun hi => ?_, fun hi => ?_⟩⟩
          · have hi4 : x4.i < 32 := by omega
            obtain ⟨o1, o2⟩ := rh_out hi4
            simp only [o1, o2, Int.toNat_natCast]
            refine ⟨⟨by omega, by omega⟩, by omega, by omega, ⟨by omega, hi⟩, hi4, ⟨0, 0, 0, 0, 0, x4.i + 1, 0, _, [], [], []⟩, by show 32 - (x4.i + 1) < 32 - x4.i; omega, ⟨ix_w (by omega), rfl⟩, hi4, ?_⟩
            show List.set x4.xs x4.i _ = outW (hashS (padF bs) m) (x4.i + 1)
            rw [← rh8_step hi4, ← r4.2, hh, show min (24 - 8 * (x4.i % 4)) 32 = 24 - 8 * (x4.i % 4) by omega]
            unfold outB
            rfl
          · have hi4 : x4.i = 32 := by have := r4.1; omega
            have hx : x4.xs = hashF bs := by
              have := r4.2
              rw [hi4] at this
              rw [this, em]
              exact outW_end bs
            have hl := hashF_len bs
            rw [hx, List.take_of_length_le (by omega)]
            rw [se_h32 hl]
            exact ⟨⟨hl, by omega⟩, hR⟩)
end Go.Proofs.Ytpjikjhaljennaa
