/- Hashes: mac.Hash. -/
import Derived.Test.YtpjikjhaljennaaMaD
set_option maxRecDepth 100000
set_option linter.unusedVariables false
set_option linter.unusedSimpArgs false
namespace Go.Proofs.Ytpjikjhaljennaa
open Go Go.Sx
attribute [local irreducible] Go.Sx.xrun

structure HsX where
  ob : Nat
  b : Nat
  base : Nat
  cap : Nat
  len : Nat
  i : Nat
  z : Int
  xs : List Int
def HsX.hp (y : HsX) (L : Blks) : List Ent := [.chunk L, .own y.ob (.tab 65 0 32 [.ints .u8 (List.replicate 32 0)]), .own y.b (.tab 5 y.base y.cap [.ints .u8 y.xs])]
def Ann.setY : List Ent → Nat → List Int → List Ent
  | .own b (.tab t base len [.ints k _]) :: r, 0, zs => .own b (.tab t base len [.ints k zs]) :: r
  | x :: r, n + 1, zs => x :: Ann.setY r n zs
  | l, _, _ => l
noncomputable def Ann.hs (L : Blks) (P6 : HsX → Prop) (P15 : Nat → List Int → Prop) (P18 : Nat → Nat → List Int → Prop) : FnAnn := ⟨[],
  [(6, ⟨HsX, [(fun σ y => ⟨σ.n, (5, .val (.int .i64 (56 - 8 * (y.i : Int)))) :: (4, .val (.int .u64 y.z)) :: (3, .slc 2 0 y.len y.cap) :: keepE σ.env [2], y.hp L⟩, fun _ y => P6 y)], fun y => 8 - y.i⟩),
   (15, ⟨HsX, [(fun σ y => ⟨σ.n, (46, .val (.int .i64 y.i)) :: keepE σ.env [2, 8, 45], Ann.setY σ.heap 8 y.xs⟩, fun _ y => P15 y.i y.xs)], fun y => 8 - y.i⟩),
   (18, ⟨HsX, [(fun σ y => ⟨σ.n, (50, .val (.int .i64 y.i)) :: keepE σ.env [2, 8, 9, 10, 45, 46], Ann.setY σ.heap 8 y.xs⟩, fun x0 y => P18 x0.len y.i y.xs)], fun y => 4 - y.i⟩)]⟩
noncomputable def Ann.ck (m : Nat) (P : Nat → List Int → Prop) : FnAnn := ⟨[],
  [(1, ⟨HsX, [(fun σ y => ⟨σ.n, (4, .val (.int .i64 (64 * (y.i : Int)))) :: keepE σ.env [0, 1, 2], Ann.setY σ.heap 3 y.xs⟩, fun _ y => P y.i y.xs)], fun y => m - y.i⟩)]⟩
noncomputable def hsGoal (pb px n c m : Nat) (L : Blks) (P6 : HsX → Prop) (P15 : Nat → List Int → Prop) (P18 : Nat → Nat → List Int → Prop) (P : Nat → List Int → Prop) (R : Value → Prop) : Prop :=
  xrunR Go.Proofs.Try.prog [(61, blockT), (59, concatT)] [(31, Ann.hs L P6 P15 P18), (89, Ann.ck m P)] [] 9 [] 31 [.val (.slice (some ⟨pb, px, none⟩) n c)] [.chunk L] fun s h => R (den (locs h) s) ∧ headIs h L
def pzF (n : Nat) : Nat := (120 - (n + 1) % 64) % 64
def lenB (n k : Nat) : List Int := (List.range k).map fun j => IntKind.wrap .u8 (((8 * n : Nat) : Int).fdiv (2 ^ (56 - 8 * j)))
def preF (bs : List Int) : List Int := bs ++ [128] ++ List.replicate (pzF bs.length) 0
def padF (bs : List Int) : List Int := preF bs ++ lenB bs.length 8
def hash0 : List Int := [1779033703, 3144134277, 1013904242, 2773480762, 1359893119, 2600822924, 528734635, 1541459225]
def hashS (ms : List Int) : Nat → List Int
  | 0 => hash0
  | i + 1 => blockF (hashS ms i) ((ms.drop (64 * i)).take 64)
def outB (s : List Int) (k : Nat) : Int := IntKind.wrap .u8 ((s.getD (k / 4) 0).fdiv (2 ^ (24 - 8 * (k % 4))))
/-- The hash of bytes. -/
def hashF (bs : List Int) : List Int := (List.range 32).map (outB (hashS (padF bs) ((padF bs).length / 64)))
def outW (s : List Int) (k : Nat) : List Int := (List.range k).map (outB s) ++ List.replicate (32 - k) 0
theorem preF_len (bs : List Int) : (preF bs).length = bs.length + 1 + pzF bs.length := by simp [preF]; omega
theorem padF_len (bs : List Int) : (padF bs).length = bs.length + 1 + pzF bs.length + 8 := by unfold padF; rw [List.length_append, preF_len]; simp [lenB]
theorem padF_64 (bs : List Int) : 64 * ((padF bs).length / 64) = (padF bs).length := by rw [padF_len]; unfold pzF; omega
theorem hashS_zero (ms : List Int) : hashS ms 0 = hash0 := rfl
theorem hashS_succ (ms : List Int) (i : Nat) : hashS ms (i + 1) = blockF (hashS ms i) ((ms.drop (64 * i)).take 64) := rfl
theorem hashS_len (ms : List Int) : ∀ i, (hashS ms i).length = 8
  | 0 => rfl
  | i + 1 => by simp [hashS, blockF]
theorem pad_is (n : Nat) (hn : n < 1000000) : (IntKind.wrap .i64 (120 - ((n + 1 : Nat) : Int).tmod 64)).tmod 64 = (pzF n : Int) := by
  have e : ((n + 1 : Nat) : Int).tmod 64 = (((n + 1) % 64 : Nat) : Int) := by rw [Int.tmod_eq_emod_of_nonneg (by omega)]; omega
  rw [e]
  have e2 : IntKind.wrap .i64 (120 - (((n + 1) % 64 : Nat) : Int)) = ((120 - (n + 1) % 64 : Nat) : Int) := by rw [IntKind.wrap_i64]; omega
  rw [e2, Int.tmod_eq_emod_of_nonneg (by omega)]
  unfold pzF; omega
def hsP6 (bs : List Int) (y : HsX) : Prop := y.i ≤ 8 ∧ y.z = ((8 * bs.length : Nat) : Int) ∧ y.len = (preF bs).length + y.i ∧ y.xs.take y.len = preF bs ++ lenB bs.length y.i ∧ y.len ≤ y.cap ∧ y.xs.length = y.cap
def hsP (bs : List Int) (m i : Nat) (xs : List Int) : Prop := i ≤ m ∧ xs = hashS (padF bs) i
def hsP15 (s : List Int) (i : Nat) (xs : List Int) : Prop := i ≤ 8 ∧ xs = outW s (4 * i)
def hsP18 (s : List Int) (t i : Nat) (xs : List Int) : Prop := i ≤ 4 ∧ xs = outW s (4 * t + i)
theorem hs6_step {bs : List Int} {x : HsX} (h : hsP6 bs x) (hi : x.i < 8) {cap' : Nat} {sp : List Int} (hc : x.len + 1 ≤ cap') (hs : sp.length = cap' - (x.len + 1)) (b base : Nat) :
    hsP6 bs ⟨x.ob, b, base, cap', x.len + 1, x.i + 1, x.z, x.xs.take x.len ++ [IntKind.wrap .u8 (x.z.fdiv (2 ^ min (56 - 8 * (x.i : Int)).toNat 64))] ++ sp⟩ := by
  obtain ⟨h1, h2, h3, h4, h5, h6⟩ := h
  have hb : (x.xs.take x.len).length = x.len := by rw [List.length_take]; omega
  have e : min (56 - 8 * (x.i : Int)).toNat 64 = 56 - 8 * x.i := by omega
  have hA : (x.xs.take x.len ++ [IntKind.wrap .u8 (x.z.fdiv (2 ^ min (56 - 8 * (x.i : Int)).toNat 64))]).length = x.len + 1 := by rw [List.length_append, hb]; rfl
  refine ⟨hi, h2, ?_, ?_, hc, ?_⟩
  · simp only []; omega
  · simp only []
    rw [← hA, List.take_left, h4, e, h2]
    simp [lenB, List.range_succ]
  · simp only []; rw [List.length_append, hA, hs]; omega
theorem hs6_start (bs w sp1 : List Int) (ob b base cap2 : Nat) (z : Int) (hw : w = bs ++ [128]) (hd : bs.length + 1 + pzF bs.length ≤ cap2) (hs1 : sp1.length = cap2 - (bs.length + 1 + pzF bs.length)) (hz : z = ((8 * bs.length : Nat) : Int)) :
    hsP6 bs ⟨ob, b, base, cap2, bs.length + 1 + pzF bs.length, 0, z, w ++ List.replicate (pzF bs.length) 0 ++ sp1⟩ := by
  have hl := preF_len bs
  have e : w ++ List.replicate (pzF bs.length) 0 = preF bs := by rw [hw]; rfl
  refine ⟨Nat.zero_le _, hz, ?_, ?_, hd, ?_⟩
  · simp only []; omega
  · simp only []; rw [e, ← hl, List.take_left]; simp [lenB]
  · simp only []; rw [e, List.length_append, hl, hs1]; omega
theorem win_take {xs ps : List Int} {n i : Nat} (h : xs.take n = ps) (hi : 64 * i + 64 ≤ n) : (xs.drop (64 * i)).take 64 = (ps.drop (64 * i)).take 64 := by
  rw [← h, List.drop_take, List.take_take, Nat.min_eq_left (by omega)]
theorem outW_step {s : List Int} {t i : Nat} (ht : t < 8) (hi : i < 4) : (outW s (4 * t + i)).set (4 * t + i) (IntKind.wrap .u8 ((s.getD t 0).fdiv (2 ^ (24 - 8 * i)))) = outW s (4 * t + (i + 1)) := by
  unfold outW
  rw [set_app' (by simp) (by omega)]
  have : outB s (4 * t + i) = IntKind.wrap .u8 ((s.getD t 0).fdiv (2 ^ (24 - 8 * i))) := by
    unfold outB
    rw [show (4 * t + i) / 4 = t by omega, show (4 * t + i) % 4 = i by omega]
  rw [← this, ← Nat.add_assoc, List.range_succ, List.map_append]
  rfl
theorem hs_n {n : Nat} (h : n < 1000000) : IntKind.wrap .u64 (IntKind.wrap .u64 (n : Int) * 8) = ((8 * n : Nat) : Int) := by rw [wrap_u64a, wrap_u64a]; omega
theorem hs_w5 {u v : Nat} (hu : u < 8) (hv : v < 4) : IntKind.wrap .i64 (IntKind.wrap .i64 (4 * (u : Int)) + (v : Int)) = ((4 * u + v : Nat) : Int) := by rw [IntKind.wrap_i64, IntKind.wrap_i64]; omega
theorem hs_w6 {v : Nat} (hv : v < 4) : IntKind.wrap .i64 (24 - IntKind.wrap .i64 (8 * (v : Int))) = ((24 - 8 * v : Nat) : Int) := by rw [IntKind.wrap_i64, IntKind.wrap_i64]; omega
theorem hs_w7 {v : Nat} (hv : v < 1000) : IntKind.wrap .i64 ((v : Int) + 1) = ((v + 1 : Nat) : Int) := by rw [IntKind.wrap_i64]; omega
theorem hs_w1 {l m i : Nat} (hm : 64 * m = l) (hi : i < m) (hl : l < 2000000) : IntKind.wrap .i64 (64 * (i : Int) + min 64 ((l - 64 * i : Nat) : Int)) = ((64 * i + 64 : Nat) : Int) := by rw [IntKind.wrap_i64]; omega
theorem hashF_len (bs : List Int) : (hashF bs).length = 32 := by unfold hashF; rw [List.length_map, List.length_range]
theorem outW_end (bs : List Int) : outW (hashS (padF bs) ((padF bs).length / 64)) (4 * 8) = hashF bs := by unfold outW hashF; exact List.append_nil _
attribute [local irreducible] blockF hashF hashS
set_option maxHeartbeats 1000000 in
theorem hs_goal (pb px n c m : Nat) (L : Blks) (P6 : HsX → Prop) (P15 : Nat → List Int → Prop) (P18 : Nat → Nat → List Int → Prop) (P : Nat → List Int → Prop) (R : Value → Prop) (ps : List (List Int)) (hp : PartsAt L pb px n ps) (hn : n < 1000000) (hb : ps.flatten.length < 1000000)
    (em : m = (padF ps.flatten).length / 64) (e6 : P6 = hsP6 ps.flatten) (eP : P = hsP ps.flatten m) (e15 : P15 = hsP15 (hashS (padF ps.flatten) m)) (e18 : P18 = hsP18 (hashS (padF ps.flatten) m)) (hR : R (arrV .u8 (hashF ps.flatten))) :
    hsGoal pb px n c m L P6 P15 P18 P R :=
  Eq.mpr (by kernel_rfl) (show
  ∀ (b : Nat), ∃ (x : PsX), PartsPre x [Value.slice (Option.some { block := pb, off := px }) n c] (L ++ [(b, Blk.tab (65 : Nat) (0 : Nat) (32 : Nat) [Col.ints IntKind.u8 (List.replicate (32 : Nat) (0 : Int))])] ++ []) ∧ (List.flatten x.5 = [] → ∀ (b_1 : Nat), Value.oneCell' (Value.int IntKind.u8 (128 : Int)) = Bool.true ∧ (1 : Nat) ≤ (140737488355328 : Nat) ∧ ∀ (b_2 cap' : Nat), (1 : Nat) ≤ cap' → ∀ (sp : List Int), List.length sp = cap' - (1 : Nat) → (64 : Int) ≠ (0 : Int) ∧ (64 : Int) ≠ (0 : Int) ∧
  ((0 : Int) ≤ Int.tmod (IntKind.wrap IntKind.i64 ((120 : Int) - Int.tmod (↑(1 : Nat) : Int) (64 : Int))) (64 : Int) ∧ (55 : Nat) ≤ (140737488355328 : Nat)) ∧ ((1 : Nat) ≤ cap' ∧ (0 : Nat) + cap' ≤ cap') ∧ (1 : Nat) ≤ cap' ∧ (56 : Nat) ≤ (140737488355328 : Nat) ∧ ∀ (b_3 base cap'_1 : Nat), (1 : Nat) + Int.toNat (Int.tmod (IntKind.wrap IntKind.i64 ((120 : Int) - Int.tmod (↑(1 : Nat) : Int) (64 : Int))) (64 : Int)) ≤ cap'_1 → ((1 : Nat) + Int.toNat (Int.tmod (IntKind.wrap IntKind.i64 ((120 : Int) - Int.tmod (↑(1 : Nat) : Int) (64 : Int))) (64 : Int)) ≤ cap' → cap'_1 = cap') →
  ∀ (sp_1 : List Int), List.length sp_1 = cap'_1 - ((1 : Nat) + Int.toNat (Int.tmod (IntKind.wrap IntKind.i64 ((120 : Int) - Int.tmod (↑(1 : Nat) : Int) (64 : Int))) (64 : Int))) → ∃ (x0 : HsX), ((((56 : Int) = (56 : Int) - (8 : Int) * (↑x0.6 : Int) ∧ IntKind.wrap IntKind.u64 (IntKind.wrap IntKind.u64 (↑(0 : Nat) : Int) * (8 : Int)) = x0.7 ∧ ((0 : Nat) = (0 : Nat) ∧ (56 : Nat) = x0.5 ∧ cap'_1 = x0.4) ∧ ((0 : Nat) = (0 : Nat) ∧ (0 : Nat) = (0 : Nat)) ∧ True) ∧ L = L ∧ (b = x0.1 ∧
  (0 : Nat) = (0 : Nat) ∧ (32 : Nat) = (32 : Nat) ∧ List.replicate (32 : Nat) (0 : Int) = List.replicate (32 : Nat) (0 : Int) ∧ True) ∧ (b_3 = x0.2 ∧ base = x0.3 ∧ cap'_1 = x0.4 ∧ List.take (1 : Nat) ((128 : Int) :: sp) ++ List.replicate (Int.toNat (Int.tmod (IntKind.wrap IntKind.i64 ((120 : Int) - Int.tmod (↑(1 : Nat) : Int) (64 : Int))) (64 : Int))) (0 : Int) ++ sp_1 = x0.8 ∧ True) ∧ True) ∧ P6 x0) ∧ ∀ (x : HsX), P6 x → ((0 : Int) ≤ (56 : Int) - (8 : Int) * (↑x.6 : Int) → (0 : Int) ≤ (56 : Int) - (8 : Int) * (↑x.6 : Int) ∧ ∀ (b : Nat), Value.oneCell' (Value.int IntKind.u8
  (IntKind.wrap IntKind.u8 (Int.fdiv x.7 ((2 : Int) ^ Min.min (Int.toNat ((56 : Int) - (8 : Int) * (↑x.6 : Int))) (64 : Nat))))) = Bool.true ∧ (x.5 ≤ x.4 ∧ (0 : Nat) + x.4 ≤ x.4) ∧ (0 : Nat) + x.5 ≤ x.4 ∧ (x.5 + (1 : Nat)) * (1 : Nat) ≤ (140737488355328 : Nat) ∧ ∀ (b base cap' : Nat), x.5 + (1 : Nat) ≤ cap' → (x.5 + (1 : Nat) ≤ x.4 → cap' = x.4) → ∀ (sp : List Int), List.length sp = cap' - (x.5 + (1 : Nat)) → ∃ (y : HsX), (8 : Nat) - y.6 < (8 : Nat) - x.6 ∧ ((IntKind.wrap IntKind.i64 ((56 : Int) - (8 : Int) * (↑x.6 : Int) - (8 : Int)) = (56 : Int) - (8 : Int) * (↑y.6 : Int) ∧ x.7 = y.7 ∧
  ((0 : Nat) = (0 : Nat) ∧ x.5 + (1 : Nat) = y.5 ∧ cap' = y.4) ∧ ((0 : Nat) = (0 : Nat) ∧ (0 : Nat) = (0 : Nat)) ∧ True) ∧ L = L ∧ (x.1 = y.1 ∧ (0 : Nat) = (0 : Nat) ∧ (32 : Nat) = (32 : Nat) ∧ List.replicate (32 : Nat) (0 : Int) = List.replicate (32 : Nat) (0 : Int) ∧ True) ∧ (b = y.2 ∧ base = y.3 ∧ cap' = y.4 ∧ List.take x.5 x.8 ++ [IntKind.wrap IntKind.u8 (Int.fdiv x.7 ((2 : Int) ^ Min.min (Int.toNat ((56 : Int) - (8 : Int) * (↑x.6 : Int))) (64 : Nat)))] ++ sp = y.8 ∧ True) ∧ True) ∧ P6 y) ∧ (¬(0 : Int) ≤ (56 : Int) - (8 : Int) * (↑x.6 : Int) → ∀ (b : Nat),
  ((8 : Nat) = (8 : Nat) ∧ (8 : Nat) ≤ (8 : Nat)) ∧ ∀ (b_4 b_5 : Nat), ((64 : Int) < (1 : Int) → False) ∧ (¬(64 : Int) < (1 : Int) → ∀ (rb b_6 : Nat) (O : Go.LoopState → Go.Obj), ∃ (x0 : HsX), ((((0 : Int) = (64 : Int) * (↑x0.6 : Int) ∧ Value.func (Go.Fn.yield b_6) #[] #[] = Value.func (Go.Fn.yield b_6) #[] #[] ∧ ((0 : Nat) = (0 : Nat) ∧ (0 : Nat) = (0 : Nat)) ∧ ((0 : Nat) = (0 : Nat) ∧ (0 : Nat) = (0 : Nat)) ∧ True) ∧ L = L ∧ (x.1 = x.1 ∧ (0 : Nat) = (0 : Nat) ∧ (32 : Nat) = (32 : Nat) ∧ List.replicate (32 : Nat) (0 : Int) = List.replicate (32 : Nat) (0 : Int) ∧ True) ∧
  (x.2 = x.2 ∧ x.3 = x.3 ∧ x.4 = x.4 ∧ x.8 = x.8 ∧ True) ∧ (b = b ∧ (0 : Nat) = (0 : Nat) ∧ (8 : Nat) = (8 : Nat) ∧ List.take (0 : Nat) (List.replicate (8 : Nat) (0 : Int)) ++ [(1779033703 : Int), (3144134277 : Int), (1013904242 : Int), (2773480762 : Int), (1359893119 : Int), (2600822924 : Int), (528734635 : Int), (1541459225 : Int)] ++ List.drop (8 : Nat) (List.replicate (8 : Nat) (0 : Int)) = x0.8 ∧ True) ∧ (b_4 = b_4 ∧ ((0 : Nat) = (0 : Nat) ∧ x.5 = x.5 ∧ x.4 = x.4) ∧ True) ∧ (b_5 = b_5 ∧ (64 : Int) = (64 : Int) ∧ True) ∧
  (rb = rb ∧ Go.Obj.deferred (Option.some []) = Go.Obj.deferred (Option.some [])) ∧ (b_6 = b_6 ∧ O Go.LoopState.ready = O Go.LoopState.ready) ∧ True) ∧ P x0.6 x0.8) ∧ ∀ (x_1 : HsX), P x_1.6 x_1.8 → ((64 : Int) * (↑x_1.6 : Int) < (↑x.5 : Int) → ((0 : Int) ≤ (64 : Int) * (↑x_1.6 : Int) ∧ (64 : Int) * (↑x_1.6 : Int) ≤ (↑x.5 : Int)) ∧ ((0 : Int) ≤ IntKind.wrap IntKind.i64 ((64 : Int) * (↑x_1.6 : Int) + Min.min (64 : Int) (↑(x.5 - Int.toNat ((64 : Int) * (↑x_1.6 : Int))) : Int)) ∧ IntKind.wrap IntKind.i64 ((64 : Int) * (↑x_1.6 : Int) +
  Min.min (64 : Int) (↑(x.5 - Int.toNat ((64 : Int) * (↑x_1.6 : Int))) : Int)) ≤ (↑x.4 : Int)) ∧ ((0 : Int) ≤ IntKind.wrap IntKind.i64 ((64 : Int) * (↑x_1.6 : Int) + Min.min (64 : Int) (↑(x.5 - Int.toNat ((64 : Int) * (↑x_1.6 : Int))) : Int)) ∧ IntKind.wrap IntKind.i64 ((64 : Int) * (↑x_1.6 : Int) + Min.min (64 : Int) (↑(x.5 - Int.toNat ((64 : Int) * (↑x_1.6 : Int))) : Int)) ≤ (↑(Int.toNat (IntKind.wrap IntKind.i64 ((64 : Int) * (↑x_1.6 : Int) + Min.min (64 : Int) (↑(x.5 - Int.toNat ((64 : Int) * (↑x_1.6 : Int))) : Int)))) : Int)) ∧ ((0 : Int) ≤ (64 : Int) * (↑x_1.6 : Int) ∧
  (64 : Int) * (↑x_1.6 : Int) ≤ (↑(Int.toNat (IntKind.wrap IntKind.i64 ((64 : Int) * (↑x_1.6 : Int) + Min.min (64 : Int) (↑(x.5 - Int.toNat ((64 : Int) * (↑x_1.6 : Int))) : Int)))) : Int)) ∧ (b_6 = b_6 ∧ b_6 = b_6 ∧ O Go.LoopState.ready = O Go.LoopState.ready) ∧ (b_6 = b_6 ∧ O Go.LoopState.ready = O Go.LoopState.ready) ∧ (Int.toNat (IntKind.wrap IntKind.i64 ((64 : Int) * (↑x_1.6 : Int) + Min.min (64 : Int) (↑(x.5 - Int.toNat ((64 : Int) * (↑x_1.6 : Int))) : Int))) - Int.toNat ((64 : Int) * (↑x_1.6 : Int)) = (64 : Nat) ∧ (if Int.toNat (IntKind.wrap IntKind.i64 ((64 : Int) * (↑x_1.6 : Int) +
  Min.min (64 : Int) (↑(x.5 - Int.toNat ((64 : Int) * (↑x_1.6 : Int))) : Int))) = Int.toNat ((64 : Int) * (↑x_1.6 : Int)) then (0 : Nat) else (0 : Nat) + Int.toNat ((64 : Int) * (↑x_1.6 : Int))) + (64 : Nat) ≤ x.4) ∧ (b_6 = b_6 ∧ O Go.LoopState.busy = O Go.LoopState.busy) ∧ ∃ (y : HsX), m - y.6 < m - x_1.6 ∧ ((IntKind.wrap IntKind.i64 ((64 : Int) * (↑x_1.6 : Int) + (64 : Int)) = (64 : Int) * (↑y.6 : Int) ∧ Value.func (Go.Fn.yield b_6) #[] #[] = Value.func (Go.Fn.yield b_6) #[] #[] ∧ ((0 : Nat) = (0 : Nat) ∧ (0 : Nat) = (0 : Nat)) ∧ ((0 : Nat) = (0 : Nat) ∧ (0 : Nat) = (0 : Nat)) ∧ True) ∧
  L = L ∧ (x.1 = x.1 ∧ (0 : Nat) = (0 : Nat) ∧ (32 : Nat) = (32 : Nat) ∧ List.replicate (32 : Nat) (0 : Int) = List.replicate (32 : Nat) (0 : Int) ∧ True) ∧ (x.2 = x.2 ∧ x.3 = x.3 ∧ x.4 = x.4 ∧ x.8 = x.8 ∧ True) ∧ (b = b ∧ (0 : Nat) = (0 : Nat) ∧ (8 : Nat) = (8 : Nat) ∧ blockF x_1.8 (List.take (64 : Nat) (List.drop (if Int.toNat (IntKind.wrap IntKind.i64 ((64 : Int) * (↑x_1.6 : Int) + Min.min (64 : Int) (↑(x.5 - Int.toNat ((64 : Int) * (↑x_1.6 : Int))) : Int))) = Int.toNat ((64 : Int) * (↑x_1.6 : Int)) then (0 : Nat) else (0 : Nat) + Int.toNat ((64 : Int) * (↑x_1.6 : Int))) x.8)) = y.8 ∧
  True) ∧ (b_4 = b_4 ∧ ((0 : Nat) = (0 : Nat) ∧ x.5 = x.5 ∧ x.4 = x.4) ∧ True) ∧ (b_5 = b_5 ∧ (64 : Int) = (64 : Int) ∧ True) ∧ (rb = rb ∧ Go.Obj.deferred (Option.some []) = Go.Obj.deferred (Option.some [])) ∧ (b_6 = b_6 ∧ O Go.LoopState.ready = O Go.LoopState.ready) ∧ True) ∧ P y.6 y.8) ∧ (¬(64 : Int) * (↑x_1.6 : Int) < (↑x.5 : Int) → (b_6 = b_6 ∧ O Go.LoopState.ready = O Go.LoopState.ready) ∧ ∀ (b_7 : Nat), (8 : Nat) ≤ (8 : Nat) ∧ ∃ (x0 : HsX), ((((0 : Int) = (↑x0.6 : Int) ∧ ((0 : Nat) = (0 : Nat) ∧ (0 : Nat) = (0 : Nat)) ∧ ((0 : Nat) = (0 : Nat) ∧ (0 : Nat) = (0 : Nat)) ∧
  List.take (8 : Nat) x_1.8 = List.take (8 : Nat) x_1.8 ∧ True) ∧ L = L ∧ (x.1 = x.1 ∧ (0 : Nat) = (0 : Nat) ∧ (32 : Nat) = (32 : Nat) ∧ List.replicate (32 : Nat) (0 : Int) = List.replicate (32 : Nat) (0 : Int) ∧ True) ∧ (x.2 = x.2 ∧ x.3 = x.3 ∧ x.4 = x.4 ∧ x.8 = x.8 ∧ True) ∧ (b = b ∧ (0 : Nat) = (0 : Nat) ∧ (8 : Nat) = (8 : Nat) ∧ x_1.8 = x_1.8 ∧ True) ∧ (b_4 = b_4 ∧ ((0 : Nat) = (0 : Nat) ∧ x.5 = x.5 ∧ x.4 = x.4) ∧ True) ∧ (b_5 = b_5 ∧ (64 : Int) = (64 : Int) ∧ True) ∧ (rb = rb ∧ Go.Obj.deferred (Option.some []) = Go.Obj.deferred (Option.some [])) ∧
  (b_6 = b_6 ∧ O Go.LoopState.exhausted = O Go.LoopState.exhausted) ∧ (b_7 = b_7 ∧ (0 : Nat) = (0 : Nat) ∧ (32 : Nat) = (32 : Nat) ∧ List.replicate (32 : Nat) (0 : Int) = x0.8 ∧ True) ∧ True) ∧ P15 x0.6 x0.8) ∧ ∀ (x_2 : HsX), P15 x_2.6 x_2.8 → ((↑x_2.6 : Int) < (8 : Int) → List.length (List.take (8 : Nat) x_1.8) = (8 : Nat) ∧ ((0 : Int) ≤ (↑x_2.6 : Int) ∧ (↑x_2.6 : Int) < (↑(8 : Nat) : Int)) ∧ ∃ (x0 : HsX), ((((0 : Int) = (↑x0.6 : Int) ∧ ((0 : Nat) = (0 : Nat) ∧ (0 : Nat) = (0 : Nat)) ∧ ((0 : Nat) = (0 : Nat) ∧ (0 : Nat) = (0 : Nat)) ∧ (↑x_2.6 : Int) = (↑x_2.6 : Int) ∧
  List.getD (List.take (8 : Nat) x_1.8) x_2.6 (0 : Int) = List.getD (List.take (8 : Nat) x_1.8) x_2.6 (0 : Int) ∧ List.take (8 : Nat) x_1.8 = List.take (8 : Nat) x_1.8 ∧ (↑x_2.6 : Int) = (↑x_2.6 : Int) ∧ True) ∧ L = L ∧ (x.1 = x.1 ∧ (0 : Nat) = (0 : Nat) ∧ (32 : Nat) = (32 : Nat) ∧ List.replicate (32 : Nat) (0 : Int) = List.replicate (32 : Nat) (0 : Int) ∧ True) ∧ (x.2 = x.2 ∧ x.3 = x.3 ∧ x.4 = x.4 ∧ x.8 = x.8 ∧ True) ∧ (b = b ∧ (0 : Nat) = (0 : Nat) ∧ (8 : Nat) = (8 : Nat) ∧ x_1.8 = x_1.8 ∧ True) ∧ (b_4 = b_4 ∧ ((0 : Nat) = (0 : Nat) ∧ x.5 = x.5 ∧ x.4 = x.4) ∧ True) ∧
  (b_5 = b_5 ∧ (64 : Int) = (64 : Int) ∧ True) ∧ (rb = rb ∧ Go.Obj.deferred (Option.some []) = Go.Obj.deferred (Option.some [])) ∧ (b_6 = b_6 ∧ O Go.LoopState.exhausted = O Go.LoopState.exhausted) ∧ (b_7 = b_7 ∧ (0 : Nat) = (0 : Nat) ∧ (32 : Nat) = (32 : Nat) ∧ x_2.8 = x0.8 ∧ True) ∧ True) ∧ P18 x0.5 x0.6 x0.8) ∧ ∀ (x_3 : HsX), P18 x0.5 x_3.6 x_3.8 → ((↑x_3.6 : Int) < (4 : Int) → (0 : Int) ≤ IntKind.wrap IntKind.i64 ((24 : Int) - IntKind.wrap IntKind.i64 ((8 : Int) * (↑x_3.6 : Int))) ∧ ((0 : Int) ≤ IntKind.wrap IntKind.i64 (IntKind.wrap IntKind.i64 ((4 : Int) * (↑x_2.6 : Int)) +
  (↑x_3.6 : Int)) ∧ IntKind.wrap IntKind.i64 (IntKind.wrap IntKind.i64 ((4 : Int) * (↑x_2.6 : Int)) + (↑x_3.6 : Int)) < (↑(32 : Nat) : Int)) ∧ (0 : Nat) + Int.toNat (IntKind.wrap IntKind.i64 (IntKind.wrap IntKind.i64 ((4 : Int) * (↑x_2.6 : Int)) + (↑x_3.6 : Int))) < (32 : Nat) ∧ ∃ (y : HsX), (4 : Nat) - y.6 < (4 : Nat) - x_3.6 ∧ ((IntKind.wrap IntKind.i64 ((↑x_3.6 : Int) + (1 : Int)) = (↑y.6 : Int) ∧ ((0 : Nat) = (0 : Nat) ∧ (0 : Nat) = (0 : Nat)) ∧ ((0 : Nat) = (0 : Nat) ∧ (0 : Nat) = (0 : Nat)) ∧ (↑x_2.6 : Int) = (↑x_2.6 : Int) ∧ List.getD (List.take (8 : Nat) x_1.8) x_2.6 (0 : Int) =
  List.getD (List.take (8 : Nat) x_1.8) x_2.6 (0 : Int) ∧ List.take (8 : Nat) x_1.8 = List.take (8 : Nat) x_1.8 ∧ (↑x_2.6 : Int) = (↑x_2.6 : Int) ∧ True) ∧ L = L ∧ (x.1 = x.1 ∧ (0 : Nat) = (0 : Nat) ∧ (32 : Nat) = (32 : Nat) ∧ List.replicate (32 : Nat) (0 : Int) = List.replicate (32 : Nat) (0 : Int) ∧ True) ∧ (x.2 = x.2 ∧ x.3 = x.3 ∧ x.4 = x.4 ∧ x.8 = x.8 ∧ True) ∧ (b = b ∧ (0 : Nat) = (0 : Nat) ∧ (8 : Nat) = (8 : Nat) ∧ x_1.8 = x_1.8 ∧ True) ∧ (b_4 = b_4 ∧ ((0 : Nat) = (0 : Nat) ∧ x.5 = x.5 ∧ x.4 = x.4) ∧ True) ∧ (b_5 = b_5 ∧ (64 : Int) = (64 : Int) ∧ True) ∧ (rb = rb ∧
  Go.Obj.deferred (Option.some []) = Go.Obj.deferred (Option.some [])) ∧ (b_6 = b_6 ∧ O Go.LoopState.exhausted = O Go.LoopState.exhausted) ∧ (b_7 = b_7 ∧ (0 : Nat) = (0 : Nat) ∧ (32 : Nat) = (32 : Nat) ∧ List.set x_3.8 ((0 : Nat) + Int.toNat (IntKind.wrap IntKind.i64 (IntKind.wrap IntKind.i64 ((4 : Int) * (↑x_2.6 : Int)) + (↑x_3.6 : Int)))) (IntKind.wrap IntKind.u8 (Int.fdiv (List.getD (List.take (8 : Nat) x_1.8) x_2.6 (0 : Int)) ((2 : Int) ^ Min.min (Int.toNat (IntKind.wrap IntKind.i64 ((24 : Int) - IntKind.wrap IntKind.i64 ((8 : Int) * (↑x_3.6 : Int))))) (32 : Nat)))) = y.8 ∧ True) ∧ True) ∧
  P18 x0.5 y.6 y.8) ∧ (¬(↑x_3.6 : Int) < (4 : Int) → ∃ (y : HsX), (8 : Nat) - y.6 < (8 : Nat) - x_2.6 ∧ ((IntKind.wrap IntKind.i64 ((↑x_2.6 : Int) + (1 : Int)) = (↑y.6 : Int) ∧ ((0 : Nat) = (0 : Nat) ∧ (0 : Nat) = (0 : Nat)) ∧ ((0 : Nat) = (0 : Nat) ∧ (0 : Nat) = (0 : Nat)) ∧ List.take (8 : Nat) x_1.8 = List.take (8 : Nat) x_1.8 ∧ True) ∧ L = L ∧ (x.1 = x.1 ∧ (0 : Nat) = (0 : Nat) ∧ (32 : Nat) = (32 : Nat) ∧ List.replicate (32 : Nat) (0 : Int) = List.replicate (32 : Nat) (0 : Int) ∧ True) ∧ (x.2 = x.2 ∧ x.3 = x.3 ∧ x.4 = x.4 ∧ x.8 = x.8 ∧ True) ∧ (b = b ∧ (0 : Nat) = (0 : Nat) ∧
  (8 : Nat) = (8 : Nat) ∧ x_1.8 = x_1.8 ∧ True) ∧ (b_4 = b_4 ∧ ((0 : Nat) = (0 : Nat) ∧ x.5 = x.5 ∧ x.4 = x.4) ∧ True) ∧ (b_5 = b_5 ∧ (64 : Int) = (64 : Int) ∧ True) ∧ (rb = rb ∧ Go.Obj.deferred (Option.some []) = Go.Obj.deferred (Option.some [])) ∧ (b_6 = b_6 ∧ O Go.LoopState.exhausted = O Go.LoopState.exhausted) ∧ (b_7 = b_7 ∧ (0 : Nat) = (0 : Nat) ∧ (32 : Nat) = (32 : Nat) ∧ x_3.8 = y.8 ∧ True) ∧ True) ∧ P15 y.6 y.8)) ∧ (¬(↑x_2.6 : Int) < (8 : Int) → (32 : Nat) ≤ (32 : Nat) ∧ (List.length (List.take (32 : Nat) x_2.8) = (32 : Nat) ∧
  (0 : Nat) + List.length (List.take (32 : Nat) x_2.8) ≤ (32 : Nat)) ∧ (rb = rb ∧ Go.Obj.deferred (Option.some []) = Go.Obj.deferred (Option.some [])) ∧ (32 : Nat) ≤ (32 : Nat) ∧ R (Value.agg (List.toArray (List.map (Value.int IntKind.u8) (List.take (32 : Nat) (List.take (0 : Nat) (List.replicate (32 : Nat) (0 : Int)) ++ List.take (32 : Nat) x_2.8 ++ List.drop ((0 : Nat) + List.length (List.take (32 : Nat) x_2.8)) (List.replicate (32 : Nat) (0 : Int))))))) ∧ L = L))))) ∧ (List.flatten x.5 ≠ [] → ∀ (b_1 base cap : Nat) (xs : List Int), List.length xs = cap →
  List.length (List.flatten x.5) ≤ cap → List.take (List.length (List.flatten x.5)) xs = List.flatten x.5 → ∀ (b_2 : Nat), Value.oneCell' (Value.int IntKind.u8 (128 : Int)) = Bool.true ∧ (List.length (List.flatten x.5) ≤ cap ∧ (0 : Nat) + cap ≤ cap) ∧ (0 : Nat) + List.length (List.flatten x.5) ≤ cap ∧ (List.length (List.flatten x.5) + (1 : Nat)) * (1 : Nat) ≤ (140737488355328 : Nat) ∧ ∀ (b_3 base cap' : Nat), List.length (List.flatten x.5) + (1 : Nat) ≤ cap' → (List.length (List.flatten x.5) + (1 : Nat) ≤ cap → cap' = cap) → ∀ (sp : List Int),
  List.length sp = cap' - (List.length (List.flatten x.5) + (1 : Nat)) → (64 : Int) ≠ (0 : Int) ∧ (64 : Int) ≠ (0 : Int) ∧ ((0 : Int) ≤ Int.tmod (IntKind.wrap IntKind.i64 ((120 : Int) - Int.tmod (↑(List.length (List.flatten x.5) + (1 : Nat)) : Int) (64 : Int))) (64 : Int) ∧ Int.toNat (Int.tmod (IntKind.wrap IntKind.i64 ((120 : Int) - Int.tmod (↑(List.length (List.flatten x.5) + (1 : Nat)) : Int) (64 : Int))) (64 : Int)) * (1 : Nat) ≤ (140737488355328 : Nat)) ∧ (List.length (List.flatten x.5) + (1 : Nat) ≤ cap' ∧ (0 : Nat) + cap' ≤ cap') ∧
  (0 : Nat) + (List.length (List.flatten x.5) + (1 : Nat)) ≤ cap' ∧ (List.length (List.flatten x.5) + (1 : Nat) + Int.toNat (Int.tmod (IntKind.wrap IntKind.i64 ((120 : Int) - Int.tmod (↑(List.length (List.flatten x.5) + (1 : Nat)) : Int) (64 : Int))) (64 : Int))) * (1 : Nat) ≤ (140737488355328 : Nat) ∧ ∀ (b_4 base cap'_1 : Nat), List.length (List.flatten x.5) + (1 : Nat) + Int.toNat (Int.tmod (IntKind.wrap IntKind.i64 ((120 : Int) - Int.tmod (↑(List.length (List.flatten x.5) + (1 : Nat)) : Int) (64 : Int))) (64 : Int)) ≤ cap'_1 → (List.length (List.flatten x.5) + (1 : Nat) + Int.toNat
  (Int.tmod (IntKind.wrap IntKind.i64 ((120 : Int) - Int.tmod (↑(List.length (List.flatten x.5) + (1 : Nat)) : Int) (64 : Int))) (64 : Int)) ≤ cap' → cap'_1 = cap') → ∀ (sp_1 : List Int), List.length sp_1 = cap'_1 - (List.length (List.flatten x.5) + (1 : Nat) + Int.toNat (Int.tmod (IntKind.wrap IntKind.i64 ((120 : Int) - Int.tmod (↑(List.length (List.flatten x.5) + (1 : Nat)) : Int) (64 : Int))) (64 : Int))) → ∃ (x0 : HsX), ((((56 : Int) = (56 : Int) - (8 : Int) * (↑x0.6 : Int) ∧ IntKind.wrap IntKind.u64 (IntKind.wrap IntKind.u64 (↑(List.length (List.flatten x.5)) : Int) * (8 : Int)) = x0.7 ∧
  ((0 : Nat) = (0 : Nat) ∧ List.length (List.flatten x.5) + (1 : Nat) + Int.toNat (Int.tmod (IntKind.wrap IntKind.i64 ((120 : Int) - Int.tmod (↑(List.length (List.flatten x.5) + (1 : Nat)) : Int) (64 : Int))) (64 : Int)) = x0.5 ∧ cap'_1 = x0.4) ∧ ((0 : Nat) = (0 : Nat) ∧ (0 : Nat) = (0 : Nat)) ∧ True) ∧ L = L ∧ (b = x0.1 ∧ (0 : Nat) = (0 : Nat) ∧ (32 : Nat) = (32 : Nat) ∧ List.replicate (32 : Nat) (0 : Int) = List.replicate (32 : Nat) (0 : Int) ∧ True) ∧ (b_4 = x0.2 ∧ base = x0.3 ∧ cap'_1 = x0.4 ∧ List.take (List.length (List.flatten x.5) + (1 : Nat))
  (List.take (List.length (List.flatten x.5)) xs ++ [(128 : Int)] ++ sp) ++ List.replicate (Int.toNat (Int.tmod (IntKind.wrap IntKind.i64 ((120 : Int) - Int.tmod (↑(List.length (List.flatten x.5) + (1 : Nat)) : Int) (64 : Int))) (64 : Int))) (0 : Int) ++ sp_1 = x0.8 ∧ True) ∧ True) ∧ P6 x0) ∧ ∀ (x : HsX), P6 x → ((0 : Int) ≤ (56 : Int) - (8 : Int) * (↑x.6 : Int) → (0 : Int) ≤ (56 : Int) - (8 : Int) * (↑x.6 : Int) ∧ ∀ (b : Nat), Value.oneCell' (Value.int IntKind.u8 (IntKind.wrap IntKind.u8 (Int.fdiv x.7 ((2 : Int) ^ Min.min (Int.toNat ((56 : Int) - (8 : Int) * (↑x.6 : Int))) (64 : Nat))))) =
  Bool.true ∧ (x.5 ≤ x.4 ∧ (0 : Nat) + x.4 ≤ x.4) ∧ (0 : Nat) + x.5 ≤ x.4 ∧ (x.5 + (1 : Nat)) * (1 : Nat) ≤ (140737488355328 : Nat) ∧ ∀ (b base cap' : Nat), x.5 + (1 : Nat) ≤ cap' → (x.5 + (1 : Nat) ≤ x.4 → cap' = x.4) → ∀ (sp : List Int), List.length sp = cap' - (x.5 + (1 : Nat)) → ∃ (y : HsX), (8 : Nat) - y.6 < (8 : Nat) - x.6 ∧ ((IntKind.wrap IntKind.i64 ((56 : Int) - (8 : Int) * (↑x.6 : Int) - (8 : Int)) = (56 : Int) - (8 : Int) * (↑y.6 : Int) ∧ x.7 = y.7 ∧ ((0 : Nat) = (0 : Nat) ∧ x.5 + (1 : Nat) = y.5 ∧ cap' = y.4) ∧ ((0 : Nat) = (0 : Nat) ∧ (0 : Nat) = (0 : Nat)) ∧ True) ∧ L = L ∧
  (x.1 = y.1 ∧ (0 : Nat) = (0 : Nat) ∧ (32 : Nat) = (32 : Nat) ∧ List.replicate (32 : Nat) (0 : Int) = List.replicate (32 : Nat) (0 : Int) ∧ True) ∧ (b = y.2 ∧ base = y.3 ∧ cap' = y.4 ∧ List.take x.5 x.8 ++ [IntKind.wrap IntKind.u8 (Int.fdiv x.7 ((2 : Int) ^ Min.min (Int.toNat ((56 : Int) - (8 : Int) * (↑x.6 : Int))) (64 : Nat)))] ++ sp = y.8 ∧ True) ∧ True) ∧ P6 y) ∧ (¬(0 : Int) ≤ (56 : Int) - (8 : Int) * (↑x.6 : Int) → ∀ (b : Nat), ((8 : Nat) = (8 : Nat) ∧ (8 : Nat) ≤ (8 : Nat)) ∧ ∀ (b_5 b_6 : Nat), ((64 : Int) < (1 : Int) → False) ∧ (¬(64 : Int) < (1 : Int) →
  ∀ (rb b_7 : Nat) (O : Go.LoopState → Go.Obj), ∃ (x0 : HsX), ((((0 : Int) = (64 : Int) * (↑x0.6 : Int) ∧ Value.func (Go.Fn.yield b_7) #[] #[] = Value.func (Go.Fn.yield b_7) #[] #[] ∧ ((0 : Nat) = (0 : Nat) ∧ (0 : Nat) = (0 : Nat)) ∧ ((0 : Nat) = (0 : Nat) ∧ (0 : Nat) = (0 : Nat)) ∧ True) ∧ L = L ∧ (x.1 = x.1 ∧ (0 : Nat) = (0 : Nat) ∧ (32 : Nat) = (32 : Nat) ∧ List.replicate (32 : Nat) (0 : Int) = List.replicate (32 : Nat) (0 : Int) ∧ True) ∧ (x.2 = x.2 ∧ x.3 = x.3 ∧ x.4 = x.4 ∧ x.8 = x.8 ∧ True) ∧ (b = b ∧ (0 : Nat) = (0 : Nat) ∧ (8 : Nat) = (8 : Nat) ∧
  List.take (0 : Nat) (List.replicate (8 : Nat) (0 : Int)) ++ [(1779033703 : Int), (3144134277 : Int), (1013904242 : Int), (2773480762 : Int), (1359893119 : Int), (2600822924 : Int), (528734635 : Int), (1541459225 : Int)] ++ List.drop (8 : Nat) (List.replicate (8 : Nat) (0 : Int)) = x0.8 ∧ True) ∧ (b_5 = b_5 ∧ ((0 : Nat) = (0 : Nat) ∧ x.5 = x.5 ∧ x.4 = x.4) ∧ True) ∧ (b_6 = b_6 ∧ (64 : Int) = (64 : Int) ∧ True) ∧ (rb = rb ∧ Go.Obj.deferred (Option.some []) = Go.Obj.deferred (Option.some [])) ∧ (b_7 = b_7 ∧ O Go.LoopState.ready = O Go.LoopState.ready) ∧ True) ∧ P x0.6 x0.8) ∧ ∀ (x_1 : HsX),
  P x_1.6 x_1.8 → ((64 : Int) * (↑x_1.6 : Int) < (↑x.5 : Int) → ((0 : Int) ≤ (64 : Int) * (↑x_1.6 : Int) ∧ (64 : Int) * (↑x_1.6 : Int) ≤ (↑x.5 : Int)) ∧ ((0 : Int) ≤ IntKind.wrap IntKind.i64 ((64 : Int) * (↑x_1.6 : Int) + Min.min (64 : Int) (↑(x.5 - Int.toNat ((64 : Int) * (↑x_1.6 : Int))) : Int)) ∧ IntKind.wrap IntKind.i64 ((64 : Int) * (↑x_1.6 : Int) + Min.min (64 : Int) (↑(x.5 - Int.toNat ((64 : Int) * (↑x_1.6 : Int))) : Int)) ≤ (↑x.4 : Int)) ∧ ((0 : Int) ≤ IntKind.wrap IntKind.i64 ((64 : Int) * (↑x_1.6 : Int) + Min.min (64 : Int) (↑(x.5 - Int.toNat ((64 : Int) * (↑x_1.6 : Int))) : Int)) ∧
  IntKind.wrap IntKind.i64 ((64 : Int) * (↑x_1.6 : Int) + Min.min (64 : Int) (↑(x.5 - Int.toNat ((64 : Int) * (↑x_1.6 : Int))) : Int)) ≤ (↑(Int.toNat (IntKind.wrap IntKind.i64 ((64 : Int) * (↑x_1.6 : Int) + Min.min (64 : Int) (↑(x.5 - Int.toNat ((64 : Int) * (↑x_1.6 : Int))) : Int)))) : Int)) ∧ ((0 : Int) ≤ (64 : Int) * (↑x_1.6 : Int) ∧ (64 : Int) * (↑x_1.6 : Int) ≤ (↑(Int.toNat (IntKind.wrap IntKind.i64 ((64 : Int) * (↑x_1.6 : Int) + Min.min (64 : Int) (↑(x.5 - Int.toNat ((64 : Int) * (↑x_1.6 : Int))) : Int)))) : Int)) ∧ (b_7 = b_7 ∧ b_7 = b_7 ∧ O Go.LoopState.ready = O Go.LoopState.ready) ∧
  (b_7 = b_7 ∧ O Go.LoopState.ready = O Go.LoopState.ready) ∧ (Int.toNat (IntKind.wrap IntKind.i64 ((64 : Int) * (↑x_1.6 : Int) + Min.min (64 : Int) (↑(x.5 - Int.toNat ((64 : Int) * (↑x_1.6 : Int))) : Int))) - Int.toNat ((64 : Int) * (↑x_1.6 : Int)) = (64 : Nat) ∧ (if Int.toNat (IntKind.wrap IntKind.i64 ((64 : Int) * (↑x_1.6 : Int) + Min.min (64 : Int) (↑(x.5 - Int.toNat ((64 : Int) * (↑x_1.6 : Int))) : Int))) = Int.toNat ((64 : Int) * (↑x_1.6 : Int)) then (0 : Nat) else (0 : Nat) + Int.toNat ((64 : Int) * (↑x_1.6 : Int))) + (64 : Nat) ≤ x.4) ∧
  (b_7 = b_7 ∧ O Go.LoopState.busy = O Go.LoopState.busy) ∧ ∃ (y : HsX), m - y.6 < m - x_1.6 ∧ ((IntKind.wrap IntKind.i64 ((64 : Int) * (↑x_1.6 : Int) + (64 : Int)) = (64 : Int) * (↑y.6 : Int) ∧ Value.func (Go.Fn.yield b_7) #[] #[] = Value.func (Go.Fn.yield b_7) #[] #[] ∧ ((0 : Nat) = (0 : Nat) ∧ (0 : Nat) = (0 : Nat)) ∧ ((0 : Nat) = (0 : Nat) ∧ (0 : Nat) = (0 : Nat)) ∧ True) ∧ L = L ∧ (x.1 = x.1 ∧ (0 : Nat) = (0 : Nat) ∧ (32 : Nat) = (32 : Nat) ∧ List.replicate (32 : Nat) (0 : Int) = List.replicate (32 : Nat) (0 : Int) ∧ True) ∧ (x.2 = x.2 ∧ x.3 = x.3 ∧ x.4 = x.4 ∧ x.8 = x.8 ∧ True) ∧
  (b = b ∧ (0 : Nat) = (0 : Nat) ∧ (8 : Nat) = (8 : Nat) ∧ blockF x_1.8 (List.take (64 : Nat) (List.drop (if Int.toNat (IntKind.wrap IntKind.i64 ((64 : Int) * (↑x_1.6 : Int) + Min.min (64 : Int) (↑(x.5 - Int.toNat ((64 : Int) * (↑x_1.6 : Int))) : Int))) = Int.toNat ((64 : Int) * (↑x_1.6 : Int)) then (0 : Nat) else (0 : Nat) + Int.toNat ((64 : Int) * (↑x_1.6 : Int))) x.8)) = y.8 ∧ True) ∧ (b_5 = b_5 ∧ ((0 : Nat) = (0 : Nat) ∧ x.5 = x.5 ∧ x.4 = x.4) ∧ True) ∧ (b_6 = b_6 ∧ (64 : Int) = (64 : Int) ∧ True) ∧ (rb = rb ∧ Go.Obj.deferred (Option.some []) = Go.Obj.deferred (Option.some [])) ∧
  (b_7 = b_7 ∧ O Go.LoopState.ready = O Go.LoopState.ready) ∧ True) ∧ P y.6 y.8) ∧ (¬(64 : Int) * (↑x_1.6 : Int) < (↑x.5 : Int) → (b_7 = b_7 ∧ O Go.LoopState.ready = O Go.LoopState.ready) ∧ ∀ (b_8 : Nat), (8 : Nat) ≤ (8 : Nat) ∧ ∃ (x0 : HsX), ((((0 : Int) = (↑x0.6 : Int) ∧ ((0 : Nat) = (0 : Nat) ∧ (0 : Nat) = (0 : Nat)) ∧ ((0 : Nat) = (0 : Nat) ∧ (0 : Nat) = (0 : Nat)) ∧ List.take (8 : Nat) x_1.8 = List.take (8 : Nat) x_1.8 ∧ True) ∧ L = L ∧ (x.1 = x.1 ∧ (0 : Nat) = (0 : Nat) ∧ (32 : Nat) = (32 : Nat) ∧ List.replicate (32 : Nat) (0 : Int) = List.replicate (32 : Nat) (0 : Int) ∧ True) ∧
  (x.2 = x.2 ∧ x.3 = x.3 ∧ x.4 = x.4 ∧ x.8 = x.8 ∧ True) ∧ (b = b ∧ (0 : Nat) = (0 : Nat) ∧ (8 : Nat) = (8 : Nat) ∧ x_1.8 = x_1.8 ∧ True) ∧ (b_5 = b_5 ∧ ((0 : Nat) = (0 : Nat) ∧ x.5 = x.5 ∧ x.4 = x.4) ∧ True) ∧ (b_6 = b_6 ∧ (64 : Int) = (64 : Int) ∧ True) ∧ (rb = rb ∧ Go.Obj.deferred (Option.some []) = Go.Obj.deferred (Option.some [])) ∧ (b_7 = b_7 ∧ O Go.LoopState.exhausted = O Go.LoopState.exhausted) ∧ (b_8 = b_8 ∧ (0 : Nat) = (0 : Nat) ∧ (32 : Nat) = (32 : Nat) ∧ List.replicate (32 : Nat) (0 : Int) = x0.8 ∧ True) ∧ True) ∧ P15 x0.6 x0.8) ∧ ∀ (x_2 : HsX), P15 x_2.6 x_2.8 →
  ((↑x_2.6 : Int) < (8 : Int) → List.length (List.take (8 : Nat) x_1.8) = (8 : Nat) ∧ ((0 : Int) ≤ (↑x_2.6 : Int) ∧ (↑x_2.6 : Int) < (↑(8 : Nat) : Int)) ∧ ∃ (x0 : HsX), ((((0 : Int) = (↑x0.6 : Int) ∧ ((0 : Nat) = (0 : Nat) ∧ (0 : Nat) = (0 : Nat)) ∧ ((0 : Nat) = (0 : Nat) ∧ (0 : Nat) = (0 : Nat)) ∧ (↑x_2.6 : Int) = (↑x_2.6 : Int) ∧ List.getD (List.take (8 : Nat) x_1.8) x_2.6 (0 : Int) = List.getD (List.take (8 : Nat) x_1.8) x_2.6 (0 : Int) ∧ List.take (8 : Nat) x_1.8 = List.take (8 : Nat) x_1.8 ∧ (↑x_2.6 : Int) = (↑x_2.6 : Int) ∧ True) ∧ L = L ∧ (x.1 = x.1 ∧ (0 : Nat) = (0 : Nat) ∧
  (32 : Nat) = (32 : Nat) ∧ List.replicate (32 : Nat) (0 : Int) = List.replicate (32 : Nat) (0 : Int) ∧ True) ∧ (x.2 = x.2 ∧ x.3 = x.3 ∧ x.4 = x.4 ∧ x.8 = x.8 ∧ True) ∧ (b = b ∧ (0 : Nat) = (0 : Nat) ∧ (8 : Nat) = (8 : Nat) ∧ x_1.8 = x_1.8 ∧ True) ∧ (b_5 = b_5 ∧ ((0 : Nat) = (0 : Nat) ∧ x.5 = x.5 ∧ x.4 = x.4) ∧ True) ∧ (b_6 = b_6 ∧ (64 : Int) = (64 : Int) ∧ True) ∧ (rb = rb ∧ Go.Obj.deferred (Option.some []) = Go.Obj.deferred (Option.some [])) ∧ (b_7 = b_7 ∧ O Go.LoopState.exhausted = O Go.LoopState.exhausted) ∧ (b_8 = b_8 ∧ (0 : Nat) = (0 : Nat) ∧
  (32 : Nat) = (32 : Nat) ∧ x_2.8 = x0.8 ∧ True) ∧ True) ∧ P18 x0.5 x0.6 x0.8) ∧ ∀ (x_3 : HsX), P18 x0.5 x_3.6 x_3.8 → ((↑x_3.6 : Int) < (4 : Int) → (0 : Int) ≤ IntKind.wrap IntKind.i64 ((24 : Int) - IntKind.wrap IntKind.i64 ((8 : Int) * (↑x_3.6 : Int))) ∧ ((0 : Int) ≤ IntKind.wrap IntKind.i64 (IntKind.wrap IntKind.i64 ((4 : Int) * (↑x_2.6 : Int)) + (↑x_3.6 : Int)) ∧ IntKind.wrap IntKind.i64 (IntKind.wrap IntKind.i64 ((4 : Int) * (↑x_2.6 : Int)) + (↑x_3.6 : Int)) < (↑(32 : Nat) : Int)) ∧ (0 : Nat) + Int.toNat (IntKind.wrap IntKind.i64 (IntKind.wrap IntKind.i64 ((4 : Int) * (↑x_2.6 : Int)) +
  (↑x_3.6 : Int))) < (32 : Nat) ∧ ∃ (y : HsX), (4 : Nat) - y.6 < (4 : Nat) - x_3.6 ∧ ((IntKind.wrap IntKind.i64 ((↑x_3.6 : Int) + (1 : Int)) = (↑y.6 : Int) ∧ ((0 : Nat) = (0 : Nat) ∧ (0 : Nat) = (0 : Nat)) ∧ ((0 : Nat) = (0 : Nat) ∧ (0 : Nat) = (0 : Nat)) ∧ (↑x_2.6 : Int) = (↑x_2.6 : Int) ∧ List.getD (List.take (8 : Nat) x_1.8) x_2.6 (0 : Int) = List.getD (List.take (8 : Nat) x_1.8) x_2.6 (0 : Int) ∧ List.take (8 : Nat) x_1.8 = List.take (8 : Nat) x_1.8 ∧ (↑x_2.6 : Int) = (↑x_2.6 : Int) ∧ True) ∧ L = L ∧ (x.1 = x.1 ∧ (0 : Nat) = (0 : Nat) ∧ (32 : Nat) = (32 : Nat) ∧
  List.replicate (32 : Nat) (0 : Int) = List.replicate (32 : Nat) (0 : Int) ∧ True) ∧ (x.2 = x.2 ∧ x.3 = x.3 ∧ x.4 = x.4 ∧ x.8 = x.8 ∧ True) ∧ (b = b ∧ (0 : Nat) = (0 : Nat) ∧ (8 : Nat) = (8 : Nat) ∧ x_1.8 = x_1.8 ∧ True) ∧ (b_5 = b_5 ∧ ((0 : Nat) = (0 : Nat) ∧ x.5 = x.5 ∧ x.4 = x.4) ∧ True) ∧ (b_6 = b_6 ∧ (64 : Int) = (64 : Int) ∧ True) ∧ (rb = rb ∧ Go.Obj.deferred (Option.some []) = Go.Obj.deferred (Option.some [])) ∧ (b_7 = b_7 ∧ O Go.LoopState.exhausted = O Go.LoopState.exhausted) ∧ (b_8 = b_8 ∧ (0 : Nat) = (0 : Nat) ∧ (32 : Nat) = (32 : Nat) ∧ List.set x_3.8 ((0 : Nat) + Int.toNat
  (IntKind.wrap IntKind.i64 (IntKind.wrap IntKind.i64 ((4 : Int) * (↑x_2.6 : Int)) + (↑x_3.6 : Int)))) (IntKind.wrap IntKind.u8 (Int.fdiv (List.getD (List.take (8 : Nat) x_1.8) x_2.6 (0 : Int)) ((2 : Int) ^ Min.min (Int.toNat (IntKind.wrap IntKind.i64 ((24 : Int) - IntKind.wrap IntKind.i64 ((8 : Int) * (↑x_3.6 : Int))))) (32 : Nat)))) = y.8 ∧ True) ∧ True) ∧ P18 x0.5 y.6 y.8) ∧ (¬(↑x_3.6 : Int) < (4 : Int) → ∃ (y : HsX), (8 : Nat) - y.6 < (8 : Nat) - x_2.6 ∧ ((IntKind.wrap IntKind.i64 ((↑x_2.6 : Int) + (1 : Int)) = (↑y.6 : Int) ∧ ((0 : Nat) = (0 : Nat) ∧ (0 : Nat) = (0 : Nat)) ∧
  ((0 : Nat) = (0 : Nat) ∧ (0 : Nat) = (0 : Nat)) ∧ List.take (8 : Nat) x_1.8 = List.take (8 : Nat) x_1.8 ∧ True) ∧ L = L ∧ (x.1 = x.1 ∧ (0 : Nat) = (0 : Nat) ∧ (32 : Nat) = (32 : Nat) ∧ List.replicate (32 : Nat) (0 : Int) = List.replicate (32 : Nat) (0 : Int) ∧ True) ∧ (x.2 = x.2 ∧ x.3 = x.3 ∧ x.4 = x.4 ∧ x.8 = x.8 ∧ True) ∧ (b = b ∧ (0 : Nat) = (0 : Nat) ∧ (8 : Nat) = (8 : Nat) ∧ x_1.8 = x_1.8 ∧ True) ∧ (b_5 = b_5 ∧ ((0 : Nat) = (0 : Nat) ∧ x.5 = x.5 ∧ x.4 = x.4) ∧ True) ∧ (b_6 = b_6 ∧ (64 : Int) = (64 : Int) ∧ True) ∧ (rb = rb ∧ Go.Obj.deferred (Option.some []) =
  Go.Obj.deferred (Option.some [])) ∧ (b_7 = b_7 ∧ O Go.LoopState.exhausted = O Go.LoopState.exhausted) ∧ (b_8 = b_8 ∧ (0 : Nat) = (0 : Nat) ∧ (32 : Nat) = (32 : Nat) ∧ x_3.8 = y.8 ∧ True) ∧ True) ∧ P15 y.6 y.8)) ∧ (¬(↑x_2.6 : Int) < (8 : Int) → (32 : Nat) ≤ (32 : Nat) ∧ (List.length (List.take (32 : Nat) x_2.8) = (32 : Nat) ∧ (0 : Nat) + List.length (List.take (32 : Nat) x_2.8) ≤ (32 : Nat)) ∧ (rb = rb ∧ Go.Obj.deferred (Option.some []) = Go.Obj.deferred (Option.some [])) ∧ (32 : Nat) ≤ (32 : Nat) ∧ R (Value.agg (List.toArray (List.map (Value.int IntKind.u8) (List.take (32 : Nat)
  (List.take (0 : Nat) (List.replicate (32 : Nat) (0 : Int)) ++ List.take (32 : Nat) x_2.8 ++ List.drop ((0 : Nat) + List.length (List.take (32 : Nat) x_2.8)) (List.replicate (32 : Nat) (0 : Int))))))) ∧ L = L))))) from by
  subst e6 eP e15 e18
  simp only [eq_self, true_and, and_true, false_and, and_false, or_false, false_or, and_self, Nat.zero_add, Nat.add_zero, Nat.sub_zero, Nat.zero_mul, Nat.mul_one, Int.toNat_natCast, cond_true, cond_false, forall_const, implies_true, Nat.beq_refl, ne_eq, not_false_eq_true, not_true_eq_false, Classical.not_not, List.cons.injEq, List.append_nil, List.nil_append, Go.Value.int.injEq, Go.Value.bool.injEq, Go.Value.slice.injEq, Nat.le_refl, Nat.zero_le, Go.Sx.one_int, Go.Sx.one_bool, Go.Sx.one_slice, Go.Sx.one_ptr, Go.Sx.one_map, Int.cast_ofNat_Int, reduceCtorEq, Nat.reduceLeDiff, Nat.reduceMul, Nat.reduceAdd, Nat.reduceSub, Nat.reduceEqDiff, Int.reduceLE, Int.reduceLT, Int.reduceEq, Int.reduceAdd, Int.reduceSub, Int.reduceNeg, Int.reduceMul, Nat.reduceBEq]
  have hpre := preF_len ps.flatten
  have hpz : pzF ps.flatten.length < 64 := by unfold pzF; omega
  intro b
  refine ⟨⟨pb, px, n, c, ps⟩, ⟨rfl, hp.seen (fun _ _ _ ⟨k, h1, h2⟩ => ⟨k, List.mem_append_left _ h1, h2⟩), hn, hb⟩, fun he => ?_, fun he cap xs r1 r2 r3 => ?_⟩
  · simp only [] at he
    have e55 : (IntKind.wrap .i64 (120 - Int.tmod 1 64)).tmod 64 = 55 := by rw [IntKind.wrap_i64]; rfl
    simp only [e55]
    intro cap' hc sp hs
    refine ⟨by omega, hc, hc, fun b4 base cap2 hd hd2 sp1 hs1 => ⟨⟨b, b4, base, cap2, _, 0, _, _⟩, ⟨⟨⟨by simp, rfl, rfl, rfl⟩, rfl, rfl, rfl, rfl, rfl⟩, ?_⟩, ?_⟩⟩
    · rw [he]
      exact hs6_start [] _ sp1 _ _ _ _ _ rfl hd hs1 (by simp only [wrap_u64a]; rfl)
    ·
      intro x h6
      have h6' := h6
      obtain ⟨p1, p2, p3, p4, p5, p6⟩ := h6'
      refine ⟨fun h0 => ?_, fun h0 => ?_⟩
      · have hi : x.i < 8 := by omega
        refine ⟨h0, p5, p5, by omega, fun b base cap' hc hc2 sp hs => ⟨⟨x.ob, b, base, cap', x.len + 1, x.i + 1, x.z, _⟩, by simp only []; omega, ⟨⟨?_, rfl, rfl, rfl⟩, rfl, rfl, rfl, rfl, rfl⟩, ?_⟩⟩
        · rw [IntKind.wrap_i64]; simp only []; omega
        · exact hs6_step h6 hi hc hs _ _
      · have hi : x.i = 8 := by omega
        rw [hi] at p3 p4
        have hpl : (padF ps.flatten).length = x.len := by rw [padF_len, p3, preF_len]
        have hm : 64 * m = x.len := by rw [em, padF_64, hpl]
        have p4' : x.xs.take x.len = padF ps.flatten := by rw [p4]; rfl
        have hmx : m < 100000 := by omega
        refine ⟨fun h => h, ⟨0, 0, 0, 0, 0, 0, 0, hash0⟩, ⟨⟨by simp, rfl⟩, Nat.zero_le _, (hashS_zero _).symm⟩, fun s ⟨q1, q2⟩ => ⟨fun hlt => ?_, fun hge => ?_⟩⟩
        · have hi2 : s.i < m := by omega
          have w1 : IntKind.wrap .i64 (64 * (s.i : Int) + min 64 ((x.len - 64 * s.i : Nat) : Int)) = ((64 * s.i + 64 : Nat) : Int) := by rw [IntKind.wrap_i64]; omega
          have w2 : IntKind.wrap .i64 (64 * (s.i : Int) + 64) = 64 * ((s.i + 1 : Nat) : Int) := by rw [IntKind.wrap_i64]; omega
          have w3 : (64 * (s.i : Int)).toNat = 64 * s.i := by omega
          have w4 : ¬ (64 * s.i + 64 = 64 * s.i) := by omega
          simp only [w1, w2, w3, Int.toNat_natCast, w4, if_false]
          refine ⟨⟨by omega, by omega⟩, ⟨by omega, by omega⟩, ⟨by omega, by omega⟩, ⟨by omega, by omega⟩, ⟨by omega, by omega⟩, ⟨0, 0, 0, 0, 0, s.i + 1, 0, _⟩, by simp only []; omega, ⟨rfl, rfl⟩, hi2, ?_⟩
          simp only []; rw [q2, win_take p4' (by omega)]; exact (hashS_succ _ _).symm
        · have him : s.i = m := by omega
          have hsl : s.xs.length = 8 := by rw [q2]; exact hashS_len _ _
          have h8 : List.take 8 s.xs = s.xs := by rw [List.take_of_length_le (by omega)]
          rw [him] at q2
          refine ⟨⟨0, 0, 0, 0, 0, 0, 0, _⟩, ⟨⟨rfl, rfl⟩, Nat.zero_le _, rfl⟩, fun u ⟨u1, u2⟩ => ⟨fun hlt => ?_, fun hge => ?_⟩⟩
          · have hu : u.i < 8 := by omega
            refine ⟨by rw [h8]; exact hsl, ⟨by omega, by omega⟩, ⟨0, 0, 0, 0, u.i, 0, 0, u.xs⟩, ⟨⟨rfl, rfl⟩, Nat.zero_le _, u2⟩, fun v ⟨v1, v2⟩ => ⟨fun hlt => ?_, fun hge => ?_⟩⟩
            · have hv : v.i < 4 := by omega
              have w5 : IntKind.wrap .i64 (IntKind.wrap .i64 (4 * (u.i : Int)) + (v.i : Int)) = ((4 * u.i + v.i : Nat) : Int) := hs_w5 hu hv
              have w6 : IntKind.wrap .i64 (24 - IntKind.wrap .i64 (8 * (v.i : Int))) = ((24 - 8 * v.i : Nat) : Int) := hs_w6 hv
              have w7 : IntKind.wrap .i64 ((v.i : Int) + 1) = ((v.i + 1 : Nat) : Int) := hs_w7 (by omega)
              have w8 : min (24 - 8 * v.i) 32 = 24 - 8 * v.i := by omega
              simp only [w5, w6, w7, Int.toNat_natCast, w8, h8]
              refine ⟨by omega, ⟨by omega, by omega⟩, by omega, ⟨0, 0, 0, 0, 0, v.i + 1, 0, _⟩, by simp only []; omega, ⟨rfl, rfl⟩, hv, ?_⟩
              simp only []; rw [v2, q2, outW_step hu hv]
            · have hv : v.i = 4 := by omega
              refine ⟨⟨0, 0, 0, 0, 0, u.i + 1, 0, v.xs⟩, by simp only []; omega, ⟨hs_w7 (by omega), rfl⟩, hu, ?_⟩
              simp only []; rw [v2, hv, show 4 * u.i + 4 = 4 * (u.i + 1) from rfl]
          · have hu : u.i = 8 := by omega
            have hx : u.xs = hashF ps.flatten := by rw [u2, hu, em]; exact outW_end _
            have hl := hashF_len ps.flatten
            have ht : List.take 32 (hashF ps.flatten) = hashF ps.flatten := by rw [List.take_of_length_le (by omega)]
            rw [hx, ht, hl]
            refine ⟨⟨rfl, Nat.le_refl _⟩, ?_⟩
            have hz : List.take 32 (List.take 0 (List.replicate 32 (0 : Int)) ++ hashF ps.flatten ++ List.drop 32 (List.replicate 32 0)) = hashF ps.flatten       := by rw [List.take_zero, List.nil_append, List.take_left' hl]
            rw [hz]
            exact hR
  · simp only [] at he r2 r3 ⊢
    simp only [pad_is _ hb, Int.toNat_natCast]
    refine ⟨r2, r2, by omega, fun cap' hc hc2 sp hs => ⟨⟨by omega, by omega⟩, hc, hc, by omega, fun b4 base cap2 hd hd2 sp1 hs1 => ⟨⟨b, b4, base, cap2, _, 0, _, _⟩, ⟨⟨⟨by simp, rfl, rfl, rfl⟩, rfl, rfl, rfl, rfl, rfl⟩, ?_⟩, ?_⟩⟩⟩
    · refine hs6_start ps.flatten _ sp1 _ _ _ _ _ ?_ hd hs1 (hs_n hb)
      rw [r3]
      have : (ps.flatten ++ [(128 : Int)]).length = ps.flatten.length + 1 := by simp
      rw [← this, List.take_left]
    ·
      intro x h6
      have h6' := h6
      obtain ⟨p1, p2, p3, p4, p5, p6⟩ := h6'
      refine ⟨fun h0 => ?_, fun h0 => ?_⟩
      · have hi : x.i < 8 := by omega
        refine ⟨h0, p5, p5, by omega, fun b base cap' hc hc2 sp hs => ⟨⟨x.ob, b, base, cap', x.len + 1, x.i + 1, x.z, _⟩, by simp only []; omega, ⟨⟨?_, rfl, rfl, rfl⟩, rfl, rfl, rfl, rfl, rfl⟩, ?_⟩⟩
        · rw [IntKind.wrap_i64]; simp only []; omega
        · exact hs6_step h6 hi hc hs _ _
      · have hi : x.i = 8 := by omega
        rw [hi] at p3 p4
        have hpl : (padF ps.flatten).length = x.len := by rw [padF_len, p3, preF_len]
        have hm : 64 * m = x.len := by rw [em, padF_64, hpl]
        have p4' : x.xs.take x.len = padF ps.flatten := by rw [p4]; rfl
        have hmx : m < 100000 := by omega
        refine ⟨fun h => h, ⟨0, 0, 0, 0, 0, 0, 0, hash0⟩, ⟨⟨by simp, rfl⟩, Nat.zero_le _, (hashS_zero _).symm⟩, fun s ⟨q1, q2⟩ => ⟨fun hlt => ?_, fun hge => ?_⟩⟩
        · have hi2 : s.i < m := by omega
          have w1 : IntKind.wrap .i64 (64 * (s.i : Int) + min 64 ((x.len - 64 * s.i : Nat) : Int)) = ((64 * s.i + 64 : Nat) : Int) := by rw [IntKind.wrap_i64]; omega
          have w2 : IntKind.wrap .i64 (64 * (s.i : Int) + 64) = 64 * ((s.i + 1 : Nat) : Int) := by rw [IntKind.wrap_i64]; omega
          have w3 : (64 * (s.i : Int)).toNat = 64 * s.i := by omega
          have w4 : ¬ (64 * s.i + 64 = 64 * s.i) := by omega
          simp only [w1, w2, w3, Int.toNat_natCast, w4, if_false]
          refine ⟨⟨by omega, by omega⟩, ⟨by omega, by omega⟩, ⟨by omega, by omega⟩, ⟨by omega, by omega⟩, ⟨by omega, by omega⟩, ⟨0, 0, 0, 0, 0, s.i + 1, 0, _⟩, by simp only []; omega, ⟨rfl, rfl⟩, hi2, ?_⟩
          simp only []; rw [q2, win_take p4' (by omega)]; exact (hashS_succ _ _).symm
        · have him : s.i = m := by omega
          have hsl : s.xs.length = 8 := by rw [q2]; exact hashS_len _ _
          have h8 : List.take 8 s.xs = s.xs := by rw [List.take_of_length_le (by omega)]
          rw [him] at q2
          refine ⟨⟨0, 0, 0, 0, 0, 0, 0, _⟩, ⟨⟨rfl, rfl⟩, Nat.zero_le _, rfl⟩, fun u ⟨u1, u2⟩ => ⟨fun hlt => ?_, fun hge => ?_⟩⟩
          · have hu : u.i < 8 := by omega
            refine ⟨by rw [h8]; exact hsl, ⟨by omega, by omega⟩, ⟨0, 0, 0, 0, u.i, 0, 0, u.xs⟩, ⟨⟨rfl, rfl⟩, Nat.zero_le _, u2⟩, fun v ⟨v1, v2⟩ => ⟨fun hlt => ?_, fun hge => ?_⟩⟩
            · have hv : v.i < 4 := by omega
              have w5 : IntKind.wrap .i64 (IntKind.wrap .i64 (4 * (u.i : Int)) + (v.i : Int)) = ((4 * u.i + v.i : Nat) : Int) := hs_w5 hu hv
              have w6 : IntKind.wrap .i64 (24 - IntKind.wrap .i64 (8 * (v.i : Int))) = ((24 - 8 * v.i : Nat) : Int) := hs_w6 hv
              have w7 : IntKind.wrap .i64 ((v.i : Int) + 1) = ((v.i + 1 : Nat) : Int) := hs_w7 (by omega)
              have w8 : min (24 - 8 * v.i) 32 = 24 - 8 * v.i := by omega
              simp only [w5, w6, w7, Int.toNat_natCast, w8, h8]
              refine ⟨by omega, ⟨by omega, by omega⟩, by omega, ⟨0, 0, 0, 0, 0, v.i + 1, 0, _⟩, by simp only []; omega, ⟨rfl, rfl⟩, hv, ?_⟩
              simp only []; rw [v2, q2, outW_step hu hv]
            · have hv : v.i = 4 := by omega
              refine ⟨⟨0, 0, 0, 0, 0, u.i + 1, 0, v.xs⟩, by simp only []; omega, ⟨hs_w7 (by omega), rfl⟩, hu, ?_⟩
              simp only []; rw [v2, hv, show 4 * u.i + 4 = 4 * (u.i + 1) from rfl]
          · have hu : u.i = 8 := by omega
            have hx : u.xs = hashF ps.flatten := by rw [u2, hu, em]; exact outW_end _
            have hl := hashF_len ps.flatten
            have ht : List.take 32 (hashF ps.flatten) = hashF ps.flatten := by rw [List.take_of_length_le (by omega)]
            rw [hx, ht, hl]
            refine ⟨⟨rfl, Nat.le_refl _⟩, ?_⟩
            have hz : List.take 32 (List.take 0 (List.replicate 32 (0 : Int)) ++ hashF ps.flatten ++ List.drop 32 (List.replicate 32 0)) = hashF ps.flatten       := by rw [List.take_zero, List.nil_append, List.take_left' hl]
            rw [hz]
            exact hR
    )
end Go.Proofs.Ytpjikjhaljennaa
