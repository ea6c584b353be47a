/- Queues: the law SchedFair. -/
import Derived.Test.YthkcfocoekonjaaScK
set_option maxRecDepth 100000
set_option linter.unusedVariables false
set_option linter.unusedSimpArgs false
namespace Go.Proofs.Ythkcfocoekonjaa
open Go Go.Sx
attribute [local irreducible] Go.Sx.xrun

def Ann.setZ : List Ent → Nat → List Int → List Ent
  | .own b (.tab t base len [.ints k _]) :: r, 0, zs => .own b (.tab t base len [.ints k zs]) :: r
  | x :: r, n + 1, zs => x :: Ann.setZ r n zs
  | l, _, _ => l
structure FaX where
  b : Nat
  s : Int
  i : Nat
  last : Int
  k : Int
  m : Nat
  zs : List Int
  L : Blks
def FiPre (_ : Unit) (vs : List Value) (L : Blks) : Prop := vs = [] ∧ L = []
def FiPost (_ : Unit) (_ : Unit) (_ : Blks) : Prop := True
noncomputable def firstT : Trans := chunkR (X := Unit) (A := Unit) (fun _ => .tt) FiPre FiPost
noncomputable def Ann.fa (n : Nat) (P1 : Nat → Nat → List Int → Blks → Prop) (P2 : Nat → Nat → Int → List Int → Blks → Prop) (P3 : Int → List Int → Int → Nat → Prop) : FnAnn := ⟨[],
  [(7, ⟨FaX, [(fun σ y => ⟨σ.n, (21, .val (.int .i64 y.i)) :: (3, .val (.pointer (some ⟨y.b, 0, none⟩))) :: keepE σ.env [0, 4, 5, 20], Ann.setZ (Ann.setE σ.heap 1 (.chunk y.L)) 2 y.zs⟩, fun _ y => P1 y.b y.i y.zs y.L)], fun y => n - y.i⟩),
   (15, ⟨FaX, [(fun σ y => ⟨σ.n, (46, .val (.int .i64 y.i)) :: (7, .val (.int .i64 y.last)) :: (3, .val (.pointer (some ⟨y.b, 0, none⟩))) :: keepE σ.env [0, 4, 5], Ann.setZ (Ann.setE σ.heap 1 (.chunk y.L)) 2 y.zs⟩, fun _ y => P2 y.b y.i y.last y.zs y.L)], fun y => 30000 - y.i⟩),
   (20, ⟨FaX, [(fun σ y => ⟨σ.n, (13, .val (.int .i64 y.k)) :: (12, .val (.int .i64 y.s)) :: keepE σ.env [0, 3, 4, 5, 7, 8, 9, 10, 11, 46], Ann.setZ σ.heap 2 y.zs⟩, fun x0 y => (y.s = x0.s ∧ y.zs = x0.zs) ∧ P3 y.s y.zs y.k y.m)], fun y => y.m⟩)]⟩
noncomputable def faGoal (b : Nat) (t : TypeId) (off len cap n : Nat) (zs : List Int) (P1 : Nat → Nat → List Int → Blks → Prop) (P2 : Nat → Nat → Int → List Int → Blks → Prop) (P3 : Int → List Int → Int → Nat → Prop) (R : Prop → Prop) : Prop :=
  xrun Go.Proofs.Try.prog [(14, firstT), (15, newnT), (16, pushnT), (17, nextnT), (18, allnT)] [(3, Ann.fa n P1 P2 P3)] [([], (15, false))] 9 [] 3
    [.slc 0 0 len cap] [.ro b (.tab t off cap [.ints .u16 zs]), .chunk []] fun s _ => bOf s R
noncomputable def faNilGoal (o : Option Addr) (cap n : Nat) (P1 : Nat → Nat → List Int → Blks → Prop) (P2 : Nat → Nat → Int → List Int → Blks → Prop) (P3 : Int → List Int → Int → Nat → Prop) (R : Prop → Prop) : Prop :=
  xrun Go.Proofs.Try.prog [(14, firstT), (15, newnT), (16, pushnT), (17, nextnT), (18, allnT)] [(3, Ann.fa n P1 P2 P3)] [([], (15, false))] 9 [] 3
    [.val (.slice o 0 cap)] [.gone (0, 0, 0), .chunk []] fun s _ => bOf s R

def sz (zs : List Int) (j : Nat) : Nat := 1 + ((zs.getD j 0).tmod 2000).toNat
def faM (j : Nat) : Msg := ⟨j, 0, 0, j, false, 0, 0⟩
def faQ (zs : List Int) (i : Nat) : SQ := ⟨true, false, (List.range i).map (fun (j : Nat) => ((j : Int), [(faM j).item (List.replicate (sz zs j) 0)])), fun _ => none, ((List.range i).map fun j => (sz zs j : Int)).sum⟩
def faP1 (zs : List Int) (n b i : Nat) (xs : List Int) (L : Blks) : Prop := i ≤ n ∧ xs = (List.range i).map (fun j => (sz zs j : Int)) ++ List.replicate (12 - i) 0 ∧ SQAt (faQ zs i) b L
def faP2 (n b i : Nat) (last : Int) (xs : List Int) (L : Blks) : Prop := i ≤ 30000 ∧ ∃ q, SQAt q b L ∧ FairI n q xs last ∧ q.all + i ≤ 24000
def faP3 (n : Nat) (s : Int) (xs : List Int) (k : Int) (m : Nat) : Prop := ∃ s' : Nat, s = (s' : Int) ∧ 0 ≤ k ∧ k < n ∧ n ≤ 12 ∧ s' = (k.toNat + m) % n ∧ ∀ j, j < m → xs.getD ((k.toNat + j) % n) 0 ≤ 0
theorem sz_le (zs : List Int) (j : Nat) : 1 ≤ sz zs j ∧ sz zs j ≤ 2000 := by
  unfold sz
  have := Int.tmod_lt_of_pos (zs.getD j 0) (show (0 : Int) < 2000 by omega)
  omega
theorem sum_le (zs : List Int) : ∀ i, 0 ≤ (faQ zs i).all ∧ (faQ zs i).all ≤ 2000 * i := by
  intro i
  induction i with
  | zero => simp [faQ]
  | succ i ih =>
    have h := sz_le zs i
    simp only [faQ, List.range_succ, List.map_append, List.map_cons, List.map_nil, List.sum_append, List.sum_cons, List.sum_nil] at ih ⊢
    omega
theorem faQ_small (zs : List Int) {i : Nat} (h : i ≤ 12) : (faQ zs i).small := ⟨by simp [faQ]; omega, fun l hl => by
  simp only [faQ, List.mem_map] at hl
  obtain ⟨j, -, rfl⟩ := hl
  simp⟩
theorem faQ_succ (zs : List Int) (i : Nat) : faQ zs (i + 1) = { faQ zs i with lines := (faQ zs i).lines ++ [((faM i).stream, [(faM i).item (List.replicate (sz zs i) 0)])], all := (faQ zs i).all + (List.replicate (sz zs i) (0 : Int)).length } := by
  simp only [faQ, List.range_succ, List.map_append, List.map_cons, List.map_nil, List.sum_append, List.sum_cons, List.sum_nil, List.length_replicate, faM, Int.add_zero]
theorem fa_push {zs : List Int} {i : Nat} {code : Int} {q' : SQ} (hi : i < 12) (h : PushP (faQ zs i) (faM i) (List.replicate (sz zs i) 0) code q') : code = 0 ∧ q' = faQ zs (i + 1) := by
  rw [faQ_succ]
  have h1 := sz_le zs i
  have h2 := sum_le zs i
  refine pushP_new h ⟨by simp; omega, by simp; omega, by rw [List.length_replicate]; omega⟩ ?_
  simp only [faQ, faM, List.map_map, List.mem_map, List.mem_range, Function.comp, not_exists, not_and]
  omega
theorem set_step (zs : List Int) {i : Nat} (hi : i < 12) : ((List.range i).map (fun j => (sz zs j : Int)) ++ List.replicate (12 - i) 0).set i (sz zs i : Int) = (List.range (i + 1)).map (fun j => (sz zs j : Int)) ++ List.replicate (12 - (i + 1)) 0 := by
  obtain ⟨k, hk⟩ : ∃ k, 12 - i = k + 1 := ⟨11 - i, by omega⟩
  rw [List.set_append_right _ _ (by simp), hk, show 12 - (i + 1) = k by omega, List.range_succ]
  simp [List.replicate_succ]
theorem fa_val {zs : List Int} (hz : ∀ z ∈ zs, (0 : Int) ≤ z ∧ z < 65536) (i : Nat) : IntKind.wrap .i64 (1 + IntKind.wrap .i64 ((zs.getD i 0).tmod 2000)) = (sz zs i : Int) := by
  have h0 : 0 ≤ zs.getD i 0 := by
    rw [List.getD_eq_getElem?_getD]
    cases h : zs[i]? with
    | none => simp
    | some z => exact (hz z (List.mem_of_getElem? h)).1
  have h1 := Int.tmod_lt_of_pos (zs.getD i 0) (show (0 : Int) < 2000 by omega)
  have h2 := Int.tmod_nonneg (2000 : Int) h0
  have h3 : IntKind.wrap .i64 ((zs.getD i 0).tmod 2000) = (zs.getD i 0).tmod 2000 := by rw [IntKind.wrap_i64]; omega
  rw [h3, IntKind.wrap_i64]
  unfold sz
  omega
theorem fa_start (zs : List Int) {n : Nat} (hn : n ≤ 12) : FairI n (faQ zs n) ((List.range n).map (fun j => (sz zs j : Int)) ++ List.replicate (12 - n) 0) (-1) := by
  refine ⟨rfl, hn, by simp; omega, by omega, .inr rfl, (List.range n).map fun j => (j, (faM j).item (List.replicate (sz zs j) 0)), by simp [faQ, Function.comp], ?_, ?_, by
    rw [List.map_map]
    exact congrArg List.sum (List.map_congr_left fun j _ => by simp [Msg.item])⟩
  · have hget : ∀ j, j < n → ((List.range n).map (fun j => (sz zs j : Int)) ++ List.replicate (12 - n) 0).getD j 0 = (sz zs j : Int) := fun j hj => by
      rw [List.getD_eq_getElem?_getD, List.getElem?_append_left (by simpa using hj), List.getElem?_map, List.getElem?_range hj]; rfl
    have hc : cyc n ((-1 : Int) + 1).toNat = List.range n := by
      unfold cyc
      conv => rhs; rw [← List.map_id (List.range n)]
      refine List.map_congr_left fun t ht => ?_
      have := List.mem_range.1 ht
      show (0 + t) % n = t
      rw [Nat.zero_add, Nat.mod_eq_of_lt this]
    rw [hc, List.filter_eq_self.2 fun j hj => ?_]
    · rw [List.map_map]
      exact (List.map_congr_left fun j _ => rfl).trans (List.map_id _)
    · rw [hget j (List.mem_range.1 hj)]
      have := sz_le zs j
      simp; omega
  · intro p hp
    obtain ⟨j, hj, rfl⟩ := List.mem_map.1 hp
    have hj := List.mem_range.1 hj
    rw [List.getD_eq_getElem?_getD, List.getElem?_append_left (by simpa using hj), List.getElem?_map, List.getElem?_range hj]
    simp [Msg.item]

theorem fa_first {n : Nat} {last : Int} {s : Nat} {pre post : List Nat} {xs : List Int} (hn : n ≤ 12) (hl : -1 ≤ last ∧ (last < n ∨ last = -1)) (hs : s < n) (h : cyc n (last + 1).toNat = pre ++ s :: post) (hp : ∀ k ∈ pre, xs.getD k 0 ≤ 0) :
    faP3 n s xs ((last + 1).tmod n) pre.length := by
  obtain ⟨c1, c2, c3, c4⟩ := cyc_split h
  obtain ⟨j, hj⟩ : ∃ j : Nat, last + 1 = j := ⟨(last + 1).toNat, by omega⟩
  rw [hj] at c2 c3 ⊢
  rw [Int.toNat_natCast] at c2 c3
  have e : ((j : Int).tmod n) = ((j % n : Nat) : Int) := by rw [Int.tmod_eq_emod_of_nonneg (by omega)]; rfl
  rw [e]
  have hlt : j % n < n := Nat.mod_lt _ (by omega)
  refine ⟨s, rfl, by omega, by omega, hn, ?_, fun u hu => ?_⟩
  · rw [Int.toNat_natCast, Nat.mod_add_mod]; exact c2
  · rw [Int.toNat_natCast, Nat.mod_add_mod]
    exact hp _ (List.mem_of_getElem? (c3 u hu))
theorem fa_walk {n : Nat} {s : Int} {xs : List Int} {k : Int} {m : Nat} (h : faP3 n s xs k m) (hk : k ≠ s) : 0 < m ∧ (0 ≤ k ∧ k < 12) ∧ xs.getD k.toNat 0 ≤ 0 ∧ n ≠ 0 ∧ faP3 n s xs ((k + 1).tmod n) (m - 1) := by
  obtain ⟨s', rfl, h1, h2, h3, h4, h5⟩ := h
  obtain ⟨j, rfl⟩ : ∃ j : Nat, k = j := ⟨k.toNat, by omega⟩
  rw [Int.toNat_natCast] at *
  have hm : 0 < m := by
    rcases Nat.eq_zero_or_pos m with rfl | h
    · rw [Nat.add_zero, Nat.mod_eq_of_lt (by omega)] at h4; omega
    · exact h
  have e : (((j : Int) + 1).tmod n) = (((j + 1) % n : Nat) : Int) := by rw [Int.tmod_eq_emod_of_nonneg (by omega)]; rfl
  refine ⟨hm, by omega, ?_, by omega, s', rfl, by rw [e]; omega, by rw [e]; exact Int.ofNat_lt.2 (Nat.mod_lt _ (by omega)), h3, ?_, fun u hu => ?_⟩
  · have := h5 0 hm
    rwa [Nat.add_zero, Nat.mod_eq_of_lt (by omega)] at this
  · rw [e, Int.toNat_natCast, Nat.mod_add_mod, h4]; congr 1; omega
  · rw [e, Int.toNat_natCast, Nat.mod_add_mod]
    have := h5 (u + 1) (by omega)
    rwa [show j + 1 + u = j + (u + 1) by omega]

theorem nextF_len (q : SQ) : (nextF q 100).1.body.length ≤ 100 := by
  unfold nextF
  split
  · split
    · simp [chZ]
    · simp only [List.length_take]
      have : (100 : Int).toNat = 100 := rfl
      omega
  · simp [chZ]
theorem fa_u16 {i : Nat} (h : i < 12) : IntKind.wrap .u16 (i : Int) = i := by
  rcases i with _ | _ | _ | _ | _ | _ | _ | _ | _ | _ | _ | _ | i <;> first | rfl | omega
theorem winNil_len {l : List Int} {s : Sl} {L : Blks} (h : WinNil 5 .u8 l (.slice s.o s.l s.c) L) : s.l = l.length := by
  rcases h with ⟨rfl, e⟩ | ⟨w, -, e, -⟩
  · injection e
  · unfold Win.val at e; injection e
theorem win_rep (n b : Nat) : WinNil 5 .u8 (List.replicate n 0) (.slice (some ⟨b, 0, none⟩) n n) [(b, .tab 5 0 n [.ints .u8 (List.replicate n 0)])] := win_lit (by simp) b
theorem fa_goal (b : Nat) (t : TypeId) (off len cap n : Nat) (zs : List Int) (P1 : Nat → Nat → List Int → Blks → Prop) (P2 : Nat → Nat → Int → List Int → Blks → Prop) (P3 : Int → List Int → Int → Nat → Prop) (R : Prop → Prop) (hn : n = min len 12)
    (e1 : P1 = faP1 zs n) (e2 : P2 = faP2 n) (e3 : P3 = faP3 n) (hR : R True) (hl : len ≤ cap) (h0 : 0 < len) (hz : ∀ z ∈ zs, (0 : Int) ≤ z ∧ z < 65536) : faGoal b t off len cap n zs P1 P2 P3 R :=
  Eq.mpr (by kernel_rfl) (show
  ∃ (x : Unit), ∃ (L : List (Nat × Blk)), ∃ (G : List (Nat × Blk)), List.Perm [] (L ++ G) ∧ FiPre x [] L ∧ ∀ (a : Unit) (L' : List (Nat × Blk)), FiPost x a L' → ∃ (x : Bool), ∃ (L : List (Nat × Blk)), ∃ (G_1 : List (Nat × Blk)), List.Perm (L' ++ G) (L ++ G_1) ∧ NewPre x [Value.bool Bool.true] L ∧ ∀ (a : Nat) (L' : List (Nat × Blk)), NewPost x a L' → ∀ (b_1 : Nat), ∃ (x0 : FaX), ((((0 : Int) = (↑x0.3 : Int) ∧ Value.pointer (Option.some { block := a, off := (0 : Nat) }) = Value.pointer (Option.some { block := x0.1, off := (0 : Nat) }) ∧ ((0 : Nat) = (0 : Nat) ∧ len = len ∧ cap = cap) ∧
  Min.min (↑len : Int) (12 : Int) = Min.min (↑len : Int) (12 : Int) ∧ ((0 : Nat) = (0 : Nat) ∧ (0 : Nat) = (0 : Nat)) ∧ Min.min (↑len : Int) (12 : Int) = Min.min (↑len : Int) (12 : Int) ∧ True) ∧ (b = b ∧ bif Nat.beq t t then off = off ∧ cap = cap ∧ zs = zs ∧ True else False) ∧ L' ++ G_1 = x0.8 ∧ (b_1 = b_1 ∧ (0 : Nat) = (0 : Nat) ∧ (12 : Nat) = (12 : Nat) ∧ List.replicate (12 : Nat) (0 : Int) = x0.7 ∧ True) ∧ True) ∧ P1 x0.1 x0.3 x0.7 x0.8) ∧ ∀ (x : FaX), P1 x.1 x.3 x.7 x.8 → ((↑x.3 : Int) < Min.min (↑len : Int) (12 : Int) → ((0 : Int) ≤ (↑x.3 : Int) ∧ (↑x.3 : Int) < (↑len : Int)) ∧
  (0 : Nat) + x.3 < cap ∧ (2000 : Int) ≠ (0 : Int) ∧ ((0 : Int) ≤ (↑x.3 : Int) ∧ (↑x.3 : Int) < (↑(12 : Nat) : Int)) ∧ (0 : Nat) + x.3 < (12 : Nat) ∧ ((0 : Int) ≤ (↑x.3 : Int) ∧ (↑x.3 : Int) < (↑(12 : Nat) : Int)) ∧ (0 : Nat) + x.3 < (12 : Nat) ∧ ((0 : Int) ≤ List.getD (List.set x.7 ((0 : Nat) + x.3) (IntKind.wrap IntKind.i64 ((1 : Int) + IntKind.wrap IntKind.i64 (Int.tmod (List.getD zs ((0 : Nat) + x.3) (0 : Int)) (2000 : Int))))) ((0 : Nat) + x.3) (0 : Int) ∧ List.getD (List.set x.7 ((0 : Nat) + x.3) (IntKind.wrap IntKind.i64
  ((1 : Int) + IntKind.wrap IntKind.i64 (Int.tmod (List.getD zs ((0 : Nat) + x.3) (0 : Int)) (2000 : Int))))) ((0 : Nat) + x.3) (0 : Int) ≤ List.getD (List.set x.7 ((0 : Nat) + x.3) (IntKind.wrap IntKind.i64 ((1 : Int) + IntKind.wrap IntKind.i64 (Int.tmod (List.getD zs ((0 : Nat) + x.3) (0 : Int)) (2000 : Int))))) ((0 : Nat) + x.3) (0 : Int) ∧ List.getD (List.set x.7 ((0 : Nat) + x.3) (IntKind.wrap IntKind.i64 ((1 : Int) + IntKind.wrap IntKind.i64 (Int.tmod (List.getD zs ((0 : Nat) + x.3) (0 : Int)) (2000 : Int))))) ((0 : Nat) + x.3) (0 : Int) * (↑(1 : Nat) : Int) ≤ (140737488355328 : Int)) ∧
  ∀ (b_2 : Nat), ∃ (x_1 : PuX), ∃ (L : List (Nat × Blk)), ∃ (G : List (Nat × Blk)), List.Perm (x.8 ++ [(b_2, Blk.tab (5 : Nat) (0 : Nat) (Int.toNat (List.getD (List.set x.7 ((0 : Nat) + x.3) (IntKind.wrap IntKind.i64 ((1 : Int) + IntKind.wrap IntKind.i64 (Int.tmod (List.getD zs ((0 : Nat) + x.3) (0 : Int)) (2000 : Int))))) ((0 : Nat) + x.3) (0 : Int))) [Col.ints IntKind.u8 (List.replicate (Int.toNat (List.getD (List.set x.7 ((0 : Nat) + x.3) (IntKind.wrap IntKind.i64 ((1 : Int) + IntKind.wrap IntKind.i64 (Int.tmod (List.getD zs ((0 : Nat) + x.3) (0 : Int)) (2000 : Int)))))
  ((0 : Nat) + x.3) (0 : Int))) (0 : Int))])]) (L ++ G) ∧ PuPre x_1 [Value.pointer (Option.some { block := x.1, off := (0 : Nat) }), Value.int IntKind.i64 (↑x.3 : Int), Value.agg #[Value.int IntKind.i64 (0 : Int), Value.int IntKind.u32 (0 : Int)], Value.agg #[Value.int IntKind.u16 (IntKind.wrap IntKind.u16 (↑x.3 : Int)), Value.bool Bool.false, Value.int IntKind.u32 (0 : Int), Value.int IntKind.u32 (0 : Int), Value.slice (Option.some { block := b_2, off := (0 : Nat) * (1 : Nat) }) (Int.toNat (List.getD (List.set x.7 ((0 : Nat) + x.3) (IntKind.wrap IntKind.i64 ((1 : Int) +
  IntKind.wrap IntKind.i64 (Int.tmod (List.getD zs ((0 : Nat) + x.3) (0 : Int)) (2000 : Int))))) ((0 : Nat) + x.3) (0 : Int))) (Int.toNat (List.getD (List.set x.7 ((0 : Nat) + x.3) (IntKind.wrap IntKind.i64 ((1 : Int) + IntKind.wrap IntKind.i64 (Int.tmod (List.getD zs ((0 : Nat) + x.3) (0 : Int)) (2000 : Int))))) ((0 : Nat) + x.3) (0 : Int)))]] L ∧ ∀ (a : Int × SQ) (L' : List (Nat × Blk)), PuPost x_1 a L' → (a.1 ≠ (0 : Int) → R False) ∧ (¬a.1 ≠ (0 : Int) → ∃ (y : FaX), n - y.3 < n - x.3 ∧ ((IntKind.wrap IntKind.i64 ((↑x.3 : Int) + (1 : Int)) = (↑y.3 : Int) ∧
  Value.pointer (Option.some { block := x.1, off := (0 : Nat) }) = Value.pointer (Option.some { block := y.1, off := (0 : Nat) }) ∧ ((0 : Nat) = (0 : Nat) ∧ len = len ∧ cap = cap) ∧ Min.min (↑len : Int) (12 : Int) = Min.min (↑len : Int) (12 : Int) ∧ ((0 : Nat) = (0 : Nat) ∧ (0 : Nat) = (0 : Nat)) ∧ Min.min (↑len : Int) (12 : Int) = Min.min (↑len : Int) (12 : Int) ∧ True) ∧ (b = b ∧ bif Nat.beq t t then off = off ∧ cap = cap ∧ zs = zs ∧ True else False) ∧ L' ++ G = y.8 ∧ (b_1 = b_1 ∧ (0 : Nat) = (0 : Nat) ∧ (12 : Nat) = (12 : Nat) ∧ List.set x.7 ((0 : Nat) + x.3) (IntKind.wrap IntKind.i64
  ((1 : Int) + IntKind.wrap IntKind.i64 (Int.tmod (List.getD zs ((0 : Nat) + x.3) (0 : Int)) (2000 : Int)))) = y.7 ∧ True) ∧ True) ∧ P1 y.1 y.3 y.7 y.8)) ∧ (¬(↑x.3 : Int) < Min.min (↑len : Int) (12 : Int) → ∃ (x0 : FaX), ((((0 : Int) = (↑x0.3 : Int) ∧ (-1 : Int) = x0.4 ∧ Value.pointer (Option.some { block := x.1, off := (0 : Nat) }) = Value.pointer (Option.some { block := x0.1, off := (0 : Nat) }) ∧ ((0 : Nat) = (0 : Nat) ∧ len = len ∧ cap = cap) ∧ Min.min (↑len : Int) (12 : Int) = Min.min (↑len : Int) (12 : Int) ∧ ((0 : Nat) = (0 : Nat) ∧ (0 : Nat) = (0 : Nat)) ∧ True) ∧
  (b = b ∧ bif Nat.beq t t then off = off ∧ cap = cap ∧ zs = zs ∧ True else False) ∧ x.8 = x0.8 ∧ (b_1 = b_1 ∧ (0 : Nat) = (0 : Nat) ∧ (12 : Nat) = (12 : Nat) ∧ x.7 = x0.7 ∧ True) ∧ True) ∧ P2 x0.1 x0.3 x0.4 x0.7 x0.8) ∧ ∀ (x : FaX), P2 x.1 x.3 x.4 x.7 x.8 → ((↑x.3 : Int) < (30000 : Int) → ∃ (x_1 : NxX), ∃ (L : List (Nat × Blk)), ∃ (G : List (Nat × Blk)), List.Perm x.8 (L ++ G) ∧ NxPre x_1 [Value.pointer (Option.some { block := x.1, off := (0 : Nat) }), Value.int IntKind.i64 (100 : Int)] L ∧ ∀ (a : Ch × Sl × SQ) (L' : List (Nat × Blk)), NxPost x_1 a L' → ∀ (b_2 b_3 : Nat),
  Value.oneCell' (Value.int IntKind.u8 a.1.1) = Bool.true ∧ Value.oneCell' (Value.bool a.1.2) = Bool.true ∧ Value.oneCell' (Value.bool a.1.3) = Bool.true ∧ Value.oneCell' (Value.bool a.1.4) = Bool.true ∧ Value.oneCell' (Value.bool Bool.false) = Bool.true ∧ Value.oneCell' (Value.int IntKind.u32 (0 : Int)) = Bool.true ∧ Value.oneCell' (Value.int IntKind.u16 a.1.5) = Bool.true ∧ Value.oneCell' (Value.int IntKind.u32 a.1.6) = Bool.true ∧ Value.oneCell' (Value.int IntKind.u32 a.1.7) = Bool.true ∧ Value.oneCell' (Value.int IntKind.u32 a.1.8) = Bool.true ∧
  Value.oneCell' (Value.int IntKind.u32 (0 : Int)) = Bool.true ∧ Value.oneCell' (Value.int IntKind.u32 (0 : Int)) = Bool.true ∧ Value.oneCell' (Value.int IntKind.u16 (0 : Int)) = Bool.true ∧ Value.oneCell' (Value.int IntKind.u16 (0 : Int)) = Bool.true ∧ Value.oneCell' (Value.slice Option.none (0 : Nat) (0 : Nat)) = Bool.true ∧ Value.oneCell' (Value.slice Option.none (0 : Nat) (0 : Nat)) = Bool.true ∧ Value.oneCell' (Value.slice Option.none (0 : Nat) (0 : Nat)) = Bool.true ∧ Value.oneCell' (Value.slice Option.none (0 : Nat) (0 : Nat)) = Bool.true ∧
  Value.oneCell' (Value.slice a.2.1.1 a.2.1.2 a.2.1.3) = Bool.true ∧ Value.oneCell' (Value.int IntKind.i64 a.1.11) = Bool.true ∧ Value.oneCell' (Value.int IntKind.u32 a.1.12) = Bool.true ∧ (a.1.13 = Bool.false → ∃ (x_2 : SQ × Nat), ∃ (L : List (Nat × Blk)), ∃ (G_2 : List (Nat × Blk)), List.Perm (L' ++ G) (L ++ G_2) ∧ AlPre x_2 [Value.pointer (Option.some { block := x.1, off := (0 : Nat) })] L ∧ ∀ (a : Int) (L' : List (Nat × Blk)), AlPost x_2 a L' → R (a = (0 : Int))) ∧ (¬a.1.13 = Bool.false → Max.max (Min.min (↑len : Int) (12 : Int)) (1 : Int) ≠ (0 : Int) ∧ ∃ (x0 : FaX),
  (((Int.tmod (IntKind.wrap IntKind.i64 (x.4 + (1 : Int))) (Max.max (Min.min (↑len : Int) (12 : Int)) (1 : Int)) = x0.5 ∧ IntKind.wrap IntKind.i64 a.1.5 = x0.2 ∧ ((0 : Nat) = (0 : Nat) ∧ len = len ∧ cap = cap) ∧ Value.pointer (Option.some { block := x.1, off := (0 : Nat) }) = Value.pointer (Option.some { block := x.1, off := (0 : Nat) }) ∧ Min.min (↑len : Int) (12 : Int) = Min.min (↑len : Int) (12 : Int) ∧ ((0 : Nat) = (0 : Nat) ∧ (0 : Nat) = (0 : Nat)) ∧ x.4 = x.4 ∧ ((0 : Nat) = (0 : Nat) ∧ (0 : Nat) = (0 : Nat)) ∧ a.1.10 = a.1.10 ∧ ((0 : Nat) = (0 : Nat) ∧ (0 : Nat) = (0 : Nat)) ∧
  Value.bool a.1.13 = Value.bool a.1.13 ∧ (↑x.3 : Int) = (↑x.3 : Int) ∧ True) ∧ (b = b ∧ bif Nat.beq t t then off = off ∧ cap = cap ∧ zs = zs ∧ True else False) ∧ L' ++ G = L' ++ G ∧ (b_1 = b_1 ∧ (0 : Nat) = (0 : Nat) ∧ (12 : Nat) = (12 : Nat) ∧ x.7 = x0.7 ∧ True) ∧ (b_2 = b_2 ∧ a.1.1 = a.1.1 ∧ Value.bool a.1.2 = Value.bool a.1.2 ∧ Value.bool a.1.3 = Value.bool a.1.3 ∧ Value.bool a.1.4 = Value.bool a.1.4 ∧ Value.bool Bool.false = Value.bool Bool.false ∧ (0 : Int) = (0 : Int) ∧ a.1.5 = a.1.5 ∧ a.1.6 = a.1.6 ∧ a.1.7 = a.1.7 ∧ a.1.8 = a.1.8 ∧ (0 : Int) = (0 : Int) ∧ (0 : Int) = (0 : Int) ∧
  (0 : Int) = (0 : Int) ∧ (0 : Int) = (0 : Int) ∧ Value.slice Option.none (0 : Nat) (0 : Nat) = Value.slice Option.none (0 : Nat) (0 : Nat) ∧ Value.slice Option.none (0 : Nat) (0 : Nat) = Value.slice Option.none (0 : Nat) (0 : Nat) ∧ Value.slice Option.none (0 : Nat) (0 : Nat) = Value.slice Option.none (0 : Nat) (0 : Nat) ∧ Value.slice Option.none (0 : Nat) (0 : Nat) = Value.slice Option.none (0 : Nat) (0 : Nat) ∧ Value.slice a.2.1.1 a.2.1.2 a.2.1.3 = Value.slice a.2.1.1 a.2.1.2 a.2.1.3 ∧ True) ∧ (b_3 = b_3 ∧ a.1.11 = a.1.11 ∧ a.1.12 = a.1.12 ∧ True) ∧ True) ∧
  (x0.2 = x0.2 ∧ x0.7 = x0.7) ∧ P3 x0.2 x0.7 x0.5 x0.6) ∧ ∀ (x_2 : FaX), (x_2.2 = x0.2 ∧ x_2.7 = x0.7) ∧ P3 x_2.2 x_2.7 x_2.5 x_2.6 → (x_2.5 ≠ x_2.2 → ((0 : Int) ≤ x_2.5 ∧ x_2.5 < (↑(12 : Nat) : Int)) ∧ (0 : Nat) + Int.toNat x_2.5 < (12 : Nat) ∧ ((0 : Int) < List.getD x_2.7 ((0 : Nat) + Int.toNat x_2.5) (0 : Int) → R False) ∧ (¬(0 : Int) < List.getD x_2.7 ((0 : Nat) + Int.toNat x_2.5) (0 : Int) → Min.min (↑len : Int) (12 : Int) ≠ (0 : Int) ∧ ∃ (y : FaX), y.6 < x_2.6 ∧ ((Int.tmod (IntKind.wrap IntKind.i64 (x_2.5 + (1 : Int))) (Min.min (↑len : Int) (12 : Int)) = y.5 ∧ x_2.2 = y.2 ∧
  ((0 : Nat) = (0 : Nat) ∧ len = len ∧ cap = cap) ∧ Value.pointer (Option.some { block := x.1, off := (0 : Nat) }) = Value.pointer (Option.some { block := x.1, off := (0 : Nat) }) ∧ Min.min (↑len : Int) (12 : Int) = Min.min (↑len : Int) (12 : Int) ∧ ((0 : Nat) = (0 : Nat) ∧ (0 : Nat) = (0 : Nat)) ∧ x.4 = x.4 ∧ ((0 : Nat) = (0 : Nat) ∧ (0 : Nat) = (0 : Nat)) ∧ a.1.10 = a.1.10 ∧ ((0 : Nat) = (0 : Nat) ∧ (0 : Nat) = (0 : Nat)) ∧ Value.bool a.1.13 = Value.bool a.1.13 ∧ (↑x.3 : Int) = (↑x.3 : Int) ∧ True) ∧ (b = b ∧ bif Nat.beq t t then off = off ∧ cap = cap ∧ zs = zs ∧ True else False) ∧
  L' ++ G = L' ++ G ∧ (b_1 = b_1 ∧ (0 : Nat) = (0 : Nat) ∧ (12 : Nat) = (12 : Nat) ∧ x_2.7 = y.7 ∧ True) ∧ (b_2 = b_2 ∧ a.1.1 = a.1.1 ∧ Value.bool a.1.2 = Value.bool a.1.2 ∧ Value.bool a.1.3 = Value.bool a.1.3 ∧ Value.bool a.1.4 = Value.bool a.1.4 ∧ Value.bool Bool.false = Value.bool Bool.false ∧ (0 : Int) = (0 : Int) ∧ a.1.5 = a.1.5 ∧ a.1.6 = a.1.6 ∧ a.1.7 = a.1.7 ∧ a.1.8 = a.1.8 ∧ (0 : Int) = (0 : Int) ∧ (0 : Int) = (0 : Int) ∧ (0 : Int) = (0 : Int) ∧ (0 : Int) = (0 : Int) ∧ Value.slice Option.none (0 : Nat) (0 : Nat) = Value.slice Option.none (0 : Nat) (0 : Nat) ∧ Value.slice Option.none
  (0 : Nat) (0 : Nat) = Value.slice Option.none (0 : Nat) (0 : Nat) ∧ Value.slice Option.none (0 : Nat) (0 : Nat) = Value.slice Option.none (0 : Nat) (0 : Nat) ∧ Value.slice Option.none (0 : Nat) (0 : Nat) = Value.slice Option.none (0 : Nat) (0 : Nat) ∧ Value.slice a.2.1.1 a.2.1.2 a.2.1.3 = Value.slice a.2.1.1 a.2.1.2 a.2.1.3 ∧ True) ∧ (b_3 = b_3 ∧ a.1.11 = a.1.11 ∧ a.1.12 = a.1.12 ∧ True) ∧ True) ∧ (y.2 = x0.2 ∧ y.7 = x0.7) ∧ P3 y.2 y.7 y.5 y.6)) ∧ (¬x_2.5 ≠ x_2.2 → ((0 : Int) ≤ x_2.2 ∧ x_2.2 < (↑(12 : Nat) : Int)) ∧ (0 : Nat) + Int.toNat x_2.2 < (12 : Nat) ∧
  ((0 : Int) ≤ x_2.2 ∧ x_2.2 < (↑(12 : Nat) : Int)) ∧ (0 : Nat) + Int.toNat x_2.2 < (12 : Nat) ∧ ∃ (y : FaX), (30000 : Nat) - y.3 < (30000 : Nat) - x.3 ∧ ((IntKind.wrap IntKind.i64 ((↑x.3 : Int) + (1 : Int)) = (↑y.3 : Int) ∧ x_2.2 = y.4 ∧ Value.pointer (Option.some { block := x.1, off := (0 : Nat) }) = Value.pointer (Option.some { block := y.1, off := (0 : Nat) }) ∧ ((0 : Nat) = (0 : Nat) ∧ len = len ∧ cap = cap) ∧ Min.min (↑len : Int) (12 : Int) = Min.min (↑len : Int) (12 : Int) ∧ ((0 : Nat) = (0 : Nat) ∧ (0 : Nat) = (0 : Nat)) ∧ True) ∧ (b = b ∧ bif Nat.beq t t then
  off = off ∧ cap = cap ∧ zs = zs ∧ True else False) ∧ L' ++ G = y.8 ∧ (b_1 = b_1 ∧ (0 : Nat) = (0 : Nat) ∧ (12 : Nat) = (12 : Nat) ∧ List.set x_2.7 ((0 : Nat) + Int.toNat x_2.2) (IntKind.wrap IntKind.i64 (List.getD x_2.7 ((0 : Nat) + Int.toNat x_2.2) (0 : Int) - (↑a.2.1.2 : Int))) = y.7 ∧ True) ∧ True) ∧ P2 y.1 y.3 y.4 y.7 y.8))) ∧ (¬(↑x.3 : Int) < (30000 : Int) → ∃ (x_1 : SQ × Nat), ∃ (L : List (Nat × Blk)), ∃ (G : List (Nat × Blk)), List.Perm x.8 (L ++ G) ∧ AlPre x_1 [Value.pointer (Option.some { block := x.1, off := (0 : Nat) })] L ∧
  ∀ (a : Int) (L' : List (Nat × Blk)), AlPost x_1 a L' → R (a = (0 : Int)))) from by
  subst e1 e2 e3
  have hmin : Min.min (len : Int) 12 = (n : Int) := by omega
  have hmax : Max.max (n : Int) 1 = (n : Int) := by omega
  simp only [eq_self, true_and, and_true, false_and, and_false, or_false, false_or, and_self, Nat.zero_add, Nat.add_zero, Nat.sub_zero, Nat.zero_mul, Nat.mul_one, Int.toNat_natCast, cond_true, cond_false, forall_const, implies_true, Nat.beq_refl, ne_eq, not_false_eq_true, not_true_eq_false, Classical.not_not, List.cons.injEq, List.append_nil, List.nil_append, Go.Value.int.injEq, Go.Value.bool.injEq, Go.Value.slice.injEq, Nat.le_refl, Nat.zero_le, Go.Sx.one_int, Go.Sx.one_bool, Go.Sx.one_slice, Go.Sx.one_ptr, Go.Sx.one_map, Int.cast_ofNat_Int, reduceCtorEq, Nat.reduceLeDiff, Nat.reduceMul, Nat.reduceAdd, Nat.reduceSub, Nat.reduceEqDiff, Int.reduceLE, Int.reduceLT, Int.reduceEq, Int.reduceAdd, Int.reduceSub, Int.reduceNeg, Int.reduceMul, Nat.reduceBEq, hmin, hmax, fa_val hz]
  refine ⟨(), [], [], List.Perm.refl [], ⟨rfl, rfl⟩, fun _ L0 _ => ⟨true, [], L0, by simp, ⟨rfl, rfl⟩, fun bq L1 hnew => ⟨⟨bq, 0, 0, 0, 0, 0, List.replicate 12 0, L1 ++ L0⟩, ⟨⟨⟨rfl, rfl⟩, rfl, rfl⟩, Nat.zero_le _, rfl, SQAt.more hnew L0⟩, fun x hx => ⟨fun hlt => ?_, fun hge => ?_⟩⟩⟩⟩
  · obtain ⟨p1, p2, p3⟩ := hx
    have hi : x.i < 12 := by omega
    have hlen : x.zs.length = 12 := by rw [p2]; simp; omega
    have hget : (x.zs.set x.i (sz zs x.i : Int)).getD x.i 0 = sz zs x.i := by
      simp only [List.getD_eq_getElem?_getD, List.getElem?_set_self (show x.i < x.zs.length by omega), Option.getD_some]
    have hs := sz_le zs x.i
    have hall := sum_le zs x.i
    have hw : IntKind.wrap .u16 (x.i : Int) = x.i := fa_u16 hi
    have hw2 : IntKind.wrap .i64 ((x.i : Int) + 1) = ((x.i + 1 : Nat) : Int) := by rw [IntKind.wrap_i64]; omega
    simp only [hget, hw, hw2, Int.toNat_natCast]
    refine ⟨by omega, by omega, by omega, by omega, by omega, by omega, by omega, fun b1 => ⟨⟨faQ zs x.i, x.b, faM x.i, List.replicate (sz zs x.i) 0, .slice (some ⟨b1, 0, none⟩) (sz zs x.i) (sz zs x.i)⟩, x.L ++ [(b1, .tab 5 0 (sz zs x.i) [.ints .u8 (List.replicate (sz zs x.i) 0)])], [], by simp,
      ⟨rfl, faQ_small zs (by omega), by show 0 ≤ (faQ zs x.i).all ∧ (faQ zs x.i).all ≤ 1000000; omega, x.L, _, List.Perm.refl _, p3, win_rep _ b1⟩, fun a L' hp => ?_⟩⟩
    obtain ⟨u1, A, B, u2, u3, -⟩ := hp
    obtain ⟨e1, e2⟩ := fa_push hi u1
    refine ⟨fun hne => absurd e1 hne, fun _ => ⟨⟨x.b, 0, x.i + 1, 0, 0, 0, _, _⟩, by show n - (x.i + 1) < n - x.i; omega, ⟨⟨rfl, rfl⟩, rfl, rfl⟩, by show x.i + 1 ≤ n; omega, by show x.zs.set x.i _ = _; rw [p2]; exact set_step zs hi, ?_⟩⟩
    rw [e2] at u3
    exact ((u3.more B).permL u2).more []
  · obtain ⟨p1, p2, p3⟩ := hx
    have hxi : x.i = n := by omega
    rw [hxi] at p2 p3
    have hs := sum_le zs n
    refine ⟨⟨x.b, 0, 0, -1, 0, 0, x.zs, x.L⟩, ⟨⟨⟨rfl, rfl, rfl⟩, rfl, rfl⟩, by show 0 ≤ 30000; omega, faQ zs n, p3, by show FairI n _ x.zs (-1); rw [p2]; exact fa_start zs (by omega), by show (faQ zs n).all + ((0 : Nat) : Int) ≤ 24000; omega⟩, fun x h2 => ?_⟩
    obtain ⟨h1, h2⟩ := h2
    refine ⟨fun hlt => ?_, fun hge => ?_⟩
    ·
      obtain ⟨q, hq, hf, ha⟩ := h2
      have hsm := fair_small hf
      obtain ⟨f1, f2, f3, f4, f5, -⟩ := id hf
      refine ⟨⟨q, x.b, 100⟩, x.L, [], by simp, ⟨rfl, hsm.1, ⟨hsm.2, (show q.all ≤ 1000000 by omega)⟩, hq⟩, fun a L' hn => ?_⟩
      obtain ⟨n1, n2, La, Lb, n3, n4, n5⟩ := hn
      obtain ⟨c, sl, q'⟩ := a
      simp only at n1 n2 n4 n5
      subst n1 n2
      have hsq : SQAt (nextF q 100).2 x.b L' := (n4.more Lb).permL n3
      rcases fair_next hf with ⟨g1, g2⟩ | ⟨g1, s, pre, post, g2, g3, g4, g5, g6, g7, g8, g9⟩
      · refine ⟨fun _ => ⟨((nextF q 100).2, x.b), L', [], by simp, ⟨rfl, hsq⟩, fun al L2 ht => ?_⟩, fun hne => absurd (by rw [g1]; rfl) hne⟩
        have : al = 0 := by rw [ht.1]; show (nextF q 100).2.all = 0; rw [g1]; exact g2
        simpa [this] using hR
      · refine ⟨fun hno => absurd (g1.symm.trans hno) (by simp), fun _ => ?_⟩
        have hst : IntKind.wrap .i64 (nextF q 100).1.stream = (s : Int) := by rw [g5, IntKind.wrap_i64]; omega
        have hwl : IntKind.wrap .i64 (x.last + 1) = x.last + 1 := by rw [IntKind.wrap_i64]; omega
        simp only [hst, hwl]
        refine ⟨by omega, ⟨x.b, s, 0, 0, (x.last + 1).tmod n, pre.length, x.zs, []⟩, ⟨⟨⟨rfl, rfl⟩, rfl⟩, fa_first f2 ⟨f4, f5⟩ g4 g2 g3⟩, fun y hy => ?_⟩
        obtain ⟨⟨y1, y2⟩, hy⟩ := hy
        simp only at y1 y2
        refine ⟨fun hk => ?_, fun hk => ?_⟩
        · obtain ⟨m1, m2, m3, m4, m5⟩ := fa_walk hy hk
          have hwk : IntKind.wrap .i64 (y.k + 1) = y.k + 1 := by rw [IntKind.wrap_i64]; omega
          refine ⟨m2, by omega, fun hpos => absurd hpos (by omega), fun _ => ⟨by omega, ⟨y.b, y.s, 0, 0, (y.k + 1).tmod n, y.m - 1, y.zs, []⟩, by show y.m - 1 < y.m; omega, ⟨⟨by rw [hwk], rfl⟩, rfl⟩, ⟨y1, y2⟩, m5⟩⟩
        · rw [y1, y2]
          have hbl := winNil_len n5
          have hbd : (nextF q 100).1.body.length ≤ 100 := nextF_len q
          refine ⟨by omega, by omega, by omega, by omega, ⟨x.b, 0, x.i + 1, s, 0, 0, _, _⟩, by show 30000 - (x.i + 1) < 30000 - x.i; omega, ⟨⟨by show IntKind.wrap .i64 ((x.i : Int) + 1) = ((x.i + 1 : Nat) : Int); rw [IntKind.wrap_i64]; omega, rfl, rfl⟩, rfl, rfl⟩, by show x.i + 1 ≤ 30000; omega, (nextF q 100).2, hsq.more _, ?_, by show (nextF q 100).2.all + ((x.i + 1 : Nat) : Int) ≤ 24000; omega⟩
          rw [Int.toNat_natCast, hbl, show IntKind.wrap .i64 (x.zs.getD s 0 - ((nextF q 100).1.body.length : Int)) = x.zs.getD s 0 - ((nextF q 100).1.body.length : Int) by rw [IntKind.wrap_i64]; omega]
          exact g6
    · obtain ⟨q, hq, hf, ha⟩ := h2
      have := (fair_small hf).2
      omega)
end Go.Proofs.Ythkcfocoekonjaa
