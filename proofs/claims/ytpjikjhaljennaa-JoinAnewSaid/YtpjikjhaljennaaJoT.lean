/- Joiners: streams that begin anew. -/
import Derived.Test.YtpjikjhaljennaaJoS
import Derived.Test.YtpjikjhaljennaaLwA
set_option maxRecDepth 100000
set_option linter.unusedVariables false
set_option linter.unusedSimpArgs false
namespace Go.Proofs.Ytpjikjhaljennaa
open Go Go.Sx
attribute [local irreducible] Go.Sx.xrun

open Classical
structure AwX where
  s : Int
  i : Int
  m : Int
  t : Int
  b : Nat
  bb : Nat
  k : Int
  L : Blks
def Ann.awH (cs : List Int) (y : AwX) : List Ent := [.chunk y.L, .own y.bb (.tab 22 0 cs.length [.ints .u8 cs])]
noncomputable def Ann.aw (cs : List Int) (w : Int) (P7 : Int → Prop) (P1 : AwX → Prop) (P2 : AwX → Prop) (P3 : AwX → Prop) (P16 : AwX → Prop) : FnAnn := ⟨[],
  [(1000007, ⟨AwX, [(fun σ y => ⟨σ.n, (8, .val (.int .u8 y.k)) :: (7, .val (.pointer (some ⟨y.b, 0, none⟩))) :: (4, .ptr 1 0 0) :: (2, .val (.int .u16 w)) :: [], Ann.awH cs y⟩, fun x0 y => y.L = x0.L ∧ y.b = x0.b ∧ P7 y.k)], fun _ => 0⟩),
   (9, ⟨AwX, [(fun σ y => ⟨σ.n, (24, .val (.int .u16 y.s)) :: (9, .val (.int .u32 y.t)) :: (8, .val (.int .u8 y.k)) :: (7, .val (.pointer (some ⟨y.b, 0, none⟩))) :: (4, .ptr 1 0 0) :: (2, .val (.int .u16 w)) :: [], Ann.awH cs y⟩, fun x0 y => y.k = x0.k ∧ P1 y)], fun y => 3 - y.s.toNat⟩),
   (12, ⟨AwX, [(fun σ y => ⟨σ.n, (31, .val (.int .u32 y.m)) :: (32, .val (.int .u32 y.i)) :: (24, .val (.int .u16 y.s)) :: (10, .val (.int .u16 y.s)) :: (9, .val (.int .u32 y.t)) :: (8, .val (.int .u8 y.k)) :: (7, .val (.pointer (some ⟨y.b, 0, none⟩))) :: (4, .ptr 1 0 0) :: (2, .val (.int .u16 w)) :: [], Ann.awH cs y⟩, fun x0 y => y.k = x0.k ∧ y.s = x0.s ∧ y.m = x0.m ∧ P2 y)], fun y => y.m.toNat - y.i.toNat⟩),
   (25, ⟨AwX, [(fun σ y => ⟨σ.n, (62, .val (.int .u16 y.s)) :: (14, .val (.int .u16 y.m)) :: (9, .val (.int .u32 y.t)) :: (8, .val (.int .u8 y.k)) :: (7, .val (.pointer (some ⟨y.b, 0, none⟩))) :: (4, .ptr 1 0 0) :: [], Ann.awH cs y⟩, fun x0 y => y.k = x0.k ∧ y.m = x0.m ∧ P3 y)], fun y => 3 - y.s.toNat⟩),
   (1000030, ⟨AwX, [(fun σ y => ⟨σ.n, (16, .val (.int .u32 y.i)) :: (62, .val (.int .u16 y.s)) :: (15, .val (.int .u16 y.s)) :: (14, .val (.int .u16 y.m)) :: (9, .val (.int .u32 y.t)) :: (8, .val (.int .u8 y.k)) :: (7, .val (.pointer (some ⟨y.b, 0, none⟩))) :: (4, .ptr 1 0 0) :: [], Ann.awH cs y⟩, fun x0 y => y.s = x0.s ∧ y.t = x0.t ∧ y.b = x0.b ∧ y.L = x0.L ∧ y.m = x0.m ∧ y.k = x0.k ∧ P16 y)], fun _ => 0⟩)]⟩
noncomputable def awGoal (inter : Bool) (cs : List Int) (w : Int) (L0 : Blks) (P7 : Int → Prop) (P1 : AwX → Prop) (P2 : AwX → Prop) (P3 : AwX → Prop) (P16 : AwX → Prop) (Q : Blks → Prop) : Prop :=
  xrun Go.Proofs.Try.prog [(17, jfirstT), (18, jnewT), (19, absT jputT), (20, jtakeT), (21, absT jresetT), (22, jheldT)] [(3, Ann.aw cs w P7 P1 P2 P3 P16)] [] 9 [] 3 [.val (.bool inter), .arr .u8 cs, .val (.int .u16 w)] [.chunk L0]
    fun s h => bOf s (fun p => p) ∧ Q (owned (locs h) h)
open Classical
theorem mid_small : ∀ n : Fin 200, iand .u32 (n.val : Int) 65535 = (n.val : Int) := by decide
theorem midF_small (i : Bool) {n : Int} (h0 : 0 ≤ n) (h1 : n < 200) : midF i n = n := by
  unfold midF
  split
  · rfl
  · obtain ⟨k, rfl⟩ := Int.eq_ofNat_of_zero_le h0
    exact mid_small ⟨k, by omega⟩
theorem wrap32_small {n : Int} (h0 : 0 ≤ n) (h1 : n < 1000) : IntKind.wrap .u32 n = n := by
  simp [IntKind.wrap, IntKind.signed, IntKind.bits]
  omega
theorem wrap16_small {n : Int} (h0 : 0 ≤ n) (h1 : n < 1000) : IntKind.wrap .u16 n = n := by
  simp [IntKind.wrap, IntKind.signed, IntKind.bits]
  omega
/-- The next message of its stream, in one piece. -/
theorem put_next {i : Bool} {nx : Int → Int} {r : List Mg} {c : Pc} (hb : c.bg = true) (he : c.en = true) (hf : c.fr = 0) (hl : c.lo = false) (hk : c.kd = kindF i) (h0 : 0 ≤ c.mid) (h1 : c.mid < 100) (hn : nx c.st = c.mid) :
    PutIs ⟨i, [], [], [], nx, r⟩ c true ⟨i, [], [], [], updN nx c.st (c.mid + 1), r ++ [⟨c.st, false, c.mid, c.pp, c.bs⟩]⟩ := by
  have em : midF i c.mid = c.mid := midF_small i h0 (by omega)
  have hm : msgOf i c [c] = ⟨c.st, false, c.mid, c.pp, c.bs⟩ := by
    unfold msgOf
    rw [em, hl]
    simp
  have hkey : (msgOf i c [c]).key = (c.st, false, nx c.st) := by
    rw [hm, hn]
    rfl
  refine put_whole rfl rfl hb he hf hk (fun h => ?_) hl (fun m hm => by cases hm) ?_
  · rcases h.2 with ⟨m, hm, -⟩ | h
    · cases hm
    · have h : behindF i (midF i c.mid) (nx c.st) := h
      rw [em, hn] at h
      exact behindF_self _ _ h
  · have e : (([] : List Mg) ++ [msgOf i c [c]]).filter (fun x => decide (kK x.key ≠ kK (c.st, false, nx c.st))) = [] := by
      rw [List.nil_append, List.filter_cons_of_neg (by rw [hkey]; simp)]
      rfl
    refine ⟨1, [], midF i (IntKind.wrap .u32 (nx c.st + 1)), r ++ [msgOf i c [c]], .step (m := msgOf i c [c]) (by simp) hkey ?_, ?_⟩
    · show OnS i c.st 0 ((([] : List Mg) ++ [msgOf i c [c]]).filter (fun x => decide (kK x.key ≠ kK (c.st, false, nx c.st)))) _ _ _ _ _
      rw [e]
      exact .stop fun m hm => by cases hm
    · rw [hn, wrap32_small (by omega) (by omega), midF_small i (by omega) (by omega), hm]
theorem jbt0 (b : Nat) (z : Int) (M : Blks) (h : (b, Blk.tab 5 0 1 [Col.ints IntKind.u8 [z]]) ∈ M) : Bts M (some ⟨b, 0, none⟩) 1 [z] ∧ 1 ≤ 1 ∧ 0 < 1 ∧ 1 ≤ 100000 := ⟨Bts.tab h rfl (Nat.le_refl _) rfl, by decide, by decide, by decide⟩
/-- A joiner in which nothing lies. -/
def AwJ (i : Bool) (L0 : Blks) (nx : Int → Int) (b : Nat) (L : Blks) : Prop := ∃ N, JAt ⟨i, [], [], [], nx, []⟩ b (L0 ++ N) L
def awC (cs : List Int) (s : Int) : Int := (cs.getD s.toNat 0).tmod 20
def AwP1 (i : Bool) (cs : List Int) (L0 : Blks) (y : AwX) : Prop := 0 ≤ y.s ∧ y.s ≤ 3 ∧ ∃ nx, AwJ i L0 nx y.b y.L ∧ ∀ s, 0 ≤ s → s < 3 → nx s = if s < y.s then awC cs s else 0
def AwP2 (i : Bool) (cs : List Int) (L0 : Blks) (y : AwX) : Prop := 0 ≤ y.s ∧ y.s < 3 ∧ 0 ≤ y.i ∧ y.i ≤ y.m ∧ y.m = awC cs y.s ∧ ∃ nx, AwJ i L0 nx y.b y.L ∧ ∀ s, 0 ≤ s → s < 3 → nx s = if s < y.s then awC cs s else if s = y.s then y.i else 0
def AwP3 (i : Bool) (cs : List Int) (L0 : Blks) (y : AwX) : Prop := 0 ≤ y.s ∧ y.s ≤ 3 ∧ ∃ nx, AwJ i L0 nx y.b y.L ∧ ∀ s, y.s ≤ s → s < 3 → nx s = if s = y.m then 0 else awC cs s
def AwP16 (cs : List Int) (y : AwX) : Prop := y.i = if y.s = y.m then 0 else awC cs y.s
theorem awC_range {cs : List Int} (hc : ∀ z ∈ cs, 0 ≤ z ∧ z < 256) (s : Int) : 0 ≤ awC cs s ∧ awC cs s < 20 := by
  unfold awC
  have h : 0 ≤ cs.getD s.toNat 0 := by
    rw [List.getD_eq_getElem?_getD]
    cases h : cs[s.toNat]? with
    | none => simp
    | some z => exact (hc z (List.mem_of_getElem? h)).1
  rw [Int.tmod_eq_emod_of_nonneg h]
  omega
theorem AwJ.put {i : Bool} {L0 : Blks} {nx : Int → Int} {b : Nat} {L : Blks} (h : AwJ i L0 nx b L) {bb : Nat} {z : Int} {c : Pc} (hb : c.bg = true) (he : c.en = true) (hf : c.fr = 0) (hl : c.lo = false) (hk : c.kd = kindF i) (h0 : 0 ≤ c.mid) (h1 : c.mid < 100) (hn : nx c.st = c.mid) (hz : c.bs = [z]) :
    ∃ x : PtY, x.b = b ∧ x.c = c ∧ x.cs = ⟨some ⟨bb, 0, none⟩, 1, 1⟩ ∧ JptPre x [.pointer (some ⟨b, 0, none⟩), .agg (c.cells ⟨some ⟨bb, 0, none⟩, 1, 1⟩).toArray] (L ++ [(bb, Blk.tab 5 0 1 [Col.ints IntKind.u8 [z]])]) ∧
      ∀ a L', JptPost x a L' → a = true ∧ ∃ N, JAt ⟨i, [], [], [], updN nx c.st (c.mid + 1), [⟨c.st, false, c.mid, c.pp, c.bs⟩]⟩ b (L0 ++ N) L' := by
  obtain ⟨N, h⟩ := h
  refine ⟨⟨_, b, L0 ++ N ++ [(bb, Blk.tab 5 0 1 [Col.ints IntKind.u8 [z]])], c, ⟨some ⟨bb, 0, none⟩, 1, 1⟩, true, _⟩, rfl, rfl, rfl, ⟨rfl, JAt.more h _, by rw [hz]; exact jbt0 bb z _ (by simp), put_next hb he hf hl hk h0 h1 hn, by show 0 + 0 < 1000000000; decide⟩, fun a L' ⟨ha, N2, hJ⟩ => ⟨ha, N ++ ([(bb, Blk.tab 5 0 1 [Col.ints IntKind.u8 [z]])] ++ N2), ?_⟩⟩
  have hJ : JAt ⟨i, [], [], [], updN nx c.st (c.mid + 1), [⟨c.st, false, c.mid, c.pp, c.bs⟩]⟩ b (L0 ++ N ++ [(bb, Blk.tab 5 0 1 [Col.ints IntKind.u8 [z]])] ++ N2) L' := hJ
  simp only [List.append_assoc] at hJ ⊢
  exact hJ
theorem AwJ.take {i : Bool} {L0 N : Blks} {nx : Int → Int} {b : Nat} {L : Blks} {m : Mg} (h : JAt ⟨i, [], [], [], nx, [m]⟩ b (L0 ++ N) L) :
    ∃ x : JX, JtPre x [.pointer (some ⟨b, 0, none⟩)] L ∧ ∀ a L', JtPost x a L' → a.ok = true ∧ a.m = m ∧ AwJ i L0 nx b L' := by
  refine ⟨⟨_, b, L0 ++ N⟩, ⟨rfl, h⟩, fun a L' ⟨N2, ha⟩ => ?_⟩
  rcases ha with ⟨h1, -⟩ | ⟨r, h1, h2, -, -, hJ⟩
  · have h1 : [m] = [] := h1
    cases h1
  · have h1 : [m] = a.m :: r := h1
    obtain ⟨e1, e2⟩ := List.cons.inj h1
    subst e2
    refine ⟨h2, e1.symm, N ++ N2, ?_⟩
    have hJ : JAt ⟨i, [], [], [], nx, []⟩ b (L0 ++ N ++ N2) L' := hJ
    rw [List.append_assoc] at hJ
    exact hJ
theorem AwJ.reset {i : Bool} {L0 : Blks} {nx : Int → Int} {b : Nat} {L : Blks} (h : AwJ i L0 nx b L) (bw : Nat) (w : Int) :
    ∃ x : RsY, JrsPre x [.pointer (some ⟨b, 0, none⟩), .slice (some ⟨bw, 0, none⟩) 1 1] (L ++ [(bw, Blk.cells [.int .u16 w] 23)]) ∧ ∀ a L', JrsPost x a L' → AwJ i L0 (updN nx w 0) b L' := by
  obtain ⟨N, h⟩ := h
  refine ⟨⟨_, b, L0 ++ N ++ [(bw, Blk.cells [.int .u16 w] 23)], ⟨some ⟨bw, 0, none⟩, 1, 1⟩, w⟩, ⟨rfl, JAt.more h _, ⟨rfl, rfl, rfl⟩, bw, 0, rfl, _, List.mem_append_right _ (List.mem_singleton.2 rfl), rfl⟩, fun a L' ⟨N2, hJ⟩ => ⟨N ++ ([(bw, Blk.cells [.int .u16 w] 23)] ++ N2), ?_⟩⟩
  have hJ : JAt ⟨i, [], [], [], updN nx w 0, []⟩ b (L0 ++ N ++ [(bw, Blk.cells [.int .u16 w] 23)] ++ N2) L' := hJ
  simp only [List.append_assoc] at hJ ⊢
  exact hJ
theorem pool_out {α : Type} {L' : List α} {a b c d e : α} {R I L0 N : List α} (h : L'.Perm (a :: b :: c :: d :: e :: (R ++ (I ++ (L0 ++ N))))) : ∃ G, L'.Perm (L0 ++ G) :=
  ⟨(a :: b :: c :: d :: e :: (R ++ I)) ++ N, h.trans (by
    have := List.perm_append_comm_assoc (a :: b :: c :: d :: e :: (R ++ I)) L0 N
    simpa using this)⟩
theorem AwJ.held {i : Bool} {L0 : Blks} {nx : Int → Int} {b : Nat} {L : Blks} (h : AwJ i L0 nx b L) :
    ∃ x : JX, JhdPre x [.pointer (some ⟨b, 0, none⟩)] L ∧ ∀ a L', JhdPost x a L' → a = 0 ∧ ∃ G, L'.Perm (L0 ++ G) := by
  obtain ⟨N, h⟩ := h
  refine ⟨⟨_, b, L0 ++ N⟩, ⟨rfl, h, rfl, (by show 0 + (0 + (0 + 0)) < 4611686018427387904; decide), (by show 0 < 1000000000000; decide)⟩, fun a L' ⟨ha, hJ⟩ => ⟨ha, ?_⟩⟩
  obtain ⟨mp, mq, mw, mn, rv, fp, fq, fw, fn, Lr, Li, hL, -⟩ := hJ
  exact pool_out hL
theorem aw_goal (inter : Bool) (cs : List Int) (w : Int) (L0 : Blks) (P7 : Int → Prop) (P1 P2 P3 P16 : AwX → Prop) (Q : Blks → Prop) (hl : cs.length = 3) (hc : ∀ z ∈ cs, 0 ≤ z ∧ z < 256)
    (e7 : P7 = fun k => k = kindF inter) (e1 : P1 = AwP1 inter cs L0) (e2 : P2 = AwP2 inter cs L0) (e3 : P3 = AwP3 inter cs L0) (e16 : P16 = AwP16 cs) (eQ : Q = fun L => ∃ G, L.Perm (L0 ++ G)) : awGoal inter cs w L0 P7 P1 P2 P3 P16 Q :=
  Eq.mpr (by kernel_rfl) (show   ∀ (b : Nat), ∃ (x : Unit), JfPre x [] (L0 ++ [(b, Blk.tab (22 : Nat) (0 : Nat) (List.length cs) [Col.ints IntKind.u8 cs])] ++ []) ∧ ∃ (x : Bool), ∃ (L : List (Nat × Blk)), ∃ (G : List (Nat × Blk)), List.Perm L0 (L ++ G) ∧ JnPre x [Value.bool inter] L ∧ ∀ (a : Nat) (L' : List (Nat × Blk)), JnPost x a L' → ∃ (x0 : AwX), ((inter = Bool.true → ∃ (y : AwX), (((64 : Int) = y.7 ∧ Value.pointer (Option.some { block := a, off := (0 : Nat) }) = Value.pointer (Option.some { block := y.5, off := (0 : Nat) }) ∧ ((0 : Nat) = (0 : Nat) ∧ (0 : Nat) = (0 : Nat)) ∧ w = w ∧ True) ∧
  L' ++ G = y.8 ∧ (b = y.6 ∧ (0 : Nat) = (0 : Nat) ∧ List.length cs = List.length cs ∧ cs = cs ∧ True) ∧ True) ∧ y.8 = x0.8 ∧ y.5 = x0.5 ∧ P7 y.7) ∧ (¬inter = Bool.true → ∃ (y : AwX), (((0 : Int) = y.7 ∧ Value.pointer (Option.some { block := a, off := (0 : Nat) }) = Value.pointer (Option.some { block := y.5, off := (0 : Nat) }) ∧ ((0 : Nat) = (0 : Nat) ∧ (0 : Nat) = (0 : Nat)) ∧ w = w ∧ True) ∧ L' ++ G = y.8 ∧ (b = y.6 ∧ (0 : Nat) = (0 : Nat) ∧ List.length cs = List.length cs ∧ cs = cs ∧ True) ∧ True) ∧ y.8 = x0.8 ∧ y.5 = x0.5 ∧ P7 y.7)) ∧ ∀ (x : AwX), x.8 = x0.8 ∧ x.5 = x0.5 ∧ P7 x.7 →
  ∃ (x0 : AwX), ((((0 : Int) = x0.1 ∧ (0 : Int) = x0.4 ∧ x.7 = x0.7 ∧ Value.pointer (Option.some { block := x.5, off := (0 : Nat) }) = Value.pointer (Option.some { block := x0.5, off := (0 : Nat) }) ∧ ((0 : Nat) = (0 : Nat) ∧ (0 : Nat) = (0 : Nat)) ∧ w = w ∧ True) ∧ x.8 = x0.8 ∧ (x.6 = x0.6 ∧ (0 : Nat) = (0 : Nat) ∧ List.length cs = List.length cs ∧ cs = cs ∧ True) ∧ True) ∧ x0.7 = x0.7 ∧ P1 x0) ∧ ∀ (x : AwX), x.7 = x0.7 ∧ P1 x → (x.1 < (3 : Int) → ((0 : Int) ≤ x.1 ∧ x.1 < (↑(3 : Nat) : Int)) ∧ (0 : Nat) + Int.toNat x.1 < List.length cs ∧ (20 : Int) ≠ (0 : Int) ∧ ∃ (x0_1 : AwX),
  (((IntKind.wrap IntKind.u32 (Int.tmod (List.getD cs ((0 : Nat) + Int.toNat x.1) (0 : Int)) (20 : Int)) = x0_1.3 ∧ (0 : Int) = x0_1.2 ∧ x.1 = x0_1.1 ∧ x.1 = x0_1.1 ∧ x.4 = x0_1.4 ∧ x.7 = x0_1.7 ∧ Value.pointer (Option.some { block := x.5, off := (0 : Nat) }) = Value.pointer (Option.some { block := x0_1.5, off := (0 : Nat) }) ∧ ((0 : Nat) = (0 : Nat) ∧ (0 : Nat) = (0 : Nat)) ∧ w = w ∧ True) ∧ x.8 = x0_1.8 ∧ (x.6 = x0_1.6 ∧ (0 : Nat) = (0 : Nat) ∧ List.length cs = List.length cs ∧ cs = cs ∧ True) ∧ True) ∧ x0_1.7 = x0_1.7 ∧ x0_1.1 = x0_1.1 ∧ x0_1.3 = x0_1.3 ∧ P2 x0_1) ∧ ∀ (x_1 : AwX),
  x_1.7 = x0_1.7 ∧ x_1.1 = x0_1.1 ∧ x_1.3 = x0_1.3 ∧ P2 x_1 → (x_1.2 < x_1.3 → ∀ (b : Nat), Value.oneCell' (Value.int IntKind.u8 (120 : Int)) = Bool.true ∧ ∃ (x : PtY), ∃ (L : List (Nat × Blk)), ∃ (G : List (Nat × Blk)), List.Perm (x_1.8 ++ [(b, Blk.tab (5 : Nat) (0 : Nat) (1 : Nat) [Col.ints IntKind.u8 [(120 : Int)]])]) (L ++ G) ∧ JptPre x [Value.pointer (Option.some { block := x_1.5, off := (0 : Nat) }), Value.agg #[Value.int IntKind.u8 x_1.7, Value.bool Bool.true, Value.bool Bool.true, Value.bool Bool.false,
  Value.bool Bool.false, Value.int IntKind.u32 (IntKind.wrap IntKind.u32 (x_1.4 + (1 : Int))), Value.int IntKind.u16 x_1.1, Value.int IntKind.u32 x_1.2, Value.int IntKind.u32 (0 : Int), Value.int IntKind.u32 (0 : Int), Value.int IntKind.u32 (0 : Int), Value.int IntKind.u32 (0 : Int), Value.int IntKind.u16 (0 : Int), Value.int IntKind.u16 (0 : Int), Value.slice Option.none (0 : Nat) (0 : Nat), Value.slice Option.none (0 : Nat) (0 : Nat), Value.slice Option.none (0 : Nat) (0 : Nat), Value.slice Option.none (0 : Nat) (0 : Nat),
  Value.slice (Option.some { block := b, off := (0 : Nat) * (1 : Nat) }) (1 : Nat) (1 : Nat)]] L ∧ ∀ (a : Bool) (L' : List (Nat × Blk)), JptPost x a L' → (a = Bool.false → False ∧ Q (L' ++ G ++ [(x_1.6, Blk.tab (22 : Go.TypeId) (0 : Nat) (List.length cs) [Col.ints IntKind.u8 cs])])) ∧ (¬a = Bool.false → ∃ (x : JX), ∃ (L : List (Nat × Blk)), ∃ (G_1 : List (Nat × Blk)), List.Perm (L' ++ G) (L ++ G_1) ∧ JtPre x [Value.pointer (Option.some { block := x_1.5, off := (0 : Nat) })] L ∧ ∀ (a : TkA) (L' : List (Nat × Blk)), JtPost x a L' → ∀ (b : Nat),
  Value.oneCell' (Value.int IntKind.u16 a.1.1) = Bool.true ∧ Value.oneCell' (Value.bool a.1.2) = Bool.true ∧ Value.oneCell' (Value.int IntKind.u32 a.1.3) = Bool.true ∧ Value.oneCell' (Value.int IntKind.u32 a.1.4) = Bool.true ∧ (a.3 = Bool.false → False ∧ Q (L' ++ G_1 ++ [(x_1.6, Blk.tab (22 : Go.TypeId) (0 : Nat) (List.length cs) [Col.ints IntKind.u8 cs]), (b, Blk.cells [Value.int IntKind.u16 a.1.1, Value.bool a.1.2, Value.int IntKind.u32 a.1.3, Value.int IntKind.u32 a.1.4, Value.slice a.2.1 a.2.2 a.2.3] (38 : Nat))])) ∧ (¬a.3 = Bool.false → ∃ (y : AwX),
  Int.toNat y.3 - Int.toNat y.2 < Int.toNat x_1.3 - Int.toNat x_1.2 ∧ ((x_1.3 = y.3 ∧ IntKind.wrap IntKind.u32 (x_1.2 + (1 : Int)) = y.2 ∧ x_1.1 = y.1 ∧ x_1.1 = y.1 ∧ IntKind.wrap IntKind.u32 (x_1.4 + (1 : Int)) = y.4 ∧ x_1.7 = y.7 ∧ Value.pointer (Option.some { block := x_1.5, off := (0 : Nat) }) = Value.pointer (Option.some { block := y.5, off := (0 : Nat) }) ∧ ((0 : Nat) = (0 : Nat) ∧ (0 : Nat) = (0 : Nat)) ∧ w = w ∧ True) ∧ L' ++ G_1 = y.8 ∧ (x_1.6 = y.6 ∧ (0 : Nat) = (0 : Nat) ∧ List.length cs = List.length cs ∧ cs = cs ∧ True) ∧ True) ∧
  y.7 = x0_1.7 ∧ y.1 = x0_1.1 ∧ y.3 = x0_1.3 ∧ P2 y))) ∧ (¬x_1.2 < x_1.3 → ∃ (y : AwX), (3 : Nat) - Int.toNat y.1 < (3 : Nat) - Int.toNat x.1 ∧ ((IntKind.wrap IntKind.u16 (x_1.1 + (1 : Int)) = y.1 ∧ x_1.4 = y.4 ∧ x_1.7 = y.7 ∧ Value.pointer (Option.some { block := x_1.5, off := (0 : Nat) }) = Value.pointer (Option.some { block := y.5, off := (0 : Nat) }) ∧ ((0 : Nat) = (0 : Nat) ∧ (0 : Nat) = (0 : Nat)) ∧ w = w ∧ True) ∧ x_1.8 = y.8 ∧ (x_1.6 = y.6 ∧ (0 : Nat) = (0 : Nat) ∧ List.length cs = List.length cs ∧ cs = cs ∧ True) ∧ True) ∧ y.7 = x0.7 ∧ P1 y)) ∧ (¬x.1 < (3 : Int) →
  (3 : Int) ≠ (0 : Int) ∧ ∀ (b : Nat), ∃ (x_1 : RsY), ∃ (L : List (Nat × Blk)), ∃ (G : List (Nat × Blk)), List.Perm (x.8 ++ [(b, Blk.cells [Value.int IntKind.u16 (Int.tmod w (3 : Int))] (23 : Nat))]) (L ++ G) ∧ JrsPre x_1 [Value.pointer (Option.some { block := x.5, off := (0 : Nat) }), Value.slice (Option.some { block := b, off := (0 : Nat) * (1 : Nat) }) (1 : Nat) (1 : Nat)] L ∧ ∀ (a : Unit) (L' : List (Nat × Blk)), JrsPost x_1 a L' → ∃ (x0 : AwX), ((((0 : Int) = x0.1 ∧ Int.tmod w (3 : Int) = x0.3 ∧ x.4 = x0.4 ∧ x.7 = x0.7 ∧ Value.pointer (Option.some { block := x.5, off := (0 : Nat) }) =
  Value.pointer (Option.some { block := x0.5, off := (0 : Nat) }) ∧ ((0 : Nat) = (0 : Nat) ∧ (0 : Nat) = (0 : Nat)) ∧ True) ∧ L' ++ G = x0.8 ∧ (x.6 = x0.6 ∧ (0 : Nat) = (0 : Nat) ∧ List.length cs = List.length cs ∧ cs = cs ∧ True) ∧ True) ∧ x0.7 = x0.7 ∧ x0.3 = x0.3 ∧ P3 x0) ∧ ∀ (x : AwX), x.7 = x0.7 ∧ x.3 = x0.3 ∧ P3 x → (x.1 < (3 : Int) → ((0 : Int) ≤ x.1 ∧ x.1 < (↑(3 : Nat) : Int)) ∧ (0 : Nat) + Int.toNat x.1 < List.length cs ∧ (20 : Int) ≠ (0 : Int) ∧ ∃ (x0_1 : AwX), ((x.1 = x.3 → ∃ (y : AwX), (((0 : Int) = y.2 ∧ x.1 = y.1 ∧ x.1 = y.1 ∧ x.3 = y.3 ∧ x.4 = y.4 ∧ x.7 = y.7 ∧
  Value.pointer (Option.some { block := x.5, off := (0 : Nat) }) = Value.pointer (Option.some { block := y.5, off := (0 : Nat) }) ∧ ((0 : Nat) = (0 : Nat) ∧ (0 : Nat) = (0 : Nat)) ∧ True) ∧ x.8 = y.8 ∧ (x.6 = y.6 ∧ (0 : Nat) = (0 : Nat) ∧ List.length cs = List.length cs ∧ cs = cs ∧ True) ∧ True) ∧ y.1 = x0_1.1 ∧ y.4 = x0_1.4 ∧ y.5 = x0_1.5 ∧ y.8 = x0_1.8 ∧ y.3 = x0_1.3 ∧ y.7 = x0_1.7 ∧ P16 y) ∧ (¬x.1 = x.3 → ∃ (y : AwX), ((IntKind.wrap IntKind.u32 (Int.tmod (List.getD cs ((0 : Nat) + Int.toNat x.1) (0 : Int)) (20 : Int)) = y.2 ∧ x.1 = y.1 ∧ x.1 = y.1 ∧ x.3 = y.3 ∧ x.4 = y.4 ∧ x.7 = y.7 ∧
  Value.pointer (Option.some { block := x.5, off := (0 : Nat) }) = Value.pointer (Option.some { block := y.5, off := (0 : Nat) }) ∧ ((0 : Nat) = (0 : Nat) ∧ (0 : Nat) = (0 : Nat)) ∧ True) ∧ x.8 = y.8 ∧ (x.6 = y.6 ∧ (0 : Nat) = (0 : Nat) ∧ List.length cs = List.length cs ∧ cs = cs ∧ True) ∧ True) ∧ y.1 = x0_1.1 ∧ y.4 = x0_1.4 ∧ y.5 = x0_1.5 ∧ y.8 = x0_1.8 ∧ y.3 = x0_1.3 ∧ y.7 = x0_1.7 ∧ P16 y)) ∧ ∀ (x_2 : AwX), x_2.1 = x0_1.1 ∧ x_2.4 = x0_1.4 ∧ x_2.5 = x0_1.5 ∧ x_2.8 = x0_1.8 ∧ x_2.3 = x0_1.3 ∧ x_2.7 = x0_1.7 ∧ P16 x_2 → ∀ (b : Nat),
  Value.oneCell' (Value.int IntKind.u8 (121 : Int)) = Bool.true ∧ ∃ (x_3 : PtY), ∃ (L : List (Nat × Blk)), ∃ (G : List (Nat × Blk)), List.Perm (x_2.8 ++ [(b, Blk.tab (5 : Nat) (0 : Nat) (1 : Nat) [Col.ints IntKind.u8 [(121 : Int)]])]) (L ++ G) ∧ JptPre x_3 [Value.pointer (Option.some { block := x_2.5, off := (0 : Nat) }), Value.agg #[Value.int IntKind.u8 x_2.7, Value.bool Bool.true, Value.bool Bool.true, Value.bool Bool.false, Value.bool Bool.false, Value.int IntKind.u32 (IntKind.wrap IntKind.u32 (x_2.4 + (1 : Int))), Value.int IntKind.u16 x_2.1, Value.int IntKind.u32 x_2.2,
  Value.int IntKind.u32 (0 : Int), Value.int IntKind.u32 (0 : Int), Value.int IntKind.u32 (0 : Int), Value.int IntKind.u32 (0 : Int), Value.int IntKind.u16 (0 : Int), Value.int IntKind.u16 (0 : Int), Value.slice Option.none (0 : Nat) (0 : Nat), Value.slice Option.none (0 : Nat) (0 : Nat), Value.slice Option.none (0 : Nat) (0 : Nat), Value.slice Option.none (0 : Nat) (0 : Nat), Value.slice (Option.some { block := b, off := (0 : Nat) * (1 : Nat) }) (1 : Nat) (1 : Nat)]] L ∧ ∀ (a : Bool) (L' : List (Nat × Blk)), JptPost x_3 a L' → (a = Bool.false → False ∧ Q (L' ++ G ++ [(x_2.6,
  Blk.tab (22 : Go.TypeId) (0 : Nat) (List.length cs) [Col.ints IntKind.u8 cs])])) ∧ (¬a = Bool.false → ∃ (x_4 : JX), ∃ (L : List (Nat × Blk)), ∃ (G_1 : List (Nat × Blk)), List.Perm (L' ++ G) (L ++ G_1) ∧ JtPre x_4 [Value.pointer (Option.some { block := x_2.5, off := (0 : Nat) })] L ∧ ∀ (a : TkA) (L' : List (Nat × Blk)), JtPost x_4 a L' → ∀ (b : Nat), Value.oneCell' (Value.int IntKind.u16 a.1.1) = Bool.true ∧ Value.oneCell' (Value.bool a.1.2) = Bool.true ∧ Value.oneCell' (Value.int IntKind.u32 a.1.3) = Bool.true ∧ Value.oneCell' (Value.int IntKind.u32 a.1.4) = Bool.true ∧ (a.3 = Bool.false →
  False ∧ Q (L' ++ G_1 ++ [(x_2.6, Blk.tab (22 : Go.TypeId) (0 : Nat) (List.length cs) [Col.ints IntKind.u8 cs]), (b, Blk.cells [Value.int IntKind.u16 a.1.1, Value.bool a.1.2, Value.int IntKind.u32 a.1.3, Value.int IntKind.u32 a.1.4, Value.slice a.2.1 a.2.2 a.2.3] (38 : Nat))])) ∧ (¬a.3 = Bool.false → (a.1.3 ≠ x_2.2 → False ∧ Q (L' ++ G_1 ++ [(x_2.6, Blk.tab (22 : Go.TypeId) (0 : Nat) (List.length cs) [Col.ints IntKind.u8 cs]), (b, Blk.cells [Value.int IntKind.u16 a.1.1, Value.bool a.1.2, Value.int IntKind.u32 a.1.3, Value.int IntKind.u32 a.1.4, Value.slice a.2.1 a.2.2 a.2.3] (38 : Nat))])) ∧
  (¬a.1.3 ≠ x_2.2 → (a.1.1 ≠ x_2.1 → False ∧ Q (L' ++ G_1 ++ [(x_2.6, Blk.tab (22 : Go.TypeId) (0 : Nat) (List.length cs) [Col.ints IntKind.u8 cs]), (b, Blk.cells [Value.int IntKind.u16 a.1.1, Value.bool a.1.2, Value.int IntKind.u32 a.1.3, Value.int IntKind.u32 a.1.4, Value.slice a.2.1 a.2.2 a.2.3] (38 : Nat))])) ∧ (¬a.1.1 ≠ x_2.1 → ∃ (y : AwX), (3 : Nat) - Int.toNat y.1 < (3 : Nat) - Int.toNat x.1 ∧ ((IntKind.wrap IntKind.u16 (x_2.1 + (1 : Int)) = y.1 ∧ x_2.3 = y.3 ∧ IntKind.wrap IntKind.u32 (x_2.4 + (1 : Int)) = y.4 ∧ x_2.7 = y.7 ∧ Value.pointer (Option.some { block := x_2.5, off := (0 : Nat) }) = Value.pointer (Option.some { block := y.5, off := (0 : Nat) }) ∧ ((0 : Nat) = (0 : Nat) ∧ (0 : Nat) = (0 : Nat)) ∧ True) ∧ L' ++ G_1 = y.8 ∧ (x_2.6 = y.6 ∧ (0 : Nat) = (0 : Nat) ∧ List.length cs = List.length cs ∧ cs = cs ∧ True) ∧ True) ∧ y.7 = x0.7 ∧ y.3 = x0.3 ∧ P3 y))))) ∧ (¬x.1 < (3 : Int) → ∃ (x_2 : JX), ∃ (L : List (Nat × Blk)), ∃ (G : List (Nat × Blk)), List.Perm x.8 (L ++ G) ∧ JhdPre x_2 [Value.pointer (Option.some { block := x.5, off := (0 : Nat) })] L ∧ ∀ (a : Int) (L' : List (Nat × Blk)), JhdPost x_2 a L' → a = (0 : Int) ∧ Q (L' ++ G ++
  [(x.6, Blk.tab (22 : Go.TypeId) (0 : Nat) (List.length cs) [Col.ints IntKind.u8 cs])]))) from by
  simp only [eq_self, true_and, and_true, false_and, and_false, or_false, false_or, and_self, Nat.zero_add, Nat.add_zero, Nat.sub_zero, Nat.zero_mul, Nat.mul_one, Int.toNat_natCast, cond_true, cond_false, forall_const, implies_true, Nat.beq_refl, ne_eq, not_false_eq_true, not_true_eq_false, Classical.not_not, List.cons.injEq, List.append_nil, List.nil_append, Go.Value.int.injEq, Go.Value.bool.injEq, Go.Value.slice.injEq, Nat.le_refl, Nat.zero_le, Go.Sx.one_int, Go.Sx.one_bool, Go.Sx.one_slice, Go.Sx.one_ptr, Go.Sx.one_map, Int.cast_ofNat_Int, reduceCtorEq, Nat.reduceLeDiff, Nat.reduceMul, Nat.reduceAdd, Nat.reduceSub, Nat.reduceEqDiff, Int.reduceLE, Int.reduceLT, Int.reduceEq, Int.reduceAdd, Int.reduceSub, Int.reduceNeg, Int.reduceMul, Nat.reduceBEq]
  subst e7 e1 e2 e3 e16 eQ
  have cr := awC_range hc
  refine fun b => ⟨(), rfl, inter, [], L0, List.Perm.refl _, ⟨rfl, rfl⟩, fun a L1 hJ => ?_⟩
  have hJ0 : AwJ inter L0 (fun _ => 0) a (L1 ++ L0) := ⟨[], by
    have := JAt.more hJ L0
    rw [List.append_nil]
    exact this⟩
  refine ⟨⟨0, 0, 0, 0, a, b, kindF inter, L1 ++ L0⟩, ⟨fun hi => ⟨⟨0, 0, 0, 0, a, b, 64, L1 ++ L0⟩, ⟨⟨rfl, rfl⟩, rfl, rfl⟩, rfl, rfl, by rw [hi]; rfl⟩, fun hi => ⟨⟨0, 0, 0, 0, a, b, 0, L1 ++ L0⟩, ⟨⟨rfl, rfl⟩, rfl, rfl⟩, rfl, rfl, by rw [Bool.eq_false_iff.2 hi]; rfl⟩⟩, ?_⟩
  intro y0 hy0
  obtain ⟨hL, hb, hk⟩ := hy0
  have hL : y0.L = L1 ++ L0 := hL
  have hb : y0.b = a := hb
  have hk : y0.k = kindF inter := hk
  refine ⟨⟨0, 0, 0, 0, y0.b, y0.bb, y0.k, y0.L⟩, ⟨⟨⟨rfl, rfl, rfl, rfl⟩, rfl, rfl⟩, Int.le_refl _, (by show (0 : Int) ≤ 3; decide), _, (by rw [hL, hb]; exact hJ0), fun s h0 h3 => ?_⟩, ?_⟩
  · have h0 : ¬ s < 0 := by omega
    show (0 : Int) = if s < 0 then _ else 0
    rw [if_neg h0]
  intro y hy
  obtain ⟨hky, hs0, hs3, nx, hJ, hn⟩ := hy
  have hky : y.k = kindF inter := hky.trans hk
  clear hJ0
  refine ⟨fun hs => ?_, fun hs => ?_⟩
  · have ec : IntKind.u32.wrap ((cs.getD y.s.toNat 0).tmod 20) = awC cs y.s := by
      have h := cr y.s
      exact wrap32_small h.1 (Int.lt_trans h.2 (by decide))
    refine ⟨⟨hs0, hs⟩, by rw [hl]; omega, ⟨y.s, 0, awC cs y.s, y.t, y.b, y.bb, y.k, y.L⟩, ⟨⟨⟨ec, rfl, rfl, rfl, rfl, rfl, rfl⟩, rfl, rfl⟩, hs0, hs, Int.le_refl _, (cr y.s).1, rfl, nx, hJ, fun x h0 h3 => ?_⟩, ?_⟩
    · show nx x = if x < y.s then awC cs x else if x = y.s then 0 else 0
      rw [hn x h0 h3]
      congr 1
      split <;> rfl
    clear hJ hn nx
    intro z hz
    obtain ⟨hkz, hzs, hzm, hz0, hz3, hi0, him, hzc, nx, hJ, hn⟩ := hz
    have hkz : z.k = kindF inter := Eq.trans hkz hky
    have hzs : z.s = y.s := hzs
    have hzm : z.m = awC cs y.s := hzm
    have hc2 := cr z.s
    refine ⟨fun hlt b2 => ?_, fun hge => ?_⟩
    · obtain ⟨x, -, -, -, hpre, hpost⟩ := AwJ.put hJ (bb := b2) (z := 120) (c := ⟨z.k, true, true, false, IntKind.wrap .u32 (z.t + 1), z.s, z.i, 0, 0, [120]⟩) rfl rfl rfl rfl hkz hi0 (by show z.i < 100; omega) (by rw [hn z.s hz0 hz3, if_neg (Int.lt_irrefl _), if_pos rfl]) rfl
      refine ⟨x, _, [], by rw [List.append_nil], hpre, fun r L2 hr => ?_⟩
      obtain ⟨hr, N, hJ2⟩ := hpost r L2 hr
      refine ⟨fun h => (by rw [hr] at h; cases h), fun _ => ?_⟩
      obtain ⟨x2, hpre2, hpost2⟩ := AwJ.take hJ2
      refine ⟨x2, _, [], by rw [List.append_nil], hpre2, fun tk L3 htk => ?_⟩
      obtain ⟨hok, -, hJ3⟩ := hpost2 tk L3 htk
      refine ⟨fun h => (by rw [hok] at h; cases h), fun _ => ?_⟩
      have ei : IntKind.u32.wrap (z.i + 1) = z.i + 1 := wrap32_small (by omega) (by omega)
      refine ⟨⟨z.s, z.i + 1, z.m, IntKind.u32.wrap (z.t + 1), z.b, z.bb, z.k, L3⟩, (by show z.m.toNat - (z.i + 1).toNat < z.m.toNat - z.i.toNat; omega), ⟨⟨rfl, ei, rfl, rfl, rfl, rfl, rfl⟩, by rw [List.append_nil], rfl⟩, hkz.trans hky.symm, hzs, hzm, hz0, hz3, (by show 0 ≤ z.i + 1; omega), (by show z.i + 1 ≤ z.m; omega), hzc, _, hJ3, fun s h0 h3 => ?_⟩
      show updN nx z.s (z.i + 1) s = if s < z.s then awC cs s else if s = z.s then z.i + 1 else 0
      unfold updN
      rw [hn s h0 h3]
      by_cases e : s = z.s
      · rw [if_pos e, if_neg (by omega), if_pos e]
      · rw [if_neg e, if_neg e, if_neg e]
    · have es : IntKind.u16.wrap (z.s + 1) = z.s + 1 := wrap16_small (by omega) (by omega)
      refine ⟨⟨z.s + 1, 0, 0, z.t, z.b, z.bb, z.k, z.L⟩, (by show 3 - (z.s + 1).toNat < 3 - y.s.toNat; omega), ⟨⟨es, rfl, rfl, rfl⟩, rfl, rfl⟩, hkz.trans hk.symm, (by show 0 ≤ z.s + 1; omega), (by show z.s + 1 ≤ 3; omega), nx, hJ, fun s h0 h3 => ?_⟩
      show nx s = if s < z.s + 1 then awC cs s else 0
      rw [hn s h0 h3]
      by_cases e : s = z.s
      · subst e
        rw [if_neg (Int.lt_irrefl _), if_pos rfl, if_pos (by omega)]
        omega
      · by_cases e2 : s < z.s
        · rw [if_pos e2, if_pos (by omega)]
        · rw [if_neg e2, if_neg e, if_neg (by omega)]
  · intro bw
    obtain ⟨x, hpre, hpost⟩ := AwJ.reset hJ bw (w.tmod 3)
    refine ⟨x, _, [], by rw [List.append_nil], hpre, fun _ L2 hr => ?_⟩
    have hJ2 := hpost _ L2 hr
    refine ⟨⟨0, 0, w.tmod 3, y.t, y.b, y.bb, y.k, L2⟩, ⟨⟨⟨rfl, rfl, rfl, rfl, rfl⟩, by rw [List.append_nil], rfl⟩, Int.le_refl _, (by show (0 : Int) ≤ 3; decide), _, hJ2, fun s h0 h3 => ?_⟩, ?_⟩
    · show updN nx (w.tmod 3) 0 s = if s = w.tmod 3 then 0 else awC cs s
      unfold updN
      by_cases e : s = w.tmod 3
      · rw [if_pos e, if_pos e]
      · have h0 : 0 ≤ s := h0
        rw [if_neg e, if_neg e, hn s h0 h3, if_pos (by omega)]
    clear hJ hJ2 hn nx hpre hpost hr
    intro z hz
    obtain ⟨hkz, hzm, hz0, hz3, nx, hJ, hn⟩ := hz
    have hkz : z.k = kindF inter := Eq.trans hkz hky
    refine ⟨fun hlt => ?_, fun hge => ?_⟩
    · have ec : IntKind.u32.wrap ((cs.getD z.s.toNat 0).tmod 20) = awC cs z.s := by
        have h := cr z.s
        exact wrap32_small h.1 (Int.lt_trans h.2 (by decide))
      have hc2 := cr z.s
      refine ⟨⟨hz0, hlt⟩, by rw [hl]; omega, ⟨z.s, 0, z.m, z.t, z.b, z.bb, z.k, z.L⟩, ⟨fun e => ⟨⟨z.s, 0, z.m, z.t, z.b, z.bb, z.k, z.L⟩, ⟨⟨rfl, rfl, rfl, rfl, rfl, rfl, rfl⟩, rfl, rfl⟩, rfl, rfl, rfl, rfl, rfl, rfl, by show (0 : Int) = if z.s = z.m then 0 else _; rw [if_pos e]⟩,
        fun e => ⟨⟨z.s, awC cs z.s, z.m, z.t, z.b, z.bb, z.k, z.L⟩, ⟨⟨ec, rfl, rfl, rfl, rfl, rfl, rfl⟩, rfl, rfl⟩, rfl, rfl, rfl, rfl, rfl, rfl, by show awC cs z.s = if z.s = z.m then 0 else _; rw [if_neg e]⟩⟩, ?_⟩
      intro v hv b2
      obtain ⟨hvs, hvt, hvb, hvL, hvm, hvk, hvi⟩ := hv
      have hvs : v.s = z.s := hvs
      have hvb : v.b = z.b := hvb
      have hvL : v.L = z.L := hvL
      have hvm : v.m = z.m := hvm
      have hvk : v.k = kindF inter := Eq.trans hvk hkz
      have hvi : v.i = if v.s = v.m then 0 else awC cs v.s := hvi
      have hv2 : 0 ≤ v.i ∧ v.i < 20 := by
        rw [hvi, hvs]
        split <;> omega
      have hJv : AwJ inter L0 nx v.b v.L := by rw [hvb, hvL]; exact hJ
      obtain ⟨x, -, -, -, hpre, hpost⟩ := AwJ.put hJv (bb := b2) (z := 121) (c := ⟨v.k, true, true, false, IntKind.wrap .u32 (v.t + 1), v.s, v.i, 0, 0, [121]⟩) rfl rfl rfl rfl hvk hv2.1 (by show v.i < 100; omega) (by show nx v.s = v.i; rw [hn v.s (by rw [hvs]; exact Int.le_refl _) (by omega), hvi, hvm]) rfl
      refine ⟨x, _, [], by rw [List.append_nil], hpre, fun r L2 hr => ?_⟩
      obtain ⟨hr, N, hJ2⟩ := hpost r L2 hr
      refine ⟨fun h => (by rw [hr] at h; cases h), fun _ => ?_⟩
      obtain ⟨x2, hpre2, hpost2⟩ := AwJ.take hJ2
      refine ⟨x2, _, [], by rw [List.append_nil], hpre2, fun tk L3 htk => ?_⟩
      obtain ⟨hok, hm, hJ3⟩ := hpost2 tk L3 htk
      have em1 : tk.m.mid = v.i := by rw [hm]
      have em2 : tk.m.st = v.s := by rw [hm]
      refine ⟨fun h => (by rw [hok] at h; cases h), fun _ => ⟨fun h => h em1, fun _ => ⟨fun h => h em2, fun _ => ?_⟩⟩⟩
      have es : IntKind.u16.wrap (v.s + 1) = v.s + 1 := wrap16_small (by omega) (by omega)
      refine ⟨⟨v.s + 1, 0, v.m, IntKind.u32.wrap (v.t + 1), v.b, v.bb, v.k, L3⟩, (by show 3 - (v.s + 1).toNat < 3 - z.s.toNat; omega), ⟨⟨es, rfl, rfl, rfl, rfl⟩, by rw [List.append_nil], rfl⟩, hvk.trans hky.symm, hvm.trans hzm, (by show 0 ≤ v.s + 1; omega), (by show v.s + 1 ≤ 3; omega), _, hJ3, fun s h0 h3 => ?_⟩
      have h0 : v.s + 1 ≤ s := h0
      show updN nx v.s (v.i + 1) s = if s = v.m then 0 else awC cs s
      unfold updN
      rw [if_neg (by omega), hn s (by omega) h3, hvm]
    · obtain ⟨x, hpre, hpost⟩ := AwJ.held hJ
      refine ⟨x, _, [], by rw [List.append_nil], hpre, fun r L2 hr => ?_⟩
      obtain ⟨e, G, hG⟩ := hpost r L2 hr
      refine ⟨e, G ++ [(z.bb, Blk.tab 22 0 cs.length [Col.ints IntKind.u8 cs])], ?_⟩
      have := hG.append_right [(z.bb, Blk.tab 22 0 cs.length [Col.ints IntKind.u8 cs])]
      simpa using this)
end Go.Proofs.Ytpjikjhaljennaa
