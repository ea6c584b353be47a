/- Joiners: Held (its runs). -/
import Derived.Test.YtpjikjhaljennaaJoL
set_option maxRecDepth 100000
set_option linter.unusedVariables false
set_option linter.unusedSimpArgs false
namespace Go.Proofs.Ytpjikjhaljennaa
open Go Go.Sx
attribute [local irreducible] Go.Sx.xrun

structure HdX where
  es : List MapEntry
  se : List Nat
  n : Int
def Ann.setMJ : List Ent → List MapEntry → List Nat → List Ent
  | [], _, _ => []
  | .own b (.obj (.map _ c)) :: r, es, se => .own b (.obj (.map ⟨es⟩ c)) :: Ann.setMJ r es se
  | .own b (.obj (.mapIter m s _ l)) :: r, es, se => .own b (.obj (.mapIter m s ⟨se⟩ l)) :: Ann.setMJ r es se
  | x :: r, es, se => x :: Ann.setMJ r es se
def Ann.hdJ (i : Bool) (mn : Nat) (s : SV) : SBlk := .cells 6 [.val (.bool i), .mp 1, .mp 2, .mp 3, .val (.map (some mn)), s] 97
def Ann.hdH (i : Bool) (b mp mq mw mn : Nat) (fp fq fw : Value → Option Value) (s : SV) (G : Blks) : List Ent :=
  [.own b (Ann.hdJ i mn s), .own mp (.map kSh fp none), .own mq (.map (.one (.int .u32)) fq none), .own mw (.map kSh fw none), .chunk G]
noncomputable def Ann.hdC (H : List Ent) (P : Int → Prop) : LoopAnn := ⟨HdX, [(fun σ y => ⟨σ.n, (3, .val (.int .i64 y.n)) :: keepE σ.env [0], H⟩, fun _ y => P y.n)], fun _ => 0⟩
noncomputable def Ann.hdL (t : Nat) (I : List MapEntry → List MapEntry → List Nat → Int → Prop) : LoopAnn := ⟨HdX, [(fun σ y => ⟨σ.n, (3, .val (.int .i64 y.n)) :: keepE σ.env [0, t], Ann.setMJ σ.heap y.es y.se⟩, fun x0 y => I x0.es y.es y.se y.n)], fun y => unseen y.es y.se⟩
structure HdY where
  i : Nat
  n : Int
noncomputable def Ann.hd (H : List Ent) (Pa Pb Pc' : Int → Prop) (I1 I2 I3 : List MapEntry → List MapEntry → List Nat → Int → Prop) (I4 : Nat → Int → Prop) (c : Nat) : FnAnn := ⟨[(22, .to Unit fun _ => .val (.map none)), (42, .to (Pc × JS) fun p => .agg (p.1.svs p.2)), (56, .to (Mg × JS) fun p => .agg (p.1.svs p.2)), (70, .to (Mg × JS) fun p => .agg (p.1.svs p.2))],
  [(3, Ann.hdL 18 I1), (6, ⟨HdX, [(fun σ y => ⟨σ.n, (3, .val (.int .i64 y.n)) :: keepE σ.env [0, 18, 24], σ.heap⟩, fun _ _ => False)], fun _ => 0⟩), (1000009, Ann.hdC H Pa), (10, Ann.hdL 38 I2), (1000013, Ann.hdC H Pb), (14, Ann.hdL 52 I3), (1000017, Ann.hdC H Pc'),
   (18, ⟨HdY, [(fun σ y => ⟨σ.n, (3, .val (.int .i64 y.n)) :: (67, .val (.int .i64 y.i)) :: keepE σ.env [0, 65, 66], H⟩, fun _ y => I4 y.i y.n)], fun y => c - y.i⟩)]⟩
noncomputable def hdNGoal (i : Bool) (b mp mq mw mn : Nat) (fp fq fw : Value → Option Value) (G : Blks) (Pa Pb Pc' : Int → Prop) (I1 I2 I3 : List MapEntry → List MapEntry → List Nat → Int → Prop) (I4 : Nat → Int → Prop) (R : Value → Blks → Prop) : Prop :=
  xrun Go.Proofs.Try.prog [] [(22, Ann.hd (Ann.hdH i b mp mq mw mn fp fq fw (.val (.slice none 0 0)) G) Pa Pb Pc' I1 I2 I3 I4 0)] [] 9 [] 22 [.ptr 0 0 0]
    (Ann.hdH i b mp mq mw mn fp fq fw (.val (.slice none 0 0)) G) fun t h => R (den (locs h) t) (owned (locs h) h)
noncomputable def hdGoal (i : Bool) (b mp mq mw mn : Nat) (fp fq fw : Value → Option Value) (rb rx rn rc : Nat) (G : Blks) (Pa Pb Pc' : Int → Prop) (I1 I2 I3 : List MapEntry → List MapEntry → List Nat → Int → Prop) (I4 : Nat → Int → Prop) (R : Value → Blks → Prop) : Prop :=
  xrun Go.Proofs.Try.prog [] [(22, Ann.hd (Ann.hdH i b mp mq mw mn fp fq fw (.val (.slice (some ⟨rb, rx, none⟩) rn rc)) G) Pa Pb Pc' I1 I2 I3 I4 rn)] [] 9 [] 22 [.ptr 0 0 0]
    (Ann.hdH i b mp mq mw mn fp fq fw (.val (.slice (some ⟨rb, rx, none⟩) rn rc)) G) fun t h => R (den (locs h) t) (owned (locs h) h)
open Classical
/-! Sums over what was seen of a map. -/
def lenV : Value → Nat
  | .agg cs => (match cs.toList.getLast? with
    | some (.slice _ l _) => l
    | _ => 0)
  | _ => 0
noncomputable def sumSe (es : List MapEntry) (se : List Nat) : Nat := ((es.filter fun e => decide (e.born ∈ se)).map fun e => lenV e.val).sum
def sumEs (es : List MapEntry) : Nat := (es.map fun e => lenV e.val).sum
theorem sumSe_nil (es : List MapEntry) : sumSe es [] = 0 := by
  unfold sumSe
  rw [List.filter_eq_nil_iff.2 fun e _ => by simp]
  rfl
theorem sumSe_step {es : List MapEntry} (hn : (es.map (·.born)).Nodup) {e : MapEntry} (he : e ∈ es) {se : List Nat} (hs : e.born ∉ se) : sumSe es (se ++ [e.born]) = sumSe es se + lenV e.val := by
  unfold sumSe
  induction es with
  | nil => simp at he
  | cons x r ih =>
    simp only [List.map_cons, List.nodup_cons] at hn
    rcases List.mem_cons.1 he with rfl | he
    · rw [List.filter_cons_of_pos (by simp), List.filter_cons_of_neg (by simpa using hs)]
      have hr : (r.filter fun a => decide (a.born ∈ se ++ [e.born])) = r.filter fun a => decide (a.born ∈ se) := List.filter_congr fun a ha => by
        apply decide_eq_decide.2
        rw [List.mem_append, List.mem_singleton]
        exact ⟨fun h => h.resolve_right fun h => hn.1 (by rw [← h]; exact List.mem_map_of_mem ha), .inl⟩
      rw [hr, List.map_cons, List.sum_cons, Nat.add_comm]
    · have hxe : x.born ≠ e.born := fun h => hn.1 (by rw [h]; exact List.mem_map_of_mem he)
      have := ih hn.2 he
      by_cases hx : x.born ∈ se
      · rw [List.filter_cons_of_pos (by simp [hx]), List.filter_cons_of_pos (by simp [hx]), List.map_cons, List.map_cons, List.sum_cons, List.sum_cons, this, Nat.add_assoc]
      · rw [List.filter_cons_of_neg (by simp [hx, hxe]), List.filter_cons_of_neg (by simp [hx]), this]
theorem sumSe_le (es : List MapEntry) (se : List Nat) : sumSe es se ≤ sumEs es := by
  unfold sumSe sumEs
  induction es with
  | nil => simp
  | cons x r ih =>
    by_cases hx : x.born ∈ se
    · rw [List.filter_cons_of_pos (by simp [hx]), List.map_cons, List.map_cons, List.sum_cons, List.sum_cons]
      omega
    · rw [List.filter_cons_of_neg (by simp [hx]), List.map_cons, List.sum_cons]
      omega
theorem sumSe_all {es : List MapEntry} {se : List Nat} (h : ∀ e ∈ es, e.born ∈ se) : sumSe es se = sumEs es := by
  unfold sumSe sumEs
  rw [List.filter_eq_self.2 fun e he => by simpa using h e he]
theorem sum_rm {α : Type} {key : α → Value} {R : α → Value → Prop} {l : List α} {es : List MapEntry} {ks : KShape} {clock : Nat} (g : GoodMap ks ⟨es⟩ clock) (h : SM key (Pure R) l (getM es) []) {f : α → Nat} (hf : ∀ a v, R a v → lenV v = f a) : sumEs es = (l.map f).sum := by
  have hp : (es.map (·.key)).Perm (l.map key) := by
    refine (List.perm_ext_iff_of_nodup g.nodup h.1).2 fun k => ⟨fun hk => ?_, fun hk => ?_⟩
    · obtain ⟨e, he, rfl⟩ := List.mem_map.1 hk
      obtain ⟨a, ha, e1⟩ := h.2.1 e.key (by rw [getM_mem g.nodup he]; simp)
      rw [e1]
      exact List.mem_map_of_mem ha
    · obtain ⟨a, ha, rfl⟩ := List.mem_map.1 hk
      obtain ⟨v, L1, L2, h1, -, -⟩ := SM.get h ha
      obtain ⟨e, he, e1, -⟩ := getM_some h1
      rw [← e1]
      exact List.mem_map_of_mem he
  have h1 : sumEs es = ((es.map (·.key)).map fun k => lenV ((getM es k).getD .nilIface)).sum := by
    unfold sumEs
    rw [List.map_map]
    congr 1
    refine List.map_congr_left fun e he => ?_
    show lenV e.val = lenV ((getM es e.key).getD .nilIface)
    rw [getM_mem g.nodup he]
    rfl
  rw [h1, (hp.map _).sum_nat]
  rw [List.map_map]
  congr 1
  refine List.map_congr_left fun a ha => ?_
  show lenV ((getM es (key a)).getD .nilIface) = f a
  obtain ⟨v, L1, L2, h1, -, h2⟩ := SM.get h ha
  rw [h1]
  exact hf a v h2
theorem lenV_pc {G : Blks} {p : Pc} {v : Value} (h : PcAt G p v) : lenV v = p.bs.length := by
  obtain ⟨s, rfl, h2, -⟩ := h
  rw [h2.1]
  rfl
theorem lenV_mg {G : Blks} {p : Mg} {v : Value} (h : MgAt G p v) : lenV v = p.bs.length := by
  obtain ⟨s, rfl, h2, -⟩ := h
  rw [h2.1]
  rfl
def sumP (ps : List Pc) : Nat := (ps.map (·.bs.length)).sum
def sumM (ms : List Mg) : Nat := (ms.map (·.bs.length)).sum
def sumK (ps : List (Ky × List Pc)) : Nat := (ps.map fun a => sumP a.2).sum
def JQ.held (q : JQ) : Nat := sumK q.parts + (sumP q.pieces + (sumM q.wait + sumM q.ready))
theorem getM_nil {es : List MapEntry} (h : (fun _ : Value => (none : Option Value)) = getM es) : es = [] := by
  cases es with
  | nil => rfl
  | cons e r =>
    have := congrFun h e.key
    unfold getM at this
    simp at this
theorem sm_nil {α : Type} {key : α → Value} {R : α → Value → Blks → Prop} {m : Value → Option Value} {L : Blks} (h : SM key R [] m L) : m = fun _ => none := by
  funext k
  exact SM.none h fun a ha => by simp at ha
def hdI1 (_ es : List MapEntry) (_ : List Nat) (n : Int) : Prop := es = [] ∧ n = 0
def hdPa (n : Int) : Prop := n = 0
def hdI2 (es0 es : List MapEntry) (se : List Nat) (n : Int) : Prop := es = es0 ∧ n = (sumSe es0 se : Nat)
def hdPb (sp : Nat) (n : Int) : Prop := n = (sp : Nat)
def hdI3 (sp : Nat) (es0 es : List MapEntry) (se : List Nat) (n : Int) : Prop := es = es0 ∧ n = ((sp + sumSe es0 se : Nat) : Int)
def hdPc (sp sw : Nat) (n : Int) : Prop := n = ((sp + sw : Nat) : Int)
def hdI4 (sp sw : Nat) (ms : List Mg) (i : Nat) (n : Int) : Prop := i ≤ ms.length ∧ n = ((sp + sw + sumM (ms.take i) : Nat) : Int)
theorem sumM_take {ms : List Mg} {i : Nat} {m : Mg} (h : ms[i]? = some m) : sumM (ms.take (i + 1)) = sumM (ms.take i) + m.bs.length := by
  unfold sumM
  rw [List.take_add_one, h]
  simp
theorem sumM_take_le (ms : List Mg) (i : Nat) : sumM (ms.take i) ≤ sumM ms := by
  unfold sumM
  have : ms = ms.take i ++ ms.drop i := (List.take_append_drop i ms).symm
  conv => rhs; rw [this, List.map_append, List.sum_append]
  omega
theorem wrap_sum {a b : Nat} (h : a + b < 9223372036854775808) : IntKind.wrap .i64 ((a : Int) + (b : Int)) = ((a + b : Nat) : Int) := by rw [IntKind.wrap_i64]; omega
theorem safe_of {es : List MapEntry} {ks : KShape} {clock : Nat} (g : GoodMap ks ⟨es⟩ clock) (se : List Nat) : se = [] ∨ es = [] ∨ ∃ e, e ∈ es ∧ e.born < clock := by
  cases es with
  | nil => exact .inr (.inl rfl)
  | cons x r => exact .inr (.inr ⟨x, by simp, g.old x (by simp)⟩)
theorem hdN_goal (i : Bool) (b mp mq mw mn : Nat) (fp fq fw : Value → Option Value) (G : Blks) (Pa Pb Pc' : Int → Prop) (I1 I2 I3 : List MapEntry → List MapEntry → List Nat → Int → Prop) (I4 : Nat → Int → Prop) (R : Value → Blks → Prop) {G0 : Blks} {ps : List Pc} {w : List Mg}
    (hfp : fp = fun _ => none) (hq : PiecesAt G0 ps fq) (hw : WaitAt G0 w fw) (hb : sumP ps + sumM w < 4611686018427387904) (eI1 : I1 = hdI1) (eI2 : I2 = hdI2) (eI3 : I3 = hdI3 (sumP ps)) (eI4 : I4 = hdI4 (sumP ps) (sumM w) []) (ePa : Pa = hdPa) (ePb : Pb = hdPb (sumP ps)) (ePc : Pc' = hdPc (sumP ps) (sumM w))
    (hR : R (.int .i64 ((sumP ps + sumM w : Nat) : Int)) ((b, .cells [.bool i, .map (some mp), .map (some mq), .map (some mw), .map (some mn), .slice none 0 0] 97) :: (mp, .map kSh fp none) :: (mq, .map (.one (.int .u32)) fq none) :: (mw, .map kSh fw none) :: G)) :
    hdNGoal i b mp mq mw mn fp fq fw G Pa Pb Pc' I1 I2 I3 I4 R :=
  Eq.mpr (by kernel_rfl) (show
  ∃ (x0 : HdX), (∀ (es : List Go.MapEntry) (clock : Nat), GoodMap kSh { toList := es } clock → fp = getM es → ∀ (bi : Nat), ∃ (x0 : HdX), ((((0 : Int) = x0.3 ∧ ((0 : Nat) = (0 : Nat) ∧ (0 : Nat) = (0 : Nat)) ∧ ((0 : Nat) = (0 : Nat) ∧ (0 : Nat) = (0 : Nat)) ∧ True) ∧ (b = b ∧ Value.bool i = Value.bool i ∧ True ∧ True ∧ True ∧ Value.map (Option.some mn) = Value.map (Option.some mn) ∧ Value.slice Option.none (0 : Nat) (0 : Nat) = Value.slice Option.none (0 : Nat) (0 : Nat) ∧ True) ∧ (mp = mp ∧ Go.Obj.map { toList := es } clock = Go.Obj.map { toList := x0.1 } clock) ∧
  (mq = mq ∧ KShape.one (KS.int IntKind.u32) = KShape.one (KS.int IntKind.u32) ∧ fq = fq ∧ (Option.none : Option (Go.Value × Int)) = Option.none) ∧ (mw = mw ∧ kSh = kSh ∧ fw = fw ∧ (Option.none : Option (Go.Value × Int)) = Option.none) ∧ G = G ∧ (bi = bi ∧ Go.Obj.mapIter (Option.some mp) clock #[] clock = Go.Obj.mapIter (Option.some mp) clock { toList := x0.2 } clock) ∧ True) ∧ I1 x0.1 x0.1 x0.2 x0.3) ∧ ∀ (x : HdX), I1 x0.1 x.1 x.2 x.3 → mp = mp ∧ (x.2 = [] ∨ x.1 = [] ∨ ∃ (e : Go.MapEntry), e ∈ x.1 ∧ e.3 < clock) ∧ ((∀ (e : Go.MapEntry), e ∈ x.1 → e.3 < clock → e.3 ∈ x.2) → ∃ (y : HdX),
  ((x.3 = y.3 ∧ ((0 : Nat) = (0 : Nat) ∧ (0 : Nat) = (0 : Nat)) ∧ True) ∧ (b = b ∧ Value.bool i = Value.bool i ∧ True ∧ True ∧ True ∧ Value.map (Option.some mn) = Value.map (Option.some mn) ∧ Value.slice Option.none (0 : Nat) (0 : Nat) = Value.slice Option.none (0 : Nat) (0 : Nat) ∧ True) ∧ (mp = mp ∧ GoodMap kSh { toList := x.1 } clock ∧ fp = getM x.1 ∧ (Option.none : Option (Go.Value × Int)) = Option.none) ∧ (mq = mq ∧ KShape.one (KS.int IntKind.u32) = KShape.one (KS.int IntKind.u32) ∧ fq = fq ∧ (Option.none : Option (Go.Value × Int)) = Option.none) ∧ (mw = mw ∧ kSh = kSh ∧ fw = fw ∧ (Option.none : Option (Go.Value × Int)) = Option.none) ∧ G = G ∧ True) ∧ Pa y.3) ∧
  ∀ (e : Go.MapEntry), e ∈ x.1 → ¬e.3 ∈ x.2 → mp = mp ∧ clock = clock ∧ List.Nodup (List.map (fun (x : Go.MapEntry) => x.3) x.1) ∧ ∃ (e_1 : Go.MapEntry), e_1 ∈ x.1 ∧ List.getLast? (x.2 ++ [e.3]) = Option.some e_1.3 ∧ ∃ (x_1 : Unit), (∀ (r : List (Nat × Nat × Nat)), Value.map Option.none = e_1.2) ∧ ∀ (bi_1 : Nat), ∃ (x0_1 : HdX), (((x.3 = x0_1.3 ∧ ((0 : Nat) = (0 : Nat) ∧ (0 : Nat) = (0 : Nat)) ∧ ((0 : Nat) = (0 : Nat) ∧ (0 : Nat) = (0 : Nat)) ∧ ((0 : Nat) = (0 : Nat) ∧ (0 : Nat) = (0 : Nat)) ∧ True) ∧ (b = b ∧ Value.bool i = Value.bool i ∧ True ∧ True ∧ True ∧
  Value.map (Option.some mn) = Value.map (Option.some mn) ∧ Value.slice Option.none (0 : Nat) (0 : Nat) = Value.slice Option.none (0 : Nat) (0 : Nat) ∧ True) ∧ (mp = mp ∧ Go.Obj.map { toList := x.1 } clock = Go.Obj.map { toList := x.1 } clock) ∧ (mq = mq ∧ KShape.one (KS.int IntKind.u32) = KShape.one (KS.int IntKind.u32) ∧ fq = fq ∧ (Option.none : Option (Go.Value × Int)) = Option.none) ∧ (mw = mw ∧ kSh = kSh ∧ fw = fw ∧ (Option.none : Option (Go.Value × Int)) = Option.none) ∧ G = G ∧ (bi = bi ∧ Go.Obj.mapIter (Option.some mp) clock { toList := x.2 ++ [e.3] } clock = Go.Obj.mapIter (Option.some mp) clock { toList := x.2 ++ [e.3] } clock) ∧
  (bi_1 = bi_1 ∧ Go.Obj.mapIter Option.none (0 : Nat) #[] (0 : Nat) = Go.Obj.mapIter Option.none (0 : Nat) #[] (0 : Nat)) ∧ True) ∧ False) ∧ ∀ (x_2 : HdX), False → ∃ (y : HdX), unseen y.1 y.2 < unseen x.1 x.2 ∧ ((x_2.3 = y.3 ∧ ((0 : Nat) = (0 : Nat) ∧ (0 : Nat) = (0 : Nat)) ∧ ((0 : Nat) = (0 : Nat) ∧ (0 : Nat) = (0 : Nat)) ∧ True) ∧ (b = b ∧ Value.bool i = Value.bool i ∧ True ∧ True ∧ True ∧ Value.map (Option.some mn) = Value.map (Option.some mn) ∧ Value.slice Option.none (0 : Nat) (0 : Nat) = Value.slice Option.none (0 : Nat) (0 : Nat) ∧ True) ∧
  (mp = mp ∧ Go.Obj.map { toList := x.1 } clock = Go.Obj.map { toList := y.1 } clock) ∧ (mq = mq ∧ KShape.one (KS.int IntKind.u32) = KShape.one (KS.int IntKind.u32) ∧ fq = fq ∧ (Option.none : Option (Go.Value × Int)) = Option.none) ∧ (mw = mw ∧ kSh = kSh ∧ fw = fw ∧ (Option.none : Option (Go.Value × Int)) = Option.none) ∧ G = G ∧ (bi = bi ∧ Go.Obj.mapIter (Option.some mp) clock { toList := x.2 ++ [e.3] } clock = Go.Obj.mapIter (Option.some mp) clock { toList := y.2 } clock) ∧ True) ∧ I1 x0.1 y.1 y.2 y.3) ∧ ∀ (x : HdX), Pa x.3 → ∃ (x0 : HdX), (∀ (es : List Go.MapEntry) (clock : Nat), GoodMap (KShape.one (KS.int IntKind.u32)) { toList := es } clock →
  fq = getM es → ∀ (bi : Nat), ∃ (x0 : HdX), (((x.3 = x0.3 ∧ ((0 : Nat) = (0 : Nat) ∧ (0 : Nat) = (0 : Nat)) ∧ ((0 : Nat) = (0 : Nat) ∧ (0 : Nat) = (0 : Nat)) ∧ True) ∧ (b = b ∧ Value.bool i = Value.bool i ∧ True ∧ True ∧ True ∧ Value.map (Option.some mn) = Value.map (Option.some mn) ∧ Value.slice Option.none (0 : Nat) (0 : Nat) = Value.slice Option.none (0 : Nat) (0 : Nat) ∧ True) ∧ (mp = mp ∧ kSh = kSh ∧ fp = fp ∧ (Option.none : Option (Go.Value × Int)) = Option.none) ∧ (mq = mq ∧ Go.Obj.map { toList := es } clock = Go.Obj.map { toList := x0.1 } clock) ∧ (mw = mw ∧ kSh = kSh ∧ fw = fw ∧ (Option.none : Option (Go.Value × Int)) = Option.none) ∧
  G = G ∧ (bi = bi ∧ Go.Obj.mapIter (Option.some mq) clock #[] clock = Go.Obj.mapIter (Option.some mq) clock { toList := x0.2 } clock) ∧ True) ∧ I2 x0.1 x0.1 x0.2 x0.3) ∧ ∀ (x : HdX), I2 x0.1 x.1 x.2 x.3 → mq = mq ∧ (x.2 = [] ∨ x.1 = [] ∨ ∃ (e : Go.MapEntry), e ∈ x.1 ∧ e.3 < clock) ∧ ((∀ (e : Go.MapEntry), e ∈ x.1 → e.3 < clock → e.3 ∈ x.2) → ∃ (y : HdX), ((x.3 = y.3 ∧ ((0 : Nat) = (0 : Nat) ∧ (0 : Nat) = (0 : Nat)) ∧ True) ∧ (b = b ∧ Value.bool i = Value.bool i ∧ True ∧ True ∧ True ∧ Value.map (Option.some mn) = Value.map (Option.some mn) ∧
  Value.slice Option.none (0 : Nat) (0 : Nat) = Value.slice Option.none (0 : Nat) (0 : Nat) ∧ True) ∧ (mp = mp ∧ kSh = kSh ∧ fp = fp ∧ (Option.none : Option (Go.Value × Int)) = Option.none) ∧ (mq = mq ∧ GoodMap (KShape.one (KS.int IntKind.u32)) { toList := x.1 } clock ∧ fq = getM x.1 ∧ (Option.none : Option (Go.Value × Int)) = Option.none) ∧ (mw = mw ∧ kSh = kSh ∧ fw = fw ∧ (Option.none : Option (Go.Value × Int)) = Option.none) ∧ G = G ∧ True) ∧ Pb y.3) ∧ ∀ (e : Go.MapEntry), e ∈ x.1 → ¬e.3 ∈ x.2 → mq = mq ∧ clock = clock ∧ List.Nodup (List.map (fun (x : Go.MapEntry) => x.3) x.1) ∧ ∃ (e_1 : Go.MapEntry), e_1 ∈ x.1 ∧ List.getLast? (x.2 ++ [e.3]) = Option.some e_1.3 ∧
  ∃ (x_1 : Pc × JS), (∀ (r : List (Nat × Nat × Nat)), Value.agg #[Value.int IntKind.u8 x_1.1.1, Value.bool x_1.1.2, Value.bool x_1.1.3, Value.bool x_1.1.4, Value.bool Bool.false, Value.int IntKind.u32 x_1.1.5, Value.int IntKind.u16 x_1.1.6, Value.int IntKind.u32 x_1.1.7, Value.int IntKind.u32 x_1.1.8, Value.int IntKind.u32 x_1.1.9, Value.int IntKind.u32 (0 : Int), Value.int IntKind.u32 (0 : Int), Value.int IntKind.u16 (0 : Int), Value.int IntKind.u16 (0 : Int), Value.slice Option.none (0 : Nat) (0 : Nat), Value.slice Option.none (0 : Nat) (0 : Nat),
  Value.slice Option.none (0 : Nat) (0 : Nat), Value.slice Option.none (0 : Nat) (0 : Nat), Value.slice x_1.2.1 x_1.2.2 x_1.2.3] = e_1.2) ∧ ∀ (b_1 : Nat), Value.oneCell' (Value.int IntKind.u8 x_1.1.1) = Bool.true ∧ Value.oneCell' (Value.bool x_1.1.2) = Bool.true ∧ Value.oneCell' (Value.bool x_1.1.3) = Bool.true ∧ Value.oneCell' (Value.bool x_1.1.4) = Bool.true ∧ Value.oneCell' (Value.bool Bool.false) = Bool.true ∧ Value.oneCell' (Value.int IntKind.u32 x_1.1.5) = Bool.true ∧ Value.oneCell' (Value.int IntKind.u16 x_1.1.6) = Bool.true ∧ Value.oneCell' (Value.int IntKind.u32 x_1.1.7) = Bool.true ∧
  Value.oneCell' (Value.int IntKind.u32 x_1.1.8) = Bool.true ∧ Value.oneCell' (Value.int IntKind.u32 x_1.1.9) = Bool.true ∧ Value.oneCell' (Value.int IntKind.u32 (0 : Int)) = Bool.true ∧ Value.oneCell' (Value.int IntKind.u32 (0 : Int)) = Bool.true ∧ Value.oneCell' (Value.int IntKind.u16 (0 : Int)) = Bool.true ∧ Value.oneCell' (Value.int IntKind.u16 (0 : Int)) = Bool.true ∧ Value.oneCell' (Value.slice Option.none (0 : Nat) (0 : Nat)) = Bool.true ∧ Value.oneCell' (Value.slice Option.none (0 : Nat) (0 : Nat)) = Bool.true ∧ Value.oneCell' (Value.slice Option.none (0 : Nat) (0 : Nat)) = Bool.true ∧
  Value.oneCell' (Value.slice Option.none (0 : Nat) (0 : Nat)) = Bool.true ∧ ∃ (y : HdX), unseen y.1 y.2 < unseen x.1 x.2 ∧ ((IntKind.wrap IntKind.i64 (x.3 + (↑x_1.2.2 : Int)) = y.3 ∧ ((0 : Nat) = (0 : Nat) ∧ (0 : Nat) = (0 : Nat)) ∧ ((0 : Nat) = (0 : Nat) ∧ (0 : Nat) = (0 : Nat)) ∧ True) ∧ (b = b ∧ Value.bool i = Value.bool i ∧ True ∧ True ∧ True ∧ Value.map (Option.some mn) = Value.map (Option.some mn) ∧ Value.slice Option.none (0 : Nat) (0 : Nat) = Value.slice Option.none (0 : Nat) (0 : Nat) ∧ True) ∧ (mp = mp ∧ kSh = kSh ∧ fp = fp ∧ (Option.none : Option (Go.Value × Int)) = Option.none) ∧
  (mq = mq ∧ Go.Obj.map { toList := x.1 } clock = Go.Obj.map { toList := y.1 } clock) ∧ (mw = mw ∧ kSh = kSh ∧ fw = fw ∧ (Option.none : Option (Go.Value × Int)) = Option.none) ∧ G = G ∧ (bi = bi ∧ Go.Obj.mapIter (Option.some mq) clock { toList := x.2 ++ [e.3] } clock = Go.Obj.mapIter (Option.some mq) clock { toList := y.2 } clock) ∧ True) ∧ I2 x0.1 y.1 y.2 y.3) ∧ ∀ (x : HdX), Pb x.3 → ∃ (x0 : HdX), (∀ (es : List Go.MapEntry) (clock : Nat), GoodMap kSh { toList := es } clock → fw = getM es → ∀ (bi : Nat), ∃ (x0 : HdX),
  (((x.3 = x0.3 ∧ ((0 : Nat) = (0 : Nat) ∧ (0 : Nat) = (0 : Nat)) ∧ ((0 : Nat) = (0 : Nat) ∧ (0 : Nat) = (0 : Nat)) ∧ True) ∧ (b = b ∧ Value.bool i = Value.bool i ∧ True ∧ True ∧ True ∧ Value.map (Option.some mn) = Value.map (Option.some mn) ∧ Value.slice Option.none (0 : Nat) (0 : Nat) = Value.slice Option.none (0 : Nat) (0 : Nat) ∧ True) ∧ (mp = mp ∧ kSh = kSh ∧ fp = fp ∧ (Option.none : Option (Go.Value × Int)) = Option.none) ∧ (mq = mq ∧ KShape.one (KS.int IntKind.u32) = KShape.one (KS.int IntKind.u32) ∧ fq = fq ∧ (Option.none : Option (Go.Value × Int)) = Option.none) ∧
  (mw = mw ∧ Go.Obj.map { toList := es } clock = Go.Obj.map { toList := x0.1 } clock) ∧ G = G ∧ (bi = bi ∧ Go.Obj.mapIter (Option.some mw) clock #[] clock = Go.Obj.mapIter (Option.some mw) clock { toList := x0.2 } clock) ∧ True) ∧ I3 x0.1 x0.1 x0.2 x0.3) ∧ ∀ (x : HdX), I3 x0.1 x.1 x.2 x.3 → mw = mw ∧ (x.2 = [] ∨ x.1 = [] ∨ ∃ (e : Go.MapEntry), e ∈ x.1 ∧ e.3 < clock) ∧ ((∀ (e : Go.MapEntry), e ∈ x.1 → e.3 < clock → e.3 ∈ x.2) → ∃ (y : HdX), ((x.3 = y.3 ∧ ((0 : Nat) = (0 : Nat) ∧ (0 : Nat) = (0 : Nat)) ∧ True) ∧ (b = b ∧ Value.bool i = Value.bool i ∧ True ∧ True ∧ True ∧
  Value.map (Option.some mn) = Value.map (Option.some mn) ∧ Value.slice Option.none (0 : Nat) (0 : Nat) = Value.slice Option.none (0 : Nat) (0 : Nat) ∧ True) ∧ (mp = mp ∧ kSh = kSh ∧ fp = fp ∧ (Option.none : Option (Go.Value × Int)) = Option.none) ∧ (mq = mq ∧ KShape.one (KS.int IntKind.u32) = KShape.one (KS.int IntKind.u32) ∧ fq = fq ∧ (Option.none : Option (Go.Value × Int)) = Option.none) ∧ (mw = mw ∧ GoodMap kSh { toList := x.1 } clock ∧ fw = getM x.1 ∧ (Option.none : Option (Go.Value × Int)) = Option.none) ∧ G = G ∧ True) ∧ Pc' y.3) ∧ ∀ (e : Go.MapEntry), e ∈ x.1 → ¬e.3 ∈ x.2 → mw = mw ∧ clock = clock ∧ List.Nodup (List.map (fun (x : Go.MapEntry) => x.3) x.1) ∧
  ∃ (e_1 : Go.MapEntry), e_1 ∈ x.1 ∧ List.getLast? (x.2 ++ [e.3]) = Option.some e_1.3 ∧ ∃ (x_1 : Mg × JS), (∀ (r : List (Nat × Nat × Nat)), Value.agg #[Value.int IntKind.u16 x_1.1.1, Value.bool x_1.1.2, Value.int IntKind.u32 x_1.1.3, Value.int IntKind.u32 x_1.1.4, Value.slice x_1.2.1 x_1.2.2 x_1.2.3] = e_1.2) ∧ ∀ (b_1 : Nat), Value.oneCell' (Value.int IntKind.u16 x_1.1.1) = Bool.true ∧ Value.oneCell' (Value.bool x_1.1.2) = Bool.true ∧ Value.oneCell' (Value.int IntKind.u32 x_1.1.3) = Bool.true ∧ Value.oneCell' (Value.int IntKind.u32 x_1.1.4) = Bool.true ∧ ∃ (y : HdX),
  unseen y.1 y.2 < unseen x.1 x.2 ∧ ((IntKind.wrap IntKind.i64 (x.3 + (↑x_1.2.2 : Int)) = y.3 ∧ ((0 : Nat) = (0 : Nat) ∧ (0 : Nat) = (0 : Nat)) ∧ ((0 : Nat) = (0 : Nat) ∧ (0 : Nat) = (0 : Nat)) ∧ True) ∧ (b = b ∧ Value.bool i = Value.bool i ∧ True ∧ True ∧ True ∧ Value.map (Option.some mn) = Value.map (Option.some mn) ∧ Value.slice Option.none (0 : Nat) (0 : Nat) = Value.slice Option.none (0 : Nat) (0 : Nat) ∧ True) ∧ (mp = mp ∧ kSh = kSh ∧ fp = fp ∧ (Option.none : Option (Go.Value × Int)) = Option.none) ∧ (mq = mq ∧ KShape.one (KS.int IntKind.u32) = KShape.one (KS.int IntKind.u32) ∧
  fq = fq ∧ (Option.none : Option (Go.Value × Int)) = Option.none) ∧ (mw = mw ∧ Go.Obj.map { toList := x.1 } clock = Go.Obj.map { toList := y.1 } clock) ∧ G = G ∧ (bi = bi ∧ Go.Obj.mapIter (Option.some mw) clock { toList := x.2 ++ [e.3] } clock = Go.Obj.mapIter (Option.some mw) clock { toList := y.2 } clock) ∧ True) ∧ I3 x0.1 y.1 y.2 y.3) ∧ ∀ (x : HdX), Pc' x.3 → ∃ (x0 : HdY), (((x.3 = x0.2 ∧ (0 : Int) = (↑x0.1 : Int) ∧ ((0 : Nat) = (0 : Nat) ∧ (0 : Nat) = (0 : Nat)) ∧ Value.slice Option.none (0 : Nat) (0 : Nat) = Value.slice Option.none (0 : Nat) (0 : Nat) ∧ (↑(0 : Nat) : Int) = (↑(0 : Nat) : Int) ∧ True) ∧ (b = b ∧
  Value.bool i = Value.bool i ∧ True ∧ True ∧ True ∧ Value.map (Option.some mn) = Value.map (Option.some mn) ∧ Value.slice Option.none (0 : Nat) (0 : Nat) = Value.slice Option.none (0 : Nat) (0 : Nat) ∧ True) ∧ (mp = mp ∧ kSh = kSh ∧ fp = fp ∧ (Option.none : Option (Go.Value × Int)) = Option.none) ∧ (mq = mq ∧ KShape.one (KS.int IntKind.u32) = KShape.one (KS.int IntKind.u32) ∧ fq = fq ∧ (Option.none : Option (Go.Value × Int)) = Option.none) ∧ (mw = mw ∧ kSh = kSh ∧ fw = fw ∧ (Option.none : Option (Go.Value × Int)) = Option.none) ∧ G = G ∧ True) ∧ I4 x0.1 x0.2) ∧ ∀ (x : HdY), I4 x.1 x.2 → ((↑x.1 : Int) < (↑(0 : Nat) : Int) → False) ∧ (¬(↑x.1 : Int) < (↑(0 : Nat) : Int) →
  R (Value.int IntKind.i64 x.2) ((b, Blk.cells [Value.bool i, Value.map (Option.some mp), Value.map (Option.some mq), Value.map (Option.some mw), Value.map (Option.some mn), Value.slice Option.none (0 : Nat) (0 : Nat)] (97 : Go.TypeId)) :: (mp, Blk.map kSh fp Option.none) :: (mq, Blk.map (KShape.one (KS.int IntKind.u32)) fq Option.none) :: (mw, Blk.map kSh fw Option.none) :: (G ++ []))) from by
  simp only [eq_self, true_and, and_true, false_and, and_false, or_false, false_or, and_self, Nat.zero_add, Nat.add_zero, Nat.sub_zero, Nat.zero_mul, Nat.mul_one, Int.toNat_natCast, cond_true, cond_false, forall_const, implies_true, Nat.beq_refl, ne_eq, not_false_eq_true, not_true_eq_false, Classical.not_not, List.cons.injEq, List.append_nil, List.nil_append, Go.Value.int.injEq, Go.Value.bool.injEq, Go.Value.slice.injEq, Nat.le_refl, Nat.zero_le, Go.Sx.one_int, Go.Sx.one_bool, Go.Sx.one_slice, Go.Sx.one_ptr, Go.Sx.one_map, Int.cast_ofNat_Int, reduceCtorEq, Nat.reduceLeDiff, Nat.reduceMul, Nat.reduceAdd, Nat.reduceSub, Nat.reduceEqDiff, Int.reduceLE, Int.reduceLT, Int.reduceEq, Int.reduceAdd, Int.reduceSub, Int.reduceNeg, Int.reduceMul, Nat.reduceBEq]
  refine ⟨⟨[], [], 0⟩, fun es clock g hm => ⟨⟨es, [], 0⟩, ⟨⟨rfl, rfl, rfl⟩, by rw [eI1]; exact ⟨getM_nil (hfp.symm.trans hm), rfl⟩⟩, fun x hx => ?_⟩, fun x hx => ?_⟩
  · rw [eI1] at hx
    rw [ePa]
    have hes : es = [] := getM_nil (hfp.symm.trans hm)
    refine ⟨.inr (.inl hx.1), fun _ => ⟨⟨[], [], x.n⟩, ⟨rfl, by rw [hx.1, ← hes]; exact g, by rw [hx.1, ← hes]; exact hm⟩, hx.2⟩, fun e he => ?_⟩
    rw [hx.1] at he
    simp at he
  rw [ePa] at hx
  refine ⟨⟨[], [], 0⟩, fun es clock g hm => ⟨⟨es, [], x.n⟩, ⟨⟨rfl, rfl, rfl⟩, by rw [eI2]; exact ⟨rfl, by rw [sumSe_nil]; exact hx⟩⟩, fun y hy => ?_⟩, fun x hx => ?_⟩
  · rw [eI2] at hy ⊢
    rw [ePb]
    obtain ⟨hy1, hy2⟩ := hy
    have hy1 : y.es = es := hy1
    have hy2 : y.n = ((sumSe es y.se : Nat) : Int) := hy2
    have hsum := sum_rm g (hm ▸ hq) (fun a v h => lenV_pc h)
    have hsum : sumEs es = sumP ps := hsum
    refine ⟨by rw [hy1]; exact safe_of g _, fun hall => ⟨⟨[], [], y.n⟩, ⟨rfl, by rw [hy1]; exact g, by rw [hy1]; exact hm⟩, ?_⟩, fun e he hns => ?_⟩
    · show y.n = _
      rw [hy2, ← hsum, sumSe_all fun e he => hall e (by rw [hy1]; exact he) (g.old e he)]
    · rw [hy1] at he
      have hle := sumSe_le es (y.se ++ [e.born])
      rw [sumSe_step g.born he hns, hsum] at hle
      obtain ⟨a, ha, ek⟩ := hq.2.1 e.key (by rw [hm, getM_mem g.nodup he]; simp)
      obtain ⟨s, hv, hfa⟩ := pcs_get hq ha
      have ek : e.key = kT a.tsn := ek
      rw [← ek, hm, getM_mem g.nodup he] at hv
      have hv := Option.some.inj hv
      have hl : lenV e.val = s.l := by rw [hv]; rfl
      have hlt : sumSe es y.se + s.l < 9223372036854775808 := by
        have h1 : sumSe es y.se + s.l ≤ sumP ps := by rw [← hl]; exact hle
        clear hle hsum
        omega
      refine ⟨by rw [hy1]; exact g.born, e, by rw [hy1]; exact he, by simp, (a, s), by rw [hv]; rfl, ⟨es, y.se ++ [e.born], ((sumSe es y.se + s.l : Nat) : Int)⟩, ?_, ⟨?_, by rw [hy1], rfl⟩, rfl, ?_⟩
      · rw [hy1]
        exact unseen_lt (List.Sublist.refl _) he hns
      · rw [hy2]
        exact wrap_sum hlt
      · show ((sumSe es y.se + s.l : Nat) : Int) = ((sumSe es (y.se ++ [e.born]) : Nat) : Int)
        rw [sumSe_step g.born he hns, hl]
  rw [ePb] at hx
  refine ⟨⟨[], [], 0⟩, fun es clock g hm => ⟨⟨es, [], x.n⟩, ⟨⟨rfl, rfl, rfl⟩, by rw [eI3]; exact ⟨rfl, by rw [sumSe_nil]; exact hx⟩⟩, fun y hy => ?_⟩, fun x hx => ?_⟩
  · rw [eI3] at hy ⊢
    rw [ePc]
    obtain ⟨hy1, hy2⟩ := hy
    have hy1 : y.es = es := hy1
    have hy2 : y.n = ((sumP ps + sumSe es y.se : Nat) : Int) := hy2
    have hsum := sum_rm g (hm ▸ hw) (fun a v h => lenV_mg h)
    have hsum : sumEs es = sumM w := hsum
    refine ⟨by rw [hy1]; exact safe_of g _, fun hall => ⟨⟨[], [], y.n⟩, ⟨rfl, by rw [hy1]; exact g, by rw [hy1]; exact hm⟩, ?_⟩, fun e he hns => ?_⟩
    · show y.n = _
      rw [hy2, ← hsum, sumSe_all fun e he => hall e (by rw [hy1]; exact he) (g.old e he)]
    · rw [hy1] at he
      have hle := sumSe_le es (y.se ++ [e.born])
      rw [sumSe_step g.born he hns, hsum] at hle
      obtain ⟨a, ha, ek⟩ := hw.2.1 e.key (by rw [hm, getM_mem g.nodup he]; simp)
      obtain ⟨s, hv, hfa⟩ := wait_get hw ha
      have ek : e.key = kK a.key := ek
      rw [← ek, hm, getM_mem g.nodup he] at hv
      have hv := Option.some.inj hv
      have hl : lenV e.val = s.l := by rw [hv]; rfl
      have hlt : sumP ps + sumSe es y.se + s.l < 9223372036854775808 := by
        have h1 : sumSe es y.se + s.l ≤ sumM w := by rw [← hl]; exact hle
        clear hle hsum
        omega
      refine ⟨by rw [hy1]; exact g.born, e, by rw [hy1]; exact he, by simp, (a, s), by rw [hv]; rfl, ⟨es, y.se ++ [e.born], ((sumP ps + sumSe es y.se + s.l : Nat) : Int)⟩, ?_, ⟨?_, by rw [hy1], rfl⟩, rfl, ?_⟩
      · rw [hy1]
        exact unseen_lt (List.Sublist.refl _) he hns
      · rw [hy2]
        exact wrap_sum hlt
      · show ((sumP ps + sumSe es y.se + s.l : Nat) : Int) = ((sumP ps + sumSe es (y.se ++ [e.born]) : Nat) : Int)
        rw [sumSe_step g.born he hns, hl, Nat.add_assoc]
  rw [ePc] at hx
  refine ⟨⟨0, x.n⟩, ⟨⟨rfl, rfl⟩, by rw [eI4]; exact ⟨Nat.le_refl _, hx⟩⟩, fun y hy => ?_⟩
  rw [eI4] at hy
  obtain ⟨hy1, hy2⟩ := hy
  rw [List.take_nil] at hy2
  have hy2 : y.n = ((sumP ps + sumM w : Nat) : Int) := hy2
  rw [hy2]
  exact ⟨fun h => by omega, fun _ => hR⟩)
theorem hd_goal (i : Bool) (b mp mq mw mn : Nat) (fp fq fw : Value → Option Value) (rb rx rn rc : Nat) (G : Blks) (Pa Pb Pc' : Int → Prop) (I1 I2 I3 : List MapEntry → List MapEntry → List Nat → Int → Prop) (I4 : Nat → Int → Prop) (R : Value → Blks → Prop) {G0 : Blks} {ps : List Pc} {w ms : List Mg}
    (hfp : fp = fun _ => none) (hq : PiecesAt G0 ps fq) (hw : WaitAt G0 w fw) (hb : sumP ps + sumM w + sumM ms < 4611686018427387904) (eI1 : I1 = hdI1) (eI2 : I2 = hdI2) (eI3 : I3 = hdI3 (sumP ps)) (eI4 : I4 = hdI4 (sumP ps) (sumM w) ms) (ePa : Pa = hdPa) (ePb : Pb = hdPb (sumP ps)) (ePc : Pc' = hdPc (sumP ps) (sumM w))
    (hrn : rn = ms.length ∧ ms.length < 1000000000000) (hms : ∀ i m, ms[i]? = some m → ∃ s : JS, (∀ j v, (m.cells s)[j]? = some v → rawCell G rb (rx + i * 5 + j) v) ∧ s.l = m.bs.length)
    (hR : R (.int .i64 ((sumP ps + sumM w + sumM ms : Nat) : Int)) ((b, .cells [.bool i, .map (some mp), .map (some mq), .map (some mw), .map (some mn), .slice (some ⟨rb, rx, none⟩) rn rc] 97) :: (mp, .map kSh fp none) :: (mq, .map (.one (.int .u32)) fq none) :: (mw, .map kSh fw none) :: G)) :
    hdGoal i b mp mq mw mn fp fq fw rb rx rn rc G Pa Pb Pc' I1 I2 I3 I4 R :=
  Eq.mpr (by kernel_rfl) (show
  ∃ (x0 : HdX), (∀ (es : List Go.MapEntry) (clock : Nat), GoodMap kSh { toList := es } clock → fp = getM es → ∀ (bi : Nat), ∃ (x0 : HdX), ((((0 : Int) = x0.3 ∧ ((0 : Nat) = (0 : Nat) ∧ (0 : Nat) = (0 : Nat)) ∧ ((0 : Nat) = (0 : Nat) ∧ (0 : Nat) = (0 : Nat)) ∧ True) ∧ (b = b ∧ Value.bool i = Value.bool i ∧ True ∧ True ∧ True ∧ Value.map (Option.some mn) = Value.map (Option.some mn) ∧ Value.slice (Option.some { block := rb, off := rx }) rn rc = Value.slice (Option.some { block := rb, off := rx }) rn rc ∧ True) ∧
  (mp = mp ∧ Go.Obj.map { toList := es } clock = Go.Obj.map { toList := x0.1 } clock) ∧ (mq = mq ∧ KShape.one (KS.int IntKind.u32) = KShape.one (KS.int IntKind.u32) ∧ fq = fq ∧ (Option.none : Option (Go.Value × Int)) = Option.none) ∧ (mw = mw ∧ kSh = kSh ∧ fw = fw ∧ (Option.none : Option (Go.Value × Int)) = Option.none) ∧ G = G ∧ (bi = bi ∧ Go.Obj.mapIter (Option.some mp) clock #[] clock = Go.Obj.mapIter (Option.some mp) clock { toList := x0.2 } clock) ∧ True) ∧ I1 x0.1 x0.1 x0.2 x0.3) ∧ ∀ (x : HdX), I1 x0.1 x.1 x.2 x.3 → mp = mp ∧ (x.2 = [] ∨ x.1 = [] ∨ ∃ (e : Go.MapEntry), e ∈ x.1 ∧ e.3 < clock) ∧
  ((∀ (e : Go.MapEntry), e ∈ x.1 → e.3 < clock → e.3 ∈ x.2) → ∃ (y : HdX), ((x.3 = y.3 ∧ ((0 : Nat) = (0 : Nat) ∧ (0 : Nat) = (0 : Nat)) ∧ True) ∧ (b = b ∧ Value.bool i = Value.bool i ∧ True ∧ True ∧ True ∧ Value.map (Option.some mn) = Value.map (Option.some mn) ∧ Value.slice (Option.some { block := rb, off := rx }) rn rc = Value.slice (Option.some { block := rb, off := rx }) rn rc ∧ True) ∧ (mp = mp ∧ GoodMap kSh { toList := x.1 } clock ∧ fp = getM x.1 ∧ (Option.none : Option (Go.Value × Int)) = Option.none) ∧
  (mq = mq ∧ KShape.one (KS.int IntKind.u32) = KShape.one (KS.int IntKind.u32) ∧ fq = fq ∧ (Option.none : Option (Go.Value × Int)) = Option.none) ∧ (mw = mw ∧ kSh = kSh ∧ fw = fw ∧ (Option.none : Option (Go.Value × Int)) = Option.none) ∧ G = G ∧ True) ∧ Pa y.3) ∧ ∀ (e : Go.MapEntry), e ∈ x.1 → ¬e.3 ∈ x.2 → mp = mp ∧ clock = clock ∧ List.Nodup (List.map (fun (x : Go.MapEntry) => x.3) x.1) ∧ ∃ (e_1 : Go.MapEntry), e_1 ∈ x.1 ∧ List.getLast? (x.2 ++ [e.3]) = Option.some e_1.3 ∧ ∃ (x_1 : Unit), (∀ (r : List (Nat × Nat × Nat)), Value.map Option.none = e_1.2) ∧ ∀ (bi_1 : Nat), ∃ (x0_1 : HdX), (((x.3 = x0_1.3 ∧
  ((0 : Nat) = (0 : Nat) ∧ (0 : Nat) = (0 : Nat)) ∧ ((0 : Nat) = (0 : Nat) ∧ (0 : Nat) = (0 : Nat)) ∧ ((0 : Nat) = (0 : Nat) ∧ (0 : Nat) = (0 : Nat)) ∧ True) ∧ (b = b ∧ Value.bool i = Value.bool i ∧ True ∧ True ∧ True ∧ Value.map (Option.some mn) = Value.map (Option.some mn) ∧ Value.slice (Option.some { block := rb, off := rx }) rn rc = Value.slice (Option.some { block := rb, off := rx }) rn rc ∧ True) ∧ (mp = mp ∧ Go.Obj.map { toList := x.1 } clock = Go.Obj.map { toList := x.1 } clock) ∧ (mq = mq ∧ KShape.one (KS.int IntKind.u32) = KShape.one (KS.int IntKind.u32) ∧
  fq = fq ∧ (Option.none : Option (Go.Value × Int)) = Option.none) ∧ (mw = mw ∧ kSh = kSh ∧ fw = fw ∧ (Option.none : Option (Go.Value × Int)) = Option.none) ∧ G = G ∧ (bi = bi ∧ Go.Obj.mapIter (Option.some mp) clock { toList := x.2 ++ [e.3] } clock = Go.Obj.mapIter (Option.some mp) clock { toList := x.2 ++ [e.3] } clock) ∧ (bi_1 = bi_1 ∧ Go.Obj.mapIter Option.none (0 : Nat) #[] (0 : Nat) = Go.Obj.mapIter Option.none (0 : Nat) #[] (0 : Nat)) ∧ True) ∧ False) ∧ ∀ (x_2 : HdX), False → ∃ (y : HdX), unseen y.1 y.2 < unseen x.1 x.2 ∧
  ((x_2.3 = y.3 ∧ ((0 : Nat) = (0 : Nat) ∧ (0 : Nat) = (0 : Nat)) ∧ ((0 : Nat) = (0 : Nat) ∧ (0 : Nat) = (0 : Nat)) ∧ True) ∧ (b = b ∧ Value.bool i = Value.bool i ∧ True ∧ True ∧ True ∧ Value.map (Option.some mn) = Value.map (Option.some mn) ∧ Value.slice (Option.some { block := rb, off := rx }) rn rc = Value.slice (Option.some { block := rb, off := rx }) rn rc ∧ True) ∧ (mp = mp ∧ Go.Obj.map { toList := x.1 } clock = Go.Obj.map { toList := y.1 } clock) ∧ (mq = mq ∧ KShape.one (KS.int IntKind.u32) = KShape.one (KS.int IntKind.u32) ∧ fq = fq ∧ (Option.none : Option (Go.Value × Int)) = Option.none) ∧
  (mw = mw ∧ kSh = kSh ∧ fw = fw ∧ (Option.none : Option (Go.Value × Int)) = Option.none) ∧ G = G ∧ (bi = bi ∧ Go.Obj.mapIter (Option.some mp) clock { toList := x.2 ++ [e.3] } clock = Go.Obj.mapIter (Option.some mp) clock { toList := y.2 } clock) ∧ True) ∧ I1 x0.1 y.1 y.2 y.3) ∧ ∀ (x : HdX), Pa x.3 → ∃ (x0 : HdX), (∀ (es : List Go.MapEntry) (clock : Nat), GoodMap (KShape.one (KS.int IntKind.u32)) { toList := es } clock → fq = getM es → ∀ (bi : Nat), ∃ (x0 : HdX), (((x.3 = x0.3 ∧ ((0 : Nat) = (0 : Nat) ∧ (0 : Nat) = (0 : Nat)) ∧ ((0 : Nat) = (0 : Nat) ∧ (0 : Nat) = (0 : Nat)) ∧ True) ∧ (b = b ∧
  Value.bool i = Value.bool i ∧ True ∧ True ∧ True ∧ Value.map (Option.some mn) = Value.map (Option.some mn) ∧ Value.slice (Option.some { block := rb, off := rx }) rn rc = Value.slice (Option.some { block := rb, off := rx }) rn rc ∧ True) ∧ (mp = mp ∧ kSh = kSh ∧ fp = fp ∧ (Option.none : Option (Go.Value × Int)) = Option.none) ∧ (mq = mq ∧ Go.Obj.map { toList := es } clock = Go.Obj.map { toList := x0.1 } clock) ∧ (mw = mw ∧ kSh = kSh ∧ fw = fw ∧ (Option.none : Option (Go.Value × Int)) = Option.none) ∧ G = G ∧ (bi = bi ∧ Go.Obj.mapIter (Option.some mq) clock #[] clock = Go.Obj.mapIter (Option.some mq) clock { toList := x0.2 } clock) ∧ True) ∧
  I2 x0.1 x0.1 x0.2 x0.3) ∧ ∀ (x : HdX), I2 x0.1 x.1 x.2 x.3 → mq = mq ∧ (x.2 = [] ∨ x.1 = [] ∨ ∃ (e : Go.MapEntry), e ∈ x.1 ∧ e.3 < clock) ∧ ((∀ (e : Go.MapEntry), e ∈ x.1 → e.3 < clock → e.3 ∈ x.2) → ∃ (y : HdX), ((x.3 = y.3 ∧ ((0 : Nat) = (0 : Nat) ∧ (0 : Nat) = (0 : Nat)) ∧ True) ∧ (b = b ∧ Value.bool i = Value.bool i ∧ True ∧ True ∧ True ∧ Value.map (Option.some mn) = Value.map (Option.some mn) ∧ Value.slice (Option.some { block := rb, off := rx }) rn rc = Value.slice (Option.some { block := rb, off := rx }) rn rc ∧ True) ∧ (mp = mp ∧ kSh = kSh ∧ fp = fp ∧ (Option.none : Option (Go.Value × Int)) = Option.none) ∧
  (mq = mq ∧ GoodMap (KShape.one (KS.int IntKind.u32)) { toList := x.1 } clock ∧ fq = getM x.1 ∧ (Option.none : Option (Go.Value × Int)) = Option.none) ∧ (mw = mw ∧ kSh = kSh ∧ fw = fw ∧ (Option.none : Option (Go.Value × Int)) = Option.none) ∧ G = G ∧ True) ∧ Pb y.3) ∧ ∀ (e : Go.MapEntry), e ∈ x.1 → ¬e.3 ∈ x.2 → mq = mq ∧ clock = clock ∧ List.Nodup (List.map (fun (x : Go.MapEntry) => x.3) x.1) ∧ ∃ (e_1 : Go.MapEntry), e_1 ∈ x.1 ∧ List.getLast? (x.2 ++ [e.3]) = Option.some e_1.3 ∧ ∃ (x_1 : Pc × JS), (∀ (r : List (Nat × Nat × Nat)), Value.agg
  #[Value.int IntKind.u8 x_1.1.1, Value.bool x_1.1.2, Value.bool x_1.1.3, Value.bool x_1.1.4, Value.bool Bool.false, Value.int IntKind.u32 x_1.1.5, Value.int IntKind.u16 x_1.1.6, Value.int IntKind.u32 x_1.1.7, Value.int IntKind.u32 x_1.1.8, Value.int IntKind.u32 x_1.1.9, Value.int IntKind.u32 (0 : Int), Value.int IntKind.u32 (0 : Int), Value.int IntKind.u16 (0 : Int), Value.int IntKind.u16 (0 : Int), Value.slice Option.none (0 : Nat) (0 : Nat), Value.slice Option.none (0 : Nat) (0 : Nat), Value.slice Option.none (0 : Nat) (0 : Nat), Value.slice Option.none (0 : Nat) (0 : Nat),
  Value.slice x_1.2.1 x_1.2.2 x_1.2.3] = e_1.2) ∧ ∀ (b_1 : Nat), Value.oneCell' (Value.int IntKind.u8 x_1.1.1) = Bool.true ∧ Value.oneCell' (Value.bool x_1.1.2) = Bool.true ∧ Value.oneCell' (Value.bool x_1.1.3) = Bool.true ∧ Value.oneCell' (Value.bool x_1.1.4) = Bool.true ∧ Value.oneCell' (Value.bool Bool.false) = Bool.true ∧ Value.oneCell' (Value.int IntKind.u32 x_1.1.5) = Bool.true ∧ Value.oneCell' (Value.int IntKind.u16 x_1.1.6) = Bool.true ∧ Value.oneCell' (Value.int IntKind.u32 x_1.1.7) = Bool.true ∧ Value.oneCell' (Value.int IntKind.u32 x_1.1.8) = Bool.true ∧
  Value.oneCell' (Value.int IntKind.u32 x_1.1.9) = Bool.true ∧ Value.oneCell' (Value.int IntKind.u32 (0 : Int)) = Bool.true ∧ Value.oneCell' (Value.int IntKind.u32 (0 : Int)) = Bool.true ∧ Value.oneCell' (Value.int IntKind.u16 (0 : Int)) = Bool.true ∧ Value.oneCell' (Value.int IntKind.u16 (0 : Int)) = Bool.true ∧ Value.oneCell' (Value.slice Option.none (0 : Nat) (0 : Nat)) = Bool.true ∧ Value.oneCell' (Value.slice Option.none (0 : Nat) (0 : Nat)) = Bool.true ∧ Value.oneCell' (Value.slice Option.none (0 : Nat) (0 : Nat)) = Bool.true ∧
  Value.oneCell' (Value.slice Option.none (0 : Nat) (0 : Nat)) = Bool.true ∧ ∃ (y : HdX), unseen y.1 y.2 < unseen x.1 x.2 ∧ ((IntKind.wrap IntKind.i64 (x.3 + (↑x_1.2.2 : Int)) = y.3 ∧ ((0 : Nat) = (0 : Nat) ∧ (0 : Nat) = (0 : Nat)) ∧ ((0 : Nat) = (0 : Nat) ∧ (0 : Nat) = (0 : Nat)) ∧ True) ∧ (b = b ∧ Value.bool i = Value.bool i ∧ True ∧ True ∧ True ∧ Value.map (Option.some mn) = Value.map (Option.some mn) ∧ Value.slice (Option.some { block := rb, off := rx }) rn rc = Value.slice (Option.some { block := rb, off := rx }) rn rc ∧ True) ∧ (mp = mp ∧ kSh = kSh ∧
  fp = fp ∧ (Option.none : Option (Go.Value × Int)) = Option.none) ∧ (mq = mq ∧ Go.Obj.map { toList := x.1 } clock = Go.Obj.map { toList := y.1 } clock) ∧ (mw = mw ∧ kSh = kSh ∧ fw = fw ∧ (Option.none : Option (Go.Value × Int)) = Option.none) ∧ G = G ∧ (bi = bi ∧ Go.Obj.mapIter (Option.some mq) clock { toList := x.2 ++ [e.3] } clock = Go.Obj.mapIter (Option.some mq) clock { toList := y.2 } clock) ∧ True) ∧ I2 x0.1 y.1 y.2 y.3) ∧ ∀ (x : HdX), Pb x.3 → ∃ (x0 : HdX), (∀ (es : List Go.MapEntry) (clock : Nat), GoodMap kSh { toList := es } clock → fw = getM es → ∀ (bi : Nat), ∃ (x0 : HdX),
  (((x.3 = x0.3 ∧ ((0 : Nat) = (0 : Nat) ∧ (0 : Nat) = (0 : Nat)) ∧ ((0 : Nat) = (0 : Nat) ∧ (0 : Nat) = (0 : Nat)) ∧ True) ∧ (b = b ∧ Value.bool i = Value.bool i ∧ True ∧ True ∧ True ∧ Value.map (Option.some mn) = Value.map (Option.some mn) ∧ Value.slice (Option.some { block := rb, off := rx }) rn rc = Value.slice (Option.some { block := rb, off := rx }) rn rc ∧ True) ∧ (mp = mp ∧ kSh = kSh ∧ fp = fp ∧ (Option.none : Option (Go.Value × Int)) = Option.none) ∧ (mq = mq ∧ KShape.one (KS.int IntKind.u32) = KShape.one (KS.int IntKind.u32) ∧ fq = fq ∧ (Option.none : Option (Go.Value × Int)) = Option.none) ∧
  (mw = mw ∧ Go.Obj.map { toList := es } clock = Go.Obj.map { toList := x0.1 } clock) ∧ G = G ∧ (bi = bi ∧ Go.Obj.mapIter (Option.some mw) clock #[] clock = Go.Obj.mapIter (Option.some mw) clock { toList := x0.2 } clock) ∧ True) ∧ I3 x0.1 x0.1 x0.2 x0.3) ∧ ∀ (x : HdX), I3 x0.1 x.1 x.2 x.3 → mw = mw ∧ (x.2 = [] ∨ x.1 = [] ∨ ∃ (e : Go.MapEntry), e ∈ x.1 ∧ e.3 < clock) ∧ ((∀ (e : Go.MapEntry), e ∈ x.1 → e.3 < clock → e.3 ∈ x.2) → ∃ (y : HdX), ((x.3 = y.3 ∧ ((0 : Nat) = (0 : Nat) ∧ (0 : Nat) = (0 : Nat)) ∧ True) ∧ (b = b ∧ Value.bool i = Value.bool i ∧ True ∧ True ∧ True ∧
  Value.map (Option.some mn) = Value.map (Option.some mn) ∧ Value.slice (Option.some { block := rb, off := rx }) rn rc = Value.slice (Option.some { block := rb, off := rx }) rn rc ∧ True) ∧ (mp = mp ∧ kSh = kSh ∧ fp = fp ∧ (Option.none : Option (Go.Value × Int)) = Option.none) ∧ (mq = mq ∧ KShape.one (KS.int IntKind.u32) = KShape.one (KS.int IntKind.u32) ∧ fq = fq ∧ (Option.none : Option (Go.Value × Int)) = Option.none) ∧ (mw = mw ∧ GoodMap kSh { toList := x.1 } clock ∧ fw = getM x.1 ∧ (Option.none : Option (Go.Value × Int)) = Option.none) ∧ G = G ∧ True) ∧ Pc' y.3) ∧ ∀ (e : Go.MapEntry), e ∈ x.1 → ¬e.3 ∈ x.2 → mw = mw ∧ clock = clock ∧
  List.Nodup (List.map (fun (x : Go.MapEntry) => x.3) x.1) ∧ ∃ (e_1 : Go.MapEntry), e_1 ∈ x.1 ∧ List.getLast? (x.2 ++ [e.3]) = Option.some e_1.3 ∧ ∃ (x_1 : Mg × JS), (∀ (r : List (Nat × Nat × Nat)), Value.agg #[Value.int IntKind.u16 x_1.1.1, Value.bool x_1.1.2, Value.int IntKind.u32 x_1.1.3, Value.int IntKind.u32 x_1.1.4, Value.slice x_1.2.1 x_1.2.2 x_1.2.3] = e_1.2) ∧ ∀ (b_1 : Nat), Value.oneCell' (Value.int IntKind.u16 x_1.1.1) = Bool.true ∧ Value.oneCell' (Value.bool x_1.1.2) = Bool.true ∧ Value.oneCell' (Value.int IntKind.u32 x_1.1.3) = Bool.true ∧
  Value.oneCell' (Value.int IntKind.u32 x_1.1.4) = Bool.true ∧ ∃ (y : HdX), unseen y.1 y.2 < unseen x.1 x.2 ∧ ((IntKind.wrap IntKind.i64 (x.3 + (↑x_1.2.2 : Int)) = y.3 ∧ ((0 : Nat) = (0 : Nat) ∧ (0 : Nat) = (0 : Nat)) ∧ ((0 : Nat) = (0 : Nat) ∧ (0 : Nat) = (0 : Nat)) ∧ True) ∧ (b = b ∧ Value.bool i = Value.bool i ∧ True ∧ True ∧ True ∧ Value.map (Option.some mn) = Value.map (Option.some mn) ∧ Value.slice (Option.some { block := rb, off := rx }) rn rc = Value.slice (Option.some { block := rb, off := rx }) rn rc ∧ True) ∧ (mp = mp ∧ kSh = kSh ∧ fp = fp ∧ (Option.none : Option (Go.Value × Int)) = Option.none) ∧ (mq = mq ∧
  KShape.one (KS.int IntKind.u32) = KShape.one (KS.int IntKind.u32) ∧ fq = fq ∧ (Option.none : Option (Go.Value × Int)) = Option.none) ∧ (mw = mw ∧ Go.Obj.map { toList := x.1 } clock = Go.Obj.map { toList := y.1 } clock) ∧ G = G ∧ (bi = bi ∧ Go.Obj.mapIter (Option.some mw) clock { toList := x.2 ++ [e.3] } clock = Go.Obj.mapIter (Option.some mw) clock { toList := y.2 } clock) ∧ True) ∧ I3 x0.1 y.1 y.2 y.3) ∧ ∀ (x : HdX), Pc' x.3 → ∃ (x0 : HdY), (((x.3 = x0.2 ∧ (0 : Int) = (↑x0.1 : Int) ∧ ((0 : Nat) = (0 : Nat) ∧ (0 : Nat) = (0 : Nat)) ∧
  Value.slice (Option.some { block := rb, off := rx }) rn rc = Value.slice (Option.some { block := rb, off := rx }) rn rc ∧ (↑rn : Int) = (↑rn : Int) ∧ True) ∧ (b = b ∧ Value.bool i = Value.bool i ∧ True ∧ True ∧ True ∧ Value.map (Option.some mn) = Value.map (Option.some mn) ∧ Value.slice (Option.some { block := rb, off := rx }) rn rc = Value.slice (Option.some { block := rb, off := rx }) rn rc ∧ True) ∧ (mp = mp ∧ kSh = kSh ∧ fp = fp ∧ (Option.none : Option (Go.Value × Int)) = Option.none) ∧ (mq = mq ∧ KShape.one (KS.int IntKind.u32) = KShape.one (KS.int IntKind.u32) ∧ fq = fq ∧ (Option.none : Option (Go.Value × Int)) = Option.none) ∧
  (mw = mw ∧ kSh = kSh ∧ fw = fw ∧ (Option.none : Option (Go.Value × Int)) = Option.none) ∧ G = G ∧ True) ∧ I4 x0.1 x0.2) ∧ ∀ (x : HdY), I4 x.1 x.2 → ((↑x.1 : Int) < (↑rn : Int) → ((0 : Int) ≤ (↑x.1 : Int) ∧ (↑x.1 : Int) < (↑rn : Int)) ∧ ∃ (n : Int), rawCell G rb (rx + x.1 * (5 : Nat)) (Value.int IntKind.u16 n) ∧ ∃ (x_1 : Bool), rawCell G rb (rx + x.1 * (5 : Nat) + (1 : Nat)) (Value.bool x_1) ∧ ∃ (n_1 : Int), rawCell G rb (rx + x.1 * (5 : Nat) + (1 : Nat) + (1 : Nat)) (Value.int IntKind.u32 n_1) ∧ ∃ (n_2 : Int), rawCell G rb (rx + x.1 * (5 : Nat) + (1 : Nat) + (1 : Nat) + (1 : Nat)) (Value.int IntKind.u32 n_2) ∧
  ∃ (o : Option Go.Addr), ∃ (l : Nat), ∃ (c : Nat), rawCell G rb (rx + x.1 * (5 : Nat) + (1 : Nat) + (1 : Nat) + (1 : Nat) + (1 : Nat)) (Value.slice o l c) ∧ ∃ (x_2 : Mg × JS), (∀ (r : List (Nat × Nat × Nat)), Value.agg #[Value.int IntKind.u16 x_2.1.1, Value.bool x_2.1.2, Value.int IntKind.u32 x_2.1.3, Value.int IntKind.u32 x_2.1.4, Value.slice x_2.2.1 x_2.2.2 x_2.2.3] = Value.agg #[Value.int IntKind.u16 n, Value.bool x_1, Value.int IntKind.u32 n_1, Value.int IntKind.u32 n_2, Value.slice o l c]) ∧ ∀ (b_1 : Nat), Value.oneCell' (Value.int IntKind.u16 x_2.1.1) = Bool.true ∧
  Value.oneCell' (Value.bool x_2.1.2) = Bool.true ∧ Value.oneCell' (Value.int IntKind.u32 x_2.1.3) = Bool.true ∧ Value.oneCell' (Value.int IntKind.u32 x_2.1.4) = Bool.true ∧ ∃ (y : HdY), rn - y.1 < rn - x.1 ∧ ((IntKind.wrap IntKind.i64 (x.2 + (↑x_2.2.2 : Int)) = y.2 ∧ IntKind.wrap IntKind.i64 ((↑x.1 : Int) + (1 : Int)) = (↑y.1 : Int) ∧ ((0 : Nat) = (0 : Nat) ∧ (0 : Nat) = (0 : Nat)) ∧ Value.slice (Option.some { block := rb, off := rx }) rn rc = Value.slice (Option.some { block := rb, off := rx }) rn rc ∧ (↑rn : Int) = (↑rn : Int) ∧ True) ∧ (b = b ∧ Value.bool i = Value.bool i ∧ True ∧ True ∧
  True ∧ Value.map (Option.some mn) = Value.map (Option.some mn) ∧ Value.slice (Option.some { block := rb, off := rx }) rn rc = Value.slice (Option.some { block := rb, off := rx }) rn rc ∧ True) ∧ (mp = mp ∧ kSh = kSh ∧ fp = fp ∧ (Option.none : Option (Go.Value × Int)) = Option.none) ∧ (mq = mq ∧ KShape.one (KS.int IntKind.u32) = KShape.one (KS.int IntKind.u32) ∧ fq = fq ∧ (Option.none : Option (Go.Value × Int)) = Option.none) ∧ (mw = mw ∧ kSh = kSh ∧ fw = fw ∧ (Option.none : Option (Go.Value × Int)) = Option.none) ∧ G = G ∧ True) ∧ I4 y.1 y.2) ∧ (¬(↑x.1 : Int) < (↑rn : Int) → R (Value.int IntKind.i64 x.2) ((b, Blk.cells
  [Value.bool i, Value.map (Option.some mp), Value.map (Option.some mq), Value.map (Option.some mw), Value.map (Option.some mn), Value.slice (Option.some { block := rb, off := rx }) rn rc] (97 : Go.TypeId)) :: (mp, Blk.map kSh fp Option.none) :: (mq, Blk.map (KShape.one (KS.int IntKind.u32)) fq Option.none) :: (mw, Blk.map kSh fw Option.none) :: (G ++ []))) from by
  simp only [eq_self, true_and, and_true, false_and, and_false, or_false, false_or, and_self, Nat.zero_add, Nat.add_zero, Nat.sub_zero, Nat.zero_mul, Nat.mul_one, Int.toNat_natCast, cond_true, cond_false, forall_const, implies_true, Nat.beq_refl, ne_eq, not_false_eq_true, not_true_eq_false, Classical.not_not, List.cons.injEq, List.append_nil, List.nil_append, Go.Value.int.injEq, Go.Value.bool.injEq, Go.Value.slice.injEq, Nat.le_refl, Nat.zero_le, Go.Sx.one_int, Go.Sx.one_bool, Go.Sx.one_slice, Go.Sx.one_ptr, Go.Sx.one_map, Int.cast_ofNat_Int, reduceCtorEq, Nat.reduceLeDiff, Nat.reduceMul, Nat.reduceAdd, Nat.reduceSub, Nat.reduceEqDiff, Int.reduceLE, Int.reduceLT, Int.reduceEq, Int.reduceAdd, Int.reduceSub, Int.reduceNeg, Int.reduceMul, Nat.reduceBEq]
  refine ⟨⟨[], [], 0⟩, fun es clock g hm => ⟨⟨es, [], 0⟩, ⟨⟨rfl, rfl, rfl⟩, by rw [eI1]; exact ⟨getM_nil (hfp.symm.trans hm), rfl⟩⟩, fun x hx => ?_⟩, fun x hx => ?_⟩
  · rw [eI1] at hx
    rw [ePa]
    have hes : es = [] := getM_nil (hfp.symm.trans hm)
    refine ⟨.inr (.inl hx.1), fun _ => ⟨⟨[], [], x.n⟩, ⟨rfl, by rw [hx.1, ← hes]; exact g, by rw [hx.1, ← hes]; exact hm⟩, hx.2⟩, fun e he => ?_⟩
    rw [hx.1] at he
    simp at he
  rw [ePa] at hx
  refine ⟨⟨[], [], 0⟩, fun es clock g hm => ⟨⟨es, [], x.n⟩, ⟨⟨rfl, rfl, rfl⟩, by rw [eI2]; exact ⟨rfl, by rw [sumSe_nil]; exact hx⟩⟩, fun y hy => ?_⟩, fun x hx => ?_⟩
  · rw [eI2] at hy ⊢
    rw [ePb]
    obtain ⟨hy1, hy2⟩ := hy
    have hy1 : y.es = es := hy1
    have hy2 : y.n = ((sumSe es y.se : Nat) : Int) := hy2
    have hsum := sum_rm g (hm ▸ hq) (fun a v h => lenV_pc h)
    have hsum : sumEs es = sumP ps := hsum
    refine ⟨by rw [hy1]; exact safe_of g _, fun hall => ⟨⟨[], [], y.n⟩, ⟨rfl, by rw [hy1]; exact g, by rw [hy1]; exact hm⟩, ?_⟩, fun e he hns => ?_⟩
    · show y.n = _
      rw [hy2, ← hsum, sumSe_all fun e he => hall e (by rw [hy1]; exact he) (g.old e he)]
    · rw [hy1] at he
      have hle := sumSe_le es (y.se ++ [e.born])
      rw [sumSe_step g.born he hns, hsum] at hle
      obtain ⟨a, ha, ek⟩ := hq.2.1 e.key (by rw [hm, getM_mem g.nodup he]; simp)
      obtain ⟨s, hv, hfa⟩ := pcs_get hq ha
      have ek : e.key = kT a.tsn := ek
      rw [← ek, hm, getM_mem g.nodup he] at hv
      have hv := Option.some.inj hv
      have hl : lenV e.val = s.l := by rw [hv]; rfl
      have hlt : sumSe es y.se + s.l < 9223372036854775808 := by
        have h1 : sumSe es y.se + s.l ≤ sumP ps := by rw [← hl]; exact hle
        clear hle hsum
        omega
      refine ⟨by rw [hy1]; exact g.born, e, by rw [hy1]; exact he, by simp, (a, s), by rw [hv]; rfl, ⟨es, y.se ++ [e.born], ((sumSe es y.se + s.l : Nat) : Int)⟩, ?_, ⟨?_, by rw [hy1], rfl⟩, rfl, ?_⟩
      · rw [hy1]
        exact unseen_lt (List.Sublist.refl _) he hns
      · rw [hy2]
        exact wrap_sum hlt
      · show ((sumSe es y.se + s.l : Nat) : Int) = ((sumSe es (y.se ++ [e.born]) : Nat) : Int)
        rw [sumSe_step g.born he hns, hl]
  rw [ePb] at hx
  refine ⟨⟨[], [], 0⟩, fun es clock g hm => ⟨⟨es, [], x.n⟩, ⟨⟨rfl, rfl, rfl⟩, by rw [eI3]; exact ⟨rfl, by rw [sumSe_nil]; exact hx⟩⟩, fun y hy => ?_⟩, fun x hx => ?_⟩
  · rw [eI3] at hy ⊢
    rw [ePc]
    obtain ⟨hy1, hy2⟩ := hy
    have hy1 : y.es = es := hy1
    have hy2 : y.n = ((sumP ps + sumSe es y.se : Nat) : Int) := hy2
    have hsum := sum_rm g (hm ▸ hw) (fun a v h => lenV_mg h)
    have hsum : sumEs es = sumM w := hsum
    refine ⟨by rw [hy1]; exact safe_of g _, fun hall => ⟨⟨[], [], y.n⟩, ⟨rfl, by rw [hy1]; exact g, by rw [hy1]; exact hm⟩, ?_⟩, fun e he hns => ?_⟩
    · show y.n = _
      rw [hy2, ← hsum, sumSe_all fun e he => hall e (by rw [hy1]; exact he) (g.old e he)]
    · rw [hy1] at he
      have hle := sumSe_le es (y.se ++ [e.born])
      rw [sumSe_step g.born he hns, hsum] at hle
      obtain ⟨a, ha, ek⟩ := hw.2.1 e.key (by rw [hm, getM_mem g.nodup he]; simp)
      obtain ⟨s, hv, hfa⟩ := wait_get hw ha
      have ek : e.key = kK a.key := ek
      rw [← ek, hm, getM_mem g.nodup he] at hv
      have hv := Option.some.inj hv
      have hl : lenV e.val = s.l := by rw [hv]; rfl
      have hlt : sumP ps + sumSe es y.se + s.l < 9223372036854775808 := by
        have h1 : sumSe es y.se + s.l ≤ sumM w := by rw [← hl]; exact hle
        clear hle hsum
        omega
      refine ⟨by rw [hy1]; exact g.born, e, by rw [hy1]; exact he, by simp, (a, s), by rw [hv]; rfl, ⟨es, y.se ++ [e.born], ((sumP ps + sumSe es y.se + s.l : Nat) : Int)⟩, ?_, ⟨?_, by rw [hy1], rfl⟩, rfl, ?_⟩
      · rw [hy1]
        exact unseen_lt (List.Sublist.refl _) he hns
      · rw [hy2]
        exact wrap_sum hlt
      · show ((sumP ps + sumSe es y.se + s.l : Nat) : Int) = ((sumP ps + sumSe es (y.se ++ [e.born]) : Nat) : Int)
        rw [sumSe_step g.born he hns, hl, Nat.add_assoc]
  rw [ePc] at hx
  refine ⟨⟨0, x.n⟩, ⟨⟨rfl, rfl⟩, by rw [eI4]; exact ⟨Nat.zero_le _, hx⟩⟩, fun y hy => ?_⟩
  rw [eI4] at hy ⊢
  obtain ⟨hy1, hy2⟩ := hy
  refine ⟨fun hlt => ?_, fun hge => ?_⟩
  · have hi : y.i < ms.length := by omega
    obtain ⟨m, hm⟩ : ∃ m, ms[y.i]? = some m := ⟨_, List.getElem?_eq_getElem hi⟩
    obtain ⟨s, hc, hl⟩ := hms y.i m hm
    have ht := sumM_take hm
    have hle := sumM_take_le ms (y.i + 1)
    have hlt2 : sumP ps + sumM w + sumM (ms.take y.i) + s.l < 9223372036854775808 := by
      rw [ht] at hle
      omega
    refine ⟨⟨by omega, by omega⟩, m.st, hc 0 _ rfl, m.lo, hc 1 _ rfl, m.mid, hc 2 _ rfl, m.pp, hc 3 _ rfl, s.o, s.l, s.c, hc 4 _ rfl, (m, s), rfl, ⟨y.i + 1, ((sumP ps + sumM w + sumM (ms.take y.i) + s.l : Nat) : Int)⟩, by show rn - (y.i + 1) < rn - y.i; omega, ⟨?_, ?_⟩, hi, ?_⟩
    · rw [hy2]
      exact wrap_sum hlt2
    · rw [IntKind.wrap_i64]
      show _ = ((y.i + 1 : Nat) : Int)
      omega
    · show ((sumP ps + sumM w + sumM (ms.take y.i) + s.l : Nat) : Int) = ((sumP ps + sumM w + sumM (ms.take (y.i + 1)) : Nat) : Int)
      rw [ht, hl, Nat.add_assoc]
  · have e : ms.take y.i = ms := List.take_of_length_le (by omega)
    rw [e] at hy2
    rw [hy2]
    exact hR)
end Go.Proofs.Ytpjikjhaljennaa
