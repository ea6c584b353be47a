/- Flights: what they are, and what is read of them. -/
import Derived.Test.YthkcfocoekonjaaPgA
import Derived.Test.YthkcfocoekonjaaSxPu
set_option maxRecDepth 100000
set_option linter.unusedVariables false
set_option linter.unusedSimpArgs false
namespace Go.Proofs.Ythkcfocoekonjaa
open Go Go.Sx
attribute [local irreducible] Go.Sx.xrun

/-! Flights. -/
structure RSl where
  b : Nat
  x : Nat
  n : Nat
  c : Nat
structure Pc where
  len : Nat
  sent : Int
  at_ : Int
  missed : Int
  how : Int
def Pc.ok (p : Pc) (l : List Value) : Prop := l.length = 26 ∧ (∃ o c, l[18]? = some (.slice o p.len c)) ∧ l[22]? = some (.int .u64 p.sent) ∧ l[23]? = some (.int .u32 p.at_) ∧ l[24]? = some (.int .i64 p.missed) ∧ l[25]? = some (.int .i64 p.how)
def PcAt (p : Pc) (v : Value) (L : Blks) : Prop := ∃ b l L1, v = .pointer (some ⟨b, 0, none⟩) ∧ p.ok l ∧ L.Perm ((b, .cells l 139) :: L1)
structure PX where
  b : Nat
  base : Nat
  o : Nat
  N : Nat
  cap : Nat
  ps : List Value
  G : Blks
def PX.val (x : PX) (n : Nat) : Value := .slice (some ⟨x.b, x.base + x.o, none⟩) n x.cap
def PX.ok (x : PX) (ps : List Pc) : Prop := ps.length ≤ x.cap ∧ x.o + x.cap ≤ x.N ∧ x.ps.length = x.N ∧ SepL (fun (q : Pc × Value) L => PcAt q.1 q.2 L) (ps.zip ((x.ps.drop x.o).take ps.length)) x.G
def PsAt (ps : List Pc) (pv : Value) (L : Blks) : Prop := (ps = [] ∧ pv = .slice none 0 0) ∨ ∃ x : PX, x.ok ps ∧ pv = x.val ps.length ∧ L.Perm ((x.b, .tab 136 x.base x.N [.raws x.ps]) :: x.G)
structure Fl where
  mark : Int
  ps : List Pc
def FlV (f : Fl) (b : Nat) (pv : Value) (gm : Nat) (L : Blks) : Prop := ∃ Lp, L.Perm ((b, .cells [.int .u32 f.mark, pv, .map (some gm)] 134) :: Lp) ∧ PsAt f.ps pv Lp
def FlAt (f : Fl) (b : Nat) (L : Blks) : Prop := ∃ pv gm, FlV f b pv gm L
noncomputable def fnGoal (first : Int) (R : Value → Blks → Prop) : Prop := xrun Go.Proofs.Try.prog [] [] [] 9 [] 20 [.val (.int .u32 first)] [] fun s h => R (den (locs h) s) (owned (locs h) h)
noncomputable def fmGoal (b : Nat) (L : Blks) (R : Value → Prop) : Prop := xrun Go.Proofs.Try.prog [] [] [] 9 [] 22 [.val (.pointer (some ⟨b, 0, none⟩))] [.chunk L] fun s h => R (den (locs h) s) ∧ headIs h L
noncomputable def fxGoal (b : Nat) (L : Blks) (R : Value → Prop) : Prop := xrun Go.Proofs.Try.prog [] [] [] 9 [] 53 [.val (.pointer (some ⟨b, 0, none⟩))] [.chunk L] fun s h => R (den (locs h) s) ∧ headIs h L
structure LfX where
  i : Nat
  n : Int
noncomputable def Ann.lf (len : Nat) (P1 : Nat → Int → Prop) : FnAnn := ⟨[(14, .to Nat fun b => .val (.pointer (some ⟨b, 0, none⟩)))], [(3, ⟨LfX, [(fun σ y => ⟨σ.n, (11, .val (.int .i64 y.i)) :: (3, .val (.int .i64 y.n)) :: keepE σ.env [9, 10], σ.heap⟩, fun _ y => P1 y.i y.n)], fun y => len - y.i⟩)]⟩
noncomputable def flLGoal (b : Nat) (L : Blks) (len : Nat) (P1 : Nat → Int → Prop) (R : Value → Prop) : Prop := xrun Go.Proofs.Try.prog [] [(23, Ann.lf len P1)] [] 9 [] 23 [.val (.pointer (some ⟨b, 0, none⟩))] [.chunk L] fun s h => R (den (locs h) s) ∧ headIs h L
noncomputable def flBGoal (b : Nat) (L : Blks) (len : Nat) (P1 : Nat → Int → Prop) (R : Value → Prop) : Prop := xrun Go.Proofs.Try.prog [] [(52, Ann.lf len P1)] [] 9 [] 52 [.val (.pointer (some ⟨b, 0, none⟩))] [.chunk L] fun s h => R (den (locs h) s) ∧ headIs h L

structure BdX where
  j : Nat
  ahead : Int
structure Sk where
  kind : Int
  tsn : Int
  g : Option Addr
  gl : Nat
  gc : Nat
def Sk.sv (s : Sk) : SV := .agg [.val (.int .u8 s.kind), .val (.bool false), .val (.bool false), .val (.bool false), .val (.bool false), .val (.int .u32 s.tsn), .val (.int .u16 0), .val (.int .u32 0), .val (.int .u32 0), .val (.int .u32 0), .val (.int .u32 0), .val (.int .u32 0), .val (.int .u16 0), .val (.int .u16 0),
  .val (.slice s.g s.gl s.gc), .val (.slice none 0 0), .val (.slice none 0 0), .val (.slice none 0 0), .val (.slice none 0 0)]
noncomputable def Ann.bd (len : Nat) (P6 : Nat → Int → Prop) : FnAnn := ⟨[], [(6, ⟨BdX, [(fun σ y => ⟨σ.n, (29, .val (.int .i64 y.j)) :: (6, .val (.int .i64 y.ahead)) :: keepE σ.env [3, 5, 27, 28], σ.heap⟩, fun _ y => P6 y.j y.ahead)], fun y => len - y.j⟩)]⟩
noncomputable def bdGoal (b : Nat) (s : Sk) (L : Blks) (P6 : Nat → Int → Prop) (R : Prop → Prop) : Prop :=
  xrun Go.Proofs.Try.prog [] [(56, Ann.bd s.gl P6)] [] 9 [] 56 [.val (.pointer (some ⟨b, 0, none⟩)), s.sv] [.chunk L] fun s h => bOf s R ∧ headIs h L

theorem flv_mem {f : Fl} {b : Nat} {pv : Value} {gm : Nat} {L : Blks} (h : FlV f b pv gm L) : (b, .cells [.int .u32 f.mark, pv, .map (some gm)] 134) ∈ L := by
  obtain ⟨Lp, h1, -⟩ := h
  exact h1.mem_iff.2 (by simp)
theorem flv_slice {f : Fl} {b : Nat} {pv : Value} {gm : Nat} {L : Blks} (h : FlV f b pv gm L) : ∃ o c, pv = .slice o f.ps.length c ∧
    ∀ i p, f.ps[i]? = some p → ∃ sb sx pb l, o = some ⟨sb, sx, none⟩ ∧ rawCell L sb (sx + i) (.pointer (some ⟨pb, 0, none⟩)) ∧ (pb, .cells l 139) ∈ L ∧ p.ok l := by
  obtain ⟨Lp, h1, h2⟩ := h
  rcases h2 with ⟨e, rfl⟩ | ⟨x, ⟨a1, a2, a3, a4⟩, rfl, a5⟩
  · rw [e]
    exact ⟨none, 0, rfl, fun i p hp => by simp at hp⟩
  · refine ⟨_, _, rfl, fun i p hp => ?_⟩
    have hlt := (List.getElem?_eq_some_iff.1 hp).1
    have hps : ((x.ps.drop x.o).take f.ps.length)[i]? = some (x.ps.getD (x.o + i) .nilIface) := by
      rw [List.getElem?_take_of_lt hlt, List.getElem?_drop, List.getD_eq_getElem?_getD, List.getElem?_eq_getElem (show x.o + i < x.ps.length by omega)]; rfl
    obtain ⟨L1, L2, k1, pb, l, L3, k2, k3, k4⟩ := a4.get (i := i) (a := (p, x.ps.getD (x.o + i) .nilIface)) (by rw [List.getElem?_zip_eq_some]; exact ⟨hp, hps⟩)
    simp only at k2 k3 k4
    have hm : ∀ q, q ∈ (x.b, Blk.tab 136 x.base x.N [.raws x.ps]) :: x.G → q ∈ L := fun q hq => h1.mem_iff.2 (List.mem_cons_of_mem _ (a5.mem_iff.2 hq))
    refine ⟨x.b, x.base + x.o, pb, l, rfl, rawCell_tab1 (t := 136) (base := x.base) (N := x.N) (c := .raws x.ps) (i := x.o + i) (hm _ (by simp)) (by omega) (by omega) (by rw [← k2]; rfl), hm _ (List.mem_cons_of_mem _ (mem_of_perm k1 (k4.mem_iff.2 (by simp)))), k3⟩
theorem PsAt.more {ps : List Pc} {pv : Value} {L : Blks} (h : PsAt ps pv L) (G : Blks) : PsAt ps pv (L ++ G) := by
  rcases h with h | ⟨x, ⟨h1, h2, h3, h4⟩, h5, h6⟩
  · exact .inl h
  · exact .inr ⟨{ x with G := x.G ++ G }, ⟨h1, h2, h3, h4.more G⟩, h5, by simpa using h6.append_right G⟩
theorem FlV.more {f : Fl} {b : Nat} {pv : Value} {gm : Nat} {L : Blks} (h : FlV f b pv gm L) (G : Blks) : FlV f b pv gm (L ++ G) := by
  obtain ⟨Lp, h1, h2⟩ := h
  exact ⟨Lp ++ G, by simpa using h1.append_right G, h2.more G⟩
theorem FlAt.more {f : Fl} {b : Nat} {L : Blks} (h : FlAt f b L) (G : Blks) : FlAt f b (L ++ G) := by
  obtain ⟨pv, gm, h⟩ := h
  exact ⟨pv, gm, h.more G⟩
theorem FlAt.permL {f : Fl} {b : Nat} {L L' : Blks} (h : FlAt f b L) (p : L'.Perm L) : FlAt f b L' := by
  obtain ⟨pv, gm, Lp, h1, h2⟩ := h
  exact ⟨pv, gm, Lp, p.trans h1, h2⟩
theorem rc {L : Blks} {b : Nat} {l : List Value} {t : TypeId} {x : Nat} {v : Value} (hm : (b, Blk.cells l t) ∈ L) (hx : l[x]? = some v) : rawCell L b x v := rawCell_cells hm hx

/-! Reading. -/
def openP (p : Pc) : Prop := p.how = 0 ∨ p.how = 1
noncomputable def leftF (ps : List Pc) : Int := (ps.map fun p => @ite Int (openP p) (Classical.propDecidable _) 1 0).sum
def awayF (ps : List Pc) : Int := (ps.map fun p => if p.how = 0 then (p.len : Int) else 0).sum
def nextN (mark : Int) (n : Nat) : Int := IntKind.wrap .u32 (IntKind.wrap .u32 (mark + IntKind.wrap .u32 n) + 1)
theorem fn_goal (first : Int) (R : Value → Blks → Prop) (hR : ∀ b b1, R (.pointer (some ⟨b1, 0, none⟩)) [(b, .map (.one (.int .i64)) (fun _ => none) none), (b1, .cells [.int .u32 (IntKind.wrap .u32 (first - 1)), .slice none 0 0, .map (some b)] 134)]) : fnGoal first R :=
  Eq.mpr (by kernel_rfl) (show
  ∀ (b b_1 : Nat), R (Value.pointer (Option.some { block := b_1, off := (0 : Nat) * (3 : Nat) })) [(b, Blk.map (KShape.one (KS.int IntKind.i64)) (fun (x : Go.Value) => Option.none) Option.none), (b_1, Blk.cells [Value.int IntKind.u32 (IntKind.wrap IntKind.u32 (first - (1 : Int))), Value.slice Option.none (0 : Nat) (0 : Nat), Value.map (Option.some b)] (134 : Nat))] from by
  simp only [eq_self, true_and, and_true, false_and, and_false, or_false, false_or, and_self, Nat.zero_add, Nat.add_zero, Nat.sub_zero, Nat.zero_mul, Nat.mul_one, Int.toNat_natCast, cond_true, cond_false, forall_const, implies_true, Nat.beq_refl, ne_eq, not_false_eq_true, not_true_eq_false, Classical.not_not, List.cons.injEq, List.append_nil, List.nil_append, Go.Value.int.injEq, Go.Value.bool.injEq, Go.Value.slice.injEq, Nat.le_refl, Nat.zero_le, Go.Sx.one_int, Go.Sx.one_bool, Go.Sx.one_slice, Go.Sx.one_ptr, Go.Sx.one_map, Int.cast_ofNat_Int, reduceCtorEq, Nat.reduceLeDiff, Nat.reduceMul, Nat.reduceAdd, Nat.reduceSub, Nat.reduceEqDiff, Int.reduceLE, Int.reduceLT, Int.reduceEq, Int.reduceAdd, Int.reduceSub, Int.reduceNeg, Int.reduceMul, Nat.reduceBEq]
  exact hR)
theorem fm_goal {f : Fl} {b : Nat} {L : Blks} (h : FlAt f b L) (R : Value → Prop) (hR : R (.int .u32 f.mark)) : fmGoal b L R :=
  Eq.mpr (by kernel_rfl) (show
  ∃ (n : Int), rawCell L b (0 : Nat) (Value.int IntKind.u32 n) ∧ R (Value.int IntKind.u32 n) ∧ L = L from by
  obtain ⟨pv, gm, h⟩ := h
  exact ⟨f.mark, rc (flv_mem h) rfl, hR, rfl⟩)
theorem fx_goal {f : Fl} {b : Nat} {L : Blks} (h : FlAt f b L) (R : Value → Prop) (hR : R (.int .u32 (nextN f.mark f.ps.length))) : fxGoal b L R :=
  Eq.mpr (by kernel_rfl) (show
  ∃ (n : Int), rawCell L b (0 : Nat) (Value.int IntKind.u32 n) ∧ ∃ (o : Option Go.Addr), ∃ (l : Nat), ∃ (c : Nat), rawCell L b (1 : Nat) (Value.slice o l c) ∧ R (Value.int IntKind.u32 (IntKind.wrap IntKind.u32 (IntKind.wrap IntKind.u32 (n + IntKind.wrap IntKind.u32 (↑l : Int)) + (1 : Int)))) ∧ L = L from by
  obtain ⟨pv, gm, h⟩ := h
  obtain ⟨o, c, rfl, -⟩ := flv_slice h
  exact ⟨f.mark, rc (flv_mem h) rfl, o, f.ps.length, c, rc (flv_mem h) rfl, hR, rfl⟩)
theorem sum_take {α : Type} (g : α → Int) {l : List α} {i : Nat} {a : α} (h : l[i]? = some a) : ((l.take (i + 1)).map g).sum = ((l.take i).map g).sum + g a := by
  rw [List.take_add_one, h]
  simp
theorem sum_lim {α : Type} (g : α → Int) {l : List α} {m : Int} (hg : ∀ a ∈ l, 0 ≤ g a ∧ g a ≤ m) : 0 ≤ (l.map g).sum ∧ (l.map g).sum ≤ l.length * m := by
  induction l with
  | nil => simp
  | cons a r ih =>
    have h1 := ih fun x hx => hg x (by simp [hx])
    have h2 := hg a (by simp)
    simp only [List.map_cons, List.sum_cons, List.length_cons]
    rw [Int.natCast_add, Int.add_mul]
    omega
theorem at_get {f : Fl} {i : Nat} (hi : i < f.ps.length) : ∃ p, f.ps[i]? = some p := ⟨f.ps[i], by simp [hi]⟩
theorem flL_goal {f : Fl} {b len : Nat} {L : Blks} (hlen0 : len = f.ps.length) (h : FlAt f b L) (hl : f.ps.length < 1000000) (P1 : Nat → Int → Prop) (e1 : P1 = fun i n => i ≤ f.ps.length ∧ n = leftF (f.ps.take i)) (R : Value → Prop) (hR : R (.int .i64 (leftF f.ps))) : flLGoal b L len P1 R :=
  Eq.mpr (by kernel_rfl) (show
  ∃ (o : Option Go.Addr), ∃ (l : Nat), ∃ (c : Nat), rawCell L b (1 : Nat) (Value.slice o l c) ∧ ∃ (x0 : LfX), ((((0 : Int) = (↑x0.1 : Int) ∧ (0 : Int) = x0.2 ∧ Value.slice o l c = Value.slice o l c ∧ (↑l : Int) = (↑l : Int) ∧ True) ∧ L = L ∧ True) ∧ P1 x0.1 x0.2) ∧ ∀ (x : LfX), P1 x.1 x.2 → ((↑x.1 : Int) < (↑l : Int) → rawA o fun (b x0 : Nat) => ((0 : Int) ≤ (↑x.1 : Int) ∧ (↑x.1 : Int) < (↑l : Int)) ∧ ∃ (a : Option Go.Addr), rawCell L b (x0 + x.1 * (1 : Nat)) (Value.pointer a) ∧ ∃ (x_1 : Nat),
  (∀ (r : List (Nat × Nat × Nat)), Value.pointer (Option.some { block := x_1, off := (0 : Nat) }) = Value.pointer a) ∧ ∃ (n : Int), rawCell L x_1 (25 : Nat) (Value.int IntKind.i64 n) ∧ (n = (0 : Int) → ∃ (y : LfX), len - y.1 < len - x.1 ∧ ((IntKind.wrap IntKind.i64 ((↑x.1 : Int) + (1 : Int)) = (↑y.1 : Int) ∧ IntKind.wrap IntKind.i64 (x.2 + (1 : Int)) = y.2 ∧ Value.slice o l c = Value.slice o l c ∧ (↑l : Int) = (↑l : Int) ∧ True) ∧ L = L ∧ True) ∧ P1 y.1 y.2) ∧ (¬n = (0 : Int) → ∃ (n : Int), rawCell L x_1 (25 : Nat) (Value.int IntKind.i64 n) ∧ (n = (1 : Int) → ∃ (y : LfX),
  len - y.1 < len - x.1 ∧ ((IntKind.wrap IntKind.i64 ((↑x.1 : Int) + (1 : Int)) = (↑y.1 : Int) ∧ IntKind.wrap IntKind.i64 (x.2 + (1 : Int)) = y.2 ∧ Value.slice o l c = Value.slice o l c ∧ (↑l : Int) = (↑l : Int) ∧ True) ∧ L = L ∧ True) ∧ P1 y.1 y.2) ∧ (¬n = (1 : Int) → ∃ (y : LfX), len - y.1 < len - x.1 ∧ ((IntKind.wrap IntKind.i64 ((↑x.1 : Int) + (1 : Int)) = (↑y.1 : Int) ∧ x.2 = y.2 ∧ Value.slice o l c = Value.slice o l c ∧ (↑l : Int) = (↑l : Int) ∧ True) ∧ L = L ∧ True) ∧ P1 y.1 y.2))) ∧ (¬(↑x.1 : Int) < (↑l : Int) → R (Value.int IntKind.i64 x.2) ∧ L = L) from by
  subst e1 hlen0
  simp only [eq_self, true_and, and_true, false_and, and_false, or_false, false_or, and_self, Nat.zero_add, Nat.add_zero, Nat.sub_zero, Nat.zero_mul, Nat.mul_one, Int.toNat_natCast, cond_true, cond_false, forall_const, implies_true, Nat.beq_refl, ne_eq, not_false_eq_true, not_true_eq_false, Classical.not_not, List.cons.injEq, List.append_nil, List.nil_append, Go.Value.int.injEq, Go.Value.bool.injEq, Go.Value.slice.injEq, Nat.le_refl, Nat.zero_le, Go.Sx.one_int, Go.Sx.one_bool, Go.Sx.one_slice, Go.Sx.one_ptr, Go.Sx.one_map, Int.cast_ofNat_Int, reduceCtorEq, Nat.reduceLeDiff, Nat.reduceMul, Nat.reduceAdd, Nat.reduceSub, Nat.reduceEqDiff, Int.reduceLE, Int.reduceLT, Int.reduceEq, Int.reduceAdd, Int.reduceSub, Int.reduceNeg, Int.reduceMul, Nat.reduceBEq]
  obtain ⟨pv, gm, h⟩ := h
  obtain ⟨o, c, rfl, hp⟩ := flv_slice h
  refine ⟨o, f.ps.length, c, rc (flv_mem h) rfl, ⟨0, 0⟩, ⟨⟨rfl, rfl⟩, Nat.zero_le _, by simp [leftF]⟩, fun x ⟨hx1, hx2⟩ => ⟨fun hlt => ?_, fun hge => ?_⟩⟩
  · obtain ⟨p, hpi⟩ := at_get (f := f) (i := x.i) (by omega)
    obtain ⟨sb, sx, pb, l, rfl, k1, k2, k3⟩ := hp x.i p hpi
    obtain ⟨-, -, -, -, -, k4⟩ := k3
    have hlim := sum_lim (fun p => @ite Int (openP p) (Classical.propDecidable _) 1 0) (l := f.ps.take x.i) (m := 1) (fun a _ => by split <;> omega)
    have hlen : ((f.ps.take x.i).length : Int) ≤ 1000000 := by rw [List.length_take]; omega
    have step : ∀ d : Int, (@ite Int (openP p) (Classical.propDecidable _) 1 0) = d → leftF (f.ps.take (x.i + 1)) = x.n + d := fun d hd => by
      rw [hx2]
      unfold leftF
      rw [sum_take _ hpi, hd]
    have hn : 0 ≤ x.n ∧ x.n ≤ 1000000 := by
      rw [hx2]
      unfold leftF
      omega
    refine ⟨⟨by omega, by omega⟩, _, k1, pb, rfl, p.how, rc k2 k4, fun h0 => ⟨⟨x.i + 1, x.n + 1⟩, by show f.ps.length - (x.i + 1) < f.ps.length - x.i; omega, ⟨ix_succ (n := f.ps.length) (by omega) hl, ?_⟩, by show x.i + 1 ≤ _; omega, ?_⟩, fun h0 => ⟨p.how, rc k2 k4, fun h1 => ⟨⟨x.i + 1, x.n + 1⟩, by show f.ps.length - (x.i + 1) < f.ps.length - x.i; omega, ⟨ix_succ (n := f.ps.length) (by omega) hl, ?_⟩, by show x.i + 1 ≤ _; omega, ?_⟩, fun h1 => ⟨⟨x.i + 1, x.n⟩, by show f.ps.length - (x.i + 1) < f.ps.length - x.i; omega, ⟨ix_succ (n := f.ps.length) (by omega) hl, rfl⟩, by show x.i + 1 ≤ _; omega, ?_⟩⟩⟩
    · rw [IntKind.wrap_i64]; show _ = x.n + 1; omega
    · exact (step 1 (if_pos (.inl h0))).symm
    · rw [IntKind.wrap_i64]; show _ = x.n + 1; omega
    · exact (step 1 (if_pos (.inr h1))).symm
    · have := step 0 (if_neg (fun h => h.elim h0 h1))
      rw [Int.add_zero] at this
      exact this.symm
  · rw [hx2, show x.i = f.ps.length by omega, List.take_length]
    exact hR)
theorem flB_goal {f : Fl} {b len : Nat} {L : Blks} (hlen0 : len = f.ps.length) (h : FlAt f b L) (hl : f.ps.length < 1000000) (hb : ∀ p ∈ f.ps, p.len ≤ 1000000) (P1 : Nat → Int → Prop) (e1 : P1 = fun i n => i ≤ f.ps.length ∧ n = awayF (f.ps.take i)) (R : Value → Prop) (hR : R (.int .i64 (awayF f.ps))) : flBGoal b L len P1 R :=
  Eq.mpr (by kernel_rfl) (show
  ∃ (o : Option Go.Addr), ∃ (l : Nat), ∃ (c : Nat), rawCell L b (1 : Nat) (Value.slice o l c) ∧ ∃ (x0 : LfX), ((((0 : Int) = (↑x0.1 : Int) ∧ (0 : Int) = x0.2 ∧ Value.slice o l c = Value.slice o l c ∧ (↑l : Int) = (↑l : Int) ∧ True) ∧ L = L ∧ True) ∧ P1 x0.1 x0.2) ∧ ∀ (x : LfX), P1 x.1 x.2 → ((↑x.1 : Int) < (↑l : Int) → rawA o fun (b x0 : Nat) => ((0 : Int) ≤ (↑x.1 : Int) ∧ (↑x.1 : Int) < (↑l : Int)) ∧ ∃ (a : Option Go.Addr), rawCell L b (x0 + x.1 * (1 : Nat)) (Value.pointer a) ∧ ∃ (x_1 : Nat),
  (∀ (r : List (Nat × Nat × Nat)), Value.pointer (Option.some { block := x_1, off := (0 : Nat) }) = Value.pointer a) ∧ ∃ (n : Int), rawCell L x_1 (25 : Nat) (Value.int IntKind.i64 n) ∧ (n = (0 : Int) → ∃ (o_1 : Option Go.Addr), ∃ (l_1 : Nat), ∃ (c_1 : Nat), rawCell L x_1 (18 : Nat) (Value.slice o_1 l_1 c_1) ∧ ∃ (y : LfX), len - y.1 < len - x.1 ∧ ((IntKind.wrap IntKind.i64 ((↑x.1 : Int) + (1 : Int)) = (↑y.1 : Int) ∧ IntKind.wrap IntKind.i64 (x.2 + (↑l_1 : Int)) = y.2 ∧ Value.slice o l c = Value.slice o l c ∧ (↑l : Int) = (↑l : Int) ∧ True) ∧ L = L ∧ True) ∧ P1 y.1 y.2) ∧ (¬n = (0 : Int) →
  ∃ (y : LfX), len - y.1 < len - x.1 ∧ ((IntKind.wrap IntKind.i64 ((↑x.1 : Int) + (1 : Int)) = (↑y.1 : Int) ∧ x.2 = y.2 ∧ Value.slice o l c = Value.slice o l c ∧ (↑l : Int) = (↑l : Int) ∧ True) ∧ L = L ∧ True) ∧ P1 y.1 y.2)) ∧ (¬(↑x.1 : Int) < (↑l : Int) → R (Value.int IntKind.i64 x.2) ∧ L = L) from by
  subst e1 hlen0
  simp only [eq_self, true_and, and_true, false_and, and_false, or_false, false_or, and_self, Nat.zero_add, Nat.add_zero, Nat.sub_zero, Nat.zero_mul, Nat.mul_one, Int.toNat_natCast, cond_true, cond_false, forall_const, implies_true, Nat.beq_refl, ne_eq, not_false_eq_true, not_true_eq_false, Classical.not_not, List.cons.injEq, List.append_nil, List.nil_append, Go.Value.int.injEq, Go.Value.bool.injEq, Go.Value.slice.injEq, Nat.le_refl, Nat.zero_le, Go.Sx.one_int, Go.Sx.one_bool, Go.Sx.one_slice, Go.Sx.one_ptr, Go.Sx.one_map, Int.cast_ofNat_Int, reduceCtorEq, Nat.reduceLeDiff, Nat.reduceMul, Nat.reduceAdd, Nat.reduceSub, Nat.reduceEqDiff, Int.reduceLE, Int.reduceLT, Int.reduceEq, Int.reduceAdd, Int.reduceSub, Int.reduceNeg, Int.reduceMul, Nat.reduceBEq]
  obtain ⟨pv, gm, h⟩ := h
  obtain ⟨o, c, rfl, hp⟩ := flv_slice h
  refine ⟨o, f.ps.length, c, rc (flv_mem h) rfl, ⟨0, 0⟩, ⟨⟨rfl, rfl⟩, Nat.zero_le _, by simp [awayF]⟩, fun x ⟨hx1, hx2⟩ => ⟨fun hlt => ?_, fun hge => ?_⟩⟩
  · obtain ⟨p, hpi⟩ := at_get (f := f) (i := x.i) (by omega)
    obtain ⟨sb, sx, pb, l, rfl, k1, k2, k3⟩ := hp x.i p hpi
    obtain ⟨-, ⟨bo, bc, k5⟩, -, -, -, k4⟩ := k3
    have hlim := sum_lim (fun p : Pc => if p.how = 0 then (p.len : Int) else 0) (l := f.ps.take x.i) (m := 1000000) (fun a ha => by
      have := hb a (List.mem_of_mem_take ha)
      split <;> omega)
    have hlen : ((f.ps.take x.i).length : Int) ≤ 1000000 := by rw [List.length_take]; omega
    have hbp := hb p (List.mem_of_getElem? hpi)
    have step : ∀ d : Int, (if p.how = 0 then (p.len : Int) else 0) = d → awayF (f.ps.take (x.i + 1)) = x.n + d := fun d hd => by
      rw [hx2]
      unfold awayF
      rw [sum_take _ hpi, hd]
    have hn : 0 ≤ x.n ∧ x.n ≤ 1000000000000 := by
      rw [hx2]
      unfold awayF
      omega
    refine ⟨⟨by omega, by omega⟩, _, k1, pb, rfl, p.how, rc k2 k4, fun h0 => ⟨bo, p.len, bc, rc k2 k5, ⟨x.i + 1, x.n + p.len⟩, by show f.ps.length - (x.i + 1) < f.ps.length - x.i; omega, ⟨ix_succ (n := f.ps.length) (by omega) hl, ?_⟩, by show x.i + 1 ≤ _; omega, ?_⟩, fun h0 => ⟨⟨x.i + 1, x.n⟩, by show f.ps.length - (x.i + 1) < f.ps.length - x.i; omega, ⟨ix_succ (n := f.ps.length) (by omega) hl, rfl⟩, by show x.i + 1 ≤ _; omega, ?_⟩⟩
    · rw [IntKind.wrap_i64]; show _ = x.n + p.len; omega
    · exact (step _ (if_pos h0)).symm
    · have := step 0 (if_neg h0)
      rw [Int.add_zero] at this
      exact this.symm
  · rw [hx2, show x.i = f.ps.length by omega, List.take_length]
    exact hR)

/-! Is a Sack bad? -/
def gapsBad (far : Int) : Int → List (Int × Int) → Prop
  | _, [] => False
  | ahead, g :: r => IntKind.wrap .i64 g.1 < max 2 (IntKind.wrap .i64 (ahead + 2)) ∨ g.2 < g.1 ∨ far < IntKind.wrap .u32 g.2 ∨ gapsBad far (IntKind.wrap .i64 g.2) r
def lastN (mark : Int) (n : Nat) : Int := IntKind.wrap .u32 (nextN mark n - 1)
def badP (f : Fl) (s : Sk) (gs : List (Int × Int)) : Prop := s.kind ≠ 3 ∨ ¬ IntKind.wrap .u32 (s.tsn - f.mark) ≤ IntKind.wrap .u32 (lastN f.mark f.ps.length - f.mark) ∨ gapsBad (IntKind.wrap .u32 (lastN f.mark f.ps.length - s.tsn)) 0 gs
def GapsAt (gs : List (Int × Int)) (s : Sk) (L : Blks) : Prop := s.gl = gs.length ∧ ∀ i g, gs[i]? = some g → ∃ b x, s.g = some ⟨b, x, none⟩ ∧ rawCell L b (x + i * 2) (.int .u16 g.1) ∧ rawCell L b (x + i * 2 + 1) (.int .u16 g.2)
theorem bd_goal {f : Fl} {b : Nat} {L : Blks} (h : FlAt f b L) {s : Sk} {gs : List (Int × Int)} (hg : GapsAt gs s L) (hl : gs.length < 1000000) (P6 : Nat → Int → Prop)
    (e6 : P6 = fun j a => j ≤ gs.length ∧ (gapsBad (IntKind.wrap .u32 (lastN f.mark f.ps.length - s.tsn)) a (gs.drop j) ↔ gapsBad (IntKind.wrap .u32 (lastN f.mark f.ps.length - s.tsn)) 0 gs)) (R : Prop → Prop) (hR : ∀ p : Prop, (p ↔ badP f s gs) → R p) : bdGoal b s L P6 R :=
  Eq.mpr (by kernel_rfl) (show
  ∀ (b_1 : Nat), ∃ (n : Int), rawCell L b (0 : Nat) (Value.int IntKind.u32 n) ∧ ∃ (o : Option Go.Addr), ∃ (l : Nat), ∃ (c : Nat), rawCell L b (1 : Nat) (Value.slice o l c) ∧ (s.1 ≠ (3 : Int) → R True ∧ L = L) ∧ (¬s.1 ≠ (3 : Int) → ∃ (n_1 : Int), rawCell L b (0 : Nat) (Value.int IntKind.u32 n_1) ∧ (¬IntKind.wrap IntKind.u32 (s.2 - n_1) ≤ IntKind.wrap IntKind.u32 (IntKind.wrap IntKind.u32 (IntKind.wrap IntKind.u32 (IntKind.wrap IntKind.u32 (n + IntKind.wrap IntKind.u32 (↑l : Int)) + (1 : Int)) - (1 : Int)) - n_1) → R True ∧ L = L) ∧ (¬¬IntKind.wrap IntKind.u32 (s.2 - n_1) ≤
  IntKind.wrap IntKind.u32 (IntKind.wrap IntKind.u32 (IntKind.wrap IntKind.u32 (IntKind.wrap IntKind.u32 (n + IntKind.wrap IntKind.u32 (↑l : Int)) + (1 : Int)) - (1 : Int)) - n_1) → ∃ (x0 : BdX), ((((0 : Int) = (↑x0.1 : Int) ∧ (0 : Int) = x0.2 ∧ ((0 : Nat) = (0 : Nat) ∧ (0 : Nat) = (0 : Nat)) ∧ IntKind.wrap IntKind.u32 (IntKind.wrap IntKind.u32 (IntKind.wrap IntKind.u32 (n + IntKind.wrap IntKind.u32 (↑l : Int)) + (1 : Int)) - (1 : Int)) = IntKind.wrap IntKind.u32 (IntKind.wrap IntKind.u32 (IntKind.wrap IntKind.u32 (n + IntKind.wrap IntKind.u32 (↑l : Int)) + (1 : Int)) - (1 : Int)) ∧
  Value.slice s.3 s.4 s.5 = Value.slice s.3 s.4 s.5 ∧ (↑s.4 : Int) = (↑s.4 : Int) ∧ True) ∧ L = L ∧ (b_1 = b_1 ∧ s.1 = s.1 ∧ Value.bool Bool.false = Value.bool Bool.false ∧ Value.bool Bool.false = Value.bool Bool.false ∧ Value.bool Bool.false = Value.bool Bool.false ∧ Value.bool Bool.false = Value.bool Bool.false ∧ s.2 = s.2 ∧ (0 : Int) = (0 : Int) ∧ (0 : Int) = (0 : Int) ∧ (0 : Int) = (0 : Int) ∧ (0 : Int) = (0 : Int) ∧ (0 : Int) = (0 : Int) ∧ (0 : Int) = (0 : Int) ∧ (0 : Int) = (0 : Int) ∧ (0 : Int) = (0 : Int) ∧ Value.slice s.3 s.4 s.5 = Value.slice s.3 s.4 s.5 ∧
  Value.slice Option.none (0 : Nat) (0 : Nat) = Value.slice Option.none (0 : Nat) (0 : Nat) ∧ Value.slice Option.none (0 : Nat) (0 : Nat) = Value.slice Option.none (0 : Nat) (0 : Nat) ∧ Value.slice Option.none (0 : Nat) (0 : Nat) = Value.slice Option.none (0 : Nat) (0 : Nat) ∧ Value.slice Option.none (0 : Nat) (0 : Nat) = Value.slice Option.none (0 : Nat) (0 : Nat) ∧ True) ∧ True) ∧ P6 x0.1 x0.2) ∧ ∀ (x : BdX), P6 x.1 x.2 → ((↑x.1 : Int) < (↑s.4 : Int) → rawA s.3 fun (b x0 : Nat) => ((0 : Int) ≤ (↑x.1 : Int) ∧ (↑x.1 : Int) < (↑s.4 : Int)) ∧ ∃ (n_2 : Int),
  rawCell L b (x0 + x.1 * (2 : Nat)) (Value.int IntKind.u16 n_2) ∧ ∃ (n_3 : Int), rawCell L b (x0 + x.1 * (2 : Nat) + (1 : Nat)) (Value.int IntKind.u16 n_3) ∧ ∀ (b : Nat), Value.oneCell' (Value.int IntKind.u16 n_2) = Bool.true ∧ Value.oneCell' (Value.int IntKind.u16 n_3) = Bool.true ∧ (IntKind.wrap IntKind.i64 n_2 < Max.max (2 : Int) (IntKind.wrap IntKind.i64 (x.2 + (2 : Int))) → R True ∧ L = L) ∧ (¬IntKind.wrap IntKind.i64 n_2 < Max.max (2 : Int) (IntKind.wrap IntKind.i64 (x.2 + (2 : Int))) → (n_3 < n_2 → R True ∧ L = L) ∧ (¬n_3 < n_2 →
  SV.val (Value.int IntKind.u32 (IntKind.wrap IntKind.u32 n_3)) = SV.val (Value.int IntKind.u32 (IntKind.wrap IntKind.u32 n_3)) ∧ SV.val (Value.int IntKind.u16 n_3) = SV.val (Value.int IntKind.u16 n_3) ∧ (IntKind.wrap IntKind.u32 (IntKind.wrap IntKind.u32 (IntKind.wrap IntKind.u32 (IntKind.wrap IntKind.u32 (n + IntKind.wrap IntKind.u32 (↑l : Int)) + (1 : Int)) - (1 : Int)) - s.2) < IntKind.wrap IntKind.u32 n_3 → R True ∧ L = L) ∧ (¬IntKind.wrap IntKind.u32 (IntKind.wrap IntKind.u32 (IntKind.wrap IntKind.u32 (IntKind.wrap IntKind.u32 (n + IntKind.wrap IntKind.u32 (↑l : Int)) + (1 : Int)) -
  (1 : Int)) - s.2) < IntKind.wrap IntKind.u32 n_3 → ∃ (y : BdX), s.4 - y.1 < s.4 - x.1 ∧ ((IntKind.wrap IntKind.i64 ((↑x.1 : Int) + (1 : Int)) = (↑y.1 : Int) ∧ IntKind.wrap IntKind.i64 n_3 = y.2 ∧ ((0 : Nat) = (0 : Nat) ∧ (0 : Nat) = (0 : Nat)) ∧ IntKind.wrap IntKind.u32 (IntKind.wrap IntKind.u32 (IntKind.wrap IntKind.u32 (n + IntKind.wrap IntKind.u32 (↑l : Int)) + (1 : Int)) - (1 : Int)) = IntKind.wrap IntKind.u32 (IntKind.wrap IntKind.u32 (IntKind.wrap IntKind.u32 (n + IntKind.wrap IntKind.u32 (↑l : Int)) + (1 : Int)) - (1 : Int)) ∧
  Value.slice s.3 s.4 s.5 = Value.slice s.3 s.4 s.5 ∧ (↑s.4 : Int) = (↑s.4 : Int) ∧ True) ∧ L = L ∧ (b_1 = b_1 ∧ s.1 = s.1 ∧ Value.bool Bool.false = Value.bool Bool.false ∧ Value.bool Bool.false = Value.bool Bool.false ∧ Value.bool Bool.false = Value.bool Bool.false ∧ Value.bool Bool.false = Value.bool Bool.false ∧ s.2 = s.2 ∧ (0 : Int) = (0 : Int) ∧ (0 : Int) = (0 : Int) ∧ (0 : Int) = (0 : Int) ∧ (0 : Int) = (0 : Int) ∧ (0 : Int) = (0 : Int) ∧ (0 : Int) = (0 : Int) ∧ (0 : Int) = (0 : Int) ∧ (0 : Int) = (0 : Int) ∧ Value.slice s.3 s.4 s.5 = Value.slice s.3 s.4 s.5 ∧
  Value.slice Option.none (0 : Nat) (0 : Nat) = Value.slice Option.none (0 : Nat) (0 : Nat) ∧ Value.slice Option.none (0 : Nat) (0 : Nat) = Value.slice Option.none (0 : Nat) (0 : Nat) ∧ Value.slice Option.none (0 : Nat) (0 : Nat) = Value.slice Option.none (0 : Nat) (0 : Nat) ∧ Value.slice Option.none (0 : Nat) (0 : Nat) = Value.slice Option.none (0 : Nat) (0 : Nat) ∧ True) ∧ True) ∧ P6 y.1 y.2)))) ∧ (¬(↑x.1 : Int) < (↑s.4 : Int) → R False ∧ L = L))) from by
  subst e6
  simp only [eq_self, true_and, and_true, false_and, and_false, or_false, false_or, and_self, Nat.zero_add, Nat.add_zero, Nat.sub_zero, Nat.zero_mul, Nat.mul_one, Int.toNat_natCast, cond_true, cond_false, forall_const, implies_true, Nat.beq_refl, ne_eq, not_false_eq_true, not_true_eq_false, Classical.not_not, List.cons.injEq, List.append_nil, List.nil_append, Go.Value.int.injEq, Go.Value.bool.injEq, Go.Value.slice.injEq, Nat.le_refl, Nat.zero_le, Go.Sx.one_int, Go.Sx.one_bool, Go.Sx.one_slice, Go.Sx.one_ptr, Go.Sx.one_map, Int.cast_ofNat_Int, reduceCtorEq, Nat.reduceLeDiff, Nat.reduceMul, Nat.reduceAdd, Nat.reduceSub, Nat.reduceEqDiff, Int.reduceLE, Int.reduceLT, Int.reduceEq, Int.reduceAdd, Int.reduceSub, Int.reduceNeg, Int.reduceMul, Nat.reduceBEq]
  obtain ⟨pv, gm, h⟩ := h
  obtain ⟨o, c, rfl, -⟩ := flv_slice h
  obtain ⟨hgl, hg⟩ := hg
  have yes : badP f s gs → R True := fun q => hR _ ⟨fun _ => q, fun _ => trivial⟩
  refine ⟨f.mark, rc (flv_mem h) rfl, o, f.ps.length, c, rc (flv_mem h) rfl, fun h1 => yes (.inl h1), fun h1 => ⟨f.mark, rc (flv_mem h) rfl, fun h2 => yes (.inr (.inl h2)), fun h2 => ⟨⟨0, 0⟩, ⟨⟨rfl, rfl⟩, Nat.zero_le _, by simp⟩, fun x ⟨hx1, hx2⟩ => ⟨fun hlt => ?_, fun hge => ?_⟩⟩⟩⟩
  · have hxl : x.j < gs.length := by omega
    obtain ⟨gb, gx, e, k1, k2⟩ := hg x.j gs[x.j] (by simp [hxl])
    rw [List.drop_eq_getElem_cons hxl] at hx2
    have bad : (IntKind.wrap .i64 gs[x.j].1 < max 2 (IntKind.wrap .i64 (x.ahead + 2)) ∨ gs[x.j].2 < gs[x.j].1 ∨ IntKind.wrap .u32 (lastN f.mark f.ps.length - s.tsn) < IntKind.wrap .u32 gs[x.j].2) → R True := fun hb => yes (.inr (.inr (hx2.1 (by
      rcases hb with hb | hb | hb
      · exact .inl hb
      · exact .inr (.inl hb)
      · exact .inr (.inr (.inl hb))))))
    rw [e]
    refine ⟨⟨by omega, by omega⟩, _, k1, _, k2, fun h3 => bad (.inl h3), fun h3 => ⟨fun h4 => bad (.inr (.inl h4)), fun h4 => ⟨fun h5 => bad (.inr (.inr h5)), fun h5 => ⟨⟨x.j + 1, IntKind.wrap .i64 gs[x.j].2⟩, by show s.gl - (x.j + 1) < s.gl - x.j; omega, ⟨ix_succ (n := gs.length) hxl hl, rfl⟩, by show x.j + 1 ≤ _; omega, ?_⟩⟩⟩⟩
    rw [← hx2]
    exact ⟨fun q => .inr (.inr (.inr q)), fun q => by
      rcases q with q | q | q | q
      · exact absurd q h3
      · exact absurd q h4
      · exact absurd q h5
      · exact q⟩
  · rw [List.drop_eq_nil_of_le (by omega)] at hx2
    refine hR _ ⟨fun q => q.elim, ?_⟩
    rintro (q | q | q)
    · exact q h1
    · exact q h2
    · exact hx2.2 q)

/-! Contracts. -/
def FlPre (x : Fl × Nat) (vs : List Value) (L : Blks) : Prop := vs = [.pointer (some ⟨x.2, 0, none⟩)] ∧ FlAt x.1 x.2 L
def FlPreS (x : Fl × Nat) (vs : List Value) (L : Blks) : Prop := vs = [.pointer (some ⟨x.2, 0, none⟩)] ∧ FlAt x.1 x.2 L ∧ x.1.ps.length < 1000000 ∧ ∀ p ∈ x.1.ps, p.len ≤ 1000000
noncomputable def markT : Trans := pureT (X := Fl × Nat) (fun x => .val (.int .u32 x.1.mark)) FlPre
noncomputable def nextfT : Trans := pureT (X := Fl × Nat) (fun x => .val (.int .u32 (nextN x.1.mark x.1.ps.length))) FlPre
noncomputable def leftT : Trans := pureT (X := Fl × Nat) (fun x => .val (.int .i64 (leftF x.1.ps))) FlPreS
noncomputable def awayT : Trans := pureT (X := Fl × Nat) (fun x => .val (.int .i64 (awayF x.1.ps))) FlPreS
structure BdY where
  f : Fl
  b : Nat
  s : Sk
  gs : List (Int × Int)
def Sk.val (s : Sk) : Value := .agg #[.int .u8 s.kind, .bool false, .bool false, .bool false, .bool false, .int .u32 s.tsn, .int .u16 0, .int .u32 0, .int .u32 0, .int .u32 0, .int .u32 0, .int .u32 0, .int .u16 0, .int .u16 0, .slice s.g s.gl s.gc, .slice none 0 0, .slice none 0 0, .slice none 0 0, .slice none 0 0]
def BdPre (x : BdY) (vs : List Value) (L : Blks) : Prop := vs = [.pointer (some ⟨x.b, 0, none⟩), x.s.val] ∧ FlAt x.f x.b L ∧ GapsAt x.gs x.s L ∧ x.gs.length < 1000000
noncomputable def badT : Trans := pureT (X := BdY) (fun x => .prop (badP x.f x.s x.gs)) BdPre
theorem enters20 : Enters Go.Proofs.Try.prog 20 := ⟨Go.Proofs.Try.f20, Go.Proofs.Try.func20, by kernel_rfl, by kernel_rfl⟩
theorem enters22 : Enters Go.Proofs.Try.prog 22 := ⟨Go.Proofs.Try.f22, Go.Proofs.Try.func22, by kernel_rfl, by kernel_rfl⟩
theorem enters23 : Enters Go.Proofs.Try.prog 23 := ⟨Go.Proofs.Try.f23, Go.Proofs.Try.func23, by kernel_rfl, by kernel_rfl⟩
theorem enters52 : Enters Go.Proofs.Try.prog 52 := ⟨Go.Proofs.Try.f52, Go.Proofs.Try.func52, by kernel_rfl, by kernel_rfl⟩
theorem enters53 : Enters Go.Proofs.Try.prog 53 := ⟨Go.Proofs.Try.f53, Go.Proofs.Try.func53, by kernel_rfl, by kernel_rfl⟩
theorem enters56 : Enters Go.Proofs.Try.prog 56 := ⟨Go.Proofs.Try.f56, Go.Proofs.Try.func56, by kernel_rfl, by kernel_rfl⟩
theorem markT_sound : SoundT Go.Proofs.Try.prog 22 markT := pureT_sound (val := fun x => .int .u32 x.1.mark) enters22 (fun a ρ => rfl) (fun a => by simp) fun x vs L ⟨h1, h2⟩ => by
  subst h1
  exact pure_of_run (args := [.val (.pointer (some ⟨x.2, 0, none⟩))]) (run_with no_contracts _ _ _ _ _) (fun r => rfl) (fm_goal h2 (fun v => v = .int .u32 x.1.mark) rfl) fun s h' h => h
theorem nextfT_sound : SoundT Go.Proofs.Try.prog 53 nextfT := pureT_sound (val := fun x => .int .u32 (nextN x.1.mark x.1.ps.length)) enters53 (fun a ρ => by simp only [den]) (fun a => by simp) fun x vs L ⟨h1, h2⟩ => by
  subst h1
  exact pure_of_run (args := [.val (.pointer (some ⟨x.2, 0, none⟩))]) (run_with no_contracts _ _ _ _ _) (fun r => rfl) (fx_goal h2 (fun v => v = .int .u32 (nextN x.1.mark x.1.ps.length)) rfl) fun s h' h => h
theorem leftT_sound : SoundT Go.Proofs.Try.prog 23 leftT := pureT_sound (val := fun x => .int .i64 (leftF x.1.ps)) enters23 (fun a ρ => by simp only [den]) (fun a => by simp) fun x vs L ⟨h1, h2, h3, h4⟩ => by
  subst h1
  exact pure_of_run (args := [.val (.pointer (some ⟨x.2, 0, none⟩))]) (run_with no_contracts _ _ _ _ _) (fun r => rfl) (flL_goal rfl h2 h3 _ rfl (fun v => v = .int .i64 (leftF x.1.ps)) rfl) fun s h' h => h
theorem awayT_sound : SoundT Go.Proofs.Try.prog 52 awayT := pureT_sound (val := fun x => .int .i64 (awayF x.1.ps)) enters52 (fun a ρ => by simp only [den]) (fun a => by simp) fun x vs L ⟨h1, h2, h3, h4⟩ => by
  subst h1
  exact pure_of_run (args := [.val (.pointer (some ⟨x.2, 0, none⟩))]) (run_with no_contracts _ _ _ _ _) (fun r => rfl) (flB_goal rfl h2 h3 h4 _ rfl (fun v => v = .int .i64 (awayF x.1.ps)) rfl) fun s h' h => h
theorem badT_sound : SoundT Go.Proofs.Try.prog 56 badT := pureT_sound (val := fun x => .bool (@decide (badP x.f x.s x.gs) (Classical.propDecidable _))) enters56 (fun a ρ => by simp only [den]) (fun a => by simp) fun x vs L ⟨h1, h2, h3, h4⟩ => by
  subst h1
  have hg := bd_goal h2 h3 h4 _ rfl (fun p => p ↔ badP x.f x.s x.gs) fun p h => h
  have ha : StdL [.chunk L] [.val (.pointer (some ⟨x.b, 0, none⟩)), x.s.sv] [.pointer (some ⟨x.b, 0, none⟩), x.s.val] := fun r => by simp [denL, den, Sk.sv, Sk.val]
  refine pure_of_run (run_with no_contracts _ _ _ _ _) ha hg fun s h' h => ⟨?_, h.2⟩
  obtain ⟨p, k1, k2⟩ := bOf_spec h.1 (locs h')
  rw [k2]
  congr 1
  exact decide_eq_decide.2 k1
def NwfPre (x : Int) (vs : List Value) (L : Blks) : Prop := vs = [.int .u32 x] ∧ L = []
def NwfPost (x : Int) (b : Nat) (L' : Blks) : Prop := FlAt ⟨IntKind.wrap .u32 (x - 1), []⟩ b L'
noncomputable def newfT : Trans := chunkR (X := Int) (A := Nat) (fun b => .val (.pointer (some ⟨b, 0, none⟩))) NwfPre NwfPost
theorem newfT_sound : SoundT Go.Proofs.Try.prog 20 newfT := chunkR_sound (val := fun b => .pointer (some ⟨b, 0, none⟩)) enters20 (fun a ρ => rfl) (fun a => by simp) fun x vs L ⟨h1, h2⟩ => by
  subst h1 h2
  have hg : fnGoal x fun v L' => ∃ a : Nat, v = .pointer (some ⟨a, 0, none⟩) ∧ NwfPost x a L' := fn_goal x _ fun b b1 => ⟨b1, rfl, _, b, _, (List.Perm.swap _ _ []), .inl ⟨rfl, rfl⟩⟩
  exact triple_of_run (R := fun v L' => ∃ a : Nat, v = .pointer (some ⟨a, 0, none⟩) ∧ NwfPost x a L') (h := []) (args := [.val (.int .u32 x)]) (run_with no_contracts _ _ _ _ _) (fun r => rfl) (fun r => rfl) (by simp) hg
end Go.Proofs.Ythkcfocoekonjaa
