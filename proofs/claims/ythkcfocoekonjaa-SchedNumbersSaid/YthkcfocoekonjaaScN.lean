/- Bytes of a stream. -/
import Derived.Test.YthkcfocoekonjaaSxRw
import Derived.Test.YthkcfocoekonjaaScM
import Derived.Test.YthkcfocoekonjaaScH
set_option maxRecDepth 100000
set_option linter.unusedVariables false
set_option linter.unusedSimpArgs false
namespace Go.Proofs.Ythkcfocoekonjaa
open Go Go.Sx
attribute [local irreducible] Go.Sx.xrun

/-! Bytes of a stream. -/
structure ByX where
  i : Nat
  n : Int
structure RSl where
  b : Nat
  x : Nat
  n : Nat
  c : Nat
noncomputable def Ann.by (len : Nat) (P1 : Nat → Int → Prop) : FnAnn := ⟨[(13, .to RSl fun s => .val (.slice (some ⟨s.b, s.x, none⟩) s.n s.c)), (18, .to Nat fun b => .val (.pointer (some ⟨b, 0, none⟩)))],
  [(3, ⟨ByX, [(fun σ y => ⟨σ.n, (15, .val (.int .i64 y.i)) :: (5, .val (.int .i64 y.n)) :: keepE σ.env [13, 14], σ.heap⟩, fun _ y => P1 y.i y.n)], fun y => len - y.i⟩)]⟩
noncomputable def Ann.bz : FnAnn := ⟨[(13, .to Unit fun s => .val (.slice none 0 0))],
  [(3, ⟨ByX, [(fun σ y => ⟨σ.n, (15, .val (.int .i64 y.i)) :: (5, .val (.int .i64 y.n)) :: keepE σ.env [13, 14], σ.heap⟩, fun _ y => y.i = 0 ∧ y.n = 0)], fun y => 0 - y.i⟩)]⟩
noncomputable def byGoal (b mi mn : Nat) (inter held : Bool) (tv : Sl) (fi : Value → Option Value) (all stream : Int) (G : Blks) (len : Nat) (P1 : Nat → Int → Prop) (R : Value → Blks → Prop) : Prop :=
  xrun Go.Proofs.Try.prog [] [(26, Ann.by len P1)] [] 9 [] 26 [.ptr 0 0 0, .val (.int .u16 stream)]
    [.own b (.cells 6 [.val (.bool inter), .mp 1, .val (.slice tv.o tv.l tv.c), .val (.bool held), .val (.map (some mn)), .val (.int .i64 all)] 123), .own mi (.map (.one (.int .u16)) fi none), .chunk G] fun s h => R (den (locs h) s) (owned (locs h) h)
noncomputable def bzGoal (b mi mn : Nat) (inter held : Bool) (tv : Sl) (fi : Value → Option Value) (all stream : Int) (G : Blks) (R : Value → Blks → Prop) : Prop :=
  xrun Go.Proofs.Try.prog [] [(26, Ann.bz)] [] 9 [] 26 [.ptr 0 0 0, .val (.int .u16 stream)]
    [.own b (.cells 6 [.val (.bool inter), .mp 1, .val (.slice tv.o tv.l tv.c), .val (.bool held), .val (.map (some mn)), .val (.int .i64 all)] 123), .own mi (.map (.one (.int .u16)) fi none), .chunk G] fun s h => R (den (locs h) s) (owned (locs h) h)

theorem by_goal (b mi mn : Nat) (inter held : Bool) (tv : Sl) (fi : Value → Option Value) (all stream : Int) (G : Blks) (len : Nat) (P1 : Nat → Int → Prop) (R : Value → Blks → Prop) (s : RSl) (hf : fi (kS stream) = some (.slice (some ⟨s.b, s.x, none⟩) s.n s.c)) (hs : s.n = len) (hl : len < 1000000) (h0 : P1 0 0)
    (hP : ∀ i n, P1 i n → i < len → ∃ p o l c, rawCell G s.b (s.x + i) (.pointer (some ⟨p, 0, none⟩)) ∧ rawCell G p 7 (.slice o l c) ∧ P1 (i + 1) (IntKind.wrap .i64 (n + l)))
    (hR : ∀ i n, P1 i n → ¬ i < len → R (.int .i64 n) ((b, .cells [.bool inter, .map (some mi), .slice tv.o tv.l tv.c, .bool held, .map (some mn), .int .i64 all] 123) :: (mi, .map (.one (.int .u16)) fi none) :: G)) :
    byGoal b mi mn inter held tv fi all stream G len P1 R :=
  Eq.mpr (by kernel_rfl) (show
  ∃ (x : RSl), (∀ (r : List (Nat × Nat × Nat)), Value.slice (Option.some { block := x.1, off := x.2 }) x.3 x.4 = Option.getD (fi (Value.int IntKind.u16 stream)) (Value.slice Option.none (0 : Nat) (0 : Nat))) ∧ ∃ (x0 : ByX), ((((0 : Int) = (↑x0.1 : Int) ∧ (0 : Int) = x0.2 ∧ Value.slice (Option.some { block := x.1, off := x.2 }) x.3 x.4 = Value.slice (Option.some { block := x.1, off := x.2 }) x.3 x.4 ∧ (↑x.3 : Int) = (↑x.3 : Int) ∧ True) ∧ (b = b ∧ Value.bool inter = Value.bool inter ∧ True ∧ Value.slice tv.1 tv.2 tv.3 = Value.slice tv.1 tv.2 tv.3 ∧
  Value.bool held = Value.bool held ∧ Value.map (Option.some mn) = Value.map (Option.some mn) ∧ all = all ∧ True) ∧ (mi = mi ∧ KShape.one (KS.int IntKind.u16) = KShape.one (KS.int IntKind.u16) ∧ fi = fi ∧ (Option.none : Option (Go.Value × Int)) = Option.none) ∧ G = G ∧ True) ∧ P1 x0.1 x0.2) ∧ ∀ (x_1 : ByX), P1 x_1.1 x_1.2 → ((↑x_1.1 : Int) < (↑x.3 : Int) → ((0 : Int) ≤ (↑x_1.1 : Int) ∧ (↑x_1.1 : Int) < (↑x.3 : Int)) ∧ ∃ (a : Option Go.Addr), rawCell G x.1 (x.2 + x_1.1 * (1 : Nat)) (Value.pointer a) ∧ ∃ (x_2 : Nat),
  (∀ (r : List (Nat × Nat × Nat)), Value.pointer (Option.some { block := x_2, off := (0 : Nat) }) = Value.pointer a) ∧ ∃ (o : Option Go.Addr), ∃ (l : Nat), ∃ (c : Nat), rawCell G x_2 (7 : Nat) (Value.slice o l c) ∧ ∃ (y : ByX), len - y.1 < len - x_1.1 ∧ ((IntKind.wrap IntKind.i64 ((↑x_1.1 : Int) + (1 : Int)) = (↑y.1 : Int) ∧ IntKind.wrap IntKind.i64 (x_1.2 + (↑l : Int)) = y.2 ∧ Value.slice (Option.some { block := x.1, off := x.2 }) x.3 x.4 = Value.slice (Option.some { block := x.1, off := x.2 }) x.3 x.4 ∧ (↑x.3 : Int) = (↑x.3 : Int) ∧ True) ∧ (b = b ∧ Value.bool inter = Value.bool inter ∧
  True ∧ Value.slice tv.1 tv.2 tv.3 = Value.slice tv.1 tv.2 tv.3 ∧ Value.bool held = Value.bool held ∧ Value.map (Option.some mn) = Value.map (Option.some mn) ∧ all = all ∧ True) ∧ (mi = mi ∧ KShape.one (KS.int IntKind.u16) = KShape.one (KS.int IntKind.u16) ∧ fi = fi ∧ (Option.none : Option (Go.Value × Int)) = Option.none) ∧ G = G ∧ True) ∧ P1 y.1 y.2) ∧ (¬(↑x_1.1 : Int) < (↑x.3 : Int) → R (Value.int IntKind.i64 x_1.2) ((b, Blk.cells [Value.bool inter, Value.map (Option.some mi), Value.slice tv.1 tv.2 tv.3, Value.bool held, Value.map (Option.some mn), Value.int IntKind.i64 all] (123 : Go.TypeId)) ::
  (mi, Blk.map (KShape.one (KS.int IntKind.u16)) fi Option.none) :: (G ++ []))) from by
  have hf' : fi (Value.int .u16 stream) = some (.slice (some ⟨s.b, s.x, none⟩) s.n s.c) := hf
  simp only [eq_self, true_and, and_true, false_and, and_false, or_false, false_or, and_self, Nat.zero_add, Nat.add_zero, Nat.sub_zero, Nat.zero_mul, Nat.mul_one, Int.toNat_natCast, cond_true, cond_false, forall_const, implies_true, Nat.beq_refl, ne_eq, not_false_eq_true, not_true_eq_false, Classical.not_not, List.cons.injEq, List.append_nil, List.nil_append, Go.Value.int.injEq, Go.Value.bool.injEq, Go.Value.slice.injEq, Nat.le_refl, Nat.zero_le, Go.Sx.one_int, Go.Sx.one_bool, Go.Sx.one_slice, Go.Sx.one_ptr, Go.Sx.one_map, Int.cast_ofNat_Int, reduceCtorEq, Nat.reduceLeDiff, Nat.reduceMul, Nat.reduceAdd, Nat.reduceSub, Nat.reduceEqDiff, Int.reduceLE, Int.reduceLT, Int.reduceEq, Int.reduceAdd, Int.reduceSub, Int.reduceNeg, Int.reduceMul, Nat.reduceBEq, hf', Option.getD_some]
  subst hs
  refine ⟨s, ⟨rfl, rfl, rfl⟩, ⟨0, 0⟩, ⟨⟨rfl, rfl⟩, h0⟩, fun x hx => ⟨fun hlt => ⟨⟨by omega, by omega⟩, ?_⟩, fun hge => hR x.i x.n hx (by omega)⟩⟩
  obtain ⟨p, o, l, c, h1, h2, h3⟩ := hP x.i x.n hx (by omega)
  exact ⟨_, h1, p, rfl, o, l, c, h2, ⟨x.i + 1, _⟩, by show s.n - (x.i + 1) < s.n - x.i; omega, ⟨ix_succ (n := s.n) (by omega) hl, rfl⟩, h3⟩)
theorem bz_goal (b mi mn : Nat) (inter held : Bool) (tv : Sl) (fi : Value → Option Value) (all stream : Int) (G : Blks) (R : Value → Blks → Prop) (hf : fi (kS stream) = none)
    (hR : R (.int .i64 0) ((b, .cells [.bool inter, .map (some mi), .slice tv.o tv.l tv.c, .bool held, .map (some mn), .int .i64 all] 123) :: (mi, .map (.one (.int .u16)) fi none) :: G)) :
    bzGoal b mi mn inter held tv fi all stream G R :=
  Eq.mpr (by kernel_rfl) (show
  ∃ (x : Unit), (∀ (r : List (Nat × Nat × Nat)), Value.slice Option.none (0 : Nat) (0 : Nat) = Option.getD (fi (Value.int IntKind.u16 stream)) (Value.slice Option.none (0 : Nat) (0 : Nat))) ∧ ∃ (x0 : ByX), ((((0 : Int) = (↑x0.1 : Int) ∧ (0 : Int) = x0.2 ∧ Value.slice Option.none (0 : Nat) (0 : Nat) = Value.slice Option.none (0 : Nat) (0 : Nat) ∧ (↑(0 : Nat) : Int) = (↑(0 : Nat) : Int) ∧ True) ∧ (b = b ∧ Value.bool inter = Value.bool inter ∧ True ∧ Value.slice tv.1 tv.2 tv.3 = Value.slice tv.1 tv.2 tv.3 ∧
  Value.bool held = Value.bool held ∧ Value.map (Option.some mn) = Value.map (Option.some mn) ∧ all = all ∧ True) ∧ (mi = mi ∧ KShape.one (KS.int IntKind.u16) = KShape.one (KS.int IntKind.u16) ∧ fi = fi ∧ (Option.none : Option (Go.Value × Int)) = Option.none) ∧ G = G ∧ True) ∧ x0.1 = (0 : Nat) ∧ x0.2 = (0 : Int)) ∧ ∀ (x : ByX), x.1 = (0 : Nat) ∧ x.2 = (0 : Int) → ((↑x.1 : Int) < (↑(0 : Nat) : Int) → False) ∧ (¬(↑x.1 : Int) < (↑(0 : Nat) : Int) → R (Value.int IntKind.i64 x.2) ((b, Blk.cells
  [Value.bool inter, Value.map (Option.some mi), Value.slice tv.1 tv.2 tv.3, Value.bool held, Value.map (Option.some mn), Value.int IntKind.i64 all] (123 : Go.TypeId)) :: (mi, Blk.map (KShape.one (KS.int IntKind.u16)) fi Option.none) :: (G ++ []))) from by
  have hf' : fi (Value.int .u16 stream) = none := hf
  simp only [eq_self, true_and, and_true, false_and, and_false, or_false, false_or, and_self, Nat.zero_add, Nat.add_zero, Nat.sub_zero, Nat.zero_mul, Nat.mul_one, Int.toNat_natCast, cond_true, cond_false, forall_const, implies_true, Nat.beq_refl, ne_eq, not_false_eq_true, not_true_eq_false, Classical.not_not, List.cons.injEq, List.append_nil, List.nil_append, Go.Value.int.injEq, Go.Value.bool.injEq, Go.Value.slice.injEq, Nat.le_refl, Nat.zero_le, Go.Sx.one_int, Go.Sx.one_bool, Go.Sx.one_slice, Go.Sx.one_ptr, Go.Sx.one_map, Int.cast_ofNat_Int, reduceCtorEq, Nat.reduceLeDiff, Nat.reduceMul, Nat.reduceAdd, Nat.reduceSub, Nat.reduceEqDiff, Int.reduceLE, Int.reduceLT, Int.reduceEq, Int.reduceAdd, Int.reduceSub, Int.reduceNeg, Int.reduceMul, Nat.reduceBEq, hf', Option.getD_none]
  refine ⟨(), ⟨0, 0⟩, ⟨⟨rfl, rfl⟩, rfl, rfl⟩, fun x ⟨h1, h2⟩ => ⟨fun hlt => by omega, fun hge => ?_⟩⟩
  rw [h2]
  exact hR)
def sumB (its : List QItem) : Int := (its.map fun it => (it.body.length : Int)).sum
/-- The messages of a stream. -/
def lineF (lines : List (Int × List QItem)) (s : Int) : List QItem := match lines.find? fun p => p.1 == s with
  | some p => p.2
  | none => []
theorem lineF_none {lines : List (Int × List QItem)} {s : Int} (h : s ∉ lines.map Prod.fst) : lineF lines s = [] := by
  unfold lineF
  have : lines.find? (fun p => p.1 == s) = none := List.find?_eq_none.2 fun p hp => by
    simp only [beq_iff_eq]
    rintro rfl
    exact h (List.mem_map_of_mem hp)
  rw [this]
theorem lineF_mid {A B : List (Int × List QItem)} {s : Int} {its : List QItem} (h : s ∉ A.map Prod.fst) : lineF (A ++ (s, its) :: B) s = its := by
  unfold lineF
  rw [List.find?_append, List.find?_eq_none.2 (fun p hp => by
    simp only [beq_iff_eq]
    rintro rfl
    exact h (List.mem_map_of_mem hp))]
  simp
theorem sumB_take {its : List QItem} {i : Nat} {it : QItem} (h : its[i]? = some it) : sumB (its.take (i + 1)) = sumB (its.take i) + it.body.length := by
  unfold sumB
  rw [List.take_add_one, h]
  simp
theorem sumB_small {its : List QItem} {all : Int} (h : sumB its ≤ all) (i : Nat) : 0 ≤ sumB (its.take i) ∧ sumB (its.take i) ≤ all := by
  have pos : ∀ l : List QItem, 0 ≤ sumB l := fun l => by
    induction l with
    | nil => simp [sumB]
    | cons a r ih => unfold sumB at *; simp only [List.map_cons, List.sum_cons]; omega
  refine ⟨pos _, ?_⟩
  have h1 : sumB its = sumB (its.take i) + sumB (its.drop i) := by
    unfold sumB
    rw [← Int.add_comm, Int.add_comm]
    conv => lhs; rw [← List.take_append_drop i its]
    rw [List.map_append, List.sum_append]
  have := pos (its.drop i)
  omega
structure ByY where
  q : SQ
  b : Nat
  s : Int
def ByPre (x : ByY) (vs : List Value) (L : Blks) : Prop := vs = [.pointer (some ⟨x.b, 0, none⟩), kS x.s] ∧ (sumB (lineF x.q.lines x.s) ≤ 1000000 ∧ (lineF x.q.lines x.s).length < 1000000) ∧ SQAt x.q x.b L
def ByPost (x : ByY) (a : Int) (L' : Blks) : Prop := a = sumB (lineF x.q.lines x.s) ∧ SQAt x.q x.b L'
noncomputable def bytnT : Trans := chunkR (X := ByY) (A := Int) (fun a => .val (.int .i64 a)) ByPre ByPost
theorem enters26 : Enters Go.Proofs.Try.prog 26 := ⟨Go.Proofs.Try.f26, Go.Proofs.Try.func26, by kernel_rfl, by kernel_rfl⟩
theorem line_open {its : List QItem} {v : Value} {L : Blks} (h : LineAt its v L) : ∃ s : RSl, v = .slice (some ⟨s.b, s.x, none⟩) s.n s.c ∧ s.n = its.length ∧
    ∀ i it, its[i]? = some it → ∃ p bv, rawCell L s.b (s.x + i) (.pointer (some ⟨p, 0, none⟩)) ∧ (p, .cells (it.cells bv) 128) ∈ L ∧ ∃ L1, WinAt 5 .u8 it.body bv L1 := by
  obtain ⟨x, ⟨h1, h2, h3, h4⟩, rfl, hp⟩ := h
  refine ⟨⟨x.b, (x.base + x.o) * 1, its.length, x.cap⟩, rfl, rfl, fun i it hi => ?_⟩
  have hlt := (List.getElem?_eq_some_iff.1 hi).1
  have hps : ((x.ps.drop x.o).take its.length)[i]? = some (x.ps.getD (x.o + i) .nilIface) := by
    rw [List.getElem?_take_of_lt hlt, List.getElem?_drop, List.getD_eq_getElem?_getD, List.getElem?_eq_getElem (show x.o + i < x.ps.length by omega)]; rfl
  obtain ⟨L1, L2, k1, b, bv, L3, k2, k3, k4⟩ := h4.get (i := i) (a := (it, x.ps.getD (x.o + i) .nilIface)) (by rw [List.getElem?_zip_eq_some]; exact ⟨hi, hps⟩)
  simp only at k2 k3 k4
  refine ⟨b, bv, rawCell_tab1 (t := 126) (base := x.base) (N := x.N) (c := .raws x.ps) (i := x.o + i) (hp.mem_iff.2 (by simp)) (by omega) (by show (x.base + x.o) * 1 + i = _; omega) (by rw [← k2]; rfl), ?_, L3, k3⟩
  refine hp.mem_iff.2 (List.mem_cons_of_mem _ ?_)
  exact mem_of_perm k1 (k4.mem_iff.2 (by simp))
theorem bytnT_sound : SoundT Go.Proofs.Try.prog 26 bytnT := chunkR_sound (val := fun a => .int .i64 a) enters26 (fun a ρ => rfl) (fun a => by simp) fun x vs L ⟨h1, h2, h3⟩ => by
  subst h1
  obtain ⟨mi, mn, tv, fi, fn, Lt, Li, hp, k1, k2, k3⟩ := id h3
  obtain ⟨s, rfl, -⟩ := winNil_sl k1
  have mk : ∀ n : Int, n = sumB (lineF x.q.lines x.s) → ∀ L', L'.Perm L → ∃ a : Int, Value.int .i64 n = .int .i64 a ∧ ByPost x a L' := fun n hn L' hL => ⟨n, rfl, hn, SQAt.permL h3 hL⟩
  have hpL : L.Perm ((x.b, .cells [.bool x.q.inter, .map (some mi), .slice s.o s.l s.c, .bool x.q.held, .map (some mn), .int .i64 x.q.all] 123) :: (mi, .map (.one (.int .u16)) fi none) :: ((mn, .map (.many [.int .u16, .bool]) fn none) :: (Lt ++ Li))) := hp
  by_cases hs : x.s ∈ x.q.lines.map Prod.fst
  · obtain ⟨p, hp1, hp2⟩ := List.mem_map.1 hs
    obtain ⟨A, B, hAB⟩ := List.append_of_mem hp1
    have hpe : p = (x.s, p.2) := by rw [← hp2]
    rw [hpe] at hAB
    have hA : x.s ∉ A.map Prod.fst := by
      have := k2.1
      rw [hAB, List.map_append, List.map_cons, List.nodup_append] at this
      exact fun hm => this.2.2 _ hm x.s (by simp) rfl
    have hline : lineF x.q.lines x.s = p.2 := by rw [hAB]; exact lineF_mid hA
    have k2' := k2
    rw [hAB] at k2'
    obtain ⟨v, L1, L2, e1, e2, e3, -, -⟩ := lines_out k2'
    obtain ⟨rs, rfl, r2, r3⟩ := line_open e3
    have hmem : ∀ q : Nat × Blk, q ∈ L1 → q ∈ (mn, Blk.map (.many [.int .u16, .bool]) fn none) :: (Lt ++ Li) := fun q hq => by
      have := e2.mem_iff.2 (List.mem_append_left L2 hq)
      simp [this]
    rw [hline] at h2
    have hg := by_goal x.b mi mn x.q.inter x.q.held s fi x.q.all x.s ((mn, .map (.many [.int .u16, .bool]) fn none) :: (Lt ++ Li)) p.2.length (fun i n => i ≤ p.2.length ∧ n = sumB (p.2.take i)) (fun v L' => ∃ a : Int, v = .int .i64 a ∧ ByPost x a L') rs e1 r2 h2.2 ⟨Nat.zero_le _, by simp [sumB]⟩
      (fun i n ⟨g1, g2⟩ hi => by
        obtain ⟨it, hit⟩ : ∃ it, p.2[i]? = some it := ⟨p.2[i], by simp [hi]⟩
        obtain ⟨pb, bv, f1, f2, L3, f3⟩ := r3 i it hit
        obtain ⟨y, f4, rfl, -⟩ := f3
        have hsm := sumB_small h2.1 (i + 1)
        rw [sumB_take hit] at hsm
        refine ⟨pb, _, it.body.length, _, ?_, rawCell_cells (hmem _ f2) rfl, hi, ?_⟩
        · obtain ⟨k, u1, u2⟩ := f1
          exact ⟨k, hmem _ u1, u2⟩
        · rw [sumB_take hit, g2, IntKind.wrap_i64]
          have := (sumB_small h2.1 i).1
          omega)
      (fun i n ⟨g1, g2⟩ hi => mk n (by rw [hline, g2, show i = p.2.length by omega, List.take_length]) _ hpL.symm)
    exact Triple.mono (triple_of_run (R := fun v L' => ∃ a : Int, v = .int .i64 a ∧ ByPost x a L') (h := [.own x.b (.cells 6 [.val (.bool x.q.inter), .mp 1, .val (.slice s.o s.l s.c), .val (.bool x.q.held), .val (.map (some mn)), .val (.int .i64 x.q.all)] 123), .own mi (.map (.one (.int .u16)) fi none), .chunk ((mn, .map (.many [.int .u16, .bool]) fn none) :: (Lt ++ Li))])
      (args := [.ptr 0 0 0, .val (.int .u16 x.s)]) (run_with no_contracts _ _ _ _ _) (fun r => rfl) (fun r => by simp [owned, Ent.blocks, SBlk.den, denL, den, locAt, locs, Ent.loc]) (by simp) hg) hpL fun v L' h => h
  · have hline : lineF x.q.lines x.s = [] := lineF_none hs
    have hg := bz_goal x.b mi mn x.q.inter x.q.held s fi x.q.all x.s ((mn, .map (.many [.int .u16, .bool]) fn none) :: (Lt ++ Li)) (fun v L' => ∃ a : Int, v = .int .i64 a ∧ ByPost x a L') (lines_none k2 hs) (mk 0 (by rw [hline]; rfl) _ hpL.symm)
    exact Triple.mono (triple_of_run (R := fun v L' => ∃ a : Int, v = .int .i64 a ∧ ByPost x a L') (h := [.own x.b (.cells 6 [.val (.bool x.q.inter), .mp 1, .val (.slice s.o s.l s.c), .val (.bool x.q.held), .val (.map (some mn)), .val (.int .i64 x.q.all)] 123), .own mi (.map (.one (.int .u16)) fi none), .chunk ((mn, .map (.many [.int .u16, .bool]) fn none) :: (Lt ++ Li))])
      (args := [.ptr 0 0 0, .val (.int .u16 x.s)]) (run_with no_contracts _ _ _ _ _) (fun r => rfl) (fun r => by simp [owned, Ent.blocks, SBlk.den, denL, den, locAt, locs, Ent.loc]) (by simp) hg) hpL fun v L' h => h
end Go.Proofs.Ythkcfocoekonjaa
