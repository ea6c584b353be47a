/- Drop: a turn. -/
import Derived.Test.YthkcfocoekonjaaDrD
set_option maxRecDepth 100000
set_option linter.unusedVariables false
set_option linter.unusedSimpArgs false
namespace Go.Proofs.Ythkcfocoekonjaa
open Go Go.Sx
attribute [local irreducible] Go.Sx.xrun

noncomputable def Ann.tv : FnAnn := ⟨[(22, .to Sl fun s => .val (.slice s.o s.l s.c))], []⟩
noncomputable def tvGoal (b mi mn : Nat) (inter held : Bool) (fi : Value → Option Value) (all : Int) (w : Win) (n : Nat) (G : Blks) (R : Value → Blks → Prop) : Prop :=
  xrun Go.Proofs.Try.prog [(67, del16T)] [(51, Ann.tv)] [([], (24, true))] 9 [] 51 [.ptr 0 0 0]
    [.own b (.cells 6 [.val (.bool inter), .mp 1, .slc 2 w.o n w.cap, .val (.bool held), .val (.map (some mn)), .val (.int .i64 all)] 123), .own mi (.map (.one (.int .u16)) fi none), .own w.b (.tab 27 w.base w.N [.ints .u16 w.zs]), .chunk G] fun s h => R (den (locs h) s) (owned (locs h) h)
theorem tv_goal (b mi mn : Nat) (inter held : Bool) (fi : Value → Option Value) (all : Int) (w : Win) (n : Nat) (G : Blks) (R : Value → Blks → Prop) (s : Int) (l : List Int) (hn : n = (s :: l).length) (hw : w.ok (s :: l)) (hb : n < 1000000)
    (sl : Sl) (hf : fi (.int .u16 s) = some (.slice sl.o sl.l sl.c)) (hs : 0 < sl.l)
    (hR : ∀ v L' Lt, WinAt 27 .u16 (l ++ [s]) v Lt → L'.Perm ((b, .cells [.bool inter, .map (some mi), v, .bool false, .map (some mn), .int .i64 all] 123) :: (mi, .map (.one (.int .u16)) fi none) :: (G ++ Lt)) → R (.tuple #[]) L') : tvGoal b mi mn inter held fi all w n G R :=
  Eq.mpr (by kernel_rfl) (show
  ((0 : Int) ≤ (0 : Int) ∧ (0 : Int) < (↑n : Int)) ∧ w.3 < w.4 ∧ ((0 : Int) ≤ (0 : Int) ∧ (0 : Int) < (↑n : Int) ∧ (1 : Int) = (0 : Int) + (1 : Int) ∧ n ≤ w.5 ∧ w.3 + w.5 ≤ w.4 ∧ n < (1000000 : Nat)) ∧ ∀ (b' base' cap' : Nat) (xs' : List Int), n - (1 : Nat) ≤ cap' → List.length xs' = cap' → List.take (n - (1 : Nat)) xs' = List.take (0 : Nat) (List.take n (List.drop w.3 w.6)) ++ List.drop (1 : Nat) (List.take n (List.drop w.3 w.6)) → ∃ (x : Sl), (∀ (r : List (Nat × Nat × Nat)),
  Value.slice x.1 x.2 x.3 = Option.getD (fi (Value.int IntKind.u16 (List.getD w.6 w.3 (0 : Int)))) (Value.slice Option.none (0 : Nat) (0 : Nat))) ∧ (0 : Int) < (↑x.2 : Int) ∧ ∀ (b_1 : Nat), Value.oneCell' (Value.int IntKind.u16 (List.getD w.6 w.3 (0 : Int))) = Bool.true ∧ (n - (1 : Nat) ≤ cap' ∧ (0 : Nat) + cap' ≤ cap') ∧ (0 : Nat) + (n - (1 : Nat)) ≤ cap' ∧ (n - (1 : Nat) + (1 : Nat)) * (2 : Nat) ≤ (140737488355328 : Nat) ∧ ∀ (b_2 base cap'_1 : Nat), n - (1 : Nat) + (1 : Nat) ≤ cap'_1 → (n - (1 : Nat) + (1 : Nat) ≤ cap' → cap'_1 = cap') → ∀ (sp : List Int),
  List.length sp = cap'_1 - (n - (1 : Nat) + (1 : Nat)) → R (Value.tuple #[]) ((b, Blk.cells [Value.bool inter, Value.map (Option.some mi), Value.slice (Option.some { block := b_2, off := base * (1 : Nat) }) (n - (1 : Nat) + (1 : Nat)) cap'_1, Value.bool Bool.false, Value.map (Option.some mn), Value.int IntKind.i64 all] (123 : Go.TypeId)) :: (mi, Blk.map (KShape.one (KS.int IntKind.u16)) fi Option.none) :: (G ++ [(b_1, Blk.cells [Value.int IntKind.u16 (List.getD w.6 w.3 (0 : Int))] (27 : Nat)),
  (b_2, Blk.tab (27 : Nat) base cap'_1 [Col.ints IntKind.u16 (List.take (n - (1 : Nat)) xs' ++ [List.getD w.6 w.3 (0 : Int)] ++ sp)])])) from by
  subst hn
  simp only [eq_self, true_and, and_true, false_and, and_false, or_false, false_or, and_self, Nat.zero_add, Nat.add_zero, Nat.sub_zero, Nat.zero_mul, Nat.mul_one, Int.toNat_natCast, cond_true, cond_false, forall_const, implies_true, Nat.beq_refl, ne_eq, not_false_eq_true, not_true_eq_false, Classical.not_not, List.cons.injEq, List.append_nil, List.nil_append, Go.Value.int.injEq, Go.Value.bool.injEq, Go.Value.slice.injEq, Nat.le_refl, Nat.zero_le, Go.Sx.one_int, Go.Sx.one_bool, Go.Sx.one_slice, Go.Sx.one_ptr, Go.Sx.one_map, Int.cast_ofNat_Int, reduceCtorEq, Nat.reduceLeDiff, Nat.reduceMul, Nat.reduceAdd, Nat.reduceSub, Nat.reduceEqDiff, Int.reduceLE, Int.reduceLT, Int.reduceEq, Int.reduceAdd, Int.reduceSub, Int.reduceNeg, Int.reduceMul, Nat.reduceBEq]
  obtain ⟨h1, h2, h3, h4⟩ := hw
  rw [List.length_cons] at h1 hb h4
  have hget : w.zs.getD w.o 0 = s := by
    have := congrArg (fun x => x[0]?) h4
    simp only [List.getElem?_take_of_lt (show 0 < l.length + 1 by omega), List.getElem?_drop, Nat.add_zero, List.getElem?_cons_zero] at this
    rw [List.getD_eq_getElem?_getD, this]; rfl
  rw [List.length_cons, hget, h4]
  refine ⟨by omega, by omega, ⟨by omega, by omega, by omega, by omega⟩, fun cap' xs' k1 k2 k3 => ⟨sl, by rw [hf]; rfl, by omega, fun b1 => ⟨by omega, by omega, by omega, fun b2 base cap2 k4 k5 sp k6 => ?_⟩⟩⟩
  refine hR _ _ [(b2, .tab 27 base cap2 [.ints .u16 (List.take (l.length + 1 - 1) xs' ++ [s] ++ sp)]), (b1, Blk.cells [.int .u16 s] 27)] (win_at (x := ⟨b2, base, 0, cap2, cap2, List.take (l.length + 1 - 1) xs' ++ [s] ++ sp, []⟩) (n := l.length + 1 - 1 + 1) ⟨?_, ?_, ?_, ?_⟩ (by simp) (List.Perm.refl _)) ?_
  · rw [List.length_append, List.length_singleton]; show _ ≤ cap2; omega
  · show 0 + cap2 ≤ cap2; omega
  · show (List.take (l.length + 1 - 1) xs' ++ [s] ++ sp).length = cap2
    simp only [List.length_append, List.length_take, List.length_singleton, k6, k2]; omega
  · show List.take _ (List.drop 0 (List.take (l.length + 1 - 1) xs' ++ [s] ++ sp)) = _
    have e : List.take (l.length + 1 - 1) xs' = l := by rw [k3]; simp
    rw [e, List.drop_zero, List.take_left]
  · simp only [Win.val, Nat.mul_one, Nat.add_zero]
    refine perm_of_sums fun f => ?_
    simp only [List.map_append, List.map_cons, List.map_nil, List.sum_append, List.sum_cons, List.sum_nil, List.append_assoc, List.cons_append, List.nil_append] at *
    omega)
theorem enters51 : Enters Go.Proofs.Try.prog 51 := ⟨Go.Proofs.Try.f51, Go.Proofs.Try.func51, by kernel_rfl, by kernel_rfl⟩
theorem del_sound : ∀ p ∈ [(67, del16T)], SoundT Go.Proofs.Try.prog p.1 p.2 := by
  intro p hp
  cases List.mem_singleton.1 hp
  exact del16T_sound
theorem line_sl {its : List QItem} {v : Value} {L : Blks} (h : LineAt its v L) : ∃ sl : RSl, v = .slice (some ⟨sl.b, sl.x, none⟩) sl.n sl.c ∧ sl.n = its.length := by
  obtain ⟨x, h1, rfl, h3⟩ := h
  exact ⟨⟨x.b, (x.base + x.o) * 1, its.length, x.cap⟩, rfl, rfl⟩
def SQAtM (q : SQ) (b mi : Nat) (L : Blks) : Prop := ∃ (mn : Nat) (tv : Value) (fi fn : Value → Option Value) (Lt Li : Blks),
  L.Perm ((b, .cells [.bool q.inter, .map (some mi), tv, .bool q.held, .map (some mn), .int .i64 q.all] 123) :: (mi, .map (.one (.int .u16)) fi none) :: (mn, .map (.many [.int .u16, .bool]) fn none) :: (Lt ++ Li)) ∧
  WinNil 27 .u16 (q.lines.map Prod.fst) tv Lt ∧ LinesAt q.lines fi Li ∧ NumsAt q.nums fn
theorem sqAt_M {q : SQ} {b : Nat} {L : Blks} (h : SQAt q b L) : ∃ mi, SQAtM q b mi L := h
structure TvX where
  q : SQ
  b : Nat
  mi : Nat
  s : Int
  its : List QItem
  rest : List (Int × List QItem)
def TvPre (y : TvX) (vs : List Value) (L : Blks) : Prop := vs = [.pointer (some ⟨y.b, 0, none⟩)] ∧ y.q.lines = (y.s, y.its) :: y.rest ∧ 0 < y.its.length ∧ y.q.lines.length < 1000000 ∧ SQAtM y.q y.b y.mi L
def TvPost (y : TvX) (_ : Unit) (L' : Blks) : Prop := SQAtM { y.q with lines := y.rest ++ [(y.s, y.its)], held := false } y.b y.mi L'
def TvR (y : TvX) (v : Value) (L' : Blks) : Prop := v = .tuple #[] ∧ TvPost y () L'
noncomputable def turnT : Trans := chunkR (X := TvX) (A := Unit) (fun _ => .tup []) TvPre TvPost
theorem turnT_sound : SoundT Go.Proofs.Try.prog 51 turnT := chunkR_sound (val := fun _ => .tuple #[]) enters51 (fun a ρ => rfl) (fun a => by simp) fun y vs L ⟨h1, h2, h3, h4, mn, tv, fi, fn, Lt, Li, k1, k2, k3, k4⟩ => by
  subst h1
  rw [h2] at k2 h4
  rw [h2] at k3
  obtain ⟨v, L1, L2, g1, -, g3, -⟩ := lines_out (A := []) k3
  obtain ⟨sl, rfl, gn⟩ := line_sl g3
  rcases k2 with ⟨hn, -⟩ | ⟨w, w1, rfl, w3⟩
  · exact absurd hn (by simp)
  have hperm : ((y.s, y.its) :: y.rest).Perm (y.rest ++ [(y.s, y.its)]) := List.perm_append_comm (l₁ := [(y.s, y.its)]) (l₂ := y.rest)
  have hg : tvGoal y.b y.mi mn y.q.inter y.q.held fi y.q.all w (List.map Prod.fst ((y.s, y.its) :: y.rest)).length ((mn, .map (.many [.int .u16, .bool]) fn none) :: (w.G ++ Li)) (TvR y) :=
    tv_goal y.b y.mi mn y.q.inter y.q.held fi y.q.all w _ _ _ y.s (y.rest.map Prod.fst) (by simp) (by simpa using w1) (by simpa using h4) ⟨some ⟨sl.b, sl.x, none⟩, sl.n, sl.c⟩ g1 (by show 0 < sl.n; rw [gn]; exact h3) fun v' L' Lt' c1 c2 => ⟨rfl, mn, v', fi, fn, Lt', w.G ++ Li, by
      refine perm_of_sums fun f => ?_
      have e1 := perm_sum c2 f
      simp only [List.map_append, List.map_cons, List.map_nil, List.sum_append, List.sum_cons, List.sum_nil, List.append_assoc, List.cons_append, List.nil_append] at *
      omega, .inr (by simpa using c1), ((k3.perm hperm).more w.G).permL List.perm_append_comm, k4⟩
  refine Triple.mono (triple_of_run (R := TvR y) (h := [.own y.b (.cells 6 [.val (.bool y.q.inter), .mp 1, .slc 2 w.o (List.map Prod.fst ((y.s, y.its) :: y.rest)).length w.cap, .val (.bool y.q.held), .val (.map (some mn)), .val (.int .i64 y.q.all)] 123), .own y.mi (.map (.one (.int .u16)) fi none), .own w.b (.tab 27 w.base w.N [.ints .u16 w.zs]), .chunk ((mn, .map (.many [.int .u16, .bool]) fn none) :: (w.G ++ Li))]) (args := [.ptr 0 0 0])
    (L := (y.b, .cells [.bool y.q.inter, .map (some y.mi), w.val (List.map Prod.fst ((y.s, y.its) :: y.rest)).length, .bool y.q.held, .map (some mn), .int .i64 y.q.all] 123) :: (y.mi, .map (.one (.int .u16)) fi none) :: (w.b, .tab 27 w.base w.N [.ints .u16 w.zs]) :: ((mn, .map (.many [.int .u16, .bool]) fn none) :: (w.G ++ Li)))
    (run_with del_sound _ _ _ _ _) (fun r => rfl) (fun r => by simp [owned, Ent.blocks, SBlk.den, denL, den, locAt, locs, Ent.loc, SBlk.base, SBlk.wd, Win.val]) (by simp) hg) ?_ fun v L' ⟨e1, e2⟩ => ⟨(), e1, e2⟩
  refine perm_of_sums fun f => ?_
  have e1 := perm_sum k1 f
  have e2 := perm_sum w3 f
  simp only [List.map_append, List.map_cons, List.map_nil, List.sum_append, List.sum_cons, List.sum_nil, List.append_assoc, List.cons_append, List.nil_append] at *
  omega
end Go.Proofs.Ythkcfocoekonjaa
