/- Joiners: New, Take; a copy of bytes. -/
import Derived.Test.YtpjikjhaljennaaJoA
set_option maxRecDepth 100000
set_option linter.unusedVariables false
set_option linter.unusedSimpArgs false
namespace Go.Proofs.Ytpjikjhaljennaa
open Go Go.Sx
attribute [local irreducible] Go.Sx.xrun

noncomputable def jnGoal (i : Bool) (R : Value → Blks → Prop) : Prop := xrun Go.Proofs.Try.prog [] [] [] 9 [] 18 [.val (.bool i)] [] fun s h => R (den (locs h) s) (owned (locs h) h)
def JQ.cellsV (i : Bool) (mp mq mw mn : Nat) (s : SV) : List SV := [.val (.bool i), .val (.map (some mp)), .val (.map (some mq)), .val (.map (some mw)), .val (.map (some mn)), s]
noncomputable def jtNGoal (i : Bool) (b mp mq mw mn : Nat) (G : Blks) (R : Value → Blks → Prop) : Prop := xrun Go.Proofs.Try.prog [] [] [] 9 [] 20 [.ptr 0 0 0]
  [.own b (.cells 6 [.val (.bool i), .val (.map (some mp)), .val (.map (some mq)), .val (.map (some mw)), .val (.map (some mn)), .val (.slice none 0 0)] 97), .chunk G] fun s h => R (den (locs h) s) (owned (locs h) h)
noncomputable def jtGoal (i : Bool) (b mp mq mw mn : Nat) (x : MW) (n : Nat) (G : Blks) (R : Value → Blks → Prop) : Prop := xrun Go.Proofs.Try.prog [] [] [] 9 [] 20 [.ptr 0 0 0]
  [.own b (.cells 6 [.val (.bool i), .val (.map (some mp)), .val (.map (some mq)), .val (.map (some mw)), .val (.map (some mn)), .slc 1 x.o n x.cap] 97), .own x.b (.tab 38 x.base x.N [.ints .u16 x.c1, .bools x.c2, .ints .u32 x.c3, .ints .u32 x.c4, .raws x.c5]), .chunk G] fun s h => R (den (locs h) s) (owned (locs h) h)
noncomputable def jclGoal (o : Option Addr) (l c : Nat) (L : Blks) (R : Value → Blks → Prop) : Prop :=
  xrun Go.Proofs.Try.prog [] [] [] 9 [] 44 [.sl o l c] [.chunk L] fun s h => R (den (locs h) s) (owned (locs h) h)
open Classical
theorem JAt.more {q : JQ} {b : Nat} {G L : Blks} (h : JAt q b G L) (H : Blks) : JAt q b (G ++ H) (L ++ H) := by
  obtain ⟨mp, mq, mw, mn, rv, fp, fq, fw, fn, Lr, Li, hL, hr, hp, hq, hw, hn⟩ := h
  refine ⟨mp, mq, mw, mn, rv, fp, fq, fw, fn, Lr, Li, ?_, hr.seen (seen_left _ _), PartsAt'.seen hp (seen_left _ _), PiecesAt.seen hq (seen_left _ _), WaitAt.seen hw (seen_left _ _), hn⟩
  have := hL.append_right H
  simpa using this
theorem JAt.permL {q : JQ} {b : Nat} {G L L' : Blks} (h : JAt q b G L) (p : L'.Perm L) : JAt q b G L' := by
  obtain ⟨mp, mq, mw, mn, rv, fp, fq, fw, fn, Lr, Li, hL, h⟩ := h
  exact ⟨mp, mq, mw, mn, rv, fp, fq, fw, fn, Lr, Li, p.trans hL, h⟩
theorem jn_goal (i : Bool) (R : Value → Blks → Prop) (hR : ∀ b b1 b2 b3 b4 : Nat, R (.pointer (some ⟨b4, 0, none⟩)) [(b, .map kSh (fun _ => none) none), (b1, .map (.one (.int .u32)) (fun _ => none) none), (b2, .map kSh (fun _ => none) none), (b3, .map (.one (.int .u16)) (fun _ => none) none),
    (b4, .cells [.bool i, .map (some b), .map (some b1), .map (some b2), .map (some b3), .slice none 0 0] 97)]) : jnGoal i R :=
  Eq.mpr (by kernel_rfl) (show
  ∀ (b b_1 b_2 b_3 b_4 : Nat), R (Value.pointer (Option.some { block := b_4, off := (0 : Nat) * (6 : Nat) })) [(b, Blk.map (KShape.many [KS.int IntKind.u16, KS.bool, KS.int IntKind.u32]) (fun (x : Go.Value) => Option.none) Option.none), (b_1, Blk.map (KShape.one (KS.int IntKind.u32)) (fun (x : Go.Value) => Option.none) Option.none), (b_2, Blk.map (KShape.many [KS.int IntKind.u16, KS.bool, KS.int IntKind.u32]) (fun (x : Go.Value) => Option.none) Option.none), (b_3, Blk.map (KShape.one (KS.int IntKind.u16)) (fun (x : Go.Value) => Option.none) Option.none), (b_4, Blk.cells
  [Value.bool i, Value.map (Option.some b), Value.map (Option.some b_1), Value.map (Option.some b_2), Value.map (Option.some b_3), Value.slice Option.none (0 : Nat) (0 : Nat)] (97 : Nat))] from by
  intro b b1 b2 b3 b4
  exact hR b b1 b2 b3 b4)
theorem entersNew : Enters Go.Proofs.Try.prog 18 := ⟨Go.Proofs.Try.f18, Go.Proofs.Try.func18, by kernel_rfl, by kernel_rfl⟩
def JnPre (i : Bool) (vs : List Value) (L : Blks) : Prop := vs = [.bool i] ∧ L = []
def JnPost (i : Bool) (b : Nat) (L' : Blks) : Prop := JAt ⟨i, [], [], [], fun _ => 0, []⟩ b [] L'
noncomputable def jnewT : Trans := chunkR (X := Bool) (A := Nat) (fun b => .val (.pointer (some ⟨b, 0, none⟩))) JnPre JnPost
theorem jnewT_sound : SoundT Go.Proofs.Try.prog 18 jnewT := chunkR_sound (val := fun b => .pointer (some ⟨b, 0, none⟩)) entersNew (fun a ρ => rfl) (fun a => by simp) fun x vs L ⟨h1, h2⟩ => by
  subst h1 h2
  exact triple_of_run (R := fun v L' => ∃ a : Nat, v = .pointer (some ⟨a, 0, none⟩) ∧ JnPost x a L') (h := []) (args := [.val (.bool x)]) (vs := [.bool x]) (L := []) (run_with no_contracts _ _ _ _ _) (fun r => rfl) (fun r => rfl) (by simp)
    (jn_goal x (fun v L' => ∃ a : Nat, v = .pointer (some ⟨a, 0, none⟩) ∧ JnPost x a L') fun b b1 b2 b3 b4 => ⟨b4, rfl, b, b1, b2, b3, _, _, _, _, _, [], [], (List.perm_append_comm (l₁ := [_, _, _, _]) (l₂ := [_])), .inl ⟨rfl, rfl, rfl⟩, SM.empty, SM.empty, SM.empty, fun k h => absurd rfl h, fun s => rfl⟩)

/-! Take. -/
theorem jtn_goal (i : Bool) (b mp mq mw mn : Nat) (G : Blks) (R : Value → Blks → Prop)
    (hR : ∀ b1 : Nat, R (.tuple #[.agg (Mg.zero.cells ⟨none, 0, 0⟩).toArray, .bool false]) ((b, .cells [.bool i, .map (some mp), .map (some mq), .map (some mw), .map (some mn), .slice none 0 0] 97) :: (G ++ [(b1, .cells (Mg.zero.cells ⟨none, 0, 0⟩) 38)]))) : jtNGoal i b mp mq mw mn G R :=
  Eq.mpr (by kernel_rfl) (show
  ∀ (b_1 : Nat), ((↑(0 : Nat) : Int) = (0 : Int) → Value.oneCell' (Value.int IntKind.u16 (0 : Int)) = Bool.true ∧ Value.oneCell' (Value.int IntKind.u32 (0 : Int)) = Bool.true ∧ Value.oneCell' (Value.int IntKind.u32 (0 : Int)) = Bool.true ∧ Value.oneCell' (Value.slice Option.none (0 : Nat) (0 : Nat)) = Bool.true ∧ R (Value.tuple #[Value.agg #[Value.int IntKind.u16 (0 : Int), Value.bool Bool.false, Value.int IntKind.u32 (0 : Int), Value.int IntKind.u32 (0 : Int), Value.slice Option.none (0 : Nat) (0 : Nat)], Value.bool Bool.false]) ((b, Blk.cells
  [Value.bool i, Value.map (Option.some mp), Value.map (Option.some mq), Value.map (Option.some mw), Value.map (Option.some mn), Value.slice Option.none (0 : Nat) (0 : Nat)] (97 : Go.TypeId)) :: (G ++ [(b_1, Blk.cells [Value.int IntKind.u16 (0 : Int), Value.bool Bool.false, Value.int IntKind.u32 (0 : Int), Value.int IntKind.u32 (0 : Int), Value.slice Option.none (0 : Nat) (0 : Nat)] (38 : Nat))]))) ∧ (¬(↑(0 : Nat) : Int) = (0 : Int) → False) from by
  simp only [eq_self, true_and, and_true, false_and, and_false, or_false, false_or, and_self, Nat.zero_add, Nat.add_zero, Nat.sub_zero, Nat.zero_mul, Nat.mul_one, Int.toNat_natCast, cond_true, cond_false, forall_const, implies_true, Nat.beq_refl, ne_eq, not_false_eq_true, not_true_eq_false, Classical.not_not, List.cons.injEq, List.append_nil, List.nil_append, Go.Value.int.injEq, Go.Value.bool.injEq, Go.Value.slice.injEq, Nat.le_refl, Nat.zero_le, Go.Sx.one_int, Go.Sx.one_bool, Go.Sx.one_slice, Go.Sx.one_ptr, Go.Sx.one_map, Int.cast_ofNat_Int, reduceCtorEq, Nat.reduceLeDiff, Nat.reduceMul, Nat.reduceAdd, Nat.reduceSub, Nat.reduceEqDiff, Int.reduceLE, Int.reduceLT, Int.reduceEq, Int.reduceAdd, Int.reduceSub, Int.reduceNeg, Int.reduceMul, Nat.reduceBEq]
  exact fun b1 => ⟨hR b1, id⟩)
theorem jt_goal (i : Bool) (b mp mq mw mn : Nat) (x : MW) (n : Nat) (G : Blks) (R : Value → Blks → Prop) (hx : x.o + x.cap ≤ x.N ∧ n ≤ x.cap)
    (h0 : n = 0 → ∀ b1 : Nat, R (.tuple #[.agg (Mg.zero.cells ⟨none, 0, 0⟩).toArray, .bool false]) ((b, .cells [.bool i, .map (some mp), .map (some mq), .map (some mw), .map (some mn), .slice (some ⟨x.b, (x.base + x.o) * 5, none⟩) n x.cap] 97) :: (x.b, x.blk) :: (G ++ [(b1, .cells (Mg.zero.cells ⟨none, 0, 0⟩) 38)])))
    (h1 : 0 < n → (∃ s : JS, x.c5.getD x.o .nilIface = .slice s.o s.l s.c) ∧ ∀ b1 b2 k1 k2, R (.tuple #[.agg #[.int .u16 (x.c1.getD x.o 0), .bool (x.c2.getD x.o false), .int .u32 (x.c3.getD x.o 0), .int .u32 (x.c4.getD x.o 0), x.c5.getD x.o .nilIface], .bool true])
      ((b, .cells [.bool i, .map (some mp), .map (some mq), .map (some mw), .map (some mn), .slice (some ⟨x.b, (x.base + if x.cap = 1 then x.o else x.o + 1) * 5, none⟩) (n - 1) (x.cap - 1)] 97) :: (x.b, x.blk) :: (G ++ [(b1, k1), (b2, k2)]))) : jtGoal i b mp mq mw mn x n G R :=
  Eq.mpr (by kernel_rfl) (show
  ∀ (b_1 : Nat), ((↑n : Int) = (0 : Int) → Value.oneCell' (Value.int IntKind.u16 (0 : Int)) = Bool.true ∧ Value.oneCell' (Value.int IntKind.u32 (0 : Int)) = Bool.true ∧ Value.oneCell' (Value.int IntKind.u32 (0 : Int)) = Bool.true ∧ Value.oneCell' (Value.slice Option.none (0 : Nat) (0 : Nat)) = Bool.true ∧ R (Value.tuple #[Value.agg #[Value.int IntKind.u16 (0 : Int), Value.bool Bool.false, Value.int IntKind.u32 (0 : Int), Value.int IntKind.u32 (0 : Int), Value.slice Option.none (0 : Nat) (0 : Nat)], Value.bool Bool.false]) ((b, Blk.cells
  [Value.bool i, Value.map (Option.some mp), Value.map (Option.some mq), Value.map (Option.some mw), Value.map (Option.some mn), Value.slice (Option.some { block := x.1, off := (x.2 + x.3) * (5 : Nat) }) n x.5] (97 : Go.TypeId)) :: (x.1, Blk.tab (38 : Go.TypeId) x.2 x.4 [Col.ints IntKind.u16 x.6, Col.bools x.7, Col.ints IntKind.u32 x.8, Col.ints IntKind.u32 x.9, Col.raws x.10]) :: (G ++ [(b_1, Blk.cells [Value.int IntKind.u16 (0 : Int), Value.bool Bool.false, Value.int IntKind.u32 (0 : Int), Value.int IntKind.u32 (0 : Int), Value.slice Option.none (0 : Nat) (0 : Nat)] (38 : Nat))]))) ∧
  (¬(↑n : Int) = (0 : Int) → ((0 : Int) ≤ (0 : Int) ∧ (0 : Int) < (↑n : Int)) ∧ x.3 < x.4 ∧ x.3 < x.4 ∧ x.3 < x.4 ∧ x.3 < x.4 ∧ x.3 < x.4 ∧ ∀ (b_2 : Nat), Value.oneCell' (Value.int IntKind.u16 (List.getD x.6 x.3 (0 : Int))) = Bool.true ∧ Value.oneCell' (Value.bool (List.getD x.7 x.3 Bool.false)) = Bool.true ∧ Value.oneCell' (Value.int IntKind.u32 (List.getD x.8 x.3 (0 : Int))) = Bool.true ∧ Value.oneCell' (Value.int IntKind.u32 (List.getD x.9 x.3 (0 : Int))) = Bool.true ∧ Value.oneCell' (List.getD x.10 x.3 Value.nilIface) = Bool.true ∧ ((0 : Int) ≤ (1 : Int) ∧ (1 : Int) ≤ (↑n : Int)) ∧
  Value.oneCell' (Value.int IntKind.u16 (List.getD x.6 x.3 (0 : Int))) = Bool.true ∧ Value.oneCell' (Value.bool (List.getD x.7 x.3 Bool.false)) = Bool.true ∧ Value.oneCell' (Value.int IntKind.u32 (List.getD x.8 x.3 (0 : Int))) = Bool.true ∧ Value.oneCell' (Value.int IntKind.u32 (List.getD x.9 x.3 (0 : Int))) = Bool.true ∧ Value.oneCell' (List.getD x.10 x.3 Value.nilIface) = Bool.true ∧ R (Value.tuple #[Value.agg #[Value.int IntKind.u16 (List.getD x.6 x.3 (0 : Int)), Value.bool (List.getD x.7 x.3 Bool.false),
  Value.int IntKind.u32 (List.getD x.8 x.3 (0 : Int)), Value.int IntKind.u32 (List.getD x.9 x.3 (0 : Int)), List.getD x.10 x.3 Value.nilIface], Value.bool Bool.true]) ((b, Blk.cells [Value.bool i, Value.map (Option.some mp), Value.map (Option.some mq), Value.map (Option.some mw), Value.map (Option.some mn), Value.slice (Option.some { block := x.1, off := (x.2 + if x.5 = (1 : Nat) then x.3 else x.3 + (1 : Nat)) * (5 : Nat) }) (n - Int.toNat (1 : Int)) (x.5 - (1 : Nat))] (97 : Go.TypeId)) :: (x.1, Blk.tab (38 : Go.TypeId) x.2 x.4
  [Col.ints IntKind.u16 x.6, Col.bools x.7, Col.ints IntKind.u32 x.8, Col.ints IntKind.u32 x.9, Col.raws x.10]) :: (G ++ [(b_1, Blk.cells [Value.int IntKind.u16 (List.getD x.6 x.3 (0 : Int)), Value.bool (List.getD x.7 x.3 Bool.false), Value.int IntKind.u32 (List.getD x.8 x.3 (0 : Int)), Value.int IntKind.u32 (List.getD x.9 x.3 (0 : Int)), List.getD x.10 x.3 Value.nilIface] (38 : Nat)), (b_2, Blk.cells [Value.int IntKind.u16 (List.getD x.6 x.3 (0 : Int)), Value.bool (List.getD x.7 x.3 Bool.false),
  Value.int IntKind.u32 (List.getD x.8 x.3 (0 : Int)), Value.int IntKind.u32 (List.getD x.9 x.3 (0 : Int)), List.getD x.10 x.3 Value.nilIface] (38 : Nat))]))) from by
  simp only [eq_self, true_and, and_true, false_and, and_false, or_false, false_or, and_self, Nat.zero_add, Nat.add_zero, Nat.sub_zero, Nat.zero_mul, Nat.mul_one, Int.toNat_natCast, cond_true, cond_false, forall_const, implies_true, Nat.beq_refl, ne_eq, not_false_eq_true, not_true_eq_false, Classical.not_not, List.cons.injEq, List.append_nil, List.nil_append, Go.Value.int.injEq, Go.Value.bool.injEq, Go.Value.slice.injEq, Nat.le_refl, Nat.zero_le, Go.Sx.one_int, Go.Sx.one_bool, Go.Sx.one_slice, Go.Sx.one_ptr, Go.Sx.one_map, Int.cast_ofNat_Int, reduceCtorEq, Nat.reduceLeDiff, Nat.reduceMul, Nat.reduceAdd, Nat.reduceSub, Nat.reduceEqDiff, Int.reduceLE, Int.reduceLT, Int.reduceEq, Int.reduceAdd, Int.reduceSub, Int.reduceNeg, Int.reduceMul, Nat.reduceBEq]
  intro b1
  refine ⟨fun e => h0 (by omega) b1, fun e => ?_⟩
  obtain ⟨⟨s, hs⟩, hR⟩ := h1 (by omega)
  have hone : (x.c5.getD x.o .nilIface).oneCell' = true := by rw [hs]; rfl
  have e1 : Int.toNat 1 = 1 := rfl
  refine ⟨by omega, by omega, by omega, by omega, by omega, by omega, fun b2 => ⟨hone, by omega, hone, hR b1 b2 _ _⟩⟩)
theorem entersTake : Enters Go.Proofs.Try.prog 20 := ⟨Go.Proofs.Try.f20, Go.Proofs.Try.func20, by kernel_rfl, by kernel_rfl⟩
structure JX where
  q : JQ
  b : Nat
  G : Blks
def JtPre (x : JX) (vs : List Value) (L : Blks) : Prop := vs = [.pointer (some ⟨x.b, 0, none⟩)] ∧ JAt x.q x.b x.G L
structure TkA where
  m : Mg
  s : JS
  ok : Bool
def JtPost (x : JX) (a : TkA) (L' : Blks) : Prop := ∃ N, (x.q.ready = [] ∧ a = ⟨Mg.zero, ⟨none, 0, 0⟩, false⟩ ∧ JAt x.q x.b (x.G ++ N) L') ∨
  (∃ r, x.q.ready = a.m :: r ∧ a.ok = true ∧ Bts x.G a.s.o a.s.l a.m.bs ∧ a.s.l ≤ a.s.c ∧ JAt { x.q with ready := r } x.b (x.G ++ N) L')
def TkA.val (a : TkA) : Value := .tuple #[.agg (a.m.cells a.s).toArray, .bool a.ok]
noncomputable def jtakeT : Trans := chunkR (X := JX) (A := TkA) (fun a => .tup [.agg (a.m.svs a.s), .val (.bool a.ok)]) JtPre JtPost
theorem mw_rest {x : MW} {G : Blks} {m : Mg} {r : List Mg} (h : x.ok G (m :: r)) : ({ x with o := if x.cap = 1 then x.o else x.o + 1, cap := x.cap - 1 } : MW).ok G r := by
  obtain ⟨h1, h2, h3, h4⟩ := h
  simp only [List.length_cons] at h2
  refine ⟨h1, by show r.length ≤ x.cap - 1; omega, by show (if x.cap = 1 then x.o else x.o + 1) + (x.cap - 1) ≤ x.N; split <;> omega, fun i m' hm => ?_⟩
  have hi : i < r.length := (List.getElem?_eq_some_iff.1 hm).1
  have := h4 (i + 1) m' (by simpa using hm)
  show MW.row _ G ((if x.cap = 1 then x.o else x.o + 1) + i) m'
  rw [if_neg (by omega), show x.o + 1 + i = x.o + (i + 1) by omega]
  exact this
theorem jtakeT_sound : SoundT Go.Proofs.Try.prog 20 jtakeT := chunkR_sound (val := TkA.val) entersTake (fun a ρ => rfl) (fun a => by simp) fun y vs L ⟨h1, h2⟩ => by
  subst h1
  obtain ⟨mp, mq, mw, mn, rv, fp, fq, fw, fn, Lr, Li, hL, hr, hp, hq, hw, hn⟩ := h2
  rcases hr with ⟨e1, e2, e3⟩ | ⟨x, hx, e2, e3⟩
  · subst e2 e3
    refine Triple.mono (triple_of_run (R := fun v L' => ∃ a, v = TkA.val a ∧ JtPost y a L') (h := [.own y.b (.cells 6 [.val (.bool y.q.inter), .val (.map (some mp)), .val (.map (some mq)), .val (.map (some mw)), .val (.map (some mn)), .val (.slice none 0 0)] 97), .chunk ((mp, .map kSh fp none) :: (mq, .map (.one (.int .u32)) fq none) :: (mw, .map kSh fw none) :: (mn, .map (.one (.int .u16)) fn none) :: (Li ++ y.G))])
      (args := [.ptr 0 0 0]) (run_with no_contracts _ _ _ _ _) (fun r => rfl) (fun r => by simp [owned, Ent.blocks, SBlk.den, denL, den]) (by simp) (jtn_goal y.q.inter y.b mp mq mw mn _ (fun v L' => ∃ a, v = TkA.val a ∧ JtPost y a L') fun b1 => ⟨⟨Mg.zero, ⟨none, 0, 0⟩, false⟩, rfl, [(b1, .cells (Mg.zero.cells ⟨none, 0, 0⟩) 38)], .inl ⟨e1, rfl, ?_⟩⟩)) hL fun v L' h => h
    refine ⟨mp, mq, mw, mn, _, fp, fq, fw, fn, [], Li, ?_, .inl ⟨e1, rfl, rfl⟩, PartsAt'.seen hp (seen_left _ _), PiecesAt.seen hq (seen_left _ _), WaitAt.seen hw (seen_left _ _), hn⟩
    simp
  · subst e2 e3
    have hlen := hx.2.1
    have key : ∀ (N : Blks) (LL : Blks), LL.Perm ((y.b, .cells [.bool y.q.inter, .map (some mp), .map (some mq), .map (some mw), .map (some mn), .slice (some ⟨x.b, (x.base + x.o) * 5, none⟩) y.q.ready.length x.cap] 97) :: (x.b, x.blk) :: ((mp, .map kSh fp none) :: (mq, .map (.one (.int .u32)) fq none) :: (mw, .map kSh fw none) :: (mn, .map (.one (.int .u16)) fn none) :: (Li ++ y.G)) ++ N) → JAt y.q y.b (y.G ++ N) LL := fun N LL hLL => by
      refine ⟨mp, mq, mw, mn, _, fp, fq, fw, fn, [(x.b, x.blk)], Li, ?_, .inr ⟨x, hx.seen (seen_left _ _), rfl, rfl⟩, PartsAt'.seen hp (seen_left _ _), PiecesAt.seen hq (seen_left _ _), WaitAt.seen hw (seen_left _ _), hn⟩
      refine hLL.trans (perm_of_sums fun f => ?_)
      simp only [List.map_append, List.map_cons, List.map_nil, List.sum_append, List.sum_cons, List.sum_nil, List.append_assoc, List.cons_append, List.nil_append] at *
      omega
    refine Triple.mono (triple_of_run (R := fun v L' => ∃ a, v = TkA.val a ∧ JtPost y a L') (h := [.own y.b (.cells 6 [.val (.bool y.q.inter), .val (.map (some mp)), .val (.map (some mq)), .val (.map (some mw)), .val (.map (some mn)), .slc 1 x.o y.q.ready.length x.cap] 97), .own x.b (.tab 38 x.base x.N [.ints .u16 x.c1, .bools x.c2, .ints .u32 x.c3, .ints .u32 x.c4, .raws x.c5]), .chunk ((mp, .map kSh fp none) :: (mq, .map (.one (.int .u32)) fq none) :: (mw, .map kSh fw none) :: (mn, .map (.one (.int .u16)) fn none) :: (Li ++ y.G))])
      (args := [.ptr 0 0 0]) (L := (y.b, .cells [.bool y.q.inter, .map (some mp), .map (some mq), .map (some mw), .map (some mn), .slice (some ⟨x.b, (x.base + x.o) * 5, none⟩) y.q.ready.length x.cap] 97) :: (x.b, x.blk) :: ((mp, .map kSh fp none) :: (mq, .map (.one (.int .u32)) fq none) :: (mw, .map kSh fw none) :: (mn, .map (.one (.int .u16)) fn none) :: (Li ++ y.G)))
      (run_with no_contracts _ _ _ _ _) (fun r => rfl) (fun r => by simp [owned, Ent.blocks, SBlk.den, denL, den, locs, Ent.loc, locAt, SBlk.base, SBlk.wd, MW.blk]) (by simp) (jt_goal y.q.inter y.b mp mq mw mn x _ _ (fun v L' => ∃ a, v = TkA.val a ∧ JtPost y a L') ⟨hx.2.2.1, hlen⟩ (fun h0 b1 => ⟨⟨Mg.zero, ⟨none, 0, 0⟩, false⟩, rfl, [(b1, .cells (Mg.zero.cells ⟨none, 0, 0⟩) 38)], .inl ⟨List.eq_nil_of_length_eq_zero h0, rfl, key _ _ (by simp)⟩⟩) fun h0 => ?_))
      (hL.trans (perm_of_sums fun f => by simp only [List.map_append, List.map_cons, List.map_nil, List.sum_append, List.sum_cons, List.sum_nil, List.append_assoc, List.cons_append, List.nil_append] at *; omega)) fun v L' h => h
    obtain ⟨m, r, er⟩ : ∃ m r, y.q.ready = m :: r := by
      cases hq : y.q.ready with
      | nil => rw [hq] at h0; simp at h0
      | cons m r => exact ⟨m, r, rfl⟩
    have hx' := hx
    rw [er] at hx'
    obtain ⟨k1, k2, k3, k4, s, k5, k6, k7⟩ := hx'.2.2.2 0 m rfl
    rw [Nat.add_zero] at k1 k2 k3 k4 k5
    refine ⟨⟨s, k5⟩, fun b1 b2 t1 t2 => ⟨⟨m, s, true⟩, ?_, [(b1, t1), (b2, t2)], .inr ⟨r, er, rfl, k6, k7, ?_⟩⟩⟩
    · rw [k1, k2, k3, k4, k5]
      rfl
    · refine ⟨mp, mq, mw, mn, _, fp, fq, fw, fn, [(x.b, x.blk)], Li, ?_, .inr ⟨_, (mw_rest hx').seen (seen_left _ _), rfl, rfl⟩, PartsAt'.seen hp (seen_left _ _), PiecesAt.seen hq (seen_left _ _), WaitAt.seen hw (seen_left _ _), hn⟩
      rw [er, List.length_cons, Nat.add_sub_cancel]
      refine perm_of_sums fun f => ?_
      simp only [List.map_append, List.map_cons, List.map_nil, List.sum_append, List.sum_cons, List.sum_nil, List.append_assoc, List.cons_append, List.nil_append] at *
      omega

/-! A copy of bytes. -/
structure JBv where
  s : JS
  bs : List Int
def JclPre (y : JBv) (vs : List Value) (L : Blks) : Prop := vs = [.slice y.s.o y.s.l y.s.c] ∧ Bts L y.s.o y.s.l y.bs ∧ 0 < y.s.l ∧ y.s.l < 1000000000
theorem jcl_goal (o : Option Addr) (l c : Nat) (L : Blks) (R : Value → Blks → Prop) (bs : List Int) (hb : Bts L o l bs) (hl : 0 < l ∧ l < 1000000000)
    (hR2 : ∀ b base cap xs, xs.length = cap → bs.length ≤ cap → xs.take bs.length = bs → R (.slice (some ⟨b, base, none⟩) bs.length cap) (L ++ [(b, .tab 5 base cap [.ints .u8 xs])])) : jclGoal o l c L R :=
  Eq.mpr (by kernel_rfl) (show
  (o = Option.none → R (Value.slice Option.none (0 : Nat) (0 : Nat)) (L ++ [])) ∧ (¬o = Option.none → ∀ (b : Nat), (l = (0 : Nat) → (0 : Nat) ≤ (0 : Nat) ∧ R (Value.slice (Option.some { block := b, off := (0 : Nat) * (1 : Nat) }) (0 : Nat) (0 : Nat)) (L ++ [(b, Blk.tab (5 : Nat) (0 : Nat) (0 : Nat) [Col.ints IntKind.u8 []])])) ∧ ((0 : Nat) < l → ∃ (b : Nat), ∃ (x0 : Nat), o = Option.some { block := b, off := x0 } ∧ ∃ (xs : List Int), rawTab L b x0 l [Col.ints IntKind.u8 xs] ∧ ((0 : Nat) ≤ (0 : Nat) ∧ (0 : Nat) ≤ (0 : Nat)) ∧ (0 : Nat) ≤ (0 : Nat) ∧
  ((0 : Nat) + l) * (1 : Nat) ≤ (140737488355328 : Nat) ∧ ∀ (b base cap' : Nat), (0 : Nat) + l ≤ cap' → ((0 : Nat) + l ≤ (0 : Nat) → cap' = (0 : Nat)) → ∀ (sp : List Int), List.length sp = cap' - ((0 : Nat) + l) → R (Value.slice (Option.some { block := b, off := base * (1 : Nat) }) ((0 : Nat) + l) cap') (L ++ [(b, Blk.tab (5 : Nat) base cap' [Col.ints IntKind.u8 (List.take (0 : Nat) [] ++ xs ++ sp)])]))) from by
  simp only [eq_self, true_and, and_true, false_and, and_false, or_false, false_or, and_self, Nat.zero_add, Nat.add_zero, Nat.sub_zero, Nat.zero_mul, Nat.mul_one, Int.toNat_natCast, cond_true, cond_false, forall_const, implies_true, Nat.beq_refl, ne_eq, not_false_eq_true, not_true_eq_false, Classical.not_not, List.cons.injEq, List.append_nil, List.nil_append, Go.Value.int.injEq, Go.Value.bool.injEq, Go.Value.slice.injEq, Nat.le_refl, Nat.zero_le, Go.Sx.one_int, Go.Sx.one_bool, Go.Sx.one_slice, Go.Sx.one_ptr, Go.Sx.one_map, Int.cast_ofNat_Int, reduceCtorEq, Nat.reduceLeDiff, Nat.reduceMul, Nat.reduceAdd, Nat.reduceSub, Nat.reduceEqDiff, Int.reduceLE, Int.reduceLT, Int.reduceEq, Int.reduceAdd, Int.reduceSub, Int.reduceNeg, Int.reduceMul, Nat.reduceBEq]
  have hl2 := hb.1
  obtain ⟨b0, x0, rfl, -⟩ := hb.2 hl.1
  refine ⟨fun h => (by cases h), fun h => fun b => ⟨fun h0 => absurd h0 (by omega), fun h0 => ?_⟩⟩
  refine ⟨b0, x0, rfl, bs, hb.raw h0, by omega, fun b1 base cap' hc hc2 sp hs => ?_⟩
  have := hR2 b1 base cap' (bs ++ sp) (by simp; omega) (by omega) (by simp)
  rw [hl2] at this
  simpa using this)
theorem entersClone : Enters Go.Proofs.Try.prog 44 := ⟨Go.Proofs.Try.f44, Go.Proofs.Try.func44, by kernel_rfl, by kernel_rfl⟩
noncomputable def jcl0T : Trans := newT 5 (.ints .u8) JclPre (fun y => False) fun y => y.bs
theorem jcl0T_sound : SoundT Go.Proofs.Try.prog 44 jcl0T :=
  newT_sound entersClone (fun y vs L L' h ⟨h1, h2, h3⟩ => ⟨h1, h2.seen h, h3⟩) fun y vs L ⟨h1, h2, h3⟩ => by
    subst h1
    refine triple_of_run (R := NewR 5 (.ints .u8) False y.bs L) (h := [.chunk L]) (args := [.sl y.s.o y.s.l y.s.c]) (run_with no_contracts _ _ _ _ _) (fun r => rfl) (fun r => by simp [owned, Ent.blocks]) (by simp)
      (jcl_goal y.s.o y.s.l y.s.c L (NewR 5 (.ints .u8) False y.bs L) y.bs h2 h3 fun b base cap xs r1 r2 r3 => .inr ⟨id, b, base, cap, xs, [], rfl, r1, r2, r3, ?_⟩)
    rw [List.append_nil]
    exact List.perm_append_comm (l₁ := L) (l₂ := [_])
noncomputable def jcloneT : Trans := new1T 5 (.ints .u8) JclPre fun y => y.bs
theorem jcloneT_sound : SoundT Go.Proofs.Try.prog 44 jcloneT := new1T_sound jcl0T_sound fun x vs L h => ⟨h, id⟩
end Go.Proofs.Ytpjikjhaljennaa
