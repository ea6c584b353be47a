/- Queues: New, All, Push. -/
import Derived.Test.YthkcfocoekonjaaScB
set_option maxRecDepth 100000
set_option linter.unusedVariables false
set_option linter.unusedSimpArgs false
namespace Go.Proofs.Ythkcfocoekonjaa
open Go Go.Sx
attribute [local irreducible] Go.Sx.xrun

noncomputable def nwGoal (inter : Bool) (R : Value → Blks → Prop) : Prop := xrun Go.Proofs.Try.prog [] [] [] 9 [] 15 [.val (.bool inter)] [] fun s h => R (den (locs h) s) (owned (locs h) h)
noncomputable def alGoal (b mi mn : Nat) (inter held : Bool) (tv : Value) (all : Int) (G : Blks) (R : Value → Blks → Prop) : Prop := xrun Go.Proofs.Try.prog [] [] [] 9 [] 18 [.ptr 0 0 0]
  [.own b (.cells 6 [.val (.bool inter), .val (.map (some mi)), .val tv, .val (.bool held), .val (.map (some mn)), .val (.int .i64 all)] 123), .chunk G] fun s h => R (den (locs h) s) (owned (locs h) h)
structure Msg where
  id : Int
  lk : Int
  ln : Int
  stream : Int
  loose : Bool
  mid : Int
  ppid : Int
noncomputable def peGoal (b mi mn : Nat) (inter held : Bool) (tv : Value) (all : Int) (m : Msg) (bo : Option Addr) (bl bc : Nat) (G : Blks) (R : Value → Blks → Prop) : Prop := xrun Go.Proofs.Try.prog [] [] [([], (19, true))] 9 [] 16
  [.ptr 0 0 0, .val (.int .i64 m.id), .agg [.val (.int .i64 m.lk), .val (.int .u32 m.ln)], .agg [.val (.int .u16 m.stream), .val (.bool m.loose), .val (.int .u32 m.mid), .val (.int .u32 m.ppid), .val (.slice bo bl bc)]]
  [.own b (.cells 6 [.val (.bool inter), .val (.map (some mi)), .val tv, .val (.bool held), .val (.map (some mn)), .val (.int .i64 all)] 123), .chunk G] fun s h => R (den (locs h) s) (owned (locs h) h)
noncomputable def poGoal (b mi mn : Nat) (inter held : Bool) (tv : Value) (fi : Value → Option Value) (all : Int) (m : Msg) (w : Win) (len : Nat) (x : LX) (n : Nat) (G : Blks) (R : Value → Blks → Prop) : Prop :=
  xrun Go.Proofs.Try.prog [] [(16, ⟨[(39, .to Sl fun s => .val (.slice s.o s.l s.c)), (65, .to Unit fun _ => .slc 4 x.o n x.cap)], []⟩)] [([], (9, false)), ([], (14, false)), ([], (19, false)), ([], (41, false))] 9 [] 16
    [.ptr 0 0 0, .val (.int .i64 m.id), .agg [.val (.int .i64 m.lk), .val (.int .u32 m.ln)], .agg [.val (.int .u16 m.stream), .val (.bool m.loose), .val (.int .u32 m.mid), .val (.int .u32 m.ppid), .slc 2 w.o len w.cap]]
    [.own b (.cells 6 [.val (.bool inter), .mp 1, .val tv, .val (.bool held), .val (.map (some mn)), .val (.int .i64 all)] 123), .own mi (.map (.one (.int .u16)) fi none), .own w.b (.tab 5 w.base w.N [.ints .u8 w.zs]), .chunk G,
     .own x.b (.tab 126 x.base x.N [.raws x.ps])] fun s h => R (den (locs h) s) (owned (locs h) h)
noncomputable def Ann.pn : FnAnn := ⟨[(39, .to Sl fun s => .val (.slice s.o s.l s.c)), (65, .to Unit fun _ => .val (.slice none 0 0))], []⟩
noncomputable def pnGoal (b mi mn : Nat) (inter held : Bool) (fi : Value → Option Value) (all : Int) (m : Msg) (w : Win) (len : Nat) (x : Win) (n : Nat) (G : Blks) (R : Value → Blks → Prop) : Prop :=
  xrun Go.Proofs.Try.prog [] [(16, Ann.pn)] [([], (9, false)), ([], (14, false)), ([], (19, false)), ([], (41, true))] 9 [] 16
    [.ptr 0 0 0, .val (.int .i64 m.id), .agg [.val (.int .i64 m.lk), .val (.int .u32 m.ln)], .agg [.val (.int .u16 m.stream), .val (.bool m.loose), .val (.int .u32 m.mid), .val (.int .u32 m.ppid), .slc 2 w.o len w.cap]]
    [.own b (.cells 6 [.val (.bool inter), .mp 1, .slc 4 x.o n x.cap, .val (.bool held), .val (.map (some mn)), .val (.int .i64 all)] 123), .own mi (.map (.one (.int .u16)) fi none), .own w.b (.tab 5 w.base w.N [.ints .u8 w.zs]), .chunk G,
     .own x.b (.tab 27 x.base x.N [.ints .u16 x.zs])] fun s h => R (den (locs h) s) (owned (locs h) h)
noncomputable def pzGoal (b mi mn : Nat) (inter held : Bool) (fi : Value → Option Value) (all : Int) (m : Msg) (w : Win) (len : Nat) (G : Blks) (R : Value → Blks → Prop) : Prop :=
  xrun Go.Proofs.Try.prog [] [(16, Ann.pn)] [([], (9, false)), ([], (14, false)), ([], (19, false)), ([], (41, true))] 9 [] 16
    [.ptr 0 0 0, .val (.int .i64 m.id), .agg [.val (.int .i64 m.lk), .val (.int .u32 m.ln)], .agg [.val (.int .u16 m.stream), .val (.bool m.loose), .val (.int .u32 m.mid), .val (.int .u32 m.ppid), .slc 2 w.o len w.cap]]
    [.own b (.cells 6 [.val (.bool inter), .mp 1, .val (.slice none 0 0), .val (.bool held), .val (.map (some mn)), .val (.int .i64 all)] 123), .own mi (.map (.one (.int .u16)) fi none), .own w.b (.tab 5 w.base w.N [.ints .u8 w.zs]), .chunk G] fun s h => R (den (locs h) s) (owned (locs h) h)

def Msg.item (m : Msg) (body : List Int) : QItem := ⟨m.id, m.lk, m.ln, m.stream, m.loose, m.mid, m.ppid, false, 0, body⟩
/-- What a push does. -/
def PushP (q : SQ) (m : Msg) (body : List Int) (code : Int) (q' : SQ) : Prop :=
  (body.length = 0 ∧ code = 42 ∧ q' = q) ∨ (65536 < body.length ∧ code = 43 ∧ q' = q) ∨ (0 < body.length ∧ body.length ≤ 65536 ∧ 262144 < q.all + body.length ∧ code = 170 ∧ q' = q) ∨
  (0 < body.length ∧ body.length ≤ 65536 ∧ q.all + body.length ≤ 262144 ∧ code = 0 ∧ ∃ ls, q' = { q with lines := ls, all := q.all + body.length } ∧
    ((∃ A B its, q.lines = A ++ (m.stream, its) :: B ∧ ls = A ++ (m.stream, its ++ [m.item body]) :: B) ∨ (m.stream ∉ q.lines.map Prod.fst ∧ ls = q.lines ++ [(m.stream, [m.item body])])))
theorem nw_goal (inter : Bool) (R : Value → Blks → Prop) (hR : ∀ b1 b2 b, R (.pointer (some ⟨b, 0, none⟩)) [(b1, .map (.one (.int .u16)) (fun _ => none) none), (b2, .map (.many [.int .u16, .bool]) (fun _ => none) none), (b, .cells [.bool inter, .map (some b1), .slice none 0 0, .bool false, .map (some b2), .int .i64 0] 123)]) : nwGoal inter R :=
  Eq.mpr (by kernel_rfl) (show
  ∀ (b b_1 b_2 : Nat), R (Value.pointer (Option.some { block := b_2, off := (0 : Nat) * (6 : Nat) })) [(b, Blk.map (KShape.one (KS.int IntKind.u16)) (fun (x : Go.Value) => Option.none) Option.none), (b_1, Blk.map (KShape.many [KS.int IntKind.u16, KS.bool]) (fun (x : Go.Value) => Option.none) Option.none), (b_2, Blk.cells [Value.bool inter, Value.map (Option.some b), Value.slice Option.none (0 : Nat) (0 : Nat), Value.bool Bool.false, Value.map (Option.some b_1), Value.int IntKind.i64 (0 : Int)] (123 : Nat))] from by
    simp only [eq_self, true_and, and_true, false_and, and_false, or_false, false_or, and_self, Nat.zero_add, Nat.add_zero, Nat.sub_zero, Nat.zero_mul, Nat.mul_one, Int.toNat_natCast, cond_true, cond_false, forall_const, implies_true, Nat.beq_refl, ne_eq, not_false_eq_true, not_true_eq_false, Classical.not_not, List.cons.injEq, List.append_nil, List.nil_append, Go.Value.int.injEq, Go.Value.bool.injEq, Go.Value.slice.injEq, Nat.le_refl, Nat.zero_le, Go.Sx.one_int, Go.Sx.one_bool, Go.Sx.one_slice, Go.Sx.one_ptr, Go.Sx.one_map, Int.cast_ofNat_Int, reduceCtorEq, Nat.reduceLeDiff, Nat.reduceMul, Nat.reduceAdd, Nat.reduceSub, Nat.reduceEqDiff, Int.reduceLE, Int.reduceLT, Int.reduceEq, Int.reduceAdd, Int.reduceSub, Int.reduceNeg, Int.reduceMul, Nat.reduceBEq]
    exact hR)
theorem al_goal (b mi mn : Nat) (inter held : Bool) (tv : Value) (all : Int) (G : Blks) (R : Value → Blks → Prop) (hR : R (.int .i64 all) ((b, .cells [.bool inter, .map (some mi), tv, .bool held, .map (some mn), .int .i64 all] 123) :: G)) : alGoal b mi mn inter held tv all G R :=
  Eq.mpr (by kernel_rfl) (show
  R (Value.int IntKind.i64 all) ((b, Blk.cells [Value.bool inter, Value.map (Option.some mi), tv, Value.bool held, Value.map (Option.some mn), Value.int IntKind.i64 all] (123 : Go.TypeId)) :: (G ++ [])) from by
    simp only [List.append_nil]
    exact hR)
theorem pe_goal (b mi mn : Nat) (inter held : Bool) (tv : Value) (all : Int) (m : Msg) (bo : Option Addr) (bl bc : Nat) (G : Blks) (R : Value → Blks → Prop) (h0 : 0 ≤ all ∧ all ≤ 1000000) (he : bl = 0 ∨ 65536 < bl ∨ 262144 < all + bl)
    (hR : ∀ (code : Int) (E : Blks), (bl = 0 ∧ code = 42) ∨ (65536 < bl ∧ code = 43) ∨ (0 < bl ∧ bl ≤ 65536 ∧ 262144 < all + bl ∧ code = 170) → R (.int .i64 code) ((b, .cells [.bool inter, .map (some mi), tv, .bool held, .map (some mn), .int .i64 all] 123) :: (G ++ E))) :
    peGoal b mi mn inter held tv all m bo bl bc G R :=
  Eq.mpr (by kernel_rfl) (show
  ∀ (b_1 b_2 : Nat), ((↑bl : Int) = (0 : Int) → R (Value.int IntKind.i64 (42 : Int)) ((b, Blk.cells [Value.bool inter, Value.map (Option.some mi), tv, Value.bool held, Value.map (Option.some mn), Value.int IntKind.i64 all] (123 : Go.TypeId)) :: (G ++ [(b_1, Blk.cells [Value.int IntKind.i64 m.2, Value.int IntKind.u32 m.3] (33 : Nat)), (b_2, Blk.cells [Value.int IntKind.u16 m.4, Value.bool m.5, Value.int IntKind.u32 m.6, Value.int IntKind.u32 m.7, Value.slice bo bl bc] (36 : Nat))]))) ∧ (¬(↑bl : Int) = (0 : Int) → ((65536 : Int) < (↑bl : Int) → R (Value.int IntKind.i64 (43 : Int))
  ((b, Blk.cells [Value.bool inter, Value.map (Option.some mi), tv, Value.bool held, Value.map (Option.some mn), Value.int IntKind.i64 all] (123 : Go.TypeId)) :: (G ++ [(b_1, Blk.cells [Value.int IntKind.i64 m.2, Value.int IntKind.u32 m.3] (33 : Nat)), (b_2, Blk.cells [Value.int IntKind.u16 m.4, Value.bool m.5, Value.int IntKind.u32 m.6, Value.int IntKind.u32 m.7, Value.slice bo bl bc] (36 : Nat))]))) ∧ (¬(65536 : Int) < (↑bl : Int) → (262144 : Int) < IntKind.wrap IntKind.i64 (all + (↑bl : Int)) ∧ R (Value.int IntKind.i64 (170 : Int))
  ((b, Blk.cells [Value.bool inter, Value.map (Option.some mi), tv, Value.bool held, Value.map (Option.some mn), Value.int IntKind.i64 all] (123 : Go.TypeId)) :: (G ++ [(b_1, Blk.cells [Value.int IntKind.i64 m.2, Value.int IntKind.u32 m.3] (33 : Nat)), (b_2, Blk.cells [Value.int IntKind.u16 m.4, Value.bool m.5, Value.int IntKind.u32 m.6, Value.int IntKind.u32 m.7, Value.slice bo bl bc] (36 : Nat))])))) from by
    refine fun b1 b2 => ⟨fun h => hR 42 _ (.inl ⟨by omega, rfl⟩), fun h => ⟨fun h2 => hR 43 _ (.inr (.inl ⟨by omega, rfl⟩)), fun h2 => ⟨?_, hR 170 _ (.inr (.inr ⟨by omega, by omega, by omega, rfl⟩))⟩⟩⟩
    rw [IntKind.wrap_i64]; omega)
/-- What a push leaves, of the queue and of the message's body. -/
def PuR (q : SQ) (b : Nat) (m : Msg) (body : List Int) (v : Value) (r : Value) (L : Blks) : Prop := ∃ code q' La Lb, r = .int .i64 code ∧ L.Perm (La ++ Lb) ∧ SQAt q' b La ∧ WinNil 5 .u8 body v Lb ∧ PushP q m body code q'
def SQ.small (q : SQ) : Prop := q.lines.length < 1000000 ∧ ∀ l ∈ q.lines, 0 < l.2.length ∧ l.2.length < 1000000
theorem winNil_sl {t : TypeId} {k : IntKind} {l : List Int} {v : Value} {L : Blks} (h : WinNil t k l v L) : ∃ s : Sl, v = .slice s.o s.l s.c ∧ s.l = l.length := by
  rcases h with ⟨rfl, h⟩ | ⟨x, h1, h2, h3⟩
  · exact ⟨⟨none, 0, 0⟩, h, rfl⟩
  · exact ⟨⟨_, _, _⟩, h2, rfl⟩
def Msg.args (b : Nat) (m : Msg) (v : Value) : List Value := [.pointer (some ⟨b, 0, none⟩), .int .i64 m.id, .agg #[.int .i64 m.lk, .int .u32 m.ln], .agg #[.int .u16 m.stream, .bool m.loose, .int .u32 m.mid, .int .u32 m.ppid, v]]
theorem push_err {q : SQ} {b : Nat} {m : Msg} {body : List Int} {v : Value} {Lq Lb : Blks} (hq : SQAt q b Lq) (hb : WinNil 5 .u8 body v Lb) (h0 : 0 ≤ q.all ∧ q.all ≤ 1000000) (he : body.length = 0 ∨ 65536 < body.length ∨ 262144 < q.all + body.length) :
    Triple Go.Proofs.Try.prog 16 (m.args b v) (Lq ++ Lb) (PuR q b m body v) := by
  obtain ⟨mi, mn, tv, fi, fn, Lt, Li, hp, h1, h2, h3⟩ := id hq
  obtain ⟨s, rfl, hs⟩ := winNil_sl hb
  have G : Blks := []
  refine Triple.mono (triple_of_run (R := PuR q b m body (.slice s.o s.l s.c)) (h := [.own b (.cells 6 [.val (.bool q.inter), .val (.map (some mi)), .val tv, .val (.bool q.held), .val (.map (some mn)), .val (.int .i64 q.all)] 123), .chunk ((mi, .map (.one (.int .u16)) fi none) :: (mn, .map (.many [.int .u16, .bool]) fn none) :: (Lt ++ Li) ++ Lb)])
    (args := [.ptr 0 0 0, .val (.int .i64 m.id), .agg [.val (.int .i64 m.lk), .val (.int .u32 m.ln)], .agg [.val (.int .u16 m.stream), .val (.bool m.loose), .val (.int .u32 m.mid), .val (.int .u32 m.ppid), .val (.slice s.o s.l s.c)]])
    (L := (b, .cells [.bool q.inter, .map (some mi), tv, .bool q.held, .map (some mn), .int .i64 q.all] 123) :: ((mi, .map (.one (.int .u16)) fi none) :: (mn, .map (.many [.int .u16, .bool]) fn none) :: (Lt ++ Li) ++ Lb))
    (run_with no_contracts _ _ _ _ _) (fun r => rfl) (fun r => by simp [owned, Ent.blocks, SBlk.den, denL, den]) (by simp) (pe_goal b mi mn q.inter q.held tv q.all m s.o s.l s.c _ _ h0 (by rw [hs]; exact he) fun code E hc => ?_)) ?_ (fun v L' h => h)
  · refine ⟨code, q, Lq ++ E, Lb, rfl, ?_, ?_, hb, ?_⟩
    · refine perm_of_sums fun f => ?_
      have e1 := perm_sum hp f
      simp only [List.map_append, List.map_cons, List.map_nil, List.sum_append, List.sum_cons, List.sum_nil, List.append_assoc, List.cons_append, List.nil_append] at *
      omega
    · refine ⟨mi, mn, tv, fi, fn, Lt, Li ++ E, ?_, h1, h2.more E, h3⟩
      refine perm_of_sums fun f => ?_
      have e1 := perm_sum hp f
      simp only [List.map_append, List.map_cons, List.map_nil, List.sum_append, List.sum_cons, List.sum_nil, List.append_assoc, List.cons_append, List.nil_append] at *
      omega
    · rw [hs] at hc
      rcases hc with ⟨a, c⟩ | ⟨a, c⟩ | ⟨a, c, d, e⟩
      · exact .inl ⟨a, c, rfl⟩
      · exact .inr (.inl ⟨a, c, rfl⟩)
      · exact .inr (.inr (.inl ⟨a, c, d, e, rfl⟩))
  · refine perm_of_sums fun f => ?_
    have e1 := perm_sum hp f
    simp only [List.map_append, List.map_cons, List.map_nil, List.sum_append, List.sum_cons, List.sum_nil, List.append_assoc, List.cons_append, List.nil_append] at *
    omega

/-- The blocks of a message that was copied. -/
def newBlks (m : Msg) (body : List Int) (b1 b2 b3 base cap b4 b5 : Nat) (zs : List Int) (len : Nat) : Blks :=
  [(b1, .cells [.int .i64 m.lk, .int .u32 m.ln] 33), (b2, .cells [.int .u16 m.stream, .bool m.loose, .int .u32 m.mid, .int .u32 m.ppid, .slice (some ⟨b3, base, none⟩) len cap] 36), (b3, .tab 5 base cap [.ints .u8 zs]),
   (b4, .cells ((m.item body).cells (.slice (some ⟨b3, base, none⟩) len cap)) 128), (b5, .cells [.pointer (some ⟨b4, 0, none⟩)] 126)]
theorem item_new {m : Msg} {body : List Int} {b3 base cap b4 : Nat} {zs : List Int} (h : ({ b := b3, base := base, o := 0, N := cap, cap := cap, zs := zs, G := [] } : Win).ok body) :
    ItemAt (m.item body) (.pointer (some ⟨b4, 0, none⟩)) [(b4, .cells ((m.item body).cells (.slice (some ⟨b3, base, none⟩) body.length cap)) 128), (b3, .tab 5 base cap [.ints .u8 zs])] :=
  ⟨b4, _, _, rfl, ⟨_, h, by simp [Win.val, Msg.item], List.Perm.refl _⟩, List.Perm.refl _⟩
theorem po_goal (b mi mn : Nat) (inter held : Bool) (tv : Value) (fi : Value → Option Value) (all : Int) (m : Msg) (w : Win) (len : Nat) (x : LX) (n : Nat) (G : Blks) (R : Value → Blks → Prop) (h0 : 0 ≤ all ∧ all ≤ 1000000)
    (he : 0 < len ∧ len ≤ 65536 ∧ all + len ≤ 262144) (hw : w.o + len ≤ w.N) (hf : fi (kS m.stream) = some (x.val n)) (hn : n ≤ x.cap ∧ x.o + x.cap ≤ x.N ∧ 0 < n ∧ n < 1000000)
    (hR : ∀ (b1 b2 b3 base cap' b4 b5 b6 base1 cap1 : Nat) (sp : List Int) (sp1 : List Value), len ≤ cap' → sp.length = cap' - len → n + 1 ≤ cap1 → sp1.length = cap1 - (n + 1) →
      R (.int .i64 0) ((b, .cells [.bool inter, .map (some mi), tv, .bool held, .map (some mn), .int .i64 (all + len)] 123) :: (mi, .map (.one (.int .u16)) (updM fi (kS m.stream) (.slice (some ⟨b6, base1, none⟩) (n + 1) cap1)) none) :: (w.b, .tab 5 w.base w.N [.ints .u8 w.zs]) ::
        (G ++ (newBlks m [] b1 b2 b3 base cap' b4 b5 (List.take len (List.drop w.o w.zs) ++ sp) len ++ [(b6, .tab 126 base1 cap1 [.raws (List.take n (List.drop x.o x.ps) ++ [.pointer (some ⟨b4, 0, none⟩)] ++ sp1)])])))) :
    poGoal b mi mn inter held tv fi all m w len x n G R :=
  Eq.mpr (by kernel_rfl) (show
  ∀ (b_1 b_2 : Nat), ¬(↑len : Int) = (0 : Int) ∧ ¬(65536 : Int) < (↑len : Int) ∧ ¬(262144 : Int) < IntKind.wrap IntKind.i64 (all + (↑len : Int)) ∧ ∀ (b_3 : Nat), w.3 + len ≤ w.4 ∧ ((0 : Nat) ≤ (0 : Nat) ∧ (0 : Nat) ≤ (0 : Nat)) ∧ (0 : Nat) ≤ (0 : Nat) ∧ ((0 : Nat) + len) * (1 : Nat) ≤ (140737488355328 : Nat) ∧ ∀ (b_4 base cap' : Nat), (0 : Nat) + len ≤ cap' → ((0 : Nat) + len ≤ (0 : Nat) → cap' = (0 : Nat)) → ∀ (sp : List Int), List.length sp = cap' - ((0 : Nat) + len) → ∃ (x_1 : Sl),
  (∀ (r : List (Nat × Nat × Nat)), Value.slice x_1.1 x_1.2 x_1.3 = Option.getD (fi (Value.int IntKind.u16 m.4)) (Value.slice Option.none (0 : Nat) (0 : Nat))) ∧ ¬(↑x_1.2 : Int) = (0 : Int) ∧ ∃ (x_2 : Unit), (∀ (r : List (Nat × Nat × Nat)), Value.slice (Option.some { block := x.1, off := (x.2 + x.3) * (1 : Nat) }) n x.5 = Option.getD (fi (Value.int IntKind.u16 m.4)) (Value.slice Option.none (0 : Nat) (0 : Nat))) ∧ ∀ (b_5 : Nat), SV.val (Option.getD (fi (Value.int IntKind.u16 m.4)) (Value.slice Option.none (0 : Nat) (0 : Nat))) =
  SV.val (Option.getD (fi (Value.int IntKind.u16 m.4)) (Value.slice Option.none (0 : Nat) (0 : Nat))) ∧ SV.val (Value.int IntKind.u16 m.4) = SV.val (Value.int IntKind.u16 m.4) ∧ SV.mp (1 : Nat) = SV.mp (1 : Nat) ∧ SV.val (Value.int IntKind.u16 m.4) = SV.val (Value.int IntKind.u16 m.4) ∧ SV.mp (1 : Nat) = SV.mp (1 : Nat) ∧ ∀ (b_6 : Nat), SV.val (Option.getD (fi (Value.int IntKind.u16 m.4)) (Value.slice Option.none (0 : Nat) (0 : Nat))) = SV.val (Option.getD (fi (Value.int IntKind.u16 m.4)) (Value.slice Option.none (0 : Nat) (0 : Nat))) ∧
  SV.val (Value.int IntKind.u16 m.4) = SV.val (Value.int IntKind.u16 m.4) ∧ SV.mp (1 : Nat) = SV.mp (1 : Nat) ∧ SV.val (Value.int IntKind.u16 m.4) = SV.val (Value.int IntKind.u16 m.4) ∧ SV.mp (1 : Nat) = SV.mp (1 : Nat) ∧ (n ≤ x.5 ∧ x.3 + x.5 ≤ x.4) ∧ x.3 + n ≤ x.4 ∧ (n + (1 : Nat)) * (8 : Nat) ≤ (140737488355328 : Nat) ∧ ∀ (b_7 base_1 cap'_1 : Nat), n + (1 : Nat) ≤ cap'_1 → (n + (1 : Nat) ≤ x.5 → cap'_1 = x.5) → ∀ (sp_1 : List Go.Value), List.length sp_1 = cap'_1 - (n + (1 : Nat)) → SV.val (Value.int IntKind.u16 m.4) = SV.val (Value.int IntKind.u16 m.4) ∧ SV.mp (1 : Nat) = SV.mp (1 : Nat) ∧
  Value.oneCell' (Value.int IntKind.i64 (IntKind.wrap IntKind.i64 (all + (↑((0 : Nat) + len) : Int)))) = Bool.true ∧ R (Value.int IntKind.i64 (0 : Int)) ((b, Blk.cells [Value.bool inter, Value.map (Option.some mi), tv, Value.bool held, Value.map (Option.some mn), Value.int IntKind.i64 (IntKind.wrap IntKind.i64 (all + (↑((0 : Nat) + len) : Int)))] (123 : Go.TypeId)) :: (mi, Blk.map (KShape.one (KS.int IntKind.u16)) (updM fi (Value.int IntKind.u16 m.4) (Value.slice (Option.some { block := b_7, off := base_1 * (1 : Nat) }) (n + (1 : Nat)) cap'_1)) Option.none) ::
  (w.1, Blk.tab (5 : Go.TypeId) w.2 w.4 [Col.ints IntKind.u8 w.6]) :: (G ++ [(b_1, Blk.cells [Value.int IntKind.i64 m.2, Value.int IntKind.u32 m.3] (33 : Nat)), (b_2, Blk.cells [Value.int IntKind.u16 m.4, Value.bool m.5, Value.int IntKind.u32 m.6, Value.int IntKind.u32 m.7, Value.slice (Option.some { block := b_4, off := base * (1 : Nat) }) ((0 : Nat) + len) cap'] (36 : Nat)), (b_4, Blk.tab (5 : Nat) base cap' [Col.ints IntKind.u8 (List.take (0 : Nat) [] ++ List.take len (List.drop w.3 w.6) ++ sp)]), (b_5, Blk.cells
  [Value.int IntKind.i64 m.1, Value.int IntKind.i64 m.2, Value.int IntKind.u32 m.3, Value.int IntKind.u16 m.4, Value.bool m.5, Value.int IntKind.u32 m.6, Value.int IntKind.u32 m.7, Value.slice (Option.some { block := b_4, off := base * (1 : Nat) }) ((0 : Nat) + len) cap', Value.bool Bool.false, Value.int IntKind.u32 (0 : Int)] (128 : Nat)), (b_6, Blk.cells [Value.pointer (Option.some { block := b_5, off := (0 : Nat) * (10 : Nat) })] (126 : Nat)), (b_7, Blk.tab (126 : Nat) base_1 cap'_1 [Col.raws (List.take n (List.drop x.3 x.6) ++
  [Value.pointer (Option.some { block := b_5, off := (0 : Nat) * (10 : Nat) })] ++ sp_1)])])) from by
    have hw1 : IntKind.wrap .i64 (all + (len : Int)) = all + len := by rw [IntKind.wrap_i64]; omega
    have hf' : fi (Value.int .u16 m.stream) = some (Value.slice (some ⟨x.b, x.base + x.o, none⟩) n x.cap) := by rw [show Value.int .u16 m.stream = kS m.stream from rfl, hf]; simp [LX.val]
    simp only [eq_self, true_and, and_true, false_and, and_false, or_false, false_or, and_self, Nat.zero_add, Nat.add_zero, Nat.sub_zero, Nat.zero_mul, Nat.mul_one, Int.toNat_natCast, cond_true, cond_false, forall_const, implies_true, Nat.beq_refl, ne_eq, not_false_eq_true, not_true_eq_false, Classical.not_not, List.cons.injEq, List.append_nil, List.nil_append, Go.Value.int.injEq, Go.Value.bool.injEq, Go.Value.slice.injEq, Nat.le_refl, Nat.zero_le, Go.Sx.one_int, Go.Sx.one_bool, Go.Sx.one_slice, Go.Sx.one_ptr, Go.Sx.one_map, Int.cast_ofNat_Int, reduceCtorEq, Nat.reduceLeDiff, Nat.reduceMul, Nat.reduceAdd, Nat.reduceSub, Nat.reduceEqDiff, Int.reduceLE, Int.reduceLT, Int.reduceEq, Int.reduceAdd, Int.reduceSub, Int.reduceNeg, Int.reduceMul, Nat.reduceBEq, hw1, hf', Option.getD_some]
    refine fun b1 b2 => ⟨by omega, by omega, by omega, hw, by omega, fun b3 base cap' c1 c2 sp c3 => ⟨⟨_, _, _⟩, ⟨rfl, rfl, rfl⟩, by show ¬ (n : Int) = 0; omega, (), fun b4 b5 => ⟨⟨by omega, by omega⟩, by omega, by omega, fun b6 base1 cap1 d1 d2 sp1 d3 => ?_⟩⟩⟩
    exact hR b1 b2 b3 base cap' b4 b5 b6 base1 cap1 sp sp1 c1 c3 d1 d3)
theorem push_old {A B : List (Int × List QItem)} {its : List QItem} {q : SQ} {b : Nat} {m : Msg} {body : List Int} {w : Win} {Lq Lb : Blks} (hl : q.lines = A ++ (m.stream, its) :: B) (hq : SQAt q b Lq) (hw : w.ok body) (hwp : Lb.Perm ((w.b, .tab 5 w.base w.N [.ints .u8 w.zs]) :: w.G)) (h0 : 0 ≤ q.all ∧ q.all ≤ 1000000) (hsm : q.small)
    (he : 0 < body.length ∧ body.length ≤ 65536 ∧ q.all + body.length ≤ 262144) : Triple Go.Proofs.Try.prog 16 (m.args b (w.val body.length)) (Lq ++ Lb) (PuR q b m body (w.val body.length)) := by
  obtain ⟨mi, mn, tv, fi, fn, Lt, Li, hp, h1, h2, h3⟩ := hq
  rw [hl] at h2
  obtain ⟨v, L1, L2, k1, k2, ⟨x, x1, rfl, x3⟩, k4, k5⟩ := lines_out h2
  have hn := hsm.2 (m.stream, its) (by rw [hl]; simp)
  simp only at hn
  obtain ⟨w1, w2, w3, w4⟩ := id hw
  refine Triple.mono (triple_of_run (R := PuR q b m body (w.val body.length)) (h := [.own b (.cells 6 [.val (.bool q.inter), .mp 1, .val tv, .val (.bool q.held), .val (.map (some mn)), .val (.int .i64 q.all)] 123), .own mi (.map (.one (.int .u16)) fi none), .own w.b (.tab 5 w.base w.N [.ints .u8 w.zs]),
      .chunk ((mn, .map (.many [.int .u16, .bool]) fn none) :: (Lt ++ (L2 ++ (x.G ++ w.G)))), .own x.b (.tab 126 x.base x.N [.raws x.ps])])
    (args := [.ptr 0 0 0, .val (.int .i64 m.id), .agg [.val (.int .i64 m.lk), .val (.int .u32 m.ln)], .agg [.val (.int .u16 m.stream), .val (.bool m.loose), .val (.int .u32 m.mid), .val (.int .u32 m.ppid), .slc 2 w.o body.length w.cap]])
    (L := (b, .cells [.bool q.inter, .map (some mi), tv, .bool q.held, .map (some mn), .int .i64 q.all] 123) :: (mi, .map (.one (.int .u16)) fi none) :: (w.b, .tab 5 w.base w.N [.ints .u8 w.zs]) :: (((mn, .map (.many [.int .u16, .bool]) fn none) :: (Lt ++ (L2 ++ (x.G ++ w.G)))) ++ [(x.b, .tab 126 x.base x.N [.raws x.ps])]))
    (run_with no_contracts _ _ _ _ _) (fun r => by simp [denL, den, locAt, locs, Ent.loc, SBlk.base, SBlk.wd, Msg.args, Win.val]) (fun r => by simp [owned, Ent.blocks, SBlk.den, denL, den, locAt, locs, Ent.loc, SBlk.base, SBlk.wd]) (by simp)
    (po_goal b mi mn q.inter q.held tv fi q.all m w body.length x its.length _ _ h0 he (by omega) k1 ⟨x1.1, x1.2.1, hn.1, hn.2⟩ fun b1 b2 b3 base cap' b4 b5 b6 base1 cap1 sp sp1 c1 c2 d1 d2 => ?_)) ?_ (fun v L' h => h)
  · have hit := item_new (m := m) (b4 := b4) (win_copy (b := b3) (base := base) hw c1 c2)
    have hx' := lx_app x1 hit (b := b6) (base := base1) d1 d2
    refine ⟨0, { q with lines := A ++ (m.stream, its ++ [m.item body]) :: B, all := q.all + body.length }, _, Lb, rfl, ?_, ⟨mi, mn, tv, _, fn, Lt, _, List.Perm.refl _, ?_, LinesAt.more (LinesAt.perm (lines_back (v := .slice (some ⟨b6, base1, none⟩) (its.length + 1) cap1) k5 k4 ⟨_, hx', ?_, List.Perm.refl _⟩) ?_) [(b1, .cells [.int .i64 m.lk, .int .u32 m.ln] 33), (b2, .cells [.int .u16 m.stream, .bool m.loose, .int .u32 m.mid, .int .u32 m.ppid, .slice (some ⟨b3, base, none⟩) body.length cap'] 36), (b5, .cells [.pointer (some ⟨b4, 0, none⟩)] 126)], h3⟩, .inr ⟨w, hw, rfl, hwp⟩, .inr (.inr (.inr ⟨he.1, he.2.1, he.2.2, rfl, _, rfl, .inl ⟨A, B, its, hl, rfl⟩⟩))⟩
    rotate_left
    · simpa [hl] using h1
    · simp [LX.val]
    · refine (List.perm_append_comm (l₁ := A ++ B) (l₂ := [_])).trans ?_
      exact (List.perm_middle (l₁ := A)).symm
    · refine perm_of_sums fun f => ?_
      have e1 := perm_sum hwp f
      simp only [newBlks, Msg.item, QItem.cells] at *
      simp only [List.map_append, List.map_cons, List.map_nil, List.sum_append, List.sum_cons, List.sum_nil, List.append_assoc, List.cons_append, List.nil_append] at *
      omega
  · refine perm_of_sums fun f => ?_
    have e1 := perm_sum hp f
    have e2 := perm_sum k2 f
    have e3 := perm_sum x3 f
    have e4 := perm_sum hwp f
    simp only [List.map_append, List.map_cons, List.map_nil, List.sum_append, List.sum_cons, List.sum_nil, List.append_assoc, List.cons_append, List.nil_append] at *
    omega
/-- What a stream that is new brings. -/
noncomputable def freshBlks (m : Msg) (b1 b2 b3 base cap b4 b5 : Nat) (zs : List Int) (len : Nat) (bt baset capt : Nat) (ts : List Int) (be b6 cap6 : Nat) (sp : List Value) : Blks :=
  [(b1, .cells [.int .i64 m.lk, .int .u32 m.ln] 33), (b2, .cells [.int .u16 m.stream, .bool m.loose, .int .u32 m.mid, .int .u32 m.ppid, .slice (some ⟨b3, base, none⟩) len cap] 36), (b3, .tab 5 base cap [.ints .u8 zs]),
   (be, .cells [.int .u16 m.stream] 27), (bt, .tab 27 baset capt [.ints .u16 ts]), (b4, .cells ((m.item []).cells (.slice (some ⟨b3, base, none⟩) len cap)) 128), (b5, .cells [.pointer (some ⟨b4, 0, none⟩)] 126), (b6, .tab 126 0 cap6 [.raws (.pointer (some ⟨b4, 0, none⟩) :: sp)])]
noncomputable def freshL (b mi mn : Nat) (inter held : Bool) (fi : Value → Option Value) (all : Int) (m : Msg) (w : Win) (len : Nat) (G E : Blks) (tv : Value) (b6 cap6 : Nat) : Blks :=
  (b, .cells [.bool inter, .map (some mi), tv, .bool held, .map (some mn), .int .i64 (all + len)] 123) :: (mi, .map (.one (.int .u16)) (updM fi (kS m.stream) (.slice (some ⟨b6, 0, none⟩) 1 cap6)) none) :: (w.b, .tab 5 w.base w.N [.ints .u8 w.zs]) :: (G ++ E)
theorem pn_goal (b mi mn : Nat) (inter held : Bool) (fi : Value → Option Value) (all : Int) (m : Msg) (w : Win) (len : Nat) (x : Win) (n : Nat) (G : Blks) (R : Value → Blks → Prop) (h0 : 0 ≤ all ∧ all ≤ 1000000)
    (he : 0 < len ∧ len ≤ 65536 ∧ all + len ≤ 262144) (hw : w.o + len ≤ w.N) (hf : fi (kS m.stream) = none) (hn : n ≤ x.cap ∧ x.o + x.cap ≤ x.N ∧ n < 1000000)
    (hR : ∀ (b1 b2 b3 base cap' b4 b5 be bt baset capt b6 cap6 : Nat) (sp sp1 : List Int) (sp2 : List Value), len ≤ cap' → sp.length = cap' - len → n + 1 ≤ capt → sp1.length = capt - (n + 1) → 1 ≤ cap6 → sp2.length = cap6 - 1 →
      R (.int .i64 0) (freshL b mi mn inter held fi all m w len G (freshBlks m b1 b2 b3 base cap' b4 b5 (List.take len (List.drop w.o w.zs) ++ sp) len bt baset capt (List.take n (List.drop x.o x.zs) ++ [m.stream] ++ sp1) be b6 cap6 sp2) (.slice (some ⟨bt, baset, none⟩) (n + 1) capt) b6 cap6)) :
    pnGoal b mi mn inter held fi all m w len x n G R :=
  Eq.mpr (by kernel_rfl) (show
  ∀ (b_1 b_2 : Nat), ¬(↑len : Int) = (0 : Int) ∧ ¬(65536 : Int) < (↑len : Int) ∧ ¬(262144 : Int) < IntKind.wrap IntKind.i64 (all + (↑len : Int)) ∧ ∀ (b_3 : Nat), w.3 + len ≤ w.4 ∧ ((0 : Nat) ≤ (0 : Nat) ∧ (0 : Nat) ≤ (0 : Nat)) ∧ (0 : Nat) ≤ (0 : Nat) ∧ ((0 : Nat) + len) * (1 : Nat) ≤ (140737488355328 : Nat) ∧ ∀ (b_4 base cap' : Nat), (0 : Nat) + len ≤ cap' → ((0 : Nat) + len ≤ (0 : Nat) → cap' = (0 : Nat)) → ∀ (sp : List Int), List.length sp = cap' - ((0 : Nat) + len) → ∃ (x_1 : Sl),
  (∀ (r : List (Nat × Nat × Nat)), Value.slice x_1.1 x_1.2 x_1.3 = Option.getD (fi (Value.int IntKind.u16 m.4)) (Value.slice Option.none (0 : Nat) (0 : Nat))) ∧ (↑x_1.2 : Int) = (0 : Int) ∧ ∀ (b_5 : Nat), SV.slc (4 : Nat) x.3 n x.5 = SV.slc (4 : Nat) x.3 n x.5 ∧ Value.oneCell' (Value.int IntKind.u16 m.4) = Bool.true ∧ (n ≤ x.5 ∧ x.3 + x.5 ≤ x.4) ∧ x.3 + n ≤ x.4 ∧ (n + (1 : Nat)) * (2 : Nat) ≤ (140737488355328 : Nat) ∧ ∀ (b_6 base_1 cap'_1 : Nat), n + (1 : Nat) ≤ cap'_1 → (n + (1 : Nat) ≤ x.5 → cap'_1 = x.5) → ∀ (sp_1 : List Int), List.length sp_1 = cap'_1 - (n + (1 : Nat)) → ∃ (x_2 : Unit),
  (∀ (r : List (Nat × Nat × Nat)), Value.slice Option.none (0 : Nat) (0 : Nat) = Option.getD (fi (Value.int IntKind.u16 m.4)) (Value.slice Option.none (0 : Nat) (0 : Nat))) ∧ ∀ (b_7 : Nat), SV.val (Option.getD (fi (Value.int IntKind.u16 m.4)) (Value.slice Option.none (0 : Nat) (0 : Nat))) = SV.val (Option.getD (fi (Value.int IntKind.u16 m.4)) (Value.slice Option.none (0 : Nat) (0 : Nat))) ∧ SV.val (Value.int IntKind.u16 m.4) = SV.val (Value.int IntKind.u16 m.4) ∧ SV.mp (1 : Nat) = SV.mp (1 : Nat) ∧ SV.val (Value.int IntKind.u16 m.4) = SV.val (Value.int IntKind.u16 m.4) ∧
  SV.mp (1 : Nat) = SV.mp (1 : Nat) ∧ ∀ (b_8 : Nat), SV.val (Option.getD (fi (Value.int IntKind.u16 m.4)) (Value.slice Option.none (0 : Nat) (0 : Nat))) = SV.val (Option.getD (fi (Value.int IntKind.u16 m.4)) (Value.slice Option.none (0 : Nat) (0 : Nat))) ∧ SV.val (Value.int IntKind.u16 m.4) = SV.val (Value.int IntKind.u16 m.4) ∧ SV.mp (1 : Nat) = SV.mp (1 : Nat) ∧ SV.val (Value.int IntKind.u16 m.4) = SV.val (Value.int IntKind.u16 m.4) ∧ SV.mp (1 : Nat) = SV.mp (1 : Nat) ∧ (8 : Nat) ≤ (140737488355328 : Nat) ∧ ∀ (b_9 cap'_2 : Nat), (1 : Nat) ≤ cap'_2 → ∀ (sp_2 : List Go.Value),
  List.length sp_2 = cap'_2 - (1 : Nat) → SV.val (Value.int IntKind.u16 m.4) = SV.val (Value.int IntKind.u16 m.4) ∧ SV.mp (1 : Nat) = SV.mp (1 : Nat) ∧ Value.oneCell' (Value.int IntKind.i64 (IntKind.wrap IntKind.i64 (all + (↑((0 : Nat) + len) : Int)))) = Bool.true ∧ R (Value.int IntKind.i64 (0 : Int)) ((b, Blk.cells [Value.bool inter, Value.map (Option.some mi), Value.slice (Option.some { block := b_6, off := base_1 * (1 : Nat) }) (n + (1 : Nat)) cap'_1, Value.bool held, Value.map (Option.some mn), Value.int IntKind.i64 (IntKind.wrap IntKind.i64 (all + (↑((0 : Nat) + len) : Int)))]
  (123 : Go.TypeId)) :: (mi, Blk.map (KShape.one (KS.int IntKind.u16)) (updM fi (Value.int IntKind.u16 m.4) (Value.slice (Option.some { block := b_9, off := (0 : Nat) * (1 : Nat) }) (1 : Nat) cap'_2)) Option.none) :: (w.1, Blk.tab (5 : Go.TypeId) w.2 w.4 [Col.ints IntKind.u8 w.6]) :: (G ++ [(b_1, Blk.cells [Value.int IntKind.i64 m.2, Value.int IntKind.u32 m.3] (33 : Nat)), (b_2, Blk.cells [Value.int IntKind.u16 m.4, Value.bool m.5, Value.int IntKind.u32 m.6, Value.int IntKind.u32 m.7, Value.slice (Option.some { block := b_4, off := base * (1 : Nat) }) ((0 : Nat) + len) cap'] (36 : Nat)), (b_4,
  Blk.tab (5 : Nat) base cap' [Col.ints IntKind.u8 (List.take (0 : Nat) [] ++ List.take len (List.drop w.3 w.6) ++ sp)]), (b_5, Blk.cells [Value.int IntKind.u16 m.4] (27 : Nat)), (b_6, Blk.tab (27 : Nat) base_1 cap'_1 [Col.ints IntKind.u16 (List.take n (List.drop x.3 x.6) ++ [m.4] ++ sp_1)]), (b_7, Blk.cells [Value.int IntKind.i64 m.1, Value.int IntKind.i64 m.2, Value.int IntKind.u32 m.3, Value.int IntKind.u16 m.4, Value.bool m.5, Value.int IntKind.u32 m.6, Value.int IntKind.u32 m.7, Value.slice (Option.some { block := b_4, off := base * (1 : Nat) }) ((0 : Nat) + len) cap',
  Value.bool Bool.false, Value.int IntKind.u32 (0 : Int)] (128 : Nat)), (b_8, Blk.cells [Value.pointer (Option.some { block := b_7, off := (0 : Nat) * (10 : Nat) })] (126 : Nat)), (b_9, Blk.tab (126 : Nat) (0 : Nat) cap'_2 [Col.raws (Value.pointer (Option.some { block := b_7, off := (0 : Nat) * (10 : Nat) }) :: sp_2)])])) from by
    have hw1 : IntKind.wrap .i64 (all + (len : Int)) = all + len := by rw [IntKind.wrap_i64]; omega
    have hf' : fi (Value.int .u16 m.stream) = none := hf
    simp only [eq_self, true_and, and_true, false_and, and_false, or_false, false_or, and_self, Nat.zero_add, Nat.add_zero, Nat.sub_zero, Nat.zero_mul, Nat.mul_one, Int.toNat_natCast, cond_true, cond_false, forall_const, implies_true, Nat.beq_refl, ne_eq, not_false_eq_true, not_true_eq_false, Classical.not_not, List.cons.injEq, List.append_nil, List.nil_append, Go.Value.int.injEq, Go.Value.bool.injEq, Go.Value.slice.injEq, Nat.le_refl, Nat.zero_le, Go.Sx.one_int, Go.Sx.one_bool, Go.Sx.one_slice, Go.Sx.one_ptr, Go.Sx.one_map, Int.cast_ofNat_Int, reduceCtorEq, Nat.reduceLeDiff, Nat.reduceMul, Nat.reduceAdd, Nat.reduceSub, Nat.reduceEqDiff, Int.reduceLE, Int.reduceLT, Int.reduceEq, Int.reduceAdd, Int.reduceSub, Int.reduceNeg, Int.reduceMul, Nat.reduceBEq, hw1, hf', Option.getD_none]
    refine fun b1 b2 => ⟨by omega, by omega, by omega, hw, by omega, fun b3 base cap' c1 c2 sp c3 => ⟨⟨none, 0, 0⟩, ⟨rfl, rfl, rfl⟩, rfl, fun be => ⟨⟨by omega, by omega⟩, by omega, by omega, fun bt baset capt d1 d2 sp1 d3 => ⟨(), fun b4 b5 b6 cap6 g1 sp2 g2 => ?_⟩⟩⟩⟩
    exact hR b1 b2 b3 base cap' b4 b5 be bt baset capt b6 cap6 sp sp1 sp2 c1 c3 d1 d3 g1 g2)
theorem pz_goal (b mi mn : Nat) (inter held : Bool) (fi : Value → Option Value) (all : Int) (m : Msg) (w : Win) (len : Nat) (G : Blks) (R : Value → Blks → Prop) (h0 : 0 ≤ all ∧ all ≤ 1000000)
    (he : 0 < len ∧ len ≤ 65536 ∧ all + len ≤ 262144) (hw : w.o + len ≤ w.N) (hf : fi (kS m.stream) = none)
    (hR : ∀ (b1 b2 b3 base cap' b4 b5 be bt capt b6 cap6 : Nat) (sp sp1 : List Int) (sp2 : List Value), len ≤ cap' → sp.length = cap' - len → 1 ≤ capt → sp1.length = capt - 1 → 1 ≤ cap6 → sp2.length = cap6 - 1 →
      R (.int .i64 0) (freshL b mi mn inter held fi all m w len G (freshBlks m b1 b2 b3 base cap' b4 b5 (List.take len (List.drop w.o w.zs) ++ sp) len bt 0 capt (m.stream :: sp1) be b6 cap6 sp2) (.slice (some ⟨bt, 0, none⟩) 1 capt) b6 cap6)) :
    pzGoal b mi mn inter held fi all m w len G R :=
  Eq.mpr (by kernel_rfl) (show
  ∀ (b_1 b_2 : Nat), ¬(↑len : Int) = (0 : Int) ∧ ¬(65536 : Int) < (↑len : Int) ∧ ¬(262144 : Int) < IntKind.wrap IntKind.i64 (all + (↑len : Int)) ∧ ∀ (b_3 : Nat), w.3 + len ≤ w.4 ∧ ((0 : Nat) ≤ (0 : Nat) ∧ (0 : Nat) ≤ (0 : Nat)) ∧ (0 : Nat) ≤ (0 : Nat) ∧ ((0 : Nat) + len) * (1 : Nat) ≤ (140737488355328 : Nat) ∧ ∀ (b_4 base cap' : Nat), (0 : Nat) + len ≤ cap' → ((0 : Nat) + len ≤ (0 : Nat) → cap' = (0 : Nat)) → ∀ (sp : List Int), List.length sp = cap' - ((0 : Nat) + len) → ∃ (x : Sl),
  (∀ (r : List (Nat × Nat × Nat)), Value.slice x.1 x.2 x.3 = Option.getD (fi (Value.int IntKind.u16 m.4)) (Value.slice Option.none (0 : Nat) (0 : Nat))) ∧ (↑x.2 : Int) = (0 : Int) ∧ ∀ (b_5 : Nat), SV.val (Value.slice Option.none (0 : Nat) (0 : Nat)) = SV.val (Value.slice Option.none (0 : Nat) (0 : Nat)) ∧ Value.oneCell' (Value.int IntKind.u16 m.4) = Bool.true ∧ (2 : Nat) ≤ (140737488355328 : Nat) ∧ ∀ (b_6 cap'_1 : Nat), (1 : Nat) ≤ cap'_1 → ∀ (sp_1 : List Int), List.length sp_1 = cap'_1 - (1 : Nat) → ∃ (x : Unit), (∀ (r : List (Nat × Nat × Nat)), Value.slice Option.none (0 : Nat) (0 : Nat) =
  Option.getD (fi (Value.int IntKind.u16 m.4)) (Value.slice Option.none (0 : Nat) (0 : Nat))) ∧ ∀ (b_7 : Nat), SV.val (Option.getD (fi (Value.int IntKind.u16 m.4)) (Value.slice Option.none (0 : Nat) (0 : Nat))) = SV.val (Option.getD (fi (Value.int IntKind.u16 m.4)) (Value.slice Option.none (0 : Nat) (0 : Nat))) ∧ SV.val (Value.int IntKind.u16 m.4) = SV.val (Value.int IntKind.u16 m.4) ∧ SV.mp (1 : Nat) = SV.mp (1 : Nat) ∧ SV.val (Value.int IntKind.u16 m.4) = SV.val (Value.int IntKind.u16 m.4) ∧ SV.mp (1 : Nat) = SV.mp (1 : Nat) ∧ ∀ (b_8 : Nat),
  SV.val (Option.getD (fi (Value.int IntKind.u16 m.4)) (Value.slice Option.none (0 : Nat) (0 : Nat))) = SV.val (Option.getD (fi (Value.int IntKind.u16 m.4)) (Value.slice Option.none (0 : Nat) (0 : Nat))) ∧ SV.val (Value.int IntKind.u16 m.4) = SV.val (Value.int IntKind.u16 m.4) ∧ SV.mp (1 : Nat) = SV.mp (1 : Nat) ∧ SV.val (Value.int IntKind.u16 m.4) = SV.val (Value.int IntKind.u16 m.4) ∧ SV.mp (1 : Nat) = SV.mp (1 : Nat) ∧ (8 : Nat) ≤ (140737488355328 : Nat) ∧ ∀ (b_9 cap'_2 : Nat), (1 : Nat) ≤ cap'_2 → ∀ (sp_2 : List Go.Value), List.length sp_2 = cap'_2 - (1 : Nat) →
  SV.val (Value.int IntKind.u16 m.4) = SV.val (Value.int IntKind.u16 m.4) ∧ SV.mp (1 : Nat) = SV.mp (1 : Nat) ∧ Value.oneCell' (Value.int IntKind.i64 (IntKind.wrap IntKind.i64 (all + (↑((0 : Nat) + len) : Int)))) = Bool.true ∧ R (Value.int IntKind.i64 (0 : Int)) ((b, Blk.cells [Value.bool inter, Value.map (Option.some mi), Value.slice (Option.some { block := b_6, off := (0 : Nat) * (1 : Nat) }) (1 : Nat) cap'_1, Value.bool held, Value.map (Option.some mn), Value.int IntKind.i64 (IntKind.wrap IntKind.i64 (all + (↑((0 : Nat) + len) : Int)))] (123 : Go.TypeId)) :: (mi,
  Blk.map (KShape.one (KS.int IntKind.u16)) (updM fi (Value.int IntKind.u16 m.4) (Value.slice (Option.some { block := b_9, off := (0 : Nat) * (1 : Nat) }) (1 : Nat) cap'_2)) Option.none) :: (w.1, Blk.tab (5 : Go.TypeId) w.2 w.4 [Col.ints IntKind.u8 w.6]) :: (G ++ [(b_1, Blk.cells [Value.int IntKind.i64 m.2, Value.int IntKind.u32 m.3] (33 : Nat)), (b_2, Blk.cells [Value.int IntKind.u16 m.4, Value.bool m.5, Value.int IntKind.u32 m.6, Value.int IntKind.u32 m.7, Value.slice (Option.some { block := b_4, off := base * (1 : Nat) }) ((0 : Nat) + len) cap'] (36 : Nat)), (b_4,
  Blk.tab (5 : Nat) base cap' [Col.ints IntKind.u8 (List.take (0 : Nat) [] ++ List.take len (List.drop w.3 w.6) ++ sp)]), (b_5, Blk.cells [Value.int IntKind.u16 m.4] (27 : Nat)), (b_6, Blk.tab (27 : Nat) (0 : Nat) cap'_1 [Col.ints IntKind.u16 (m.4 :: sp_1)]), (b_7, Blk.cells [Value.int IntKind.i64 m.1, Value.int IntKind.i64 m.2, Value.int IntKind.u32 m.3, Value.int IntKind.u16 m.4, Value.bool m.5, Value.int IntKind.u32 m.6, Value.int IntKind.u32 m.7, Value.slice (Option.some { block := b_4, off := base * (1 : Nat) }) ((0 : Nat) + len) cap',
  Value.bool Bool.false, Value.int IntKind.u32 (0 : Int)] (128 : Nat)), (b_8, Blk.cells [Value.pointer (Option.some { block := b_7, off := (0 : Nat) * (10 : Nat) })] (126 : Nat)), (b_9, Blk.tab (126 : Nat) (0 : Nat) cap'_2 [Col.raws (Value.pointer (Option.some { block := b_7, off := (0 : Nat) * (10 : Nat) }) :: sp_2)])])) from by
    have hw1 : IntKind.wrap .i64 (all + (len : Int)) = all + len := by rw [IntKind.wrap_i64]; omega
    have hf' : fi (Value.int .u16 m.stream) = none := hf
    simp only [eq_self, true_and, and_true, false_and, and_false, or_false, false_or, and_self, Nat.zero_add, Nat.add_zero, Nat.sub_zero, Nat.zero_mul, Nat.mul_one, Int.toNat_natCast, cond_true, cond_false, forall_const, implies_true, Nat.beq_refl, ne_eq, not_false_eq_true, not_true_eq_false, Classical.not_not, List.cons.injEq, List.append_nil, List.nil_append, Go.Value.int.injEq, Go.Value.bool.injEq, Go.Value.slice.injEq, Nat.le_refl, Nat.zero_le, Go.Sx.one_int, Go.Sx.one_bool, Go.Sx.one_slice, Go.Sx.one_ptr, Go.Sx.one_map, Int.cast_ofNat_Int, reduceCtorEq, Nat.reduceLeDiff, Nat.reduceMul, Nat.reduceAdd, Nat.reduceSub, Nat.reduceEqDiff, Int.reduceLE, Int.reduceLT, Int.reduceEq, Int.reduceAdd, Int.reduceSub, Int.reduceNeg, Int.reduceMul, Nat.reduceBEq, hw1, hf', Option.getD_none]
    refine fun b1 b2 => ⟨by omega, by omega, by omega, hw, by omega, fun b3 base cap' c1 c2 sp c3 => ⟨⟨none, 0, 0⟩, ⟨rfl, rfl, rfl⟩, rfl, fun be bt capt d1 sp1 d3 => ⟨(), fun b4 b5 b6 cap6 g1 sp2 g2 => ?_⟩⟩⟩
    exact hR b1 b2 b3 base cap' b4 b5 be bt capt b6 cap6 sp sp1 sp2 c1 c3 d1 d3 g1 g2)
theorem fresh_fin {q : SQ} {b mi mn : Nat} {fi fn : Value → Option Value} {m : Msg} {body : List Int} {w : Win} {Lb Lx Li : Blks} {b1 b2 b3 base cap' b4 b5 be bt baset capt b6 cap6 : Nat} {ts sp : List Int} {sp2 : List Value} (hs : m.stream ∉ q.lines.map Prod.fst) (h2 : LinesAt q.lines fi Li) (h3 : NumsAt q.nums fn)
    (hw : w.ok body) (hwp : Lb.Perm ((w.b, .tab 5 w.base w.N [.ints .u8 w.zs]) :: w.G)) (he : 0 < body.length ∧ body.length ≤ 65536 ∧ q.all + body.length ≤ 262144) (c1 : body.length ≤ cap') (c2 : sp.length = cap' - body.length) (g1 : 1 ≤ cap6) (g2 : sp2.length = cap6 - 1)
    (ht : ({ b := bt, base := baset, o := 0, N := capt, cap := capt, zs := ts, G := [] } : Win).ok (q.lines.map Prod.fst ++ [m.stream])) :
    PuR q b m body (w.val body.length) (.int .i64 0) (freshL b mi mn q.inter q.held fi q.all m w body.length ((mn, .map (.many [.int .u16, .bool]) fn none) :: (Lx ++ (Li ++ w.G))) (freshBlks m b1 b2 b3 base cap' b4 b5 (List.take body.length (List.drop w.o w.zs) ++ sp) body.length bt baset capt ts be b6 cap6 sp2) (.slice (some ⟨bt, baset, none⟩) (q.lines.length + 1) capt) b6 cap6) := by
  have hit := item_new (m := m) (b4 := b4) (win_copy (b := b3) (base := base) hw c1 c2)
  have hx' := lx_one hit (b := b6) (base := 0) g1 g2
  refine ⟨0, { q with lines := q.lines ++ [(m.stream, [m.item body])], all := q.all + body.length }, _, Lb, rfl, ?_, ⟨mi, mn, .slice (some ⟨bt, baset, none⟩) (q.lines.length + 1) capt, _, fn, _, _, List.Perm.refl _, .inr ⟨_, by simpa using ht, by simp [Win.val], List.Perm.refl _⟩, (lines_new (v := .slice (some ⟨b6, 0, none⟩) 1 cap6) h2 hs ⟨_, hx', by simp [LX.val], List.Perm.refl _⟩).more ((b1, .cells [.int .i64 m.lk, .int .u32 m.ln] 33) :: (b2, .cells [.int .u16 m.stream, .bool m.loose, .int .u32 m.mid, .int .u32 m.ppid, .slice (some ⟨b3, base, none⟩) body.length cap'] 36) :: (be, .cells [.int .u16 m.stream] 27) :: (b5, .cells [.pointer (some ⟨b4, 0, none⟩)] 126) :: Lx), h3⟩, .inr ⟨w, hw, rfl, hwp⟩, .inr (.inr (.inr ⟨he.1, he.2.1, he.2.2, rfl, _, rfl, .inr ⟨hs, rfl⟩⟩))⟩
  refine perm_of_sums fun f => ?_
  have e1 := perm_sum hwp f
  simp only [freshL, freshBlks, Msg.item, QItem.cells] at *
  simp only [List.map_append, List.map_cons, List.map_nil, List.sum_append, List.sum_cons, List.sum_nil, List.append_assoc, List.cons_append, List.nil_append] at *
  omega

theorem push_new {q : SQ} {b : Nat} {m : Msg} {body : List Int} {w : Win} {Lq Lb : Blks} (hs : m.stream ∉ q.lines.map Prod.fst) (hq : SQAt q b Lq) (hw : w.ok body) (hwp : Lb.Perm ((w.b, .tab 5 w.base w.N [.ints .u8 w.zs]) :: w.G)) (h0 : 0 ≤ q.all ∧ q.all ≤ 1000000) (hsm : q.small)
    (he : 0 < body.length ∧ body.length ≤ 65536 ∧ q.all + body.length ≤ 262144) : Triple Go.Proofs.Try.prog 16 (m.args b (w.val body.length)) (Lq ++ Lb) (PuR q b m body (w.val body.length)) := by
  obtain ⟨mi, mn, tv, fi, fn, Lt, Li, hp, h1, h2, h3⟩ := hq
  have hf := lines_none h2 hs
  obtain ⟨w1, w2, w3, w4⟩ := id hw
  have hlen : (q.lines.map Prod.fst).length = q.lines.length := by simp
  rcases h1 with ⟨e, rfl⟩ | ⟨y, y1, rfl, y3⟩
  · have hl0 : q.lines = [] := by simpa using e
    refine Triple.mono (triple_of_run (R := PuR q b m body (w.val body.length)) (h := [.own b (.cells 6 [.val (.bool q.inter), .mp 1, .val (.slice none 0 0), .val (.bool q.held), .val (.map (some mn)), .val (.int .i64 q.all)] 123), .own mi (.map (.one (.int .u16)) fi none), .own w.b (.tab 5 w.base w.N [.ints .u8 w.zs]),
        .chunk ((mn, .map (.many [.int .u16, .bool]) fn none) :: (Lt ++ (Li ++ w.G)))])
      (args := [.ptr 0 0 0, .val (.int .i64 m.id), .agg [.val (.int .i64 m.lk), .val (.int .u32 m.ln)], .agg [.val (.int .u16 m.stream), .val (.bool m.loose), .val (.int .u32 m.mid), .val (.int .u32 m.ppid), .slc 2 w.o body.length w.cap]])
      (L := (b, .cells [.bool q.inter, .map (some mi), .slice none 0 0, .bool q.held, .map (some mn), .int .i64 q.all] 123) :: (mi, .map (.one (.int .u16)) fi none) :: (w.b, .tab 5 w.base w.N [.ints .u8 w.zs]) :: ((mn, .map (.many [.int .u16, .bool]) fn none) :: (Lt ++ (Li ++ w.G))))
      (run_with no_contracts _ _ _ _ _) (fun r => by simp [denL, den, locAt, locs, Ent.loc, SBlk.base, SBlk.wd, Msg.args, Win.val]) (fun r => by simp [owned, Ent.blocks, SBlk.den, denL, den, locAt, locs, Ent.loc, SBlk.base, SBlk.wd]) (by simp)
      (pz_goal b mi mn q.inter q.held fi q.all m w body.length _ _ h0 he (by omega) hf fun b1 b2 b3 base cap' b4 b5 be bt capt b6 cap6 sp sp1 sp2 c1 c2 d1 d2 g1 g2 => ?_)) ?_ (fun v L' h => h)
    · have := fresh_fin (q := q) (b := b) (mi := mi) (mn := mn) (b1 := b1) (b2 := b2) (b3 := b3) (base := base) (b4 := b4) (b5 := b5) (be := be) (bt := bt) (baset := 0) (b6 := b6) (Lx := Lt) hs h2 h3 hw hwp he c1 c2 g1 g2 (ht := by rw [hl0]; exact win_one d1 d2)
      rw [hl0] at this
      exact this
    · refine perm_of_sums fun f => ?_
      have e1 := perm_sum hp f
      have e4 := perm_sum hwp f
      simp only [List.map_append, List.map_cons, List.map_nil, List.sum_append, List.sum_cons, List.sum_nil, List.append_assoc, List.cons_append, List.nil_append] at *
      omega
  · refine Triple.mono (triple_of_run (R := PuR q b m body (w.val body.length)) (h := [.own b (.cells 6 [.val (.bool q.inter), .mp 1, .slc 4 y.o q.lines.length y.cap, .val (.bool q.held), .val (.map (some mn)), .val (.int .i64 q.all)] 123), .own mi (.map (.one (.int .u16)) fi none), .own w.b (.tab 5 w.base w.N [.ints .u8 w.zs]),
        .chunk ((mn, .map (.many [.int .u16, .bool]) fn none) :: (y.G ++ (Li ++ w.G))), .own y.b (.tab 27 y.base y.N [.ints .u16 y.zs])])
      (args := [.ptr 0 0 0, .val (.int .i64 m.id), .agg [.val (.int .i64 m.lk), .val (.int .u32 m.ln)], .agg [.val (.int .u16 m.stream), .val (.bool m.loose), .val (.int .u32 m.mid), .val (.int .u32 m.ppid), .slc 2 w.o body.length w.cap]])
      (L := (b, .cells [.bool q.inter, .map (some mi), y.val q.lines.length, .bool q.held, .map (some mn), .int .i64 q.all] 123) :: (mi, .map (.one (.int .u16)) fi none) :: (w.b, .tab 5 w.base w.N [.ints .u8 w.zs]) :: (((mn, .map (.many [.int .u16, .bool]) fn none) :: (y.G ++ (Li ++ w.G))) ++ [(y.b, .tab 27 y.base y.N [.ints .u16 y.zs])]))
      (run_with no_contracts _ _ _ _ _) (fun r => by simp [denL, den, locAt, locs, Ent.loc, SBlk.base, SBlk.wd, Msg.args, Win.val]) (fun r => by simp [owned, Ent.blocks, SBlk.den, denL, den, locAt, locs, Ent.loc, SBlk.base, SBlk.wd, Win.val]) (by simp)
      (pn_goal b mi mn q.inter q.held fi q.all m w body.length y q.lines.length _ _ h0 he (by omega) hf ⟨by have := y1.1; omega, y1.2.1, hsm.1⟩ fun b1 b2 b3 base cap' b4 b5 be bt baset capt b6 cap6 sp sp1 sp2 c1 c2 d1 d2 g1 g2 => ?_)) ?_ (fun v L' h => h)
    · have ha := win_app y1 (a := m.stream) (b := bt) (base := baset) (cap := capt) (sp := sp1) (by rw [hlen]; exact d1) (by rw [hlen]; exact d2)
      rw [hlen] at ha
      exact fresh_fin (Lx := y.G) hs h2 h3 hw hwp he c1 c2 g1 g2 ha
    · refine perm_of_sums fun f => ?_
      have e1 := perm_sum hp f
      have e3 := perm_sum y3 f
      have e4 := perm_sum hwp f
      rw [hlen] at e1
      simp only [List.map_append, List.map_cons, List.map_nil, List.sum_append, List.sum_cons, List.sum_nil, List.append_assoc, List.cons_append, List.nil_append] at *
      omega
theorem push_triple {q : SQ} {b : Nat} {m : Msg} {body : List Int} {v : Value} {Lq Lb : Blks} (hq : SQAt q b Lq) (hb : WinNil 5 .u8 body v Lb) (h0 : 0 ≤ q.all ∧ q.all ≤ 1000000) (hsm : q.small) :
    Triple Go.Proofs.Try.prog 16 (m.args b v) (Lq ++ Lb) (PuR q b m body v) := by
  by_cases he : body.length = 0 ∨ 65536 < body.length ∨ 262144 < q.all + body.length
  · exact push_err hq hb h0 he
  · have he' : 0 < body.length ∧ body.length ≤ 65536 ∧ q.all + body.length ≤ 262144 := by omega
    rcases hb with ⟨rfl, -⟩ | ⟨w, w1, rfl, w3⟩
    · simp at he
    · by_cases hs : m.stream ∈ q.lines.map Prod.fst
      · obtain ⟨l, hl, e⟩ := List.mem_map.1 hs
        obtain ⟨A, B, hAB⟩ := List.append_of_mem hl
        exact push_old (its := l.2) (by rw [hAB, ← e]) hq w1 w3 h0 hsm he'
      · exact push_new hs hq w1 w3 h0 hsm he'

/-! The contracts. -/
structure PuX where
  q : SQ
  b : Nat
  m : Msg
  body : List Int
  v : Value
theorem enters15 : Enters Go.Proofs.Try.prog 15 := ⟨Go.Proofs.Try.f15, Go.Proofs.Try.func15, by kernel_rfl, by kernel_rfl⟩
theorem enters16 : Enters Go.Proofs.Try.prog 16 := ⟨Go.Proofs.Try.f16, Go.Proofs.Try.func16, by kernel_rfl, by kernel_rfl⟩
theorem enters18 : Enters Go.Proofs.Try.prog 18 := ⟨Go.Proofs.Try.f18, Go.Proofs.Try.func18, by kernel_rfl, by kernel_rfl⟩
noncomputable def pushT : Trans := absT (chunkR (X := PuX) (A := Int × SQ) (fun a => .val (.int .i64 a.1)) (fun x vs L => vs = x.m.args x.b x.v ∧ x.q.small ∧ (0 ≤ x.q.all ∧ x.q.all ≤ 1000000) ∧ ∃ Lq Lb, L.Perm (Lq ++ Lb) ∧ SQAt x.q x.b Lq ∧ WinNil 5 .u8 x.body x.v Lb)
  fun x a L' => PushP x.q x.m x.body a.1 a.2 ∧ ∃ La Lb, L'.Perm (La ++ Lb) ∧ SQAt a.2 x.b La ∧ WinNil 5 .u8 x.body x.v Lb)
theorem pushT_sound : SoundT Go.Proofs.Try.prog 16 pushT := absT_sound (chunkR_sound (val := fun a => .int .i64 a.1) enters16 (fun a ρ => rfl) (fun a => by simp) fun x vs L ⟨h1, h2, h3, Lq, Lb, h4, h5, h6⟩ => by
  subst h1
  exact (push_triple h5 h6 h3 h2).mono h4 fun v L' ⟨code, q', La, Lb, e1, e2, e3, e4, e5⟩ => ⟨(code, q'), e1, e5, La, Lb, e2, e3, e4⟩)
noncomputable def newT : Trans := chunkR (X := Bool) (A := Nat) (fun b => .val (.pointer (some ⟨b, 0, none⟩))) (fun x vs L => vs = [.bool x] ∧ L = []) fun x b L' => SQAt ⟨x, false, [], fun _ => none, 0⟩ b L'
theorem newT_sound : SoundT Go.Proofs.Try.prog 15 newT := chunkR_sound (val := fun b => .pointer (some ⟨b, 0, none⟩)) enters15 (fun a ρ => rfl) (fun a => by simp) fun x vs L ⟨h1, h2⟩ => by
  subst h1 h2
  have hg : nwGoal x fun v L' => ∃ a : Nat, v = .pointer (some ⟨a, 0, none⟩) ∧ SQAt ⟨x, false, [], fun _ => none, 0⟩ a L' := nw_goal x _ fun b1 b2 b =>
    ⟨b, rfl, b1, b2, _, _, _, [], [], (List.perm_append_comm (l₁ := [_, _]) (l₂ := [_])), .inl ⟨rfl, rfl⟩, ⟨by simp, fun k h => absurd rfl h, trivial⟩, fun k h => absurd rfl h, fun s => rfl⟩
  exact triple_of_run (R := fun v L' => ∃ a : Nat, v = .pointer (some ⟨a, 0, none⟩) ∧ SQAt ⟨x, false, [], fun _ => none, 0⟩ a L') (h := []) (args := [.val (.bool x)]) (vs := [.bool x]) (L := []) (run_with no_contracts _ _ _ _ _) (fun r => rfl) (fun r => rfl) (by simp) hg
noncomputable def allT : Trans := chunkR (X := SQ × Nat) (A := Int) (fun a => .val (.int .i64 a)) (fun x vs L => vs = [.pointer (some ⟨x.2, 0, none⟩)] ∧ SQAt x.1 x.2 L) fun x a L' => a = x.1.all ∧ SQAt x.1 x.2 L'
theorem allT_sound : SoundT Go.Proofs.Try.prog 18 allT := chunkR_sound (val := fun a => .int .i64 a) enters18 (fun a ρ => rfl) (fun a => by simp) fun x vs L ⟨h1, h2⟩ => by
  subst h1
  obtain ⟨mi, mn, tv, fi, fn, Lt, Li, hp, h1, h2, h3⟩ := h2
  refine Triple.mono (triple_of_run (h := [.own x.2 (.cells 6 [.val (.bool x.1.inter), .val (.map (some mi)), .val tv, .val (.bool x.1.held), .val (.map (some mn)), .val (.int .i64 x.1.all)] 123), .chunk ((mi, .map (.one (.int .u16)) fi none) :: (mn, .map (.many [.int .u16, .bool]) fn none) :: (Lt ++ Li))])
    (args := [.ptr 0 0 0]) (L := (x.2, .cells [.bool x.1.inter, .map (some mi), tv, .bool x.1.held, .map (some mn), .int .i64 x.1.all] 123) :: ((mi, .map (.one (.int .u16)) fi none) :: (mn, .map (.many [.int .u16, .bool]) fn none) :: (Lt ++ Li)))
    (run_with no_contracts _ _ _ _ _) (fun r => rfl) (fun r => by simp [owned, Ent.blocks, SBlk.den, denL, den]) (by simp) (al_goal x.2 mi mn x.1.inter x.1.held tv x.1.all _ _ ⟨x.1.all, rfl, rfl, mi, mn, tv, fi, fn, Lt, Li, List.Perm.refl _, h1, h2, h3⟩)) hp fun v L' h => h
end Go.Proofs.Ythkcfocoekonjaa
