/- Queues: what a turn does. -/
import Derived.Test.YthkcfocoekonjaaScD
set_option maxRecDepth 100000
set_option linter.unusedVariables false
set_option linter.unusedSimpArgs false
namespace Go.Proofs.Ythkcfocoekonjaa
open Go Go.Sx
attribute [local irreducible] Go.Sx.xrun

noncomputable def nzRun (hs : Hints) (b mi mn : Nat) (inter held : Bool) (s : Sl) (all most : Int) (G : Blks) (R : Value → Blks → Prop) : Prop :=
  xrun Go.Proofs.Try.prog [] [] hs 9 [] 17
    [.ptr 0 0 0, .val (.int .i64 most)]
    [.own b (.cells 6 [.val (.bool inter), .val (.map (some mi)), .val (.slice s.o s.l s.c), .val (.bool held), .val (.map (some mn)), .val (.int .i64 all)] 123), .chunk G] fun s h => R (den (locs h) s) (owned (locs h) h)
noncomputable def nzAGoal (b mi mn : Nat) (inter held : Bool) (s : Sl) (all most : Int) (G : Blks) (R : Value → Blks → Prop) : Prop := nzRun [([], (18, true)), ([], (22, true)), ([], (30, true))] b mi mn inter held s all most G R
noncomputable def nzBGoal (b mi mn : Nat) (inter held : Bool) (s : Sl) (all most : Int) (G : Blks) (R : Value → Blks → Prop) : Prop := nzRun [([], (18, false)), ([], (22, true)), ([], (30, true))] b mi mn inter held s all most G R
noncomputable def nzCGoal (b mi mn : Nat) (inter held : Bool) (s : Sl) (all most : Int) (G : Blks) (R : Value → Blks → Prop) : Prop := nzRun [([], (18, false)), ([], (22, false)), ([], (30, true))] b mi mn inter held s all most G R

/-! What a turn is. -/
structure Ch where
  kind : Int
  begin_ : Bool
  end_ : Bool
  loose : Bool
  stream : Int
  mid : Int
  ppid : Int
  frag : Int
  body : List Int
  id : Int
  lk : Int
  ln : Int
  ok : Bool
noncomputable def Ch.flds (a : Ch) (s : Sl) : List Value := [.int .u8 a.kind, .bool a.begin_, .bool a.end_, .bool a.loose, .bool false, .int .u32 0, .int .u16 a.stream, .int .u32 a.mid, .int .u32 a.ppid, .int .u32 a.frag, .int .u32 0, .int .u32 0, .int .u16 0, .int .u16 0,
  .slice none 0 0, .slice none 0 0, .slice none 0 0, .slice none 0 0, .slice s.o s.l s.c]
noncomputable def Ch.val (a : Ch) (s : Sl) : Value := .tuple #[.agg (a.flds s).toArray, .int .i64 a.id, .agg #[.int .i64 a.lk, .int .u32 a.ln], .bool a.ok]
def chZ : Ch := ⟨0, false, false, false, 0, 0, 0, 0, [], 0, 0, 0, false⟩
def updN (f : Int × Bool → Option Int) (k : Int × Bool) (v : Int) : Int × Bool → Option Int := fun s => if s = k then some v else f s
def SQ.room (q : SQ) : Int := if q.inter then 1168 else 1172
def numF (inter : Bool) (nums : Int × Bool → Option Int) (it : QItem) : Int × (Int × Bool → Option Int) :=
  if it.begun then (it.mid, nums) else if !inter && it.loose then (0, nums) else
    let v := (nums (it.stream, it.loose)).getD 0
    (v, updN nums (it.stream, it.loose) (if inter then IntKind.wrap .u32 (v + 1) else iand .u32 (IntKind.wrap .u32 (v + 1)) 65535))
def QItem.cut (it : QItem) (mid : Int) (n : Nat) : QItem := { it with mid := mid, begun := true, frag := IntKind.wrap .u32 (it.frag + 1), body := it.body.drop n }
def nextF (q : SQ) (most : Int) : Ch × SQ :=
  match q.lines with
  | (s, it :: its) :: rest =>
    if most < 1 ∨ q.room < most then (chZ, q) else
      let n := min most.toNat it.body.length
      let nu := numF q.inter q.nums it
      let fin : Bool := decide (n = it.body.length)
      (⟨if q.inter then 64 else 0, !it.begun, fin, it.loose, s, nu.1, it.ppid, if q.inter then it.frag else 0, it.body.take n, it.id, it.lk, it.ln, true⟩,
        { q with lines := if fin then (if its.length = 0 then rest else rest ++ [(s, its)]) else if q.inter then rest ++ [(s, it.cut nu.1 n :: its)] else (s, it.cut nu.1 n :: its) :: rest, nums := nu.2, held := !fin && !q.inter, all := q.all - n })
  | _ => (chZ, q)
theorem chA_val (it : QItem) (kind s mid frag : Int) (n wn bb base cap : Nat) (body : List Int) :
    (chA it kind s mid frag n wn bb base cap).val = Ch.val ⟨kind, !it.begun, decide (n = wn), it.loose, s, mid, it.ppid, frag, body, it.id, it.lk, it.ln, true⟩ ⟨some ⟨bb, base, none⟩, n, cap⟩ := by
  have e1 : pbool (it.begun = false) = !it.begun := by cases h : it.begun <;> simp [pbool]
  have e2 : pbool (n = wn) = decide (n = wn) := by simp [pbool]
  unfold ChR.val Ch.val Ch.flds chA
  simp only [e1, e2]

/-! Failing. -/
def zL (b mi mn : Nat) (inter held : Bool) (s : Sl) (all : Int) : Nat × Blk := (b, .cells [.bool inter, .map (some mi), .slice s.o s.l s.c, .bool held, .map (some mn), .int .i64 all] 123)
theorem nzA_goal (b mi mn : Nat) (inter held : Bool) (s : Sl) (all most : Int) (G : Blks) (R : Value → Blks → Prop) (h : s.l = 0)
    (hR : ∀ g1 g2, R (chZ.val ⟨none, 0, 0⟩) (zL b mi mn inter held s all :: (G ++ [g1, g2]))) : nzAGoal b mi mn inter held s all most G R :=
  Eq.mpr (by kernel_rfl) (show
  ∀ (b_1 b_2 : Nat), (↑s.2 : Int) = (0 : Int) ∧ Value.oneCell' (Value.int IntKind.u8 (0 : Int)) = Bool.true ∧ Value.oneCell' (Value.int IntKind.u32 (0 : Int)) = Bool.true ∧ Value.oneCell' (Value.int IntKind.u16 (0 : Int)) = Bool.true ∧ Value.oneCell' (Value.int IntKind.u32 (0 : Int)) = Bool.true ∧ Value.oneCell' (Value.int IntKind.u32 (0 : Int)) = Bool.true ∧ Value.oneCell' (Value.int IntKind.u32 (0 : Int)) = Bool.true ∧ Value.oneCell' (Value.int IntKind.u32 (0 : Int)) = Bool.true ∧ Value.oneCell' (Value.int IntKind.u32 (0 : Int)) = Bool.true ∧
  Value.oneCell' (Value.int IntKind.u16 (0 : Int)) = Bool.true ∧ Value.oneCell' (Value.int IntKind.u16 (0 : Int)) = Bool.true ∧ Value.oneCell' (Value.slice Option.none (0 : Nat) (0 : Nat)) = Bool.true ∧ Value.oneCell' (Value.slice Option.none (0 : Nat) (0 : Nat)) = Bool.true ∧ Value.oneCell' (Value.slice Option.none (0 : Nat) (0 : Nat)) = Bool.true ∧ Value.oneCell' (Value.slice Option.none (0 : Nat) (0 : Nat)) = Bool.true ∧ Value.oneCell' (Value.slice Option.none (0 : Nat) (0 : Nat)) = Bool.true ∧ Value.oneCell' (Value.int IntKind.i64 (0 : Int)) = Bool.true ∧
  Value.oneCell' (Value.int IntKind.u32 (0 : Int)) = Bool.true ∧ R (Value.tuple #[Value.agg #[Value.int IntKind.u8 (0 : Int), Value.bool Bool.false, Value.bool Bool.false, Value.bool Bool.false, Value.bool Bool.false, Value.int IntKind.u32 (0 : Int), Value.int IntKind.u16 (0 : Int), Value.int IntKind.u32 (0 : Int), Value.int IntKind.u32 (0 : Int), Value.int IntKind.u32 (0 : Int), Value.int IntKind.u32 (0 : Int), Value.int IntKind.u32 (0 : Int), Value.int IntKind.u16 (0 : Int), Value.int IntKind.u16 (0 : Int),
  Value.slice Option.none (0 : Nat) (0 : Nat), Value.slice Option.none (0 : Nat) (0 : Nat), Value.slice Option.none (0 : Nat) (0 : Nat), Value.slice Option.none (0 : Nat) (0 : Nat), Value.slice Option.none (0 : Nat) (0 : Nat)], Value.int IntKind.i64 (0 : Int), Value.agg #[Value.int IntKind.i64 (0 : Int), Value.int IntKind.u32 (0 : Int)], Value.bool Bool.false]) ((b, Blk.cells [Value.bool inter, Value.map (Option.some mi), Value.slice s.1 s.2 s.3, Value.bool held, Value.map (Option.some mn), Value.int IntKind.i64 all] (123 : Go.TypeId)) :: (G ++ [(b_1, Blk.cells
  [Value.int IntKind.u8 (0 : Int), Value.bool Bool.false, Value.bool Bool.false, Value.bool Bool.false, Value.bool Bool.false, Value.int IntKind.u32 (0 : Int), Value.int IntKind.u16 (0 : Int), Value.int IntKind.u32 (0 : Int), Value.int IntKind.u32 (0 : Int), Value.int IntKind.u32 (0 : Int), Value.int IntKind.u32 (0 : Int), Value.int IntKind.u32 (0 : Int), Value.int IntKind.u16 (0 : Int), Value.int IntKind.u16 (0 : Int), Value.slice Option.none (0 : Nat) (0 : Nat), Value.slice Option.none (0 : Nat) (0 : Nat), Value.slice Option.none (0 : Nat) (0 : Nat),
  Value.slice Option.none (0 : Nat) (0 : Nat), Value.slice Option.none (0 : Nat) (0 : Nat)] (43 : Nat)), (b_2, Blk.cells [Value.int IntKind.i64 (0 : Int), Value.int IntKind.u32 (0 : Int)] (33 : Nat))])) from by
  simp only [eq_self, true_and, and_true, false_and, and_false, or_false, false_or, and_self, Nat.zero_add, Nat.add_zero, Nat.sub_zero, Nat.zero_mul, Nat.mul_one, Int.toNat_natCast, cond_true, cond_false, forall_const, implies_true, Nat.beq_refl, ne_eq, not_false_eq_true, not_true_eq_false, Classical.not_not, List.cons.injEq, List.append_nil, List.nil_append, Go.Value.int.injEq, Go.Value.bool.injEq, Go.Value.slice.injEq, Nat.le_refl, Nat.zero_le, Go.Sx.one_int, Go.Sx.one_bool, Go.Sx.one_slice, Go.Sx.one_ptr, Go.Sx.one_map, Int.cast_ofNat_Int, reduceCtorEq, Nat.reduceLeDiff, Nat.reduceMul, Nat.reduceAdd, Nat.reduceSub, Nat.reduceEqDiff, Int.reduceLE, Int.reduceLT, Int.reduceEq, Int.reduceAdd, Int.reduceSub, Int.reduceNeg, Int.reduceMul, Nat.reduceBEq]
  exact fun b1 b2 => ⟨by omega, hR _ _⟩)
theorem nzB_goal (b mi mn : Nat) (inter held : Bool) (s : Sl) (all most : Int) (G : Blks) (R : Value → Blks → Prop) (h : s.l ≠ 0) (h2 : most < 1)
    (hR : ∀ g1 g2, R (chZ.val ⟨none, 0, 0⟩) (zL b mi mn inter held s all :: (G ++ [g1, g2]))) : nzBGoal b mi mn inter held s all most G R :=
  Eq.mpr (by kernel_rfl) (show
  ∀ (b_1 b_2 : Nat), ¬(↑s.2 : Int) = (0 : Int) ∧ most < (1 : Int) ∧ Value.oneCell' (Value.int IntKind.u8 (0 : Int)) = Bool.true ∧ Value.oneCell' (Value.int IntKind.u32 (0 : Int)) = Bool.true ∧ Value.oneCell' (Value.int IntKind.u16 (0 : Int)) = Bool.true ∧ Value.oneCell' (Value.int IntKind.u32 (0 : Int)) = Bool.true ∧ Value.oneCell' (Value.int IntKind.u32 (0 : Int)) = Bool.true ∧ Value.oneCell' (Value.int IntKind.u32 (0 : Int)) = Bool.true ∧ Value.oneCell' (Value.int IntKind.u32 (0 : Int)) = Bool.true ∧ Value.oneCell' (Value.int IntKind.u32 (0 : Int)) = Bool.true ∧
  Value.oneCell' (Value.int IntKind.u16 (0 : Int)) = Bool.true ∧ Value.oneCell' (Value.int IntKind.u16 (0 : Int)) = Bool.true ∧ Value.oneCell' (Value.slice Option.none (0 : Nat) (0 : Nat)) = Bool.true ∧ Value.oneCell' (Value.slice Option.none (0 : Nat) (0 : Nat)) = Bool.true ∧ Value.oneCell' (Value.slice Option.none (0 : Nat) (0 : Nat)) = Bool.true ∧ Value.oneCell' (Value.slice Option.none (0 : Nat) (0 : Nat)) = Bool.true ∧ Value.oneCell' (Value.slice Option.none (0 : Nat) (0 : Nat)) = Bool.true ∧ Value.oneCell' (Value.int IntKind.i64 (0 : Int)) = Bool.true ∧
  Value.oneCell' (Value.int IntKind.u32 (0 : Int)) = Bool.true ∧ R (Value.tuple #[Value.agg #[Value.int IntKind.u8 (0 : Int), Value.bool Bool.false, Value.bool Bool.false, Value.bool Bool.false, Value.bool Bool.false, Value.int IntKind.u32 (0 : Int), Value.int IntKind.u16 (0 : Int), Value.int IntKind.u32 (0 : Int), Value.int IntKind.u32 (0 : Int), Value.int IntKind.u32 (0 : Int), Value.int IntKind.u32 (0 : Int), Value.int IntKind.u32 (0 : Int), Value.int IntKind.u16 (0 : Int), Value.int IntKind.u16 (0 : Int),
  Value.slice Option.none (0 : Nat) (0 : Nat), Value.slice Option.none (0 : Nat) (0 : Nat), Value.slice Option.none (0 : Nat) (0 : Nat), Value.slice Option.none (0 : Nat) (0 : Nat), Value.slice Option.none (0 : Nat) (0 : Nat)], Value.int IntKind.i64 (0 : Int), Value.agg #[Value.int IntKind.i64 (0 : Int), Value.int IntKind.u32 (0 : Int)], Value.bool Bool.false]) ((b, Blk.cells [Value.bool inter, Value.map (Option.some mi), Value.slice s.1 s.2 s.3, Value.bool held, Value.map (Option.some mn), Value.int IntKind.i64 all] (123 : Go.TypeId)) :: (G ++ [(b_1, Blk.cells
  [Value.int IntKind.u8 (0 : Int), Value.bool Bool.false, Value.bool Bool.false, Value.bool Bool.false, Value.bool Bool.false, Value.int IntKind.u32 (0 : Int), Value.int IntKind.u16 (0 : Int), Value.int IntKind.u32 (0 : Int), Value.int IntKind.u32 (0 : Int), Value.int IntKind.u32 (0 : Int), Value.int IntKind.u32 (0 : Int), Value.int IntKind.u32 (0 : Int), Value.int IntKind.u16 (0 : Int), Value.int IntKind.u16 (0 : Int), Value.slice Option.none (0 : Nat) (0 : Nat), Value.slice Option.none (0 : Nat) (0 : Nat), Value.slice Option.none (0 : Nat) (0 : Nat),
  Value.slice Option.none (0 : Nat) (0 : Nat), Value.slice Option.none (0 : Nat) (0 : Nat)] (43 : Nat)), (b_2, Blk.cells [Value.int IntKind.i64 (0 : Int), Value.int IntKind.u32 (0 : Int)] (33 : Nat))])) from by
  simp only [eq_self, true_and, and_true, false_and, and_false, or_false, false_or, and_self, Nat.zero_add, Nat.add_zero, Nat.sub_zero, Nat.zero_mul, Nat.mul_one, Int.toNat_natCast, cond_true, cond_false, forall_const, implies_true, Nat.beq_refl, ne_eq, not_false_eq_true, not_true_eq_false, Classical.not_not, List.cons.injEq, List.append_nil, List.nil_append, Go.Value.int.injEq, Go.Value.bool.injEq, Go.Value.slice.injEq, Nat.le_refl, Nat.zero_le, Go.Sx.one_int, Go.Sx.one_bool, Go.Sx.one_slice, Go.Sx.one_ptr, Go.Sx.one_map, Int.cast_ofNat_Int, reduceCtorEq, Nat.reduceLeDiff, Nat.reduceMul, Nat.reduceAdd, Nat.reduceSub, Nat.reduceEqDiff, Int.reduceLE, Int.reduceLT, Int.reduceEq, Int.reduceAdd, Int.reduceSub, Int.reduceNeg, Int.reduceMul, Nat.reduceBEq]
  exact fun b1 b2 => ⟨by omega, by omega, hR _ _⟩)
theorem nzC_goal (b mi mn : Nat) (inter held : Bool) (s : Sl) (all most : Int) (G : Blks) (R : Value → Blks → Prop) (h : s.l ≠ 0) (h2 : 1 ≤ most) (h3 : (if inter then 1168 else 1172) < most)
    (hR : ∀ g1 g2, R (chZ.val ⟨none, 0, 0⟩) (zL b mi mn inter held s all :: (G ++ [g1, g2]))) : nzCGoal b mi mn inter held s all most G R :=
  Eq.mpr (by kernel_rfl) (show
  ∀ (b_1 b_2 : Nat), ¬(↑s.2 : Int) = (0 : Int) ∧ ¬most < (1 : Int) ∧ (inter = Bool.true → (1168 : Int) < most ∧ Value.oneCell' (Value.int IntKind.u8 (0 : Int)) = Bool.true ∧ Value.oneCell' (Value.int IntKind.u32 (0 : Int)) = Bool.true ∧ Value.oneCell' (Value.int IntKind.u16 (0 : Int)) = Bool.true ∧ Value.oneCell' (Value.int IntKind.u32 (0 : Int)) = Bool.true ∧ Value.oneCell' (Value.int IntKind.u32 (0 : Int)) = Bool.true ∧ Value.oneCell' (Value.int IntKind.u32 (0 : Int)) = Bool.true ∧ Value.oneCell' (Value.int IntKind.u32 (0 : Int)) = Bool.true ∧
  Value.oneCell' (Value.int IntKind.u32 (0 : Int)) = Bool.true ∧ Value.oneCell' (Value.int IntKind.u16 (0 : Int)) = Bool.true ∧ Value.oneCell' (Value.int IntKind.u16 (0 : Int)) = Bool.true ∧ Value.oneCell' (Value.slice Option.none (0 : Nat) (0 : Nat)) = Bool.true ∧ Value.oneCell' (Value.slice Option.none (0 : Nat) (0 : Nat)) = Bool.true ∧ Value.oneCell' (Value.slice Option.none (0 : Nat) (0 : Nat)) = Bool.true ∧ Value.oneCell' (Value.slice Option.none (0 : Nat) (0 : Nat)) = Bool.true ∧ Value.oneCell' (Value.slice Option.none (0 : Nat) (0 : Nat)) = Bool.true ∧
  Value.oneCell' (Value.int IntKind.i64 (0 : Int)) = Bool.true ∧ Value.oneCell' (Value.int IntKind.u32 (0 : Int)) = Bool.true ∧ R (Value.tuple #[Value.agg #[Value.int IntKind.u8 (0 : Int), Value.bool Bool.false, Value.bool Bool.false, Value.bool Bool.false, Value.bool Bool.false, Value.int IntKind.u32 (0 : Int), Value.int IntKind.u16 (0 : Int), Value.int IntKind.u32 (0 : Int), Value.int IntKind.u32 (0 : Int), Value.int IntKind.u32 (0 : Int), Value.int IntKind.u32 (0 : Int), Value.int IntKind.u32 (0 : Int), Value.int IntKind.u16 (0 : Int), Value.int IntKind.u16 (0 : Int),
  Value.slice Option.none (0 : Nat) (0 : Nat), Value.slice Option.none (0 : Nat) (0 : Nat), Value.slice Option.none (0 : Nat) (0 : Nat), Value.slice Option.none (0 : Nat) (0 : Nat), Value.slice Option.none (0 : Nat) (0 : Nat)], Value.int IntKind.i64 (0 : Int), Value.agg #[Value.int IntKind.i64 (0 : Int), Value.int IntKind.u32 (0 : Int)], Value.bool Bool.false]) ((b, Blk.cells [Value.bool inter, Value.map (Option.some mi), Value.slice s.1 s.2 s.3, Value.bool held, Value.map (Option.some mn), Value.int IntKind.i64 all] (123 : Go.TypeId)) :: (G ++ [(b_1, Blk.cells
  [Value.int IntKind.u8 (0 : Int), Value.bool Bool.false, Value.bool Bool.false, Value.bool Bool.false, Value.bool Bool.false, Value.int IntKind.u32 (0 : Int), Value.int IntKind.u16 (0 : Int), Value.int IntKind.u32 (0 : Int), Value.int IntKind.u32 (0 : Int), Value.int IntKind.u32 (0 : Int), Value.int IntKind.u32 (0 : Int), Value.int IntKind.u32 (0 : Int), Value.int IntKind.u16 (0 : Int), Value.int IntKind.u16 (0 : Int), Value.slice Option.none (0 : Nat) (0 : Nat), Value.slice Option.none (0 : Nat) (0 : Nat),
  Value.slice Option.none (0 : Nat) (0 : Nat), Value.slice Option.none (0 : Nat) (0 : Nat), Value.slice Option.none (0 : Nat) (0 : Nat)] (43 : Nat)), (b_2, Blk.cells [Value.int IntKind.i64 (0 : Int), Value.int IntKind.u32 (0 : Int)] (33 : Nat))]))) ∧ (¬inter = Bool.true → (1172 : Int) < most ∧ Value.oneCell' (Value.int IntKind.u8 (0 : Int)) = Bool.true ∧ Value.oneCell' (Value.int IntKind.u32 (0 : Int)) = Bool.true ∧ Value.oneCell' (Value.int IntKind.u16 (0 : Int)) = Bool.true ∧ Value.oneCell' (Value.int IntKind.u32 (0 : Int)) = Bool.true ∧
  Value.oneCell' (Value.int IntKind.u32 (0 : Int)) = Bool.true ∧ Value.oneCell' (Value.int IntKind.u32 (0 : Int)) = Bool.true ∧ Value.oneCell' (Value.int IntKind.u32 (0 : Int)) = Bool.true ∧ Value.oneCell' (Value.int IntKind.u32 (0 : Int)) = Bool.true ∧ Value.oneCell' (Value.int IntKind.u16 (0 : Int)) = Bool.true ∧ Value.oneCell' (Value.int IntKind.u16 (0 : Int)) = Bool.true ∧ Value.oneCell' (Value.slice Option.none (0 : Nat) (0 : Nat)) = Bool.true ∧ Value.oneCell' (Value.slice Option.none (0 : Nat) (0 : Nat)) = Bool.true ∧
  Value.oneCell' (Value.slice Option.none (0 : Nat) (0 : Nat)) = Bool.true ∧ Value.oneCell' (Value.slice Option.none (0 : Nat) (0 : Nat)) = Bool.true ∧ Value.oneCell' (Value.slice Option.none (0 : Nat) (0 : Nat)) = Bool.true ∧ Value.oneCell' (Value.int IntKind.i64 (0 : Int)) = Bool.true ∧ Value.oneCell' (Value.int IntKind.u32 (0 : Int)) = Bool.true ∧ R (Value.tuple #[Value.agg #[Value.int IntKind.u8 (0 : Int), Value.bool Bool.false, Value.bool Bool.false, Value.bool Bool.false, Value.bool Bool.false,
  Value.int IntKind.u32 (0 : Int), Value.int IntKind.u16 (0 : Int), Value.int IntKind.u32 (0 : Int), Value.int IntKind.u32 (0 : Int), Value.int IntKind.u32 (0 : Int), Value.int IntKind.u32 (0 : Int), Value.int IntKind.u32 (0 : Int), Value.int IntKind.u16 (0 : Int), Value.int IntKind.u16 (0 : Int), Value.slice Option.none (0 : Nat) (0 : Nat), Value.slice Option.none (0 : Nat) (0 : Nat), Value.slice Option.none (0 : Nat) (0 : Nat), Value.slice Option.none (0 : Nat) (0 : Nat), Value.slice Option.none (0 : Nat) (0 : Nat)],
  Value.int IntKind.i64 (0 : Int), Value.agg #[Value.int IntKind.i64 (0 : Int), Value.int IntKind.u32 (0 : Int)], Value.bool Bool.false]) ((b, Blk.cells [Value.bool inter, Value.map (Option.some mi), Value.slice s.1 s.2 s.3, Value.bool held, Value.map (Option.some mn), Value.int IntKind.i64 all] (123 : Go.TypeId)) :: (G ++ [(b_1, Blk.cells [Value.int IntKind.u8 (0 : Int), Value.bool Bool.false, Value.bool Bool.false, Value.bool Bool.false, Value.bool Bool.false, Value.int IntKind.u32 (0 : Int), Value.int IntKind.u16 (0 : Int), Value.int IntKind.u32 (0 : Int),
  Value.int IntKind.u32 (0 : Int), Value.int IntKind.u32 (0 : Int), Value.int IntKind.u32 (0 : Int), Value.int IntKind.u32 (0 : Int), Value.int IntKind.u16 (0 : Int), Value.int IntKind.u16 (0 : Int), Value.slice Option.none (0 : Nat) (0 : Nat), Value.slice Option.none (0 : Nat) (0 : Nat), Value.slice Option.none (0 : Nat) (0 : Nat), Value.slice Option.none (0 : Nat) (0 : Nat), Value.slice Option.none (0 : Nat) (0 : Nat)] (43 : Nat)), (b_2, Blk.cells [Value.int IntKind.i64 (0 : Int), Value.int IntKind.u32 (0 : Int)] (33 : Nat))]))) from by
  simp only [eq_self, true_and, and_true, false_and, and_false, or_false, false_or, and_self, Nat.zero_add, Nat.add_zero, Nat.sub_zero, Nat.zero_mul, Nat.mul_one, Int.toNat_natCast, cond_true, cond_false, forall_const, implies_true, Nat.beq_refl, ne_eq, not_false_eq_true, not_true_eq_false, Classical.not_not, List.cons.injEq, List.append_nil, List.nil_append, Go.Value.int.injEq, Go.Value.bool.injEq, Go.Value.slice.injEq, Nat.le_refl, Nat.zero_le, Go.Sx.one_int, Go.Sx.one_bool, Go.Sx.one_slice, Go.Sx.one_ptr, Go.Sx.one_map, Int.cast_ofNat_Int, reduceCtorEq, Nat.reduceLeDiff, Nat.reduceMul, Nat.reduceAdd, Nat.reduceSub, Nat.reduceEqDiff, Int.reduceLE, Int.reduceLT, Int.reduceEq, Int.reduceAdd, Int.reduceSub, Int.reduceNeg, Int.reduceMul, Nat.reduceBEq]
  refine fun b1 b2 => ⟨by omega, by omega, fun hi => ⟨?_, hR _ _⟩, fun hi => ⟨?_, hR _ _⟩⟩
  · rw [if_pos hi] at h3; exact h3
  · rw [if_neg hi] at h3; exact h3)

/-! Numbers. -/
theorem kN_inj {a b : Int × Bool} (h : kN a = kN b) : a = b := by
  unfold kN at h
  injection h with h
  have h1 := congrArg Array.toList h
  simp only [List.cons.injEq] at h1
  obtain ⟨h1, h2, -⟩ := h1
  injection h1 with _ h1
  injection h2 with h2
  exact Prod.ext h1 h2
theorem NumsAt.upd {nums : Int × Bool → Option Int} {m : Value → Option Value} (h : NumsAt nums m) (k : Int × Bool) (v : Int) : NumsAt (updN nums k v) (updM m (kN k) (.int .u32 v)) := by
  refine ⟨fun x hx => ?_, fun s => ?_⟩
  · by_cases e : x = kN k
    · exact ⟨k, e⟩
    · rw [updM_ne _ _ e] at hx
      exact h.1 x hx
  · by_cases e : s = k
    · subst e
      simp [updN, updM_same]
    · rw [updM_ne _ _ fun e' => e (kN_inj e'), h.2]
      simp [updN, e]

/-! The first message of the first stream. -/
def ItemsAt (x : LX) (o : Nat) (its : List QItem) (L : Blks) : Prop := SepL (fun (q : QItem × Value) L => ItemAt q.1 q.2 L) (its.zip ((x.ps.drop o).take its.length)) L
theorem lx_head {x : LX} {it : QItem} {its : List QItem} (h : x.ok (it :: its)) : ∃ La L3, x.G.Perm (La ++ L3) ∧ ItemAt it (x.ps.getD x.o .nilIface) La ∧ ItemsAt x (x.o + 1) its L3 := by
  obtain ⟨h1, h2, h3, h4⟩ := h
  simp only [List.length_cons] at h1
  have hlt : x.o < x.ps.length := by omega
  rw [List.drop_eq_getElem_cons hlt, List.length_cons, List.take_succ_cons, List.zip_cons_cons] at h4
  obtain ⟨La, L3, k1, k2, k3⟩ := h4
  refine ⟨La, L3, k1, ?_, k3⟩
  rw [List.getD_eq_getElem?_getD, List.getElem?_eq_getElem hlt]
  exact k2
theorem lx_same {x : LX} {it it' : QItem} {its : List QItem} (h : x.ok (it :: its)) {La L3 : Blks} (hp : ItemAt it' (x.ps.getD x.o .nilIface) La) (h3 : ItemsAt x (x.o + 1) its L3) : ({ x with G := La ++ L3 } : LX).ok (it' :: its) := by
  obtain ⟨h1, h2, h4, -⟩ := h
  simp only [List.length_cons] at h1
  have hlt : x.o < x.ps.length := by omega
  refine ⟨by simpa using h1, h2, h4, ?_⟩
  show SepL _ ((it' :: its).zip ((x.ps.drop x.o).take (it' :: its).length)) _
  rw [List.drop_eq_getElem_cons hlt, List.length_cons, List.take_succ_cons, List.zip_cons_cons]
  refine ⟨La, L3, List.Perm.refl _, ?_, h3⟩
  rw [List.getD_eq_getElem?_getD, List.getElem?_eq_getElem hlt] at hp
  exact hp
theorem lx_tail {x : LX} {it : QItem} {its : List QItem} (h : x.ok (it :: its)) {L3 : Blks} (h3 : ItemsAt x (x.o + 1) its L3) :
    ({ x with o := if x.cap = 1 then x.o else x.o + 1, cap := x.cap - 1, G := L3 } : LX).ok its := by
  obtain ⟨h1, h2, h4, -⟩ := h
  simp only [List.length_cons] at h1
  refine ⟨by show its.length ≤ x.cap - 1; omega, ?_, h4, ?_⟩
  · show (if x.cap = 1 then x.o else x.o + 1) + (x.cap - 1) ≤ x.N
    split <;> omega
  · show SepL _ (its.zip ((x.ps.drop (if x.cap = 1 then x.o else x.o + 1)).take its.length)) L3
    by_cases e : x.cap = 1
    · have : its = [] := List.eq_nil_of_length_eq_zero (by omega)
      subst this
      exact trivial
    · rw [if_neg e]
      exact h3
theorem win_take {x : Win} {l : List Int} (h : x.ok l) (n : Nat) : x.ok (l.take n) := by
  obtain ⟨h1, h2, h3, h4⟩ := h
  refine ⟨by rw [List.length_take]; omega, h2, h3, ?_⟩
  rw [List.length_take]
  conv => rhs; rw [← h4]
  rw [List.take_take]

/-! The whole at a turn's beginning. -/
theorem nx_open {q : SQ} {b : Nat} {Lq : Blks} {s : Int} {it : QItem} {its : List QItem} {rest : List (Int × List QItem)} (hq : SQAt q b Lq) (hl : q.lines = (s, it :: its) :: rest) :
    ∃ (mi mn : Nat) (fi fn : Value → Option Value) (t : Win) (x : LX) (w : Win) (bi : Nat) (L2 L3 : Blks), t.ok (s :: rest.map Prod.fst) ∧ x.ok (it :: its) ∧ fi (kS s) = some (x.val (its.length + 1)) ∧
      x.ps.getD x.o .nilIface = .pointer (some ⟨bi, 0, none⟩) ∧ w.ok it.body ∧ s ∉ rest.map Prod.fst ∧ LinesAt rest (delM fi (kS s)) L2 ∧ NumsAt q.nums fn ∧ ItemsAt x (x.o + 1) its L3 ∧
      Lq.Perm ((b, .cells [.bool q.inter, .map (some mi), t.val (rest.length + 1), .bool q.held, .map (some mn), .int .i64 q.all] 123) :: (mi, .map (.one (.int .u16)) fi none) :: (mn, .map (.many [.int .u16, .bool]) fn none) :: (t.b, .tab 27 t.base t.N [.ints .u16 t.zs]) ::
        (x.b, .tab 126 x.base x.N [.raws x.ps]) :: (bi, .cells (it.cells (w.val it.body.length)) 128) :: (w.b, .tab 5 w.base w.N [.ints .u8 w.zs]) :: (t.G ++ (L2 ++ (L3 ++ w.G)))) := by
  obtain ⟨mi, mn, tv, fi, fn, Lt, Li, hp, h1, h2, h3⟩ := hq
  rw [hl] at h1 h2
  rcases h1 with ⟨e, -⟩ | ⟨t, t1, rfl, t3⟩
  · simp at e
  · obtain ⟨v, L1, L2, k1, k2, ⟨x, x1, rfl, x3⟩, k4, k5⟩ := lines_out (A := []) h2
    obtain ⟨La, L3, y1, ⟨bi, v, L4, y2, ⟨w, w1, rfl, w3⟩, y4⟩, y3⟩ := lx_head x1
    refine ⟨mi, mn, fi, fn, t, x, w, bi, L2, L3, by simpa using t1, x1, by simpa using k1, y2, w1, by simpa using k4, by simpa using k5, h3, y3, ?_⟩
    refine perm_of_sums fun f => ?_
    have e1 := perm_sum hp f
    have e2 := perm_sum k2 f
    have e3 := perm_sum x3 f
    have e4 := perm_sum y1 f
    have e5 := perm_sum y4 f
    have e6 := perm_sum w3 f
    have e7 := perm_sum t3 f
    simp only [List.length_map, List.length_cons] at e1
    simp only [List.map_append, List.map_cons, List.map_nil, List.sum_append, List.sum_cons, List.sum_nil, List.append_assoc, List.cons_append, List.nil_append] at *
    omega
def NxR (q : SQ) (b : Nat) (most : Int) (r : Value) (L : Blks) : Prop := ∃ (sl : Sl) (La Lb : Blks), r = (nextF q most).1.val sl ∧ L.Perm (La ++ Lb) ∧ SQAt (nextF q most).2 b La ∧ WinNil 5 .u8 (nextF q most).1.body (.slice sl.o sl.l sl.c) Lb
theorem nxR_mk {q q' : SQ} {b : Nat} {most : Int} {c : Ch} (he : nextF q most = (c, q')) {mi mn : Nat} {tv : Value} {fi fn : Value → Option Value} {Lt Li Lb E L : Blks} {sl : Sl} (ht : WinNil 27 .u16 (q'.lines.map Prod.fst) tv Lt) (hl : LinesAt q'.lines fi Li)
    (hn : NumsAt q'.nums fn) (hb : WinNil 5 .u8 c.body (.slice sl.o sl.l sl.c) Lb)
    (hp : L.Perm ((b, .cells [.bool q'.inter, .map (some mi), tv, .bool q'.held, .map (some mn), .int .i64 q'.all] 123) :: (mi, .map (.one (.int .u16)) fi none) :: (mn, .map (.many [.int .u16, .bool]) fn none) :: (Lt ++ (Li ++ (Lb ++ E))))) : NxR q b most (c.val sl) L := by
  refine ⟨sl, (b, .cells [.bool q'.inter, .map (some mi), tv, .bool q'.held, .map (some mn), .int .i64 q'.all] 123) :: (mi, .map (.one (.int .u16)) fi none) :: (mn, .map (.many [.int .u16, .bool]) fn none) :: (Lt ++ (Li ++ E)), Lb, by rw [he], ?_, by rw [he]; exact ⟨mi, mn, tv, fi, fn, Lt, Li ++ E, List.Perm.refl _, ht, hl.more E, hn⟩, by rw [he]; exact hb⟩
  refine perm_of_sums fun f => ?_
  have e1 := perm_sum hp f
  simp only [List.map_append, List.map_cons, List.map_nil, List.sum_append, List.sum_cons, List.sum_nil, List.append_assoc, List.cons_append, List.nil_append] at *
  omega
end Go.Proofs.Ythkcfocoekonjaa
