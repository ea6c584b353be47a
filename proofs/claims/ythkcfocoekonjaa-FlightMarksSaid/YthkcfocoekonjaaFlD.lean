/- Flights: what must be answered ahead of everything else. -/
import Derived.Test.YthkcfocoekonjaaFlC
set_option maxRecDepth 100000
set_option linter.unusedVariables false
set_option linter.unusedSimpArgs false
namespace Go.Proofs.Ythkcfocoekonjaa
open Go Go.Sx
attribute [local irreducible] Go.Sx.xrun

noncomputable def ffGoal (R : Value → Prop) : Prop :=
  xrun Go.Proofs.Try.prog [(20, newfT), (21, sendT), (22, markT), (23, leftT), (24, ackT), (52, awayT), (53, nextfT)] [] [([], (37, true)), ([], (42, true)), ([], (46, true)), ([], (51, true)), ([], (56, true)), ([], (60, true)), ([], (65, true)), ([], (70, true)), ([], (75, true))] 9 [] 19
    [] [.chunk []] fun s h => R (den (locs h) s)

def f0 : Fl := ⟨4, []⟩
def f1 : Fl := ⟨4, [⟨2, 1, 10, 0, 0⟩]⟩
def f2 : Fl := ⟨4, [⟨2, 1, 10, 0, 0⟩, ⟨1, 1, 10, 0, 0⟩]⟩
def f3 : Fl := ⟨4, [⟨2, 1, 10, 0, 0⟩, ⟨1, 1, 10, 0, 0⟩, ⟨1, 1, 10, 0, 0⟩]⟩
def f4 : Fl := ⟨5, [⟨1, 1, 10, 1, 0⟩, ⟨1, 1, 10, 0, 2⟩]⟩
def s1 (b : Nat) : Sk := ⟨3, 5, some ⟨b, 0, none⟩, 1, 1⟩
def s2 : Sk := ⟨3, 8, none, 0, 0⟩
theorem not_bad1 (b : Nat) : ¬ badP f3 (s1 b) [(2, 2)] := by
  show ¬ ((3 : Int) ≠ 3 ∨ ¬ IntKind.wrap .u32 (5 - 4) ≤ IntKind.wrap .u32 (lastN 4 3 - 4) ∨ gapsBad (IntKind.wrap .u32 (lastN 4 3 - 5)) 0 [(2, 2)])
  simp only [gapsBad]
  decide
theorem bad2 : badP f4 s2 [] := by
  show (3 : Int) ≠ 3 ∨ ¬ IntKind.wrap .u32 (8 - 5) ≤ IntKind.wrap .u32 (lastN 5 2 - 5) ∨ gapsBad (IntKind.wrap .u32 (lastN 5 2 - 8)) 0 []
  simp only [gapsBad]
  decide
theorem ack1 (b : Nat) : ackF f3 (s1 b) [(2, 2)] 14 = ⟨3, true, false, 4, false, f4⟩ := by
  unfold ackF
  rw [if_neg (not_bad1 b)]
  kernel_rfl
theorem ack2 : ackF f4 s2 [] 14 = ⟨0, false, false, -1, true, f4⟩ := by
  unfold ackF
  rw [if_pos bad2]
theorem body_lit {b n : Nat} {kind : Int} {l : List Int} (h : l.length = n) : BodyAt ⟨kind, b, 0, n, n⟩ [(b, .tab 5 0 n [.ints .u8 l])] := by
  refine ⟨l, 5, 0, n, [.ints .u8 l], 0, by simp, by simp, by simp, ?_⟩
  simp only [List.map_cons, List.map_nil, winOf, List.drop_zero]
  rw [← h, List.take_length]
theorem gaps_nil {s : Sk} (h : s.gl = 0) (L : Blks) : GapsAt [] s L := ⟨h, fun i g hg => by simp at hg⟩
theorem ff_goal (R : Value → Prop) (hR : R (.bool true)) : ffGoal R :=
  Eq.mpr (by kernel_rfl) (show
  ∃ (x : Int), ∃ (L : List (Nat × Blk)), ∃ (G : List (Nat × Blk)), List.Perm [] (L ++ G) ∧ NwfPre x [Value.int IntKind.u32 (5 : Int)] L ∧ ∀ (a : Nat) (L' : List (Nat × Blk)), NwfPost x a L' → ∀ (b : Nat), Value.oneCell' (Value.int IntKind.u8 (97 : Int)) = Bool.true ∧ Value.oneCell' (Value.int IntKind.u8 (98 : Int)) = Bool.true ∧ ∃ (x : SnX), ∃ (L : List (Nat × Blk)), ∃ (G_1 : List (Nat × Blk)), List.Perm (L' ++ G ++ [(b, Blk.tab (5 : Nat) (0 : Nat) (2 : Nat) [Col.ints IntKind.u8 [(97 : Int), (98 : Int)]])]) (L ++ G_1) ∧ SnPre x
  [Value.pointer (Option.some { block := a, off := (0 : Nat) }), Value.int IntKind.i64 (1 : Int), Value.agg #[Value.int IntKind.i64 (0 : Int), Value.int IntKind.u32 (0 : Int)], Value.agg #[Value.int IntKind.u8 (64 : Int), Value.bool Bool.false, Value.bool Bool.false, Value.bool Bool.false, Value.bool Bool.false, Value.int IntKind.u32 (0 : Int), Value.int IntKind.u16 (0 : Int), Value.int IntKind.u32 (0 : Int), Value.int IntKind.u32 (0 : Int), Value.int IntKind.u32 (0 : Int), Value.int IntKind.u32 (0 : Int), Value.int IntKind.u32 (0 : Int), Value.int IntKind.u16 (0 : Int),
  Value.int IntKind.u16 (0 : Int), Value.slice Option.none (0 : Nat) (0 : Nat), Value.slice Option.none (0 : Nat) (0 : Nat), Value.slice Option.none (0 : Nat) (0 : Nat), Value.slice Option.none (0 : Nat) (0 : Nat), Value.slice (Option.some { block := b, off := (0 : Nat) * (1 : Nat) }) (2 : Nat) (2 : Nat)], Value.int IntKind.u32 (10 : Int)] L ∧ ∀ (a_2 : SnA) (L' : List (Nat × Blk)), SnPost x a_2 L' → ∀ (b : Nat), Value.oneCell' (Value.int IntKind.u8 a_2.1) = Bool.true ∧ Value.oneCell' (Value.bool Bool.false) = Bool.true ∧ Value.oneCell' (Value.bool Bool.false) = Bool.true ∧
  Value.oneCell' (Value.bool Bool.false) = Bool.true ∧ Value.oneCell' (Value.bool Bool.false) = Bool.true ∧ Value.oneCell' (Value.int IntKind.u32 a_2.2) = Bool.true ∧ Value.oneCell' (Value.int IntKind.u16 (0 : Int)) = Bool.true ∧ Value.oneCell' (Value.int IntKind.u32 (0 : Int)) = Bool.true ∧ Value.oneCell' (Value.int IntKind.u32 (0 : Int)) = Bool.true ∧ Value.oneCell' (Value.int IntKind.u32 (0 : Int)) = Bool.true ∧ Value.oneCell' (Value.int IntKind.u32 (0 : Int)) = Bool.true ∧ Value.oneCell' (Value.int IntKind.u32 (0 : Int)) = Bool.true ∧
  Value.oneCell' (Value.int IntKind.u16 (0 : Int)) = Bool.true ∧ Value.oneCell' (Value.int IntKind.u16 (0 : Int)) = Bool.true ∧ Value.oneCell' (Value.slice Option.none (0 : Nat) (0 : Nat)) = Bool.true ∧ Value.oneCell' (Value.slice Option.none (0 : Nat) (0 : Nat)) = Bool.true ∧ Value.oneCell' (Value.slice Option.none (0 : Nat) (0 : Nat)) = Bool.true ∧ Value.oneCell' (Value.slice Option.none (0 : Nat) (0 : Nat)) = Bool.true ∧ Value.oneCell' (Value.slice a_2.3 a_2.4 a_2.5) = Bool.true ∧ ∀ (b : Nat), Value.oneCell' (Value.int IntKind.u8 (99 : Int)) = Bool.true ∧ ∃ (x : SnX),
  ∃ (L : List (Nat × Blk)), ∃ (G : List (Nat × Blk)), List.Perm (L' ++ G_1 ++ [(b, Blk.tab (5 : Nat) (0 : Nat) (1 : Nat) [Col.ints IntKind.u8 [(99 : Int)]])]) (L ++ G) ∧ SnPre x [Value.pointer (Option.some { block := a, off := (0 : Nat) }), Value.int IntKind.i64 (1 : Int), Value.agg #[Value.int IntKind.i64 (0 : Int), Value.int IntKind.u32 (0 : Int)], Value.agg #[Value.int IntKind.u8 (64 : Int), Value.bool Bool.false, Value.bool Bool.false, Value.bool Bool.false, Value.bool Bool.false, Value.int IntKind.u32 (0 : Int), Value.int IntKind.u16 (0 : Int), Value.int IntKind.u32 (0 : Int),
  Value.int IntKind.u32 (0 : Int), Value.int IntKind.u32 (0 : Int), Value.int IntKind.u32 (0 : Int), Value.int IntKind.u32 (0 : Int), Value.int IntKind.u16 (0 : Int), Value.int IntKind.u16 (0 : Int), Value.slice Option.none (0 : Nat) (0 : Nat), Value.slice Option.none (0 : Nat) (0 : Nat), Value.slice Option.none (0 : Nat) (0 : Nat), Value.slice Option.none (0 : Nat) (0 : Nat), Value.slice (Option.some { block := b, off := (0 : Nat) * (1 : Nat) }) (1 : Nat) (1 : Nat)], Value.int IntKind.u32 (10 : Int)] L ∧ ∀ (a_4 : SnA) (L' : List (Nat × Blk)), SnPost x a_4 L' → ∀ (b : Nat),
  Value.oneCell' (Value.int IntKind.u8 (100 : Int)) = Bool.true ∧ ∃ (x : SnX), ∃ (L : List (Nat × Blk)), ∃ (G_2 : List (Nat × Blk)), List.Perm (L' ++ G ++ [(b, Blk.tab (5 : Nat) (0 : Nat) (1 : Nat) [Col.ints IntKind.u8 [(100 : Int)]])]) (L ++ G_2) ∧ SnPre x [Value.pointer (Option.some { block := a, off := (0 : Nat) }), Value.int IntKind.i64 (1 : Int), Value.agg #[Value.int IntKind.i64 (0 : Int), Value.int IntKind.u32 (0 : Int)], Value.agg #[Value.int IntKind.u8 (64 : Int), Value.bool Bool.false, Value.bool Bool.false, Value.bool Bool.false, Value.bool Bool.false,
  Value.int IntKind.u32 (0 : Int), Value.int IntKind.u16 (0 : Int), Value.int IntKind.u32 (0 : Int), Value.int IntKind.u32 (0 : Int), Value.int IntKind.u32 (0 : Int), Value.int IntKind.u32 (0 : Int), Value.int IntKind.u32 (0 : Int), Value.int IntKind.u16 (0 : Int), Value.int IntKind.u16 (0 : Int), Value.slice Option.none (0 : Nat) (0 : Nat), Value.slice Option.none (0 : Nat) (0 : Nat), Value.slice Option.none (0 : Nat) (0 : Nat), Value.slice Option.none (0 : Nat) (0 : Nat), Value.slice (Option.some { block := b, off := (0 : Nat) * (1 : Nat) }) (1 : Nat) (1 : Nat)],
  Value.int IntKind.u32 (10 : Int)] L ∧ ∀ (a_6 : SnA) (L' : List (Nat × Blk)), SnPost x a_6 L' → ∀ (b : Nat), ∃ (x : AkY), ∃ (L : List (Nat × Blk)), ∃ (G : List (Nat × Blk)), List.Perm (L' ++ G_2 ++ [(b, Blk.cells [Value.int IntKind.u16 (2 : Int), Value.int IntKind.u16 (2 : Int)] (54 : Nat))]) (L ++ G) ∧ AkPre x [Value.pointer (Option.some { block := a, off := (0 : Nat) }), Value.agg #[Value.int IntKind.u8 (3 : Int), Value.bool Bool.false, Value.bool Bool.false, Value.bool Bool.false, Value.bool Bool.false, Value.int IntKind.u32 (5 : Int), Value.int IntKind.u16 (0 : Int),
  Value.int IntKind.u32 (0 : Int), Value.int IntKind.u32 (0 : Int), Value.int IntKind.u32 (0 : Int), Value.int IntKind.u32 (0 : Int), Value.int IntKind.u32 (0 : Int), Value.int IntKind.u16 (0 : Int), Value.int IntKind.u16 (0 : Int), Value.slice (Option.some { block := b, off := (0 : Nat) * (2 : Nat) }) (1 : Nat) (1 : Nat), Value.slice Option.none (0 : Nat) (0 : Nat), Value.slice Option.none (0 : Nat) (0 : Nat), Value.slice Option.none (0 : Nat) (0 : Nat), Value.slice Option.none (0 : Nat) (0 : Nat)], Value.int IntKind.u32 (14 : Int)] L ∧ ∀ (a_8 : AO) (L' : List (Nat × Blk)), AkPost x a_8 L' →
  ∀ (b : Nat), Value.oneCell' (Value.int IntKind.i64 a_8.1) = Bool.true ∧ Value.oneCell' (Value.bool a_8.2) = Bool.true ∧ Value.oneCell' (Value.bool a_8.3) = Bool.true ∧ Value.oneCell' (Value.int IntKind.i64 a_8.4) = Bool.true ∧ Value.oneCell' (Value.bool a_8.5) = Bool.true ∧ ∃ (x : AkY), ∃ (L : List (Nat × Blk)), ∃ (G_3 : List (Nat × Blk)), List.Perm (L' ++ G) (L ++ G_3) ∧ AkPre x [Value.pointer (Option.some { block := a, off := (0 : Nat) }), Value.agg #[Value.int IntKind.u8 (3 : Int), Value.bool Bool.false, Value.bool Bool.false, Value.bool Bool.false, Value.bool Bool.false,
  Value.int IntKind.u32 (8 : Int), Value.int IntKind.u16 (0 : Int), Value.int IntKind.u32 (0 : Int), Value.int IntKind.u32 (0 : Int), Value.int IntKind.u32 (0 : Int), Value.int IntKind.u32 (0 : Int), Value.int IntKind.u32 (0 : Int), Value.int IntKind.u16 (0 : Int), Value.int IntKind.u16 (0 : Int), Value.slice Option.none (0 : Nat) (0 : Nat), Value.slice Option.none (0 : Nat) (0 : Nat), Value.slice Option.none (0 : Nat) (0 : Nat), Value.slice Option.none (0 : Nat) (0 : Nat), Value.slice Option.none (0 : Nat) (0 : Nat)], Value.int IntKind.u32 (14 : Int)] L ∧ ∀ (a_10 : AO)
  (L' : List (Nat × Blk)), AkPost x a_10 L' → ∀ (b : Nat), Value.oneCell' (Value.int IntKind.i64 a_10.1) = Bool.true ∧ Value.oneCell' (Value.bool a_10.2) = Bool.true ∧ Value.oneCell' (Value.bool a_10.3) = Bool.true ∧ Value.oneCell' (Value.int IntKind.i64 a_10.4) = Bool.true ∧ Value.oneCell' (Value.bool a_10.5) = Bool.true ∧ a_2.2 = (5 : Int) ∧ a_8.1 = (3 : Int) ∧ a_8.2 = Bool.true ∧ a_8.4 = (4 : Int) ∧ a_8.5 = Bool.false ∧ a_10.5 = Bool.true ∧ ∃ (x : Fl × Nat), FlPreS x [Value.pointer (Option.some { block := a, off := (0 : Nat) })] (L' ++ G_3) ∧ awayF x.1.2 = (1 : Int) ∧ ∃ (x : Fl × Nat),
  FlPreS x [Value.pointer (Option.some { block := a, off := (0 : Nat) })] (L' ++ G_3) ∧ leftF x.1.2 = (1 : Int) ∧ ∃ (x : Fl × Nat), FlPre x [Value.pointer (Option.some { block := a, off := (0 : Nat) })] (L' ++ G_3) ∧ nextN x.1.1 (List.length x.1.2) = (8 : Int) ∧ ∃ (x : Fl × Nat), FlPre x [Value.pointer (Option.some { block := a, off := (0 : Nat) })] (L' ++ G_3) ∧ R (Value.bool (pbool (x.1.1 = (5 : Int)))) from by
  simp only [eq_self, true_and, and_true, false_and, and_false, or_false, false_or, and_self, Nat.zero_add, Nat.add_zero, Nat.sub_zero, Nat.zero_mul, Nat.mul_one, Int.toNat_natCast, cond_true, cond_false, forall_const, implies_true, Nat.beq_refl, ne_eq, not_false_eq_true, not_true_eq_false, Classical.not_not, List.cons.injEq, List.append_nil, List.nil_append, Go.Value.int.injEq, Go.Value.bool.injEq, Go.Value.slice.injEq, Nat.le_refl, Nat.zero_le, Go.Sx.one_int, Go.Sx.one_bool, Go.Sx.one_slice, Go.Sx.one_ptr, Go.Sx.one_map, Int.cast_ofNat_Int, reduceCtorEq, Nat.reduceLeDiff, Nat.reduceMul, Nat.reduceAdd, Nat.reduceSub, Nat.reduceEqDiff, Int.reduceLE, Int.reduceLT, Int.reduceEq, Int.reduceAdd, Int.reduceSub, Int.reduceNeg, Int.reduceMul, Nat.reduceBEq]
  refine ⟨5, [], [], List.Perm.refl _, ⟨rfl, rfl⟩, fun b L0 h0 b1 => ⟨⟨f0, b, ⟨1, 0, 0, 10⟩, ⟨64, b1, 0, 2, 2⟩⟩, L0 ++ [(b1, .tab 5 0 2 [.ints .u8 [97, 98]])], [], by simp, ⟨rfl, ⟨(show 2 ≤ 1000000 by decide), (show 0 < 1000000 by decide)⟩, L0, _, List.Perm.refl _, h0, body_lit (l := [97, 98]) (n := 2) rfl⟩, fun a1 L1 h1 b2 => ?_⟩⟩
  refine ⟨⟨f1, b, ⟨1, 0, 0, 10⟩, ⟨64, b2, 0, 1, 1⟩⟩, L1 ++ [(b2, .tab 5 0 1 [.ints .u8 [99]])], [], by simp, ⟨rfl, ⟨(show 1 ≤ 1000000 by decide), (show 1 < 1000000 by decide)⟩, L1, _, List.Perm.refl _, h1.2, body_lit (l := [99]) (n := 1) rfl⟩, fun a2 L2 h2 b3 => ?_⟩
  refine ⟨⟨f2, b, ⟨1, 0, 0, 10⟩, ⟨64, b3, 0, 1, 1⟩⟩, L2 ++ [(b3, .tab 5 0 1 [.ints .u8 [100]])], [], by simp, ⟨rfl, ⟨(show 1 ≤ 1000000 by decide), (show 2 < 1000000 by decide)⟩, L2, _, List.Perm.refl _, h2.2, body_lit (l := [100]) (n := 1) rfl⟩, fun a3 L3 h3 b4 => ?_⟩
  refine ⟨⟨f3, b, s1 b4, [(2, 2)], 14⟩, L3 ++ [(b4, .cells [.int .u16 2, .int .u16 2] 54)], [], by simp, ⟨rfl, ⟨(show 3 < 1000000 by decide), (show 1 < 1000000 by decide), fun g hg => ?_⟩, L3, _, List.Perm.refl _, h3.2, ?_⟩, fun a4 L4 h4 => ?_⟩
  · simp at hg; subst hg; decide
  · refine ⟨rfl, fun i g hg => ?_⟩
    match i, hg with
    | 0, hg =>
      cases hg
      exact ⟨b4, 0, rfl, rc (t := 54) (List.mem_singleton.2 rfl) rfl, rc (t := 54) (List.mem_singleton.2 rfl) rfl⟩
  obtain ⟨e4, h4, -⟩ := h4
  rw [e4, ack1] at h4
  refine ⟨⟨f4, b, s2, [], 14⟩, L4, [], by simp, ⟨rfl, ⟨(show 2 < 1000000 by decide), (show 0 < 1000000 by decide), fun g hg => by simp at hg⟩, L4, [], by simp, h4, gaps_nil rfl _⟩, fun a5 L5 h5 => ?_⟩
  obtain ⟨e5, h5, -⟩ := h5
  rw [e5, ack2] at h5
  rw [ack1] at e4
  rw [ack2] at e5
  have hsm : ∀ p ∈ f4.ps, p.len ≤ 1000000 := by
    intro p hp
    simp [f4] at hp
    rcases hp with rfl | rfl <;> decide
  have h6 : FlAt f4 b (L5 ++ []) := h5.more []
  refine ⟨h1.1.2.1, by rw [e4], by rw [e4], by rw [e4], by rw [e4], by rw [e5], ⟨f4, b⟩, ⟨rfl, h6, (show 2 < 1000000 by decide), hsm⟩, (show awayF f4.ps = 1 by decide), ⟨f4, b⟩, ⟨rfl, h6, (show 2 < 1000000 by decide), hsm⟩, ?_, ⟨f4, b⟩, ⟨rfl, h6⟩, (show nextN f4.mark f4.ps.length = 8 by decide), ⟨f4, b⟩, ⟨rfl, h6⟩, ?_⟩
  · simp [leftF, openP, f4]
  · simpa [pbool, f4] using hR)
def FfPre (_ : Unit) (vs : List Value) (L : Blks) : Prop := vs = [] ∧ L = []
def FfPost (_ : Unit) (_ : Unit) (_ : Blks) : Prop := True
noncomputable def firstfT : Trans := chunkR (X := Unit) (A := Unit) (fun _ => .tt) FfPre FfPost
theorem flight_sound : ∀ p ∈ [(20, newfT), (21, sendT), (22, markT), (23, leftT), (24, ackT), (52, awayT), (53, nextfT)], SoundT Go.Proofs.Try.prog p.1 p.2 := by
  intro p hp
  simp only [List.mem_cons, List.not_mem_nil, or_false] at hp
  rcases hp with rfl | rfl | rfl | rfl | rfl | rfl | rfl
  · exact newfT_sound
  · exact sendT_sound
  · exact markT_sound
  · exact leftT_sound
  · exact ackT_sound
  · exact awayT_sound
  · exact nextfT_sound
theorem firstf_triple : Triple Go.Proofs.Try.prog 19 [] [] fun v _ => v = .bool true :=
  triple_of_run (R := fun v _ => v = .bool true) (h := [.chunk []]) (args := []) (vs := []) (L := []) (run_with flight_sound _ _ _ _ _) (fun r => by simp [denL]) (fun r => by simp [owned, Ent.blocks]) (by simp) (ff_goal (fun v => v = .bool true) rfl)
theorem firstfT_sound : SoundT Go.Proofs.Try.prog 19 firstfT := chunkR_sound (val := fun _ => .bool true) ⟨Go.Proofs.Try.f19, Go.Proofs.Try.func19, by kernel_rfl, by kernel_rfl⟩ (fun a ρ => rfl) (fun a => by simp) fun x vs L ⟨h1, h2⟩ => by
  subst h1 h2
  exact firstf_triple.mono (List.Perm.refl _) fun v L' h => ⟨(), h, trivial⟩
end Go.Proofs.Ythkcfocoekonjaa
