/- Joiners: what must be answered first. -/
import Derived.Test.YtpjikjhaljennaaJoO
set_option maxRecDepth 100000
set_option linter.unusedVariables false
set_option linter.unusedSimpArgs false
namespace Go.Proofs.Ytpjikjhaljennaa
open Go Go.Sx
attribute [local irreducible] Go.Sx.xrun

open Classical
theorem jbt1 (b : Nat) (z : Int) (M : Blks) (h : (b, Blk.tab 5 0 1 [Col.ints IntKind.u8 [z]]) ∈ M) : Bts M (some ⟨b, 0, none⟩) 1 [z] ∧ 1 ≤ 1 ∧ 0 < 1 ∧ 1 ≤ 100000 := ⟨Bts.tab h rfl (Nat.le_refl _) rfl, by decide, by decide, by decide⟩
theorem jf_goal : jfGoal :=
  Eq.mpr (by kernel_rfl) (show
  ∃ (x : Bool), ∃ (L : List (Nat × Blk)), ∃ (G : List (Nat × Blk)), List.Perm [] (L ++ G) ∧ JnPre x [Value.bool Bool.true] L ∧ ∀ (a : Nat) (L' : List (Nat × Blk)), JnPost x a L' → ∀ (b : Nat), Value.oneCell' (Value.int IntKind.u8 (120 : Int)) = Bool.true ∧ ∃ (x : PtY), ∃ (L : List (Nat × Blk)), ∃ (G_1 : List (Nat × Blk)), List.Perm (L' ++ G ++ [(b, Blk.tab (5 : Nat) (0 : Nat) (1 : Nat) [Col.ints IntKind.u8 [(120 : Int)]])]) (L ++ G_1) ∧ JptPre x [Value.pointer (Option.some { block := a, off := (0 : Nat) }), Value.agg
  #[Value.int IntKind.u8 (64 : Int), Value.bool Bool.true, Value.bool Bool.true, Value.bool Bool.false, Value.bool Bool.false, Value.int IntKind.u32 (0 : Int), Value.int IntKind.u16 (1 : Int), Value.int IntKind.u32 (1 : Int), Value.int IntKind.u32 (0 : Int), Value.int IntKind.u32 (0 : Int), Value.int IntKind.u32 (0 : Int), Value.int IntKind.u32 (0 : Int), Value.int IntKind.u16 (0 : Int), Value.int IntKind.u16 (0 : Int), Value.slice Option.none (0 : Nat) (0 : Nat), Value.slice Option.none (0 : Nat) (0 : Nat),
  Value.slice Option.none (0 : Nat) (0 : Nat), Value.slice Option.none (0 : Nat) (0 : Nat), Value.slice (Option.some { block := b, off := (0 : Nat) * (1 : Nat) }) (1 : Nat) (1 : Nat)]] L ∧ ∀ (a_2 : Bool) (L' : List (Nat × Blk)), JptPost x a_2 L' → ∃ (x : JX), ∃ (L : List (Nat × Blk)), ∃ (G : List (Nat × Blk)), List.Perm (L' ++ G_1) (L ++ G) ∧ JtPre x [Value.pointer (Option.some { block := a, off := (0 : Nat) })] L ∧ ∀ (a_4 : TkA) (L' : List (Nat × Blk)), JtPost x a_4 L' → ∀ (b : Nat), Value.oneCell' (Value.int IntKind.u16 a_4.1.1) = Bool.true ∧ Value.oneCell' (Value.bool a_4.1.2) = Bool.true ∧
  Value.oneCell' (Value.int IntKind.u32 a_4.1.3) = Bool.true ∧ Value.oneCell' (Value.int IntKind.u32 a_4.1.4) = Bool.true ∧ ∀ (b : Nat), Value.oneCell' (Value.int IntKind.u8 (97 : Int)) = Bool.true ∧ ∃ (x : PtY), ∃ (L : List (Nat × Blk)), ∃ (G_2 : List (Nat × Blk)), List.Perm (L' ++ G ++ [(b, Blk.tab (5 : Nat) (0 : Nat) (1 : Nat) [Col.ints IntKind.u8 [(97 : Int)]])]) (L ++ G_2) ∧ JptPre x [Value.pointer (Option.some { block := a, off := (0 : Nat) }), Value.agg #[Value.int IntKind.u8 (64 : Int), Value.bool Bool.true, Value.bool Bool.false, Value.bool Bool.false,
  Value.bool Bool.false, Value.int IntKind.u32 (0 : Int), Value.int IntKind.u16 (1 : Int), Value.int IntKind.u32 (0 : Int), Value.int IntKind.u32 (0 : Int), Value.int IntKind.u32 (0 : Int), Value.int IntKind.u32 (0 : Int), Value.int IntKind.u32 (0 : Int), Value.int IntKind.u16 (0 : Int), Value.int IntKind.u16 (0 : Int), Value.slice Option.none (0 : Nat) (0 : Nat), Value.slice Option.none (0 : Nat) (0 : Nat), Value.slice Option.none (0 : Nat) (0 : Nat), Value.slice Option.none (0 : Nat) (0 : Nat), Value.slice (Option.some { block := b, off := (0 : Nat) * (1 : Nat) }) (1 : Nat) (1 : Nat)]] L ∧
  ∀ (a_6 : Bool) (L' : List (Nat × Blk)), JptPost x a_6 L' → ∀ (b : Nat), Value.oneCell' (Value.int IntKind.u8 (98 : Int)) = Bool.true ∧ ∃ (x : PtY), ∃ (L : List (Nat × Blk)), ∃ (G : List (Nat × Blk)), List.Perm (L' ++ G_2 ++ [(b, Blk.tab (5 : Nat) (0 : Nat) (1 : Nat) [Col.ints IntKind.u8 [(98 : Int)]])]) (L ++ G) ∧ JptPre x [Value.pointer (Option.some { block := a, off := (0 : Nat) }), Value.agg #[Value.int IntKind.u8 (64 : Int), Value.bool Bool.false, Value.bool Bool.true, Value.bool Bool.false, Value.bool Bool.false, Value.int IntKind.u32 (0 : Int),
  Value.int IntKind.u16 (1 : Int), Value.int IntKind.u32 (0 : Int), Value.int IntKind.u32 (0 : Int), Value.int IntKind.u32 (1 : Int), Value.int IntKind.u32 (0 : Int), Value.int IntKind.u32 (0 : Int), Value.int IntKind.u16 (0 : Int), Value.int IntKind.u16 (0 : Int), Value.slice Option.none (0 : Nat) (0 : Nat), Value.slice Option.none (0 : Nat) (0 : Nat), Value.slice Option.none (0 : Nat) (0 : Nat), Value.slice Option.none (0 : Nat) (0 : Nat), Value.slice (Option.some { block := b, off := (0 : Nat) * (1 : Nat) }) (1 : Nat) (1 : Nat)]] L ∧ ∀ (a_8 : Bool) (L' : List (Nat × Blk)),
  JptPost x a_8 L' → ∃ (x : JX), ∃ (L : List (Nat × Blk)), ∃ (G_3 : List (Nat × Blk)), List.Perm (L' ++ G) (L ++ G_3) ∧ JtPre x [Value.pointer (Option.some { block := a, off := (0 : Nat) })] L ∧ ∀ (a_10 : TkA) (L' : List (Nat × Blk)), JtPost x a_10 L' → ∀ (b : Nat), Value.oneCell' (Value.int IntKind.u16 a_10.1.1) = Bool.true ∧ Value.oneCell' (Value.bool a_10.1.2) = Bool.true ∧ Value.oneCell' (Value.int IntKind.u32 a_10.1.3) = Bool.true ∧ Value.oneCell' (Value.int IntKind.u32 a_10.1.4) = Bool.true ∧ (a_2 = Bool.true → (a_6 = Bool.true → (a_8 = Bool.true → (a_4.3 = Bool.false →
  (a_10.3 = Bool.true → ∃ (xs : List Int), (List.length xs = a_10.2.2 ∧ ((0 : Nat) < a_10.2.2 → ∃ (b : Nat), ∃ (x0 : Nat), a_10.2.1 = Option.some { block := b, off := x0 } ∧ ∀ (i : Nat), i < a_10.2.2 → rawCell (L' ++ G_3) b (x0 + i) (Value.int IntKind.u8 (List.getD xs i (0 : Int))))) ∧ (ByteArray.toList (ByteArray.mk (List.toArray (List.map (fun (n : Int) => UInt8.ofNat (Int.toNat n)) (List.take a_10.2.2 xs)))) = ByteArray.toList (ByteArray.mk (#[(97 : UInt8), (98 : UInt8)])) → ∃ (x : JX), ∃ (L : List (Nat × Blk)), ∃ (G : List (Nat × Blk)), List.Perm (L' ++ G_3) (L ++ G) ∧ JhdPre x [Value.pointer
  (Option.some { block := a, off := (0 : Nat) })] L ∧ ∀ (a : Int) (L' : List (Nat × Blk)), JhdPost x a L' → a = (1 : Int)) ∧ (¬ByteArray.toList (ByteArray.mk (List.toArray (List.map (fun (n : Int) => UInt8.ofNat (Int.toNat n)) (List.take a_10.2.2 xs)))) = ByteArray.toList (ByteArray.mk (#[(97 : UInt8), (98 : UInt8)])) → False)) ∧ (¬a_10.3 = Bool.true → False)) ∧ (¬a_4.3 = Bool.false → False)) ∧ (¬a_8 = Bool.true → False)) ∧ (¬a_6 = Bool.true → False)) ∧ (¬a_2 = Bool.true → False) from by
  simp only [eq_self, true_and, and_true, false_and, and_false, or_false, false_or, and_self, Nat.zero_add, Nat.add_zero, Nat.sub_zero, Nat.zero_mul, Nat.mul_one, Int.toNat_natCast, cond_true, cond_false, forall_const, implies_true, Nat.beq_refl, ne_eq, not_false_eq_true, not_true_eq_false, Classical.not_not, List.cons.injEq, List.append_nil, List.nil_append, Go.Value.int.injEq, Go.Value.bool.injEq, Go.Value.slice.injEq, Nat.le_refl, Nat.zero_le, Go.Sx.one_int, Go.Sx.one_bool, Go.Sx.one_slice, Go.Sx.one_ptr, Go.Sx.one_map, Int.cast_ofNat_Int, reduceCtorEq, Nat.reduceLeDiff, Nat.reduceMul, Nat.reduceAdd, Nat.reduceSub, Nat.reduceEqDiff, Int.reduceLE, Int.reduceLT, Int.reduceEq, Int.reduceAdd, Int.reduceSub, Int.reduceNeg, Int.reduceMul, Nat.reduceBEq]
  refine ⟨true, [], [], List.Perm.refl _, ⟨rfl, rfl⟩, fun b L1 hJ b1 => ?_⟩
  have J0 : JAt jq0 b [(b1, Blk.tab 5 0 1 [Col.ints IntKind.u8 [120]])] (L1 ++ [(b1, Blk.tab 5 0 1 [Col.ints IntKind.u8 [120]])]) := by
    have := JAt.more hJ [(b1, Blk.tab 5 0 1 [Col.ints IntKind.u8 [120]])]
    exact this
  refine ⟨⟨jq0, b, _, jc1, ⟨some ⟨b1, 0, none⟩, 1, 1⟩, true, jq1⟩, _, [], by simp, ⟨rfl, J0, jbt1 b1 120 _ (by simp), jp1, (by show 0 + 0 < 1000000000; decide)⟩, fun r1 L2 ⟨hr1, N2, J1⟩ => ?_⟩
  refine ⟨⟨jq1, b, _⟩, _, [], by simp, ⟨rfl, J1⟩, fun t L3 ht b2 => ?_⟩
  obtain ⟨N3, ⟨-, et, J2⟩ | ⟨r, h, -⟩⟩ := ht
  · generalize hP : ([(b1, Blk.tab 5 0 1 [Col.ints IntKind.u8 [120]])] ++ N2 ++ N3 : Blks) = P at J2
    have J2' : JAt jq1 b (P ++ [(b2, Blk.tab 5 0 1 [Col.ints IntKind.u8 [97]])]) (L3 ++ [(b2, Blk.tab 5 0 1 [Col.ints IntKind.u8 [97]])]) := by
      have := JAt.more (q := jq1) (b := b) (G := P) (L := L3) (by rw [← hP]; exact hP ▸ J2) [(b2, Blk.tab 5 0 1 [Col.ints IntKind.u8 [97]])]
      exact this
    refine ⟨⟨jq1, b, _, jc2, ⟨some ⟨b2, 0, none⟩, 1, 1⟩, true, jq2⟩, _, [], by simp, ⟨rfl, J2', jbt1 b2 97 _ (by simp), jp2, (by show 0 + 1 < 1000000000; decide)⟩, fun r2 L4 ⟨hr2, N4, J3⟩ b3 => ?_⟩
    generalize hP4 : (P ++ [(b2, Blk.tab 5 0 1 [Col.ints IntKind.u8 [97]])] ++ N4 : Blks) = P4 at J3
    have J3' : JAt jq2 b (P4 ++ [(b3, Blk.tab 5 0 1 [Col.ints IntKind.u8 [98]])]) (L4 ++ [(b3, Blk.tab 5 0 1 [Col.ints IntKind.u8 [98]])]) := by
      have := JAt.more (q := jq2) (b := b) (G := P4) (L := L4) (by rw [← hP4]; exact hP4 ▸ J3) [(b3, Blk.tab 5 0 1 [Col.ints IntKind.u8 [98]])]
      exact this
    obtain ⟨q3, p3, q3r, q3p, q3q, q3w, -⟩ := jp3
    refine ⟨⟨jq2, b, _, jc3, ⟨some ⟨b3, 0, none⟩, 1, 1⟩, true, q3⟩, _, [], by simp, ⟨rfl, J3', jbt1 b3 98 _ (by simp), p3, (by show 0 + 1 < 1000000000; decide)⟩, fun r3 L5 ⟨hr3, N5, J4⟩ => ?_⟩
    refine ⟨⟨q3, b, _⟩, _, [], by simp, ⟨rfl, J4⟩, fun t2 L6 ht2 => ?_⟩
    obtain ⟨N6, ⟨h, -⟩ | ⟨r, h, htok, hbt, hlc, J5⟩⟩ := ht2
    · have h : q3.ready = [] := h
      rw [q3r] at h
      cases h
    · have h : q3.ready = t2.m :: r := h
      rw [q3r] at h
      obtain ⟨h1, h2⟩ := List.cons.inj h
      have J5' : JAt { q3 with ready := r } b _ L6 := J5
      have hr1 : r1 = true := hr1
      have hr2 : r2 = true := hr2
      have hr3 : r3 = true := hr3
      subst hr1 hr2 hr3
      rw [et, htok]
      have hbs : t2.m.bs = [97, 98] := by rw [← h1]; rfl
      have hl : t2.s.l = 2 := by rw [← hbt.1, hbs]; rfl
      refine ⟨fun _ => ⟨fun _ => ⟨fun _ => ⟨fun _ => ⟨fun _ => ⟨[97, 98], ⟨by rw [hl]; rfl, fun h0 => ?_⟩, fun _ => ?_, fun hne => hne (by rw [hl]; rfl)⟩, fun h => absurd rfl h⟩, fun h => absurd rfl h⟩, fun h => absurd rfl h⟩, fun h => absurd rfl h⟩, fun h => absurd rfl h⟩
      · obtain ⟨bb, xx, e, hc⟩ := hbt.2 h0
        refine ⟨bb, xx, e, fun i hi => ?_⟩
        have := hc i hi
        rw [hbs] at this
        have hs : SeenIn _ L6 := JAt.pool J5'
        have hs2 : SeenIn _ L6 := SeenIn.trans (seen_left _ N6) hs
        rw [List.append_nil]
        exact hs2 _ _ _ this
      · refine ⟨⟨{ q3 with ready := r }, b, _⟩, _, [], by simp, ⟨rfl, J5', q3p, ?_, ?_⟩, fun a L7 ha => ?_⟩
        · show sumK q3.parts + (sumP q3.pieces + (sumM q3.wait + sumM r)) < _
          rw [q3p, q3q, q3w, ← h2]
          decide
        · show r.length < _
          rw [← h2]
          decide
        · rw [ha.1]
          show ((sumK q3.parts + (sumP q3.pieces + (sumM q3.wait + sumM r)) : Nat) : Int) = 1
          rw [q3p, q3q, q3w, ← h2]
          decide
  · cases h)
theorem jf_sound : ∀ p ∈ [((18 : Nat), jnewT), (19, absT jputT), (20, jtakeT), (22, jheldT)], SoundT Go.Proofs.Try.prog p.1 p.2 := by
  intro p hp
  simp at hp
  rcases hp with rfl | rfl | rfl | rfl
  · exact jnewT_sound
  · exact absT_sound jputT_sound
  · exact jtakeT_sound
  · exact jheldT_sound
theorem entersJfirst : Enters Go.Proofs.Try.prog 17 := ⟨Go.Proofs.Try.f17, Go.Proofs.Try.func17, by kernel_rfl, by kernel_rfl⟩
def JfPre (_ : Unit) (vs : List Value) (_ : Blks) : Prop := vs = []
noncomputable def jfirstT : Trans := readT (fun _ : Unit => .tt) JfPre
theorem jfirstT_sound : SoundT Go.Proofs.Try.prog 17 jfirstT :=
  readT_sound (val := fun _ => .bool true) entersJfirst (fun a ρ => rfl) (fun a => by simp) (fun x vs L L' h h1 => h1) fun x vs L h1 => by
    have h1 : vs = [] := h1
    subst h1
    have := (triple_of_runK (R := fun v L' => v = .bool true) (L := []) (vs := []) (h := [.chunk []]) (args := []) (run_with jf_sound _ _ _ _ _) (fun r => rfl) (fun r => rfl) (by simp) jf_goal fun s h' hs => by
      obtain ⟨p, k3, k4⟩ := bOf_spec hs (locs h')
      rw [k4]
      simp [k3]).frame (G := L)
    rw [List.nil_append] at this
    refine Triple.mono this (List.Perm.refl _) fun v L' ⟨L1, h1, h2⟩ => ⟨h1, L1, by rw [h2]; exact List.perm_append_comm⟩
end Go.Proofs.Ytpjikjhaljennaa
