/- law08.first; parts of slices. -/
import Derived.Test.YtpjikjhaljennaaMaL
set_option maxRecDepth 100000
set_option linter.unusedVariables false
set_option linter.unusedSimpArgs false
namespace Go.Proofs.Ytpjikjhaljennaa
open Go Go.Sx
attribute [local irreducible] Go.Sx.xrun

noncomputable def fiGoal (L : Blks) : Prop :=
  xrun Go.Proofs.Try.prog [(30, sealT), (31, hashT), (34, sameT)] [] [] 9 [] 29 [] [.chunk L] fun s h => bOf s (fun p => p) ∧ headIs h L
def RsPre (x : Bv × Bv) (vs : List Value) (L : Blks) : Prop := vs = [.slice x.1.o x.1.l x.1.c, .slice x.2.o x.2.l x.2.c] ∧ (BytesAt L x.1.o x.1.l x.1.bs ∧ Octets x.1.bs ∧ x.1.l < 900000) ∧ BytesAt L x.2.o x.2.l x.2.bs ∧ Octets x.2.bs ∧ x.2.l < 900000
noncomputable def refSealT : Trans := readT (fun x : Bv × Bv => .arr .u8 (sealF x.1.bs x.2.bs)) RsPre
theorem enters32 : Enters Go.Proofs.Try.prog 32 := ⟨Go.Proofs.Try.f32, Go.Proofs.Try.func32, by kernel_rfl, by kernel_rfl⟩
theorem enters29 : Enters Go.Proofs.Try.prog 29 := ⟨Go.Proofs.Try.f29, Go.Proofs.Try.func29, by kernel_rfl, by kernel_rfl⟩
theorem rs_sound : ∀ p ∈ [((33 : Nat), refHashT)], SoundT Go.Proofs.Try.prog p.1 p.2 := by
  intro p hp
  simp at hp
  subst hp
  exact refHashT_sound
theorem refSealT_sound : SoundT Go.Proofs.Try.prog 32 refSealT :=
  readT_sound (val := fun x => arrV .u8 (sealF x.1.bs x.2.bs)) enters32 (fun a ρ => by simp only [den, arrV]) (fun a => by simp) (fun x vs L L' h ⟨h1, ⟨h2, h3⟩, h4, h5⟩ => ⟨h1, ⟨h2.seen h, h3⟩, h4.seen h, h5⟩) fun x vs L ⟨h1, ⟨h2, h3, h4⟩, h5, h6, h7⟩ => by
    subst h1
    exact pure_of_run (args := [.sl x.1.o x.1.l x.1.c, .sl x.2.o x.2.l x.2.c]) (run_with rs_sound _ _ _ _ _) (fun r => rfl) (rs_goal x.1.o x.1.l x.1.c x.2.o x.2.l x.2.c L _ _ _ _ _ _ (fun v => v = arrV .u8 (sealF x.1.bs x.2.bs)) x.1.bs x.2.bs _ _ h2 h3 h4 h5 h6 h7 rfl rfl rfl rfl rfl rfl rfl rfl rfl) fun s h' h => h
theorem hash_abc : hashF [97, 98, 99] = [186, 120, 22, 191, 143, 1, 207, 234, 65, 65, 64, 222, 93, 174, 34, 35, 176, 3, 97, 163, 150, 23, 122, 156, 180, 16, 255, 97, 242, 0, 21, 173] := of_decide_eq_true (by kernel_rfl)
theorem seal_jefe : sealF [74, 101, 102, 101] [119, 104, 97, 116, 32, 100, 111, 32, 121, 97, 32, 119, 97, 110, 116, 32, 102, 111, 114, 32, 110, 111, 116, 104, 105, 110, 103, 63] = [91, 220, 193, 70, 191, 96, 117, 78, 106, 4, 36, 38, 8, 149, 117, 199, 90, 0, 63, 8, 157, 39, 57, 131, 157, 236, 88, 185, 100, 236, 56, 67] := of_decide_eq_true (by kernel_rfl)
attribute [local irreducible] hashF sealF
set_option maxHeartbeats 1000000 in
theorem fi_goal (L : Blks) : fiGoal L :=
  Eq.mpr (by kernel_rfl) (show
  ∀ (b : Nat), Value.oneCell' (Value.int IntKind.u8 (97 : Int)) = Bool.true ∧ ∀ (b_1 : Nat), Value.oneCell' (Value.int IntKind.u8 (98 : Int)) = Bool.true ∧ Value.oneCell' (Value.int IntKind.u8 (99 : Int)) = Bool.true ∧ ∀ (b_2 : Nat), ∃ (x : PsX), PartsPre x [Value.slice (Option.some { block := b_2, off := (0 : Nat) * (1 : Nat) }) (2 : Nat) (2 : Nat)] (L ++ [(b, Blk.tab (5 : Nat) (0 : Nat) (1 : Nat) [Col.ints IntKind.u8 [(97 : Int)]]), (b_1, Blk.tab (5 : Nat) (0 : Nat) (2 : Nat) [Col.ints IntKind.u8 [(98 : Int), (99 : Int)]]), (b_2, Blk.cells
  [Value.slice (Option.some { block := b, off := (0 : Nat) * (1 : Nat) }) (1 : Nat) (1 : Nat), Value.slice (Option.some { block := b_1, off := (0 : Nat) * (1 : Nat) }) (2 : Nat) (2 : Nat)] (30 : Nat))] ++ []) ∧ ∀ (b_3 : Nat), (List.length (hashF (List.flatten x.5)) = (32 : Nat) ∧ (0 : Nat) + List.length (hashF (List.flatten x.5)) ≤ (32 : Nat)) ∧ ∀ (b_4 : Nat), Value.oneCell' (Value.int IntKind.u8 (74 : Int)) = Bool.true ∧ Value.oneCell' (Value.int IntKind.u8 (101 : Int)) = Bool.true ∧ Value.oneCell' (Value.int IntKind.u8 (102 : Int)) = Bool.true ∧
  Value.oneCell' (Value.int IntKind.u8 (101 : Int)) = Bool.true ∧ ∀ (b_5 : Nat), Value.oneCell' (Value.int IntKind.u8 (119 : Int)) = Bool.true ∧ Value.oneCell' (Value.int IntKind.u8 (104 : Int)) = Bool.true ∧ Value.oneCell' (Value.int IntKind.u8 (97 : Int)) = Bool.true ∧ Value.oneCell' (Value.int IntKind.u8 (116 : Int)) = Bool.true ∧ Value.oneCell' (Value.int IntKind.u8 (32 : Int)) = Bool.true ∧ Value.oneCell' (Value.int IntKind.u8 (100 : Int)) = Bool.true ∧ Value.oneCell' (Value.int IntKind.u8 (111 : Int)) = Bool.true ∧ Value.oneCell' (Value.int IntKind.u8 (32 : Int)) = Bool.true ∧
  Value.oneCell' (Value.int IntKind.u8 (121 : Int)) = Bool.true ∧ Value.oneCell' (Value.int IntKind.u8 (97 : Int)) = Bool.true ∧ Value.oneCell' (Value.int IntKind.u8 (32 : Int)) = Bool.true ∧ Value.oneCell' (Value.int IntKind.u8 (119 : Int)) = Bool.true ∧ Value.oneCell' (Value.int IntKind.u8 (97 : Int)) = Bool.true ∧ Value.oneCell' (Value.int IntKind.u8 (110 : Int)) = Bool.true ∧ Value.oneCell' (Value.int IntKind.u8 (116 : Int)) = Bool.true ∧ Value.oneCell' (Value.int IntKind.u8 (32 : Int)) = Bool.true ∧ Value.oneCell' (Value.int IntKind.u8 (102 : Int)) = Bool.true ∧
  Value.oneCell' (Value.int IntKind.u8 (111 : Int)) = Bool.true ∧ Value.oneCell' (Value.int IntKind.u8 (114 : Int)) = Bool.true ∧ Value.oneCell' (Value.int IntKind.u8 (32 : Int)) = Bool.true ∧ Value.oneCell' (Value.int IntKind.u8 (110 : Int)) = Bool.true ∧ Value.oneCell' (Value.int IntKind.u8 (111 : Int)) = Bool.true ∧ Value.oneCell' (Value.int IntKind.u8 (116 : Int)) = Bool.true ∧ Value.oneCell' (Value.int IntKind.u8 (104 : Int)) = Bool.true ∧ Value.oneCell' (Value.int IntKind.u8 (105 : Int)) = Bool.true ∧ Value.oneCell' (Value.int IntKind.u8 (110 : Int)) = Bool.true ∧
  Value.oneCell' (Value.int IntKind.u8 (103 : Int)) = Bool.true ∧ Value.oneCell' (Value.int IntKind.u8 (63 : Int)) = Bool.true ∧ ∀ (b_6 : Nat), ∃ (x_1 : SlX), SealPre x_1 [Value.slice (Option.some { block := b_4, off := (0 : Nat) * (1 : Nat) }) (4 : Nat) (4 : Nat), Value.slice (Option.some { block := b_6, off := (0 : Nat) * (1 : Nat) }) (1 : Nat) (1 : Nat)] (L ++ [(b, Blk.tab (5 : Nat) (0 : Nat) (1 : Nat) [Col.ints IntKind.u8 [(97 : Int)]]), (b_1, Blk.tab (5 : Nat) (0 : Nat) (2 : Nat) [Col.ints IntKind.u8 [(98 : Int), (99 : Int)]]), (b_2, Blk.cells
  [Value.slice (Option.some { block := b, off := (0 : Nat) * (1 : Nat) }) (1 : Nat) (1 : Nat), Value.slice (Option.some { block := b_1, off := (0 : Nat) * (1 : Nat) }) (2 : Nat) (2 : Nat)] (30 : Nat)), (b_3, Blk.tab (65 : Nat) (0 : Nat) (32 : Nat) [Col.ints IntKind.u8 (List.take (0 : Nat) (List.replicate (32 : Nat) (0 : Int)) ++ hashF (List.flatten x.5) ++ List.drop ((0 : Nat) + List.length (hashF (List.flatten x.5))) (List.replicate (32 : Nat) (0 : Int)))]), (b_4, Blk.tab (5 : Nat) (0 : Nat) (4 : Nat) [Col.ints IntKind.u8 [(74 : Int), (101 : Int), (102 : Int), (101 : Int)]]), (b_5,
  Blk.tab (5 : Nat) (0 : Nat) (28 : Nat) [Col.ints IntKind.u8 [(119 : Int), (104 : Int), (97 : Int), (116 : Int), (32 : Int), (100 : Int), (111 : Int), (32 : Int), (121 : Int), (97 : Int), (32 : Int), (119 : Int), (97 : Int), (110 : Int), (116 : Int), (32 : Int), (102 : Int), (111 : Int), (114 : Int), (32 : Int), (110 : Int), (111 : Int), (116 : Int), (104 : Int), (105 : Int), (110 : Int), (103 : Int), (63 : Int)]]), (b_6, Blk.cells [Value.slice (Option.some { block := b_5, off := (0 : Nat) * (1 : Nat) }) (28 : Nat) (28 : Nat)] (30 : Nat))] ++ []) ∧ ∀ (b : Nat),
  (List.length (sealF x_1.4 (List.flatten x_1.5.5)) = (32 : Nat) ∧ (0 : Nat) + List.length (sealF x_1.4 (List.flatten x_1.5.5)) ≤ (32 : Nat)) ∧ ((0 : Int) ≤ (0 : Int) ∧ (0 : Int) < (↑(32 : Nat) : Int)) ∧ (0 : Nat) < (32 : Nat) ∧ (List.getD (List.take (0 : Nat) (List.replicate (32 : Nat) (0 : Int)) ++ hashF (List.flatten x.5) ++ List.drop ((0 : Nat) + List.length (hashF (List.flatten x.5))) (List.replicate (32 : Nat) (0 : Int))) (0 : Nat) (0 : Int) = (186 : Int) → ((0 : Int) ≤ (31 : Int) ∧ (31 : Int) < (↑(32 : Nat) : Int)) ∧ (31 : Nat) < (32 : Nat) ∧ (List.getD
  (List.take (0 : Nat) (List.replicate (32 : Nat) (0 : Int)) ++ hashF (List.flatten x.5) ++ List.drop ((0 : Nat) + List.length (hashF (List.flatten x.5))) (List.replicate (32 : Nat) (0 : Int))) (31 : Nat) (0 : Int) = (173 : Int) → ((0 : Int) ≤ (0 : Int) ∧ (0 : Int) < (↑(32 : Nat) : Int)) ∧ (0 : Nat) < (32 : Nat) ∧ (List.getD (List.take (0 : Nat) (List.replicate (32 : Nat) (0 : Int)) ++ sealF x_1.4 (List.flatten x_1.5.5) ++ List.drop ((0 : Nat) + List.length (sealF x_1.4 (List.flatten x_1.5.5))) (List.replicate (32 : Nat) (0 : Int))) (0 : Nat) (0 : Int) = (91 : Int) →
  ((0 : Int) ≤ (31 : Int) ∧ (31 : Int) < (↑(32 : Nat) : Int)) ∧ (31 : Nat) < (32 : Nat) ∧ (List.getD (List.take (0 : Nat) (List.replicate (32 : Nat) (0 : Int)) ++ sealF x_1.4 (List.flatten x_1.5.5) ++ List.drop ((0 : Nat) + List.length (sealF x_1.4 (List.flatten x_1.5.5))) (List.replicate (32 : Nat) (0 : Int))) (31 : Nat) (0 : Int) = (67 : Int) → (32 : Nat) ≤ (32 : Nat) ∧ (32 : Nat) ≤ (32 : Nat) ∧ (List.length (List.take (32 : Nat) (List.take (0 : Nat) (List.replicate (32 : Nat) (0 : Int)) ++ hashF (List.flatten x.5) ++ List.drop ((0 : Nat) + List.length (hashF (List.flatten x.5)))
  (List.replicate (32 : Nat) (0 : Int)))) = (32 : Nat) ∧ List.length (List.take (32 : Nat) (List.take (0 : Nat) (List.replicate (32 : Nat) (0 : Int)) ++ hashF (List.flatten x.5) ++ List.drop ((0 : Nat) + List.length (hashF (List.flatten x.5))) (List.replicate (32 : Nat) (0 : Int)))) = (32 : Nat)) ∧ (List.take (32 : Nat) (List.take (0 : Nat) (List.replicate (32 : Nat) (0 : Int)) ++ hashF (List.flatten x.5) ++ List.drop ((0 : Nat) + List.length (hashF (List.flatten x.5))) (List.replicate (32 : Nat) (0 : Int))) = List.take (32 : Nat) (List.take (0 : Nat) (List.replicate (32 : Nat) (0 : Int)) ++
  hashF (List.flatten x.5) ++ List.drop ((0 : Nat) + List.length (hashF (List.flatten x.5))) (List.replicate (32 : Nat) (0 : Int))) → (32 : Nat) ≤ (32 : Nat) ∧ (32 : Nat) ≤ (32 : Nat) ∧ (List.length (List.take (32 : Nat) (List.take (0 : Nat) (List.replicate (32 : Nat) (0 : Int)) ++ hashF (List.flatten x.5) ++ List.drop ((0 : Nat) + List.length (hashF (List.flatten x.5))) (List.replicate (32 : Nat) (0 : Int)))) = (32 : Nat) ∧ List.length (List.take (32 : Nat) (List.take (0 : Nat) (List.replicate (32 : Nat) (0 : Int)) ++ sealF x_1.4 (List.flatten x_1.5.5) ++ List.drop ((0 : Nat) + List.length
  (sealF x_1.4 (List.flatten x_1.5.5))) (List.replicate (32 : Nat) (0 : Int)))) = (32 : Nat)) ∧ ¬List.take (32 : Nat) (List.take (0 : Nat) (List.replicate (32 : Nat) (0 : Int)) ++ hashF (List.flatten x.5) ++ List.drop ((0 : Nat) + List.length (hashF (List.flatten x.5))) (List.replicate (32 : Nat) (0 : Int))) = List.take (32 : Nat) (List.take (0 : Nat) (List.replicate (32 : Nat) (0 : Int)) ++ sealF x_1.4 (List.flatten x_1.5.5) ++ List.drop ((0 : Nat) + List.length (sealF x_1.4 (List.flatten x_1.5.5))) (List.replicate (32 : Nat) (0 : Int))) ∧ L = L) ∧ (¬List.take (32 : Nat) (List.take (0 : Nat)
  (List.replicate (32 : Nat) (0 : Int)) ++ hashF (List.flatten x.5) ++ List.drop ((0 : Nat) + List.length (hashF (List.flatten x.5))) (List.replicate (32 : Nat) (0 : Int))) = List.take (32 : Nat) (List.take (0 : Nat) (List.replicate (32 : Nat) (0 : Int)) ++ hashF (List.flatten x.5) ++ List.drop ((0 : Nat) + List.length (hashF (List.flatten x.5))) (List.replicate (32 : Nat) (0 : Int))) → False ∧ L = L)) ∧ (¬List.getD (List.take (0 : Nat) (List.replicate (32 : Nat) (0 : Int)) ++ sealF x_1.4 (List.flatten x_1.5.5) ++ List.drop ((0 : Nat) + List.length (sealF x_1.4 (List.flatten x_1.5.5)))
  (List.replicate (32 : Nat) (0 : Int))) (31 : Nat) (0 : Int) = (67 : Int) → False ∧ L = L)) ∧ (¬List.getD (List.take (0 : Nat) (List.replicate (32 : Nat) (0 : Int)) ++ sealF x_1.4 (List.flatten x_1.5.5) ++ List.drop ((0 : Nat) + List.length (sealF x_1.4 (List.flatten x_1.5.5))) (List.replicate (32 : Nat) (0 : Int))) (0 : Nat) (0 : Int) = (91 : Int) → False ∧ L = L)) ∧ (¬List.getD (List.take (0 : Nat) (List.replicate (32 : Nat) (0 : Int)) ++ hashF (List.flatten x.5) ++ List.drop ((0 : Nat) + List.length (hashF (List.flatten x.5))) (List.replicate (32 : Nat) (0 : Int))) (31 : Nat) (0 : Int) =
  (173 : Int) → False ∧ L = L)) ∧ (¬List.getD (List.take (0 : Nat) (List.replicate (32 : Nat) (0 : Int)) ++ hashF (List.flatten x.5) ++ List.drop ((0 : Nat) + List.length (hashF (List.flatten x.5))) (List.replicate (32 : Nat) (0 : Int))) (0 : Nat) (0 : Int) = (186 : Int) → False ∧ L = L) from by
  simp only [eq_self, true_and, and_true, false_and, and_false, or_false, false_or, and_self, Nat.zero_add, Nat.add_zero, Nat.sub_zero, Nat.zero_mul, Nat.mul_one, Int.toNat_natCast, cond_true, cond_false, forall_const, implies_true, Nat.beq_refl, ne_eq, not_false_eq_true, not_true_eq_false, Classical.not_not, List.cons.injEq, List.append_nil, List.nil_append, Go.Value.int.injEq, Go.Value.bool.injEq, Go.Value.slice.injEq, Nat.le_refl, Nat.zero_le, Go.Sx.one_int, Go.Sx.one_bool, Go.Sx.one_slice, Go.Sx.one_ptr, Go.Sx.one_map, Int.cast_ofNat_Int, reduceCtorEq, Nat.reduceLeDiff, Nat.reduceMul, Nat.reduceAdd, Nat.reduceSub, Nat.reduceEqDiff, Int.reduceLE, Int.reduceLT, Int.reduceEq, Int.reduceAdd, Int.reduceSub, Int.reduceNeg, Int.reduceMul, Nat.reduceBEq]
  intro b b1 b2
  refine ⟨⟨b2, 0, 2, 2, [[97], [98, 99]]⟩, ⟨rfl, PartsAt.two (List.mem_append_right _ (by repeat (first | exact List.Mem.head _ | apply List.Mem.tail))) (BytesAt.tab (t := 5) (List.mem_append_right _ (by repeat (first | exact List.Mem.head _ | apply List.Mem.tail))) rfl (Nat.le_refl _) rfl) (BytesAt.tab (t := 5) (List.mem_append_right _ (by repeat (first | exact List.Mem.head _ | apply List.Mem.tail))) rfl (Nat.le_refl _) rfl), by show 2 < 1000000; decide, by show [97, 98, 99].length < 1000000; decide⟩, ?_⟩
  have e1 : ([[97], [98, 99]] : List (List Int)).flatten = [97, 98, 99] := rfl
  simp only [e1, hash_abc]
  intro b3
  refine ⟨⟨rfl, Nat.le_refl _⟩, fun b4 b5 b6 => ⟨⟨some ⟨b4, 0, none⟩, 4, 4, [74, 101, 102, 101], ⟨b6, 0, 1, 1, [[119, 104, 97, 116, 32, 100, 111, 32, 121, 97, 32, 119, 97, 110, 116, 32, 102, 111, 114, 32, 110, 111, 116, 104, 105, 110, 103, 63]]⟩⟩, ⟨rfl, BytesAt.tab (t := 5) (List.mem_append_right _ (by repeat (first | exact List.Mem.head _ | apply List.Mem.tail))) rfl (Nat.le_refl _) rfl, by show 4 < 900000; decide, PartsAt.one (List.mem_append_right _ (by repeat (first | exact List.Mem.head _ | apply List.Mem.tail))) (BytesAt.tab (t := 5) (List.mem_append_right _ (by repeat (first | exact List.Mem.head _ | apply List.Mem.tail))) rfl (Nat.le_refl _) rfl), (by show 0 < 1 ∧ 1 < 900000; decide), by show [119, 104, 97, 116, 32, 100, 111, 32, 121, 97, 32, 119, 97, 110, 116, 32, 102, 111, 114, 32, 110, 111, 116, 104, 105, 110, 103, 63].length < 900000; decide⟩, ?_⟩⟩
  have e2 : ([[119, 104, 97, 116, 32, 100, 111, 32, 121, 97, 32, 119, 97, 110, 116, 32, 102, 111, 114, 32, 110, 111, 116, 104, 105, 110, 103, 63]] : List (List Int)).flatten = [119, 104, 97, 116, 32, 100, 111, 32, 121, 97, 32, 119, 97, 110, 116, 32, 102, 111, 114, 32, 110, 111, 116, 104, 105, 110, 103, 63] := rfl
  simp only [e2, seal_jefe]
  exact of_decide_eq_true (by kernel_rfl))
theorem fi_sound : ∀ p ∈ [((30 : Nat), sealT), (31, hashT), (34, sameT)], SoundT Go.Proofs.Try.prog p.1 p.2 := by
  intro p hp
  simp at hp
  rcases hp with rfl | rfl | rfl
  · exact sealT_sound
  · exact hashT_sound
  · exact sameT_sound
/-- first answers true. -/
noncomputable def firstT : Trans := fun args h K => match args with
  | [] => K .tt h
  | _ => False
theorem first0_sound : SoundT Go.Proofs.Try.prog 29 (readT (fun _ : Unit => .tt) fun _ vs _ => vs = []) :=
  readT_sound (val := fun _ => .bool true) enters29 (fun a ρ => by simp only [den]) (fun a => by simp) (fun x vs L L' _ h => h) fun x vs L h1 => by
    subst h1
    exact pure_of_run (args := []) (run_with fi_sound _ _ _ _ _) (fun r => rfl) (fi_goal L) fun s h' ⟨h1, h2⟩ => by
      obtain ⟨p, hp, hd⟩ := bOf_spec h1 (locs h')
      exact ⟨by rw [hd]; simp [hp], h2⟩
theorem firstT_sound : SoundT Go.Proofs.Try.prog 29 firstT := SoundT.imp first0_sound fun args h K hx => by
  unfold firstT at hx
  split at hx
  · exact ⟨(), rfl, hx⟩
  · exact hx.elim
theorem BytesAt.part {L : Blks} {o : Option Addr} {l : Nat} {bs : List Int} (h : BytesAt L o l bs) {c n m : Nat} (hlc : l ≤ c) (hm : n + m ≤ l) : BytesAt L (if c = n then o else o.map fun x => x.add n) m ((bs.drop n).take m) := by
  obtain ⟨h1, h2⟩ := h
  refine ⟨by simp; omega, fun h0 => ?_⟩
  obtain ⟨b, x, rfl, hc⟩ := h2 (by omega)
  have hne : ¬ c = n := by omega
  rw [if_neg hne]
  refine ⟨b, x + n, by simp [addr_add], fun i hi => ?_⟩
  have := hc (n + i) (by omega)
  rw [show x + n + i = x + (n + i) by omega]
  have e : ((bs.drop n).take m).getD i 0 = bs.getD (n + i) 0 := by
    rw [List.getD_eq_getElem?_getD, List.getD_eq_getElem?_getD, List.getElem?_take_of_lt hi, List.getElem?_drop]
  rw [e]
  exact this
theorem PartsAt.three {L : Blks} {b : Nat} {t : TypeId} {o0 o1 o2 : Option Addr} {l0 c0 l1 c1 l2 c2 : Nat} {p0 p1 p2 : List Int} (hm : (b, Blk.cells [.slice o0 l0 c0, .slice o1 l1 c1, .slice o2 l2 c2] t) ∈ L) (h0 : BytesAt L o0 l0 p0) (h1 : BytesAt L o1 l1 p1) (h2 : BytesAt L o2 l2 p2) : PartsAt L b 0 3 [p0, p1, p2] :=
  ⟨rfl, fun i hi => by
    match i, hi with
    | 0, _ => exact ⟨o0, l0, c0, rawCell_cells hm rfl, h0⟩
    | 1, _ => exact ⟨o1, l1, c1, rawCell_cells hm rfl, h1⟩
    | 2, _ => exact ⟨o2, l2, c2, rawCell_cells hm rfl, h2⟩⟩
theorem BytesAt.nil (L : Blks) : BytesAt L none 0 [] := ⟨rfl, fun h => absurd h (by omega)⟩
theorem eq65 : (!Go.Proofs.Try.prog.eqGuardType Go.Proofs.Try.prog.depth 65 && Nat.beq 32 32 && Nat.beq 1 1) = true := by kernel_rfl
theorem ms_n (cut : Int) {l : Nat} (hl : l < 1000000) : ∃ n : Nat, n ≤ l ∧ IntKind.wrap .i64 ((IntKind.wrap .u64 cut).tmod (IntKind.wrap .u64 (IntKind.wrap .i64 ((l : Int) + 1)))) = (n : Int) := by
  have e1 : IntKind.wrap .u64 (IntKind.wrap .i64 ((l : Int) + 1)) = ((l + 1 : Nat) : Int) := by rw [IntKind.wrap_i64, wrap_u64a]; omega
  obtain ⟨c, hc⟩ : ∃ c : Nat, IntKind.wrap .u64 cut = (c : Int) := ⟨(IntKind.wrap .u64 cut).toNat, by rw [wrap_u64a]; omega⟩
  rw [e1, hc]
  have e2 : ((c : Int)).tmod ((l + 1 : Nat) : Int) = ((c % (l + 1) : Nat) : Int) := rfl
  have h3 : c % (l + 1) < l + 1 := Nat.mod_lt _ (by omega)
  refine ⟨c % (l + 1), by omega, ?_⟩
  rw [e2, IntKind.wrap_i64]
  omega
theorem ms_u {l : Nat} (hl : l < 1000000) : ¬ IntKind.wrap .u64 (IntKind.wrap .i64 ((l : Int) + 1)) = 0 := by rw [IntKind.wrap_i64, wrap_u64a]; omega
theorem set_h32 {h : List Int} (hl : h.length = 32) : List.take 0 (List.replicate 32 (0 : Int)) ++ h ++ List.drop h.length (List.replicate 32 0) = h := by rw [hl]; simp
end Go.Proofs.Ytpjikjhaljennaa
