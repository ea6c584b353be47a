/- Span: first. -/
import Derived.Test.YtmjhfnmkegdafaaSpO


set_option maxRecDepth 100000
set_option linter.unusedVariables false
set_option linter.unusedSimpArgs false
namespace Go.Proofs.Ytmjhfnmkegdafaa
open Go Go.Sx

noncomputable def fiGoal : Prop :=
  xrun Go.Proofs.Try.prog tblT [] [([], (12, true)), ([], (10, false)), ([], (15, false)), ([], (20, false)), ([], (24, false)), ([], (28, true)), ([], (32, true)), ([], (37, true)), ([], (41, true)), ([], (46, true))] 9 [] 9 [] [.chunk []] fun s h => bOf s fun p => p

instance (a b : Int) : Decidable (lessF a b) := inferInstanceAs (Decidable (_ < _))
theorem fi1 {n m : Int} {r : List (Int × Int)} (h : AddS 7 [] 9 n m r) : n = 0 ∧ m = 7 ∧ r = [(2, 2)] := by
  have e1 : lessF 7 9 := by decide
  have e2 : distF 7 9 = 2 := by decide
  rcases h with ⟨h, -⟩ | ⟨-, h, -⟩ | ⟨-, -, ⟨s, hs, -⟩, -⟩ | ⟨-, -, -, h, i, hp, hm, hr⟩
  · exact absurd e1 h
  · rw [e2] at h; omega
  · simp at hs
  · have : i = 0 := by have := hp.1; simpa using this
    subst this
    rw [e2] at hm hr
    exact ⟨h, hm, hr⟩
theorem fi2 {n m : Int} {r : List (Int × Int)} (h : AddS 7 [(2, 2)] 9 n m r) : n = 1 ∧ m = 7 ∧ r = [(2, 2)] := by
  have e1 : lessF 7 9 := by decide
  have e2 : distF 7 9 = 2 := by decide
  rcases h with ⟨h, -⟩ | ⟨-, h, -⟩ | ⟨-, -, -, h⟩ | ⟨-, -, h, -⟩
  · exact absurd e1 h
  · rw [e2] at h; omega
  · exact h
  · rw [e2] at h; exact absurd ⟨(2, 2), by simp, by decide, by decide⟩ h
theorem fi3 {n m : Int} {r : List (Int × Int)} (h : AddS 7 [(2, 2)] 8 n m r) : n = 0 ∧ m = 9 ∧ r = [] := by
  have e1 : lessF 7 8 := by decide
  have e2 : distF 7 8 = 1 := by decide
  rcases h with ⟨h, -⟩ | ⟨-, h, -⟩ | ⟨-, -, ⟨s, hs, h1, h2⟩, -⟩ | ⟨-, -, -, h, i, hp, hm, hr⟩
  · exact absurd e1 h
  · rw [e2] at h; omega
  · simp at hs; subst hs; rw [e2] at h1; simp at h1
  · have : i = 0 := by
      rcases Nat.eq_zero_or_pos i with h | h
      · exact h
      · have := hp.2.1 0 (2, 2) h rfl
        rw [e2] at this; simp at this
    subst this
    rw [e2] at hm hr
    refine ⟨h, hm.trans (by decide), hr.trans (by decide)⟩
theorem fi4 : hasF 9 [] 3 := .inr ⟨by decide, .inr (by decide)⟩
theorem fi5 : ¬ hasF 9 [] 10 := by
  rintro (⟨-, i, r, h, -⟩ | ⟨h, -⟩)
  · simp at h
  · exact h (by decide)
theorem fi6 {p : Prop} {m : Int} {r : List (Int × Int)} (h : SkipS 9 [] 11 p m r) : p ∧ m = 11 ∧ r = [] := by
  rcases h with ⟨h, -⟩ | ⟨-, h, hm, hr⟩
  · exact absurd (by decide) h
  · exact ⟨h.2 trivial, hm.trans (by decide), hr.trans (by decide)⟩
theorem fi7 {p : Prop} {m : Int} {r : List (Int × Int)} (h : SkipS 11 [] 11 p m r) : ¬ p ∧ m = 11 ∧ r = [] := by
  rcases h with ⟨-, h, hm, hr⟩ | ⟨h, -⟩
  · exact ⟨h.1, hm, hr⟩
  · exact absurd h (by decide)
theorem good22 : Good [(2, 2)] := ⟨by simp, by simp⟩

theorem fi_vc :
    ∃ (x : Int),
  ∃ (L : List (Nat × Go.Sx.Blk)),
    ∃ (G : List (Nat × Go.Sx.Blk)),
      List.Perm [] (L ++ G) ∧
        ([Go.Value.int Go.IntKind.u32 (7 : Int)] = [Go.Value.int Go.IntKind.u32 x] ∧ L = []) ∧
          ∀ (a : Nat) (L' : List (Nat × Go.Sx.Blk)),
            SetRep a x [] L' →
              ∃ (x : TX),
                ∃ (L : List (Nat × Go.Sx.Blk)),
                  ∃ (G_1 : List (Nat × Go.Sx.Blk)),
                    List.Perm (L' ++ G) (L ++ G_1) ∧
                      ([Go.Value.pointer (Option.some { block := a, off := (0 : Nat) }), Go.Value.int Go.IntKind.u32 (9 : Int)] =
                            [Go.Value.pointer (Option.some { block := x.1, off := (0 : Nat) }), Go.Value.int Go.IntKind.u32 x.4] ∧
                          SetRep x.1 x.2 x.3 L ∧ Good x.3) ∧
                        ∀ (a_2 : Int) (L' : List (Nat × Go.Sx.Blk)),
                          (∃ (mark' : Int), ∃ (rows' : List (Int × Int)), AddS x.2 x.3 x.4 a_2 mark' rows' ∧ SetRep x.1 mark' rows' L') →
                            ¬a_2 ≠ (0 : Int) ∧
                              ∃ (x : TX),
                                ∃ (L : List (Nat × Go.Sx.Blk)),
                                  ∃ (G : List (Nat × Go.Sx.Blk)),
                                    List.Perm (L' ++ G_1) (L ++ G) ∧
                                      ([Go.Value.pointer (Option.some { block := a, off := (0 : Nat) }), Go.Value.int Go.IntKind.u32 (9 : Int)] =
                                            [Go.Value.pointer (Option.some { block := x.1, off := (0 : Nat) }), Go.Value.int Go.IntKind.u32 x.4] ∧
                                          SetRep x.1 x.2 x.3 L ∧ Good x.3) ∧
                                        ∀ (a_4 : Int) (L' : List (Nat × Go.Sx.Blk)),
                                          (∃ (mark' : Int),
                                              ∃ (rows' : List (Int × Int)), AddS x.2 x.3 x.4 a_4 mark' rows' ∧ SetRep x.1 mark' rows' L') →
                                            ¬a_4 ≠ (1 : Int) ∧
                                              ∃ (x : SX),
                                                ∃ (L : List (Nat × Go.Sx.Blk)),
                                                  ∃ (G_2 : List (Nat × Go.Sx.Blk)),
                                                    List.Perm (L' ++ G) (L ++ G_2) ∧
                                                      ([Go.Value.pointer (Option.some { block := a, off := (0 : Nat) })] = [Go.Value.pointer (Option.some { block := x.1, off := (0 : Nat) })] ∧
                                                          SetRep x.1 x.2 x.3 L ∧ Good x.3) ∧
                                                        ∀ (a_6 : Int) (L' : List (Nat × Go.Sx.Blk)),
                                                          a_6 = lenF x.3 ∧ SetRep x.1 x.2 x.3 L' →
                                                            ¬a_6 ≠ (1 : Int) ∧
                                                              ∃ (x : TX),
                                                                ∃ (L : List (Nat × Go.Sx.Blk)),
                                                                  ∃ (G : List (Nat × Go.Sx.Blk)),
                                                                    List.Perm (L' ++ G_2) (L ++ G) ∧
                                                                      ([Go.Value.pointer (Option.some { block := a, off := (0 : Nat) }), Go.Value.int Go.IntKind.u32 (8 : Int)] =
                                                                            [Go.Value.pointer (Option.some { block := x.1, off := (0 : Nat) }), Go.Value.int Go.IntKind.u32 x.4] ∧
                                                                          SetRep x.1 x.2 x.3 L ∧ Good x.3) ∧
                                                                        ∀ (a_8 : Int) (L' : List (Nat × Go.Sx.Blk)),
                                                                          (∃ (mark' : Int),
                                                                              ∃ (rows' : List (Int × Int)),
                                                                                AddS x.2 x.3 x.4 a_8 mark' rows' ∧ SetRep x.1 mark' rows' L') →
                                                                            ¬a_8 ≠ (0 : Int) ∧
                                                                              ∃ (x : SX),
                                                                                ∃ (L : List (Nat × Go.Sx.Blk)),
                                                                                  ∃ (G_3 : List (Nat × Go.Sx.Blk)),
                                                                                    List.Perm (L' ++ G) (L ++ G_3) ∧
                                                                                      ([Go.Value.pointer (Option.some { block := a, off := (0 : Nat) })] =
                                                                                            [Go.Value.pointer (Option.some { block := x.1, off := (0 : Nat) })] ∧
                                                                                          SetRep x.1 x.2 x.3 L) ∧
                                                                                        ∀ (a_10 : Int) (L' : List (Nat × Go.Sx.Blk)),
                                                                                          a_10 = x.2 ∧ SetRep x.1 x.2 x.3 L' →
                                                                                            a_10 = (9 : Int) ∧
                                                                                              ∃ (x : TX),
                                                                                                ∃ (L : List (Nat × Go.Sx.Blk)),
                                                                                                  ∃ (G : List (Nat × Go.Sx.Blk)),
                                                                                                    List.Perm (L' ++ G_3) (L ++ G) ∧
                                                                                                      ([Go.Value.pointer (Option.some { block := a, off := (0 : Nat) }),
                                                                                                              Go.Value.int Go.IntKind.u32 (3 : Int)] =
                                                                                                            [Go.Value.pointer (Option.some { block := x.1, off := (0 : Nat) }),
                                                                                                              Go.Value.int Go.IntKind.u32 x.4] ∧
                                                                                                          SetRep x.1 x.2 x.3 L ∧ Good x.3) ∧
                                                                                                        ∀ (a_12 : Prop) (L' : List (Nat × Go.Sx.Blk)),
                                                                                                          (a_12 ↔ hasF x.2 x.3 x.4) ∧
                                                                                                              SetRep x.1 x.2 x.3 L' →
                                                                                                            a_12 ∧
                                                                                                              ∃ (x : TX),
                                                                                                                ∃ (L : List (Nat × Go.Sx.Blk)),
                                                                                                                  ∃ (G_4 : List (Nat × Go.Sx.Blk)),
                                                                                                                    List.Perm (L' ++ G) (L ++ G_4) ∧
                                                                                                                      ([Go.Value.pointer (Option.some { block := a, off := (0 : Nat) }),
                                                                                                                              Go.Value.int Go.IntKind.u32 (10 : Int)] =
                                                                                                                            [Go.Value.pointer (Option.some { block := x.1, off := (0 : Nat) }),
                                                                                                                              Go.Value.int Go.IntKind.u32 x.4] ∧
                                                                                                                          SetRep x.1 x.2 x.3 L ∧
                                                                                                                            Good x.3) ∧
                                                                                                                        ∀ (a_14 : Prop) (L' : List (Nat × Go.Sx.Blk)),
                                                                                                                          (a_14 ↔ hasF x.2 x.3 x.4) ∧
                                                                                                                              SetRep x.1 x.2 x.3 L' →
                                                                                                                            ¬a_14 ∧
                                                                                                                              ∃ (x : TX),
                                                                                                                                ∃ (L : List (Nat × Go.Sx.Blk)),
                                                                                                                                  ∃ (G : List (Nat × Go.Sx.Blk)),
                                                                                                                                    List.Perm (L' ++ G_4) (L ++ G) ∧
                                                                                                                                      ([Go.Value.pointer (Option.some { block := a, off := (0 : Nat) }),
                                                                                                                                              Go.Value.int Go.IntKind.u32 (11 : Int)] =
                                                                                                                                            [Go.Value.pointer
                                                                                                                                                (Option.some { block := x.1, off := (0 : Nat) }),
                                                                                                                                              Go.Value.int Go.IntKind.u32 x.4] ∧
                                                                                                                                          SetRep x.1 x.2 x.3 L ∧
                                                                                                                                            Good x.3) ∧
                                                                                                                                        ∀ (a_16 : Prop) (L' : List (Nat × Go.Sx.Blk)),
                                                                                                                                          (∃ (mark' : Int),
                                                                                                                                              ∃ (rows' : List (Int × Int)),
                                                                                                                                                SkipS x.2 x.3 x.4 a_16 mark'
                                                                                                                                                    rows' ∧
                                                                                                                                                  SetRep x.1 mark' rows'
                                                                                                                                                    L') →
                                                                                                                                            a_16 ∧
                                                                                                                                              ∃ (x : TX),
                                                                                                                                                ∃ (L : List (Nat × Go.Sx.Blk)),
                                                                                                                                                  ∃ (G_5 : List (Nat × Go.Sx.Blk)),
                                                                                                                                                    List.Perm (L' ++ G) (L ++ G_5) ∧
                                                                                                                                                      ([Go.Value.pointer
                                                                                                                                                                (Option.some
                                                                                                                                                                  { block := a, off := (0 : Nat) }),
                                                                                                                                                              Go.Value.int Go.IntKind.u32 (11 : Int)] =
                                                                                                                                                            [Go.Value.pointer
                                                                                                                                                                (Option.some
                                                                                                                                                                  { block := x.1, off := (0 : Nat) }),
                                                                                                                                                              Go.Value.int Go.IntKind.u32 x.4] ∧
                                                                                                                                                          SetRep x.1 x.2 x.3
                                                                                                                                                              L ∧
                                                                                                                                                            Good x.3) ∧
                                                                                                                                                        ∀ (a_18 : Prop) (L' : List (Nat × Go.Sx.Blk)),
                                                                                                                                                          (∃ (mark' : Int),
                                                                                                                                                              ∃ (rows' : List (Int × Int)),
                                                                                                                                                                SkipS x.2 x.3
                                                                                                                                                                    x.4 a_18 mark' rows' ∧
                                                                                                                                                                  SetRep x.1
                                                                                                                                                                    mark' rows' L') →
                                                                                                                                                            ¬a_18 ∧
                                                                                                                                                              ∃ (x : SX),
                                                                                                                                                                ∃ (L : List (Nat × Go.Sx.Blk)),
                                                                                                                                                                  ∃ (G : List (Nat × Go.Sx.Blk)),
                                                                                                                                                                    List.Perm (L' ++ G_5) (L ++ G) ∧
                                                                                                                                                                      ([Go.Value.pointer
                                                                                                                                                                                (Option.some
                                                                                                                                                                                  { block := a,
                                                                                                                                                                                    off :=
                                                                                                                                                                                      (0 : Nat) })] =
                                                                                                                                                                            [Go.Value.pointer
                                                                                                                                                                                (Option.some
                                                                                                                                                                                  { block := x.1,
                                                                                                                                                                                    off :=
                                                                                                                                                                                      (0 : Nat) })] ∧
                                                                                                                                                                          SetRep
                                                                                                                                                                            x.1 x.2 x.3 L) ∧
                                                                                                                                                                        ∀ (a : Int)
                                                                                                                                                                          (L' : List (Nat × Go.Sx.Blk)),
                                                                                                                                                                          a = x.2 ∧
                                                                                                                                                                              SetRep
                                                                                                                                                                                x.1 x.2 x.3 L' →
                                                                                                                                                                            a = (11 : Int) := by
  refine ⟨7, [], [], by simp, ⟨rfl, rfl⟩, fun b L h => ?_⟩
  refine ⟨⟨b, 7, [], 9⟩, L, [], List.Perm.refl _, ⟨rfl, h, Good.nil⟩, fun n L ⟨m, r, ha, h⟩ => ?_⟩
  obtain ⟨rfl, rfl, rfl⟩ := fi1 ha
  refine ⟨by decide, ⟨b, 7, [(2, 2)], 9⟩, L, [], List.Perm.refl _, ⟨rfl, h, good22⟩, fun n L ⟨m, r, ha, h⟩ => ?_⟩
  obtain ⟨rfl, rfl, rfl⟩ := fi2 ha
  refine ⟨by decide, ⟨b, 7, [(2, 2)]⟩, L, [], List.Perm.refl _, ⟨rfl, h, good22⟩, fun n L ⟨hn, h⟩ => ?_⟩
  have hn : n = 1 := hn.trans (show lenF [(2, 2)] = 1 by decide)
  subst hn
  refine ⟨by decide, ⟨b, 7, [(2, 2)], 8⟩, L, [], List.Perm.refl _, ⟨rfl, h, good22⟩, fun n L ⟨m, r, ha, h⟩ => ?_⟩
  obtain ⟨rfl, rfl, rfl⟩ := fi3 ha
  refine ⟨by decide, ⟨b, 9, []⟩, L, [], List.Perm.refl _, ⟨rfl, h⟩, fun n L ⟨hn, h⟩ => ?_⟩
  have hn : n = 9 := hn
  subst hn
  refine ⟨rfl, ⟨b, 9, [], 3⟩, L, [], List.Perm.refl _, ⟨rfl, h, Good.nil⟩, fun p L ⟨hp, h⟩ => ?_⟩
  refine ⟨hp.2 fi4, ⟨b, 9, [], 10⟩, L, [], List.Perm.refl _, ⟨rfl, h, Good.nil⟩, fun p L ⟨hp, h⟩ => ?_⟩
  refine ⟨fun hh => fi5 (hp.1 hh), ⟨b, 9, [], 11⟩, L, [], List.Perm.refl _, ⟨rfl, h, Good.nil⟩, fun p L ⟨m, r, ha, h⟩ => ?_⟩
  obtain ⟨hp, rfl, rfl⟩ := fi6 ha
  refine ⟨hp, ⟨b, 11, [], 11⟩, L, [], List.Perm.refl _, ⟨rfl, h, Good.nil⟩, fun p L ⟨m, r, ha, h⟩ => ?_⟩
  obtain ⟨hp, rfl, rfl⟩ := fi7 ha
  refine ⟨hp, ⟨b, 11, []⟩, L, [], List.Perm.refl _, ⟨rfl, h⟩, fun n L ⟨hn, h⟩ => ?_⟩
  exact hn
theorem first_triple : Triple Go.Proofs.Try.prog 9 [] [] fun v _ => v = .bool true :=
  triple_of_runK (h := [.chunk []]) (args := []) (run_tbl _ _ _ _ _) (fun r => rfl) (fun r => rfl) (by simp) (Eq.mpr (by kernel_rfl) fi_vc : fiGoal) fun s h' hk => by
    obtain ⟨p, h1, h2⟩ := bOf_spec hk (locs h')
    rw [h2]; simp [h1]
theorem enters9 : Enters Go.Proofs.Try.prog 9 := ⟨Go.Proofs.Try.f9, Go.Proofs.Try.func9, by kernel_rfl, by kernel_rfl⟩
noncomputable def firstT : Trans := chunkR (fun _ : Unit => .tt) (fun (_ : Unit) vs L => vs.length = 0 ∧ L = []) fun _ u _ => u = ()
theorem firstT_sound : SoundT Go.Proofs.Try.prog 9 firstT := chunkR_sound (val := fun _ => .bool true) enters9 (fun a ρ => rfl) (fun a => by simp) fun _ vs L ⟨h1, h2⟩ => by
  obtain rfl := List.eq_nil_of_length_eq_zero h1
  subst h2
  exact Triple.to first_triple fun v L' h => ⟨(), h, rfl⟩
noncomputable def tbl2T : List (FuncId × Trans) := (9, firstT) :: tblT
theorem tbl2_sound : ∀ p ∈ tbl2T, SoundT Go.Proofs.Try.prog p.1 p.2 := by
  intro p hp
  rcases List.mem_cons.1 hp with rfl | hp
  · exact firstT_sound
  · exact tbl_sound p hp
theorem run_tbl2 (ann : List (Nat × FnAnn)) (hs : Hints) (d : Nat) (path : List Nat) (g : FuncId) : SoundT Go.Proofs.Try.prog g (xrun Go.Proofs.Try.prog tbl2T ann hs d path g) :=
  xrun_sound mixed no_numG (findT_sound tbl2_sound) d path g
end Go.Proofs.Ytmjhfnmkegdafaa
