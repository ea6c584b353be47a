/- FlightMarks returns true for every input, and its arguments read afterwards as they read before. -/
import Derived.Test.YthkcfocoekonjaaFlE
import Derived.Test.YthkcfocoekonjaaSpAr
import Derived.Test.YthkcfocoekonjaaSpU
set_option maxRecDepth 100000
set_option linter.unusedVariables false
set_option linter.unusedSimpArgs false
namespace Go.Proofs.Ythkcfocoekonjaa
open Go Go.Sx
open Go.ChangeShapes Go.WideShapes Go.ChangeAt Go.RowKit

set_option maxRecDepth 100000 in
theorem flightMarks_lifted (os : Os) (started : os.Started) (H : Type) (enc : TypeId × Value → H) :
    ReturnsInHanded {} Try.checked os 4 .any (Rows.flightMarksSpec.pre6 enc Try.prog Try.f4 Rows.flightMarksRow.domain false) (Rows.flightMarksSpec.post enc Try.prog Try.f4 false true false false) := by
  refine returnsInHanded_of_change (C := Try.checked) Try.own started (by kernel_rfl) Try.func4
    (ChangeSpec.witness6 (enc := enc) (C := Try.checked) false ⟨#[], #[.int .u32 0, .slice none 0 0, .slice none 0 0], []⟩ 8 (by kernel_rfl) (by kernel_rfl) (by kernel_rfl) (by kernel_rfl)) ?_
  intro W base args ds gs before hval0 hW hcnd _
  have hval : ∀ (j : Nat) t v, Try.f4.params[j]? = some t → args[j]? = some v → Value.okWide Try.prog W .any base t v := hval0
  have hW' := hW
  obtain ⟨p, q, hA0, hV, rfl, hfz, hnd⟩ := hW
  have hA : DataW.TrodAll enc Try.prog W 0 (fun _ => true) true Try.f4.params.toList args.toList ds p := hA0
  rw [Try.params4] at hA hval
  obtain ⟨v0, v1, v2, d0, d1, d2, p0, p1, p2, rfl, rfl, rfl, h0, h1, h2⟩ := trodAll_three hA
  obtain ⟨rfl, rfl⟩ := trodVars_none hV
  obtain ⟨start, rfl, rfl, rfl, w_start⟩ := open_int Try.underlying31 (hval 0 31 v0 rfl rfl) h0
  clear hA0 hval0
  simp only [List.append_nil, List.nil_append] at hW' hfz
  have key : Calls Try.prog 4 #[.int .u32 start, v1, v2] W fun e w' => e = .returned (.bool true) ∧ Below W.heap.size W w' := by
    have hZ2 : ∀ {l2 off2 : Nat} {ob : Obj} {Z : Nat → Nat → Int}, (∀ i j, i < l2 → j < 2 → objCell ob (off2 + i * 2 + j) = some (.int .u8 (Z i j)) ∧ (Lit.int .u8 (Z i j)).wf = true) →
        ∀ i, i < l2 → (objCell ob (off2 + i * 2) = some (.int .u8 (Z i 0)) ∧ objCell ob (off2 + i * 2 + 1) = some (.int .u8 (Z i 1))) ∧ (0 ≤ Z i 0 ∧ Z i 0 < 256) ∧ (0 ≤ Z i 1 ∧ Z i 1 < 256) := fun h i hi =>
      ⟨⟨(h i 0 hi (by omega)).1, (h i 1 hi (by omega)).1⟩, wf_u8 (h i 0 hi (by omega)).2, wf_u8 (h i 1 hi (by omega)).2⟩
    rcases open_arrs (n := 2) Try.underlying48 Try.underlying52 Try.underlying5 (by kernel_rfl) (by kernel_rfl) (by omega) (okWide_slice Try.underlying48 (hval 2 48 v2 rfl rfl)) h2 with ⟨o2, cap2, rfl⟩ | ⟨b2, off2, len2, cap2, ob, Z, rfl, e1, e2, e3, e4⟩
    · rcases open_nums Try.underlying34 Try.underlying5 (by kernel_rfl) (okWide_slice Try.underlying34 (hval 1 34 v1 rfl rfl)) h1 (fun b off hm => hfz b off (by simp [hm])) with ⟨o, cap, rfl⟩ | ⟨a, len, cap, zs, rfl, g1, g2, g3, g4, g5, o, t, g6, g7⟩
      · exact law_calls (h := [.gone (0, 0, 0), .gone (0, 0, 0), .chunk []]) (args := [.val (.int .u32 start), .val (.slice o 0 cap), .val (.slice o2 0 cap2)]) (vs := [.int .u32 start, .slice o 0 cap, .slice o2 0 cap2])
          (run_with six_sound _ _ _ _ _) (fun r => rfl) (fun b k hm => by simp at hm) (fun r => rfl) (fkC_goal start o cap o2 cap2 0 rfl _ _ (fun p => p) rfl rfl trivial)
      · exact law_calls (h := [.ro a.block (.tab t a.off cap [.ints .u8 zs]), .gone (0, 0, 0), .chunk []]) (args := [.val (.int .u32 start), .slc 0 0 len cap, .val (.slice o2 0 cap2)]) (vs := [.int .u32 start, .slice (some ⟨a.block, a.off * 1, none⟩) len cap, .slice o2 0 cap2])
          (run_with six_sound _ _ _ _ _) (fun r => rfl) (fun b k hm => by simp at hm; obtain ⟨rfl, rfl⟩ := hm; exact ⟨o, g6, g7⟩) (fun r => by simp [denL, den, locAt, locs, Ent.loc, SBlk.base, SBlk.wd])
          (fkB_goal start a.block t a.off len cap zs o2 cap2 (min len 40) g2 (fun z hz => wf_u8 (g5 z hz)) rfl _ _ (fun p => p) rfl rfl trivial)
    · rcases open_nums Try.underlying34 Try.underlying5 (by kernel_rfl) (okWide_slice Try.underlying34 (hval 1 34 v1 rfl rfl)) h1 (fun b off hm => hfz b off (by simp [hm])) with ⟨o, cap, rfl⟩ | ⟨a, len, cap, zs, rfl, g1, g2, g3, g4, g5, o, t, g6, g7⟩
      · exact law_calls (h := [.gone (0, 0, 0), .ro b2 (.obj ob), .chunk []]) (args := [.val (.int .u32 start), .val (.slice o 0 cap), .slc 1 off2 len2 cap2]) (vs := [.int .u32 start, .slice o 0 cap, .slice (some ⟨b2, off2, none⟩) len2 cap2])
          (run_with six_sound _ _ _ _ _) (fun r => rfl) (fun b k hm => by simp at hm; obtain ⟨rfl, rfl⟩ := hm; exact ⟨ob, e3, fun r => rfl⟩) (fun r => by simp [denL, den, locAt, locs, Ent.loc, SBlk.base, SBlk.wd])
          (fkA_goal start o cap b2 off2 len2 cap2 ob 0 Z rfl (by unfold maxLen at e2; omega) (hZ2 e4) _ _ (fun p => p) rfl rfl trivial)
      · exact law_calls (h := [.ro a.block (.tab t a.off cap [.ints .u8 zs]), .ro b2 (.obj ob), .chunk []]) (args := [.val (.int .u32 start), .slc 0 0 len cap, .slc 1 off2 len2 cap2]) (vs := [.int .u32 start, .slice (some ⟨a.block, a.off * 1, none⟩) len cap, .slice (some ⟨b2, off2, none⟩) len2 cap2])
          (run_with six_sound _ _ _ _ _) (fun r => rfl) (fun b k hm => by simp at hm; rcases hm with ⟨rfl, rfl⟩ | ⟨rfl, rfl⟩; exact ⟨o, g6, g7⟩; exact ⟨ob, e3, fun r => rfl⟩) (fun r => by simp [denL, den, locAt, locs, Ent.loc, SBlk.base, SBlk.wd])
          (fk_goal start a.block t a.off len cap zs b2 off2 len2 cap2 ob (min len 40) Z g2 (fun z hz => wf_u8 (g5 z hz)) rfl (by unfold maxLen at e2; omega) (hZ2 e4) _ _ (fun p => p) rfl rfl trivial)
  refine key.mono fun e W' ⟨he, hb⟩ => ?_
  subst he
  refine ⟨_, rfl, [.lit (.int .u32 start), d1, d2], [], p1 ++ p2, [], p1 ++ p2, [], hW', trodAll_mk1 (shut_bool Try.underlying4 true), ?_, rfl, hb.frame _, fun h => by cases h⟩
  have fin := trodAll_mk3 (p := []) (p' := p1) (p'' := p2) (shut_int Try.underlying31 w_start) (Below.trod Try.laidOut (by kernel_rfl) (of_decide_eq_true (by kernel_rfl)) h1 hb fun x hx => hW'.lt x (by simp [hx])) (Below.trod Try.laidOut (by kernel_rfl) (of_decide_eq_true (by kernel_rfl)) h2 hb fun x hx => hW'.lt x (by simp [hx]))
  try simp only [List.append_nil, List.nil_append] at fin
  exact fin

theorem flightMarks_holds : Rows.FlightMarksSaid :=
  OpenClaim.holds_of_wide 4 Try.f4 rfl rfl rfl rfl rfl rfl rfl ⟨rfl, rfl, rfl, rfl, rfl⟩ rfl rfl rfl rfl rfl (by kernel_rfl) Try.func4 (by kernel_rfl)
    (of_decide_eq_true (by kernel_rfl)) (by unfold Func.isWrapper; first | (rw [if_pos (by decide +kernel)]; kernel_rfl) | (rw [if_neg (by decide +kernel)]; exact ⟨rfl, rfl⟩))
    (fun os started H enc _ => flightMarks_lifted os started H enc)
#print axioms flightMarks_holds
end Go.Proofs.Ythkcfocoekonjaa
