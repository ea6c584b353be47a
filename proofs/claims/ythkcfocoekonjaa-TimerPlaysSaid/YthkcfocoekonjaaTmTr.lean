/- TimerPlays returns true for every input, and its argument reads afterwards as it read before. -/
import Derived.Test.YthkcfocoekonjaaTmT
import Derived.Test.YthkcfocoekonjaaSpV2
set_option maxRecDepth 100000
set_option linter.unusedVariables false
set_option linter.unusedSimpArgs false
namespace Go.Proofs.Ythkcfocoekonjaa
open Go Go.Sx
open Go.ChangeShapes Go.WideShapes Go.ChangeAt Go.RowKit

set_option maxRecDepth 100000 in
theorem timerPlays_lifted (os : Os) (started : os.Started) (H : Type) (enc : TypeId × Value → H) :
    ReturnsInHanded {} Try.checked os 10 .any (Rows.timerPlaysSpec.pre6 enc Try.prog Try.f10 Rows.timerPlaysRow.domain false) (Rows.timerPlaysSpec.post enc Try.prog Try.f10 false true false false) := by
  refine returnsInHanded_of_change (C := Try.checked) Try.own started (by kernel_rfl) Try.func10
    (ChangeSpec.witness6 (enc := enc) (C := Try.checked) false ⟨#[], #[.slice none 0 0], []⟩ 8 (by kernel_rfl) (by kernel_rfl) (by kernel_rfl) (by kernel_rfl)) ?_
  intro W base args ds gs before hval0 hW hcnd _
  have hval : ∀ (j : Nat) t v, Try.f10.params[j]? = some t → args[j]? = some v → Value.okWide Try.prog W .any base t v := hval0
  have hW' := hW
  obtain ⟨p, q, hA0, hV, rfl, hfz, hnd⟩ := hW
  have hA : DataW.TrodAll enc Try.prog W 0 (fun _ => true) true Try.f10.params.toList args.toList ds p := hA0
  rw [Try.params10] at hA hval
  obtain ⟨v0, d0, rfl, rfl, h0⟩ := trodAll_one hA
  obtain ⟨rfl, rfl⟩ := trodVars_none hV
  clear hA0 hval0
  simp only [List.append_nil, List.nil_append] at hW' hfz
  have key : Calls Try.prog 10 #[v0] W fun e w' => e = .returned (.bool true) ∧ Below W.heap.size W w' := by
    rcases open_recs (ks := [.i64, .i64, .u64]) Try.underlying81 Try.underlying87 (by kernel_rfl) (by decide) (fun j k hjk => by
        match j, hjk with
        | 0, h => cases h; exact ⟨_, rfl, rfl, by kernel_rfl, Try.underlying3⟩
        | 1, h => cases h; exact ⟨_, rfl, rfl, by kernel_rfl, Try.underlying3⟩
        | 2, h => cases h; exact ⟨_, rfl, rfl, by kernel_rfl, Try.underlying72⟩
        | n + 3, h => simp at h) (okWide_slice Try.underlying81 (hval 0 81 v0 rfl rfl)) h0 with ⟨o, cap, rfl⟩ | ⟨b, off, len, cap, ob, Z, rfl, g1, g2, g3, g4⟩
    · exact law_calls (h := [.gone (0, 0, 0), .chunk []]) (args := [.val (.slice o 0 cap)]) (vs := [.slice o 0 cap])
        (run_with tbl3_sound _ _ _ _ _) (fun r => rfl) (fun b k hm => by simp at hm) (fun r => rfl) (tlNil_goal o cap)
    · have gd : ∀ (j i : Nat), i < len → ((List.range len).map fun i => Z i j).getD i 0 = Z i j := fun j i hi => by simp [List.getD, hi]
      exact law_calls (h := [.ro b (.obj ob), .chunk []]) (args := [.slc 0 off len cap]) (vs := [.slice (some ⟨b, off, none⟩) len cap])
        (run_with tbl3_sound _ _ _ _ _) (fun r => rfl) (fun b k hm => by simp at hm; obtain ⟨rfl, rfl⟩ := hm; exact ⟨ob, g3, fun r => rfl⟩) (fun r => by simp [denL, den, locAt, locs, Ent.loc, SBlk.base, SBlk.wd])
        (tl_goal b ob off len cap ((List.range len).map fun i => Z i 0) ((List.range len).map fun i => Z i 1) ((List.range len).map fun i => Z i 2)
          (fun i hi => ⟨by rw [gd 0 i hi]; exact (g4 i 0 .i64 hi rfl).1, by rw [gd 1 i hi]; exact (g4 i 1 .i64 hi rfl).1, by rw [gd 2 i hi]; exact (g4 i 2 .u64 hi rfl).1⟩) (by unfold maxLen at g2; omega))
  refine key.mono fun e W' ⟨he, hb⟩ => ?_
  subst he
  refine ⟨_, rfl, [d0], [], p, [], p, [], hW', trodAll_mk1 (shut_bool Try.underlying4 true), ?_, rfl, hb.frame _, fun h => by cases h⟩
  have fin := trodAll_mk1 (p := p) (Below.trod Try.laidOut (by kernel_rfl) (of_decide_eq_true (by kernel_rfl)) h0 hb fun x hx => hW'.lt x (by simp [hx]))
  try simp only [List.append_nil, List.nil_append] at fin
  exact fin

theorem timerPlays_holds : Rows.TimerPlaysSaid :=
  OpenClaim.holds_of_wide 10 Try.f10 rfl rfl rfl rfl rfl rfl rfl ⟨rfl, rfl, rfl, rfl, rfl⟩ rfl rfl rfl rfl rfl (by kernel_rfl) Try.func10 (by kernel_rfl)
    (of_decide_eq_true (by kernel_rfl)) (by unfold Func.isWrapper; first | (rw [if_pos (by decide +kernel)]; kernel_rfl) | (rw [if_neg (by decide +kernel)]; exact ⟨rfl, rfl⟩))
    (fun os started H enc _ => timerPlays_lifted os started H enc)
#print axioms timerPlays_holds
end Go.Proofs.Ythkcfocoekonjaa
