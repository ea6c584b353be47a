/- SchedNumbers returns true for every input, and its arguments read afterwards as they read before. -/
import Derived.Test.YthkcfocoekonjaaScO
import Derived.Test.YthkcfocoekonjaaSpU
set_option maxRecDepth 100000
set_option linter.unusedVariables false
set_option linter.unusedSimpArgs false
namespace Go.Proofs.Ythkcfocoekonjaa
open Go Go.Sx
open Go.ChangeShapes Go.WideShapes Go.ChangeAt Go.RowKit

set_option maxRecDepth 100000 in
theorem schedNumbers_lifted (os : Os) (started : os.Started) (H : Type) (enc : TypeId × Value → H) :
    ReturnsInHanded {} Try.checked os 5 .any (Rows.schedNumbersSpec.pre6 enc Try.prog Try.f5 Rows.schedNumbersRow.domain false) (Rows.schedNumbersSpec.post enc Try.prog Try.f5 false true false false) := by
  refine returnsInHanded_of_change (C := Try.checked) Try.own started (by kernel_rfl) Try.func5
    (ChangeSpec.witness6 (enc := enc) (C := Try.checked) false ⟨#[], #[.slice none 0 0, .int .i64 0], []⟩ 8 (by kernel_rfl) (by kernel_rfl) (by kernel_rfl) (by kernel_rfl)) ?_
  intro W base args ds gs before hval0 hW hcnd _
  have hval : ∀ (j : Nat) t v, Try.f5.params[j]? = some t → args[j]? = some v → Value.okWide Try.prog W .any base t v := hval0
  have hW' := hW
  obtain ⟨p, q, hA0, hV, rfl, hfz, hnd⟩ := hW
  have hA : DataW.TrodAll enc Try.prog W 0 (fun _ => true) true Try.f5.params.toList args.toList ds p := hA0
  rw [Try.params5] at hA hval
  obtain ⟨v0, v1, d0, d1, p0, p1, rfl, rfl, rfl, h0, h1⟩ := trodAll_two hA
  obtain ⟨rfl, rfl⟩ := trodVars_none hV
  obtain ⟨anew, rfl, rfl, rfl, w_anew⟩ := open_int Try.underlying3 (hval 1 3 v1 rfl rfl) h1
  clear hA0 hval0
  simp only [List.append_nil, List.nil_append] at hW' hfz
  have key : Calls Try.prog 5 #[v0, .int .i64 anew] W fun e w' => e = .returned (.bool true) ∧ Below W.heap.size W w' := by
    rcases open_boolsW Try.underlying60 Try.underlying4 (by kernel_rfl) (okWide_slice Try.underlying60 (hval 0 60 v0 rfl rfl)) h0 with ⟨o, cap, rfl⟩ | ⟨b, off, len, cap, ob, Z, rfl, g1, g2, g3, g4⟩
    · exact law_calls (h := [.gone (0, 0, 0), .chunk []]) (args := [.val (.slice o 0 cap), .val (.int .i64 anew)]) (vs := [.slice o 0 cap, .int .i64 anew])
        (run_with seven_sound _ _ _ _ _) (fun r => rfl) (fun b k hm => by simp at hm) (fun r => rfl) (nuNil_goal o cap 0 anew rfl _ nuP3 _ rfl fun p h => h)
    · exact law_calls (h := [.ro b (.obj ob), .chunk []]) (args := [.slc 0 off len cap, .val (.int .i64 anew)]) (vs := [.slice (some ⟨b, off, none⟩) len cap, .int .i64 anew])
        (run_with seven_sound _ _ _ _ _) (fun r => rfl) (fun b k hm => by simp at hm; obtain ⟨rfl, rfl⟩ := hm; exact ⟨ob, g3, fun r => rfl⟩) (fun r => by simp [denL, den, locAt, locs, Ent.loc, SBlk.base, SBlk.wd])
        (nu_goal b off len cap (min len 60) ob anew Z g4 rfl _ _ _ rfl rfl fun p h => h)
  refine key.mono fun e W' ⟨he, hb⟩ => ?_
  subst he
  refine ⟨_, rfl, [d0, .lit (.int .i64 anew)], [], p0, [], p0, [], hW', trodAll_mk1 (shut_bool Try.underlying4 true), ?_, rfl, hb.frame _, fun h => by cases h⟩
  have fin := trodAll_mk2 (p := p0) (p' := []) (Below.trod Try.laidOut (by kernel_rfl) (of_decide_eq_true (by kernel_rfl)) h0 hb fun x hx => hW'.lt x (by simp [hx])) (shut_int Try.underlying3 w_anew)
  try simp only [List.append_nil, List.nil_append] at fin
  exact fin

theorem schedNumbers_holds : Rows.SchedNumbersSaid :=
  OpenClaim.holds_of_wide 5 Try.f5 rfl rfl rfl rfl rfl rfl rfl ⟨rfl, rfl, rfl, rfl, rfl⟩ rfl rfl rfl rfl rfl (by kernel_rfl) Try.func5 (by kernel_rfl)
    (of_decide_eq_true (by kernel_rfl)) (by unfold Func.isWrapper; first | (rw [if_pos (by decide +kernel)]; kernel_rfl) | (rw [if_neg (by decide +kernel)]; exact ⟨rfl, rfl⟩))
    (fun os started H enc _ => schedNumbers_lifted os started H enc)
#print axioms schedNumbers_holds
end Go.Proofs.Ythkcfocoekonjaa
