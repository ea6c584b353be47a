/- JoinAnew returns true for every input, and its arguments read afterwards as they read before. -/
import Derived.Test.YtpjikjhaljennaaJoU
import Derived.Test.YtpjikjhaljennaaSpU
set_option maxRecDepth 100000
set_option linter.unusedVariables false
set_option linter.unusedSimpArgs false
namespace Go.Proofs.Ytpjikjhaljennaa
open Go Go.Sx
open Go.ChangeShapes Go.WideShapes Go.ChangeAt Go.RowKit

set_option maxRecDepth 100000 in
theorem joinAnew_lifted (os : Os) (started : os.Started) (H : Type) (enc : TypeId × Value → H) :
    ReturnsInHanded {} Try.checked os 3 .any (Rows.joinAnewSpec.pre6 enc Try.prog Try.f3 Rows.joinAnewRow.domain false) (Rows.joinAnewSpec.post enc Try.prog Try.f3 false true false false) := by
  refine returnsInHanded_of_change (C := Try.checked) Try.own started (by kernel_rfl) Try.func3
    (ChangeSpec.witness6 (enc := enc) (C := Try.checked) false ⟨#[], #[.bool false, .agg #[.int .u8 0, .int .u8 0, .int .u8 0], .int .u16 0], []⟩ 8 (by kernel_rfl) (by kernel_rfl) (by kernel_rfl) (by kernel_rfl)) ?_
  intro W base args ds gs before hval0 hW hcnd _
  have hval : ∀ (j : Nat) t v, Try.f3.params[j]? = some t → args[j]? = some v → Value.okWide Try.prog W .any base t v := hval0
  have hW' := hW
  obtain ⟨p, q, hA0, hV, rfl, hfz, hnd⟩ := hW
  have hA : DataW.TrodAll enc Try.prog W 0 (fun _ => true) true Try.f3.params.toList args.toList ds p := hA0
  rw [Try.params3] at hA hval
  obtain ⟨v0, v1, v2, d0, d1, d2, p0, p1, p2, rfl, rfl, rfl, h0, h1, h2⟩ := trodAll_three hA
  obtain ⟨rfl, rfl⟩ := trodVars_none hV
  obtain ⟨inter, rfl, rfl, rfl⟩ := open_bool Try.underlying4 (hval 0 4 v0 rfl rfl) h0
  obtain ⟨cs, rfl, n_cs, w_cs⟩ := open_arr3 (hval 1 22 v1 rfl rfl)
  obtain ⟨which, rfl, rfl, rfl, w_which⟩ := open_int Try.underlying23 (hval 2 23 v2 rfl rfl) h2
  clear hA0 hval0
  simp only [List.append_nil, List.nil_append] at hW' hfz
  have key : Calls Try.prog 3 #[.bool inter, .agg (cs.map (Value.int .u8)).toArray, .int .u16 which] W fun e w' => e = .returned (.bool true) ∧ Below W.heap.size W w' := by
    exact law_perm (args := [.val (.bool inter), .arr .u8 cs, .val (.int .u16 which)]) (vs := [.bool inter, .agg (cs.map (Value.int .u8)).toArray, .int .u16 which]) (run_with aw_sound _ _ _ _ _) (fun r => rfl)
      (aw_goal inter cs which _ _ _ _ _ _ _ n_cs w_cs rfl rfl rfl rfl rfl rfl)
  refine key.mono fun e W' ⟨he, hb⟩ => ?_
  subst he
  refine ⟨_, rfl, [.lit (.bool inter), d1, .lit (.int .u16 which)], [], p1, [], p1, [], hW', trodAll_mk1 (shut_bool Try.underlying4 true), ?_, rfl, hb.frame _, fun h => by cases h⟩
  have fin := trodAll_mk3 (p := []) (p' := p1) (p'' := []) (shut_bool Try.underlying4 inter) (Below.trod Try.laidOut (by kernel_rfl) (of_decide_eq_true (by kernel_rfl)) h1 hb fun x hx => hW'.lt x (by simp [hx])) (shut_int Try.underlying23 w_which)
  try simp only [List.append_nil, List.nil_append] at fin
  first | exact fin | (simp only [← List.append_assoc] at fin; exact fin)

theorem joinAnew_holds : Rows.JoinAnewSaid :=
  OpenClaim.holds_of_wide 3 Try.f3 rfl rfl rfl rfl rfl rfl rfl ⟨rfl, rfl, rfl, rfl, rfl⟩ rfl rfl rfl rfl rfl (by kernel_rfl) Try.func3 (by kernel_rfl)
    (of_decide_eq_true (by kernel_rfl)) (by unfold Func.isWrapper; first | (rw [if_pos (by decide +kernel)]; kernel_rfl) | (rw [if_neg (by decide +kernel)]; exact ⟨rfl, rfl⟩))
    (fun os started H enc _ => joinAnew_lifted os started H enc)
#print axioms joinAnew_holds
end Go.Proofs.Ytpjikjhaljennaa
