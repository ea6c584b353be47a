/- CookieAges returns true for every input, and its arguments read afterwards as they read before. -/
import Derived.Test.YtpjikjhaljennaaCkG
import Derived.Test.YtpjikjhaljennaaCkH
import Derived.Test.YtpjikjhaljennaaSpU
set_option maxRecDepth 100000
set_option linter.unusedVariables false
set_option linter.unusedSimpArgs false
namespace Go.Proofs.Ytpjikjhaljennaa
open Go Go.Sx
open Go.ChangeShapes Go.WideShapes Go.ChangeAt Go.RowKit

set_option maxRecDepth 100000 in
theorem cookieAges_lifted (os : Os) (started : os.Started) (H : Type) (enc : TypeId × Value → H) :
    ReturnsInHanded {} Try.checked os 15 .any (Rows.cookieAgesSpec.pre6 enc Try.prog Try.f15 Rows.cookieAgesRow.domain false) (Rows.cookieAgesSpec.post enc Try.prog Try.f15 false true false false) := by
  refine returnsInHanded_of_change (C := Try.checked) Try.own started (by kernel_rfl) Try.func15
    (ChangeSpec.witness6 (enc := enc) (C := Try.checked) false ⟨#[], #[.agg #[.int .u32 0, .int .u32 0, .int .u32 0, .int .u32 0, .int .u32 0, .int .u16 0, .int .u16 0, .int .u8 0, .int .u32 0, .int .u32 0, .int .u32 0], .int .u32 0], []⟩ 8 (by kernel_rfl) (by kernel_rfl) (by kernel_rfl) (by kernel_rfl)) ?_
  intro W base args ds gs before hval0 hW hcnd _
  have hval : ∀ (j : Nat) t v, Try.f15.params[j]? = some t → args[j]? = some v → Value.okWide Try.prog W .any base t v := hval0
  have hW' := hW
  obtain ⟨p, q, hA0, hV, rfl, hfz, hnd⟩ := hW
  have hA : DataW.TrodAll enc Try.prog W 0 (fun _ => true) true Try.f15.params.toList args.toList ds p := hA0
  rw [Try.params15] at hA hval
  obtain ⟨v0, v1, d0, d1, p0, p1, rfl, rfl, rfl, h0, h1⟩ := trodAll_two hA
  obtain ⟨rfl, rfl⟩ := trodVars_none hV
  obtain ⟨x, rfl, w_x⟩ := open_ck (hval 0 74 v0 rfl rfl)
  obtain ⟨now, rfl, rfl, rfl, w_now⟩ := open_int Try.underlying28 (hval 1 28 v1 rfl rfl) h1
  clear hA0 hval0
  simp only [List.append_nil, List.nil_append] at hW' hfz
  have key : Calls Try.prog 15 #[x.val, .int .u32 now] W fun e w' => e = .returned (.bool true) ∧ Below W.heap.size W w' := by
    exact law_own (args := [.agg x.sv, .val (.int .u32 now)]) (vs := [x.val, .int .u32 now]) (run_with ca_sound _ _ _ _ _) (fun r => rfl)
      (ca_goal x w_x now _)
  refine key.mono fun e W' ⟨he, hb⟩ => ?_
  subst he
  refine ⟨_, rfl, [d0, .lit (.int .u32 now)], [], p0, [], p0, [], hW', trodAll_mk1 (shut_bool Try.underlying4 true), ?_, rfl, hb.frame _, fun h => by cases h⟩
  have fin := trodAll_mk2 (p := p0) (p' := []) (Below.trod Try.laidOut (by kernel_rfl) (of_decide_eq_true (by kernel_rfl)) h0 hb fun x hx => hW'.lt x (by simp [hx])) (shut_int Try.underlying28 w_now)
  try simp only [List.append_nil, List.nil_append] at fin
  first | exact fin | (simp only [← List.append_assoc] at fin; exact fin)

theorem cookieAges_holds : Rows.CookieAgesSaid :=
  OpenClaim.holds_of_wide 15 Try.f15 rfl rfl rfl rfl rfl rfl rfl ⟨rfl, rfl, rfl, rfl, rfl⟩ rfl rfl rfl rfl rfl (by kernel_rfl) Try.func15 (by kernel_rfl)
    (of_decide_eq_true (by kernel_rfl)) (by unfold Func.isWrapper; first | (rw [if_pos (by decide +kernel)]; kernel_rfl) | (rw [if_neg (by decide +kernel)]; exact ⟨rfl, rfl⟩))
    (fun os started H enc _ => cookieAges_lifted os started H enc)
#print axioms cookieAges_holds
end Go.Proofs.Ytpjikjhaljennaa
