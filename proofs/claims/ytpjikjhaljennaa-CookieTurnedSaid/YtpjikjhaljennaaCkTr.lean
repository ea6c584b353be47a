/- CookieTurned returns true for every input, and its arguments read afterwards as they read before. -/
import Derived.Test.YtpjikjhaljennaaCkJ
import Derived.Test.YtpjikjhaljennaaSpU
set_option maxRecDepth 100000
set_option linter.unusedVariables false
set_option linter.unusedSimpArgs false
namespace Go.Proofs.Ytpjikjhaljennaa
open Go Go.Sx
open Go.ChangeShapes Go.WideShapes Go.ChangeAt Go.RowKit

set_option maxRecDepth 100000 in
theorem cookieTurned_lifted (os : Os) (started : os.Started) (H : Type) (enc : TypeId × Value → H) :
    ReturnsInHanded {} Try.checked os 14 .any (Rows.cookieTurnedSpec.pre6 enc Try.prog Try.f14 Rows.cookieTurnedRow.domain false) (Rows.cookieTurnedSpec.post enc Try.prog Try.f14 false true false false) := by
  refine returnsInHanded_of_change (C := Try.checked) Try.own started (by kernel_rfl) Try.func14
    (ChangeSpec.witness6 (enc := enc) (C := Try.checked) false ⟨#[], #[.agg #[.int .u32 0, .int .u32 0, .int .u32 0, .int .u32 0, .int .u32 0, .int .u16 0, .int .u16 0, .int .u8 0, .int .u32 0, .int .u32 0, .int .u32 0], .int .i64 0, .int .u8 0], []⟩ 8 (by kernel_rfl) (by kernel_rfl) (by kernel_rfl) (by kernel_rfl)) ?_
  intro W base args ds gs before hval0 hW hcnd _
  have hval : ∀ (j : Nat) t v, Try.f14.params[j]? = some t → args[j]? = some v → Value.okWide Try.prog W .any base t v := hval0
  have hW' := hW
  obtain ⟨p, q, hA0, hV, rfl, hfz, hnd⟩ := hW
  have hA : DataW.TrodAll enc Try.prog W 0 (fun _ => true) true Try.f14.params.toList args.toList ds p := hA0
  rw [Try.params14] at hA hval
  obtain ⟨v0, v1, v2, d0, d1, d2, p0, p1, p2, rfl, rfl, rfl, h0, h1, h2⟩ := trodAll_three hA
  obtain ⟨rfl, rfl⟩ := trodVars_none hV
  obtain ⟨x, rfl, w_x⟩ := open_ck (hval 0 74 v0 rfl rfl)
  obtain ⟨at_, rfl, rfl, rfl, w_at_⟩ := open_int Try.underlying3 (hval 1 3 v1 rfl rfl) h1
  obtain ⟨turn, rfl, rfl, rfl, w_turn⟩ := open_int Try.underlying5 (hval 2 5 v2 rfl rfl) h2
  clear hA0 hval0
  simp only [List.append_nil, List.nil_append] at hW' hfz
  have key : Calls Try.prog 14 #[x.val, .int .i64 at_, .int .u8 turn] W fun e w' => e = .returned (.bool true) ∧ Below W.heap.size W w' := by
    exact law_own (args := [.agg x.sv, .val (.int .i64 at_), .val (.int .u8 turn)]) (vs := [x.val, .int .i64 at_, .int .u8 turn]) (run_with ct_sound _ _ _ _ _) (fun r => rfl)
      (ct_goal x w_x at_ turn (wf_u8 w_turn) _)
  refine key.mono fun e W' ⟨he, hb⟩ => ?_
  subst he
  refine ⟨_, rfl, [d0, .lit (.int .i64 at_), .lit (.int .u8 turn)], [], p0, [], p0, [], hW', trodAll_mk1 (shut_bool Try.underlying4 true), ?_, rfl, hb.frame _, fun h => by cases h⟩
  have fin := trodAll_mk3 (p := p0) (p' := []) (p'' := []) (Below.trod Try.laidOut (by kernel_rfl) (of_decide_eq_true (by kernel_rfl)) h0 hb fun x hx => hW'.lt x (by simp [hx])) (shut_int Try.underlying3 w_at_) (shut_int Try.underlying5 w_turn)
  try simp only [List.append_nil, List.nil_append] at fin
  first | exact fin | (simp only [← List.append_assoc] at fin; exact fin)

theorem cookieTurned_holds : Rows.CookieTurnedSaid :=
  OpenClaim.holds_of_wide 14 Try.f14 rfl rfl rfl rfl rfl rfl rfl ⟨rfl, rfl, rfl, rfl, rfl⟩ rfl rfl rfl rfl rfl (by kernel_rfl) Try.func14 (by kernel_rfl)
    (of_decide_eq_true (by kernel_rfl)) (by unfold Func.isWrapper; first | (rw [if_pos (by decide +kernel)]; kernel_rfl) | (rw [if_neg (by decide +kernel)]; exact ⟨rfl, rfl⟩))
    (fun os started H enc _ => cookieTurned_lifted os started H enc)
#print axioms cookieTurned_holds
end Go.Proofs.Ytpjikjhaljennaa
