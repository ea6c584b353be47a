/- CookieOpens returns true for every input, and its arguments read afterwards as they read before. -/
import Derived.Test.YtpjikjhaljennaaCkI
import Derived.Test.YtpjikjhaljennaaSpU
set_option maxRecDepth 100000
set_option linter.unusedVariables false
set_option linter.unusedSimpArgs false
namespace Go.Proofs.Ytpjikjhaljennaa
open Go Go.Sx
open Go.ChangeShapes Go.WideShapes Go.ChangeAt Go.RowKit

set_option maxRecDepth 100000 in
theorem cookieOpens_lifted (os : Os) (started : os.Started) (H : Type) (enc : TypeId × Value → H) :
    ReturnsInHanded {} Try.checked os 13 .any (Rows.cookieOpensSpec.pre6 enc Try.prog Try.f13 Rows.cookieOpensRow.domain false) (Rows.cookieOpensSpec.post enc Try.prog Try.f13 false true false false) := by
  refine returnsInHanded_of_change (C := Try.checked) Try.own started (by kernel_rfl) Try.func13
    (ChangeSpec.witness6 (enc := enc) (C := Try.checked) false ⟨#[], #[.slice none 0 0, .slice none 0 0, .int .u32 0], []⟩ 8 (by kernel_rfl) (by kernel_rfl) (by kernel_rfl) (by kernel_rfl)) ?_
  intro W base args ds gs before hval0 hW hcnd _
  have hval : ∀ (j : Nat) t v, Try.f13.params[j]? = some t → args[j]? = some v → Value.okWide Try.prog W .any base t v := hval0
  have hW' := hW
  obtain ⟨p, q, hA0, hV, rfl, hfz, hnd⟩ := hW
  have hA : DataW.TrodAll enc Try.prog W 0 (fun _ => true) true Try.f13.params.toList args.toList ds p := hA0
  rw [Try.params13] at hA hval
  obtain ⟨v0, v1, v2, d0, d1, d2, p0, p1, p2, rfl, rfl, rfl, h0, h1, h2⟩ := trodAll_three hA
  obtain ⟨rfl, rfl⟩ := trodVars_none hV
  obtain ⟨now, rfl, rfl, rfl, w_now⟩ := open_int Try.underlying28 (hval 2 28 v2 rfl rfl) h2
  clear hA0 hval0
  simp only [List.append_nil, List.nil_append] at hW' hfz
  have key : Calls Try.prog 13 #[v0, v1, .int .u32 now] W fun e w' => e = .returned (.bool true) ∧ Below W.heap.size W w' := by
    obtain ⟨o0, l0, c0, z0, rfl, p0, q0, r0⟩ := ck_open_bytes Try.underlying30 (okWide_slice Try.underlying30 (hval 0 30 v0 rfl rfl)) h0 (fun b off h => hfz b off (by simp [h]))
    obtain ⟨o1, l1, c1, z1, rfl, p1, q1, r1⟩ := ck_open_bytes Try.underlying30 (okWide_slice Try.underlying30 (hval 1 30 v1 rfl rfl)) h1 (fun b off h => hfz b off (by simp [h]))
    exact law_own (args := [.sl o0 l0 c0, .sl o1 l1 c1, .val (.int .u32 now)]) (vs := [.slice o0 l0 c0, .slice o1 l1 c1, .int .u32 now]) (run_with co_sound _ _ _ _ _) (fun r => rfl)
      (co_goal o0 l0 c0 o1 l1 c1 now _ z0 z1 p0 q0 p1 q1 r1 (wf_u32 w_now))
  refine key.mono fun e W' ⟨he, hb⟩ => ?_
  subst he
  refine ⟨_, rfl, [d0, d1, .lit (.int .u32 now)], [], p0 ++ p1, [], p0 ++ p1, [], hW', trodAll_mk1 (shut_bool Try.underlying4 true), ?_, rfl, hb.frame _, fun h => by cases h⟩
  have fin := trodAll_mk3 (p := p0) (p' := p1) (p'' := []) (Below.trod Try.laidOut (by kernel_rfl) (of_decide_eq_true (by kernel_rfl)) h0 hb fun x hx => hW'.lt x (by simp [hx])) (Below.trod Try.laidOut (by kernel_rfl) (of_decide_eq_true (by kernel_rfl)) h1 hb fun x hx => hW'.lt x (by simp [hx])) (shut_int Try.underlying28 w_now)
  try simp only [List.append_nil, List.nil_append] at fin
  first | exact fin | (simp only [← List.append_assoc] at fin; exact fin)

theorem cookieOpens_holds : Rows.CookieOpensSaid :=
  OpenClaim.holds_of_wide 13 Try.f13 rfl rfl rfl rfl rfl rfl rfl ⟨rfl, rfl, rfl, rfl, rfl⟩ rfl rfl rfl rfl rfl (by kernel_rfl) Try.func13 (by kernel_rfl)
    (of_decide_eq_true (by kernel_rfl)) (by unfold Func.isWrapper; first | (rw [if_pos (by decide +kernel)]; kernel_rfl) | (rw [if_neg (by decide +kernel)]; exact ⟨rfl, rfl⟩))
    (fun os started H enc _ => cookieOpens_lifted os started H enc)
#print axioms cookieOpens_holds
end Go.Proofs.Ytpjikjhaljennaa
