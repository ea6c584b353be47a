/- TimerParts returns true for every input, and its arguments read afterwards as they read before. -/
import Derived.Test.YthkcfocoekonjaaTmQ
import Derived.Test.YthkcfocoekonjaaSpU
set_option maxRecDepth 100000
set_option linter.unusedVariables false
set_option linter.unusedSimpArgs false
namespace Go.Proofs.Ythkcfocoekonjaa
open Go Go.Sx
open Go.ChangeShapes Go.WideShapes Go.ChangeAt Go.RowKit

set_option maxRecDepth 100000 in
theorem timerParts_lifted (os : Os) (started : os.Started) (H : Type) (enc : TypeId × Value → H) :
    ReturnsInHanded {} Try.checked os 7 .any (Rows.timerPartsSpec.pre6 enc Try.prog Try.f7 Rows.timerPartsRow.domain false) (Rows.timerPartsSpec.post enc Try.prog Try.f7 false true false false) := by
  refine returnsInHanded_of_change (C := Try.checked) Try.own started (by kernel_rfl) Try.func7
    (ChangeSpec.witness6 (enc := enc) (C := Try.checked) false ⟨#[], #[.slice none 0 0, .int .u64 0, .int .u64 0], []⟩ 8 (by kernel_rfl) (by kernel_rfl) (by kernel_rfl) (by kernel_rfl)) ?_
  intro W base args ds gs before hval0 hW hcnd _
  have hval : ∀ (j : Nat) t v, Try.f7.params[j]? = some t → args[j]? = some v → Value.okWide Try.prog W .any base t v := hval0
  have hW' := hW
  obtain ⟨p, q, hA0, hV, rfl, hfz, hnd⟩ := hW
  have hA : DataW.TrodAll enc Try.prog W 0 (fun _ => true) true Try.f7.params.toList args.toList ds p := hA0
  rw [Try.params7] at hA hval
  obtain ⟨v0, v1, v2, d0, d1, d2, p0, p1, p2, rfl, rfl, rfl, h0, h1, h2⟩ := trodAll_three hA
  obtain ⟨rfl, rfl⟩ := trodVars_none hV
  obtain ⟨cut, rfl, rfl, rfl, w_cut⟩ := open_int Try.underlying72 (hval 1 72 v1 rfl rfl) h1
  obtain ⟨end_, rfl, rfl, rfl, w_end_⟩ := open_int Try.underlying72 (hval 2 72 v2 rfl rfl) h2
  clear hA0 hval0
  simp only [List.append_nil, List.nil_append] at hW' hfz
  have key : Calls Try.prog 7 #[v0, .int .u64 cut, .int .u64 end_] W fun e w' => e = .returned (.bool true) ∧ Below W.heap.size W w' := by
    rcases open_nums Try.underlying66 Try.underlying72 (by kernel_rfl) (okWide_slice Try.underlying66 (hval 0 66 v0 rfl rfl)) h0 hfz with ⟨o, cap, rfl⟩ | ⟨a, len, cap, zs, rfl, g1, g2, g3, g4, g5, o, t, g6, g7⟩
    · exact law_calls (h := [.gone (0, 0, 0), .chunk []]) (args := [.val (.slice o 0 cap), .val (.int .u64 cut), .val (.int .u64 end_)]) (vs := [.slice o 0 cap, .int .u64 cut, .int .u64 end_])
        (run_with tbl2_sound _ _ _ _ _) (fun r => rfl) (fun b k hm => by simp at hm) (fun r => rfl) (tpNil_goal o cap cut end_)
    · exact law_calls (h := [.ro a.block (.tab t a.off cap [.ints .u64 zs]), .chunk []]) (args := [.slc 0 0 len cap, .val (.int .u64 cut), .val (.int .u64 end_)]) (vs := [.slice (some ⟨a.block, a.off * 1, none⟩) len cap, .int .u64 cut, .int .u64 end_])
        (run_with tbl2_sound _ _ _ _ _) (fun r => rfl) (fun b k hm => by simp at hm; obtain ⟨rfl, rfl⟩ := hm; exact ⟨o, g6, g7⟩) (fun r => rfl) (tp_goal a.block t a.off len cap (min len 60) zs cut end_ rfl g1 g2 g4)
  refine key.mono fun e W' ⟨he, hb⟩ => ?_
  subst he
  refine ⟨_, rfl, [d0, .lit (.int .u64 cut), .lit (.int .u64 end_)], [], p0, [], p0, [], hW', trodAll_mk1 (shut_bool Try.underlying4 true), ?_, rfl, hb.frame _, fun h => by cases h⟩
  have fin := trodAll_mk3 (p := p0) (p' := []) (p'' := []) (Below.trod Try.laidOut (by kernel_rfl) (of_decide_eq_true (by kernel_rfl)) h0 hb fun x hx => hW'.lt x (by simp [hx])) (shut_int Try.underlying72 w_cut) (shut_int Try.underlying72 w_end_)
  try simp only [List.append_nil, List.nil_append] at fin
  exact fin

theorem timerParts_holds : Rows.TimerPartsSaid :=
  OpenClaim.holds_of_wide 7 Try.f7 rfl rfl rfl rfl rfl rfl rfl ⟨rfl, rfl, rfl, rfl, rfl⟩ rfl rfl rfl rfl rfl (by kernel_rfl) Try.func7 (by kernel_rfl)
    (of_decide_eq_true (by kernel_rfl)) (by unfold Func.isWrapper; first | (rw [if_pos (by decide +kernel)]; kernel_rfl) | (rw [if_neg (by decide +kernel)]; exact ⟨rfl, rfl⟩))
    (fun os started H enc _ => timerParts_lifted os started H enc)
#print axioms timerParts_holds
end Go.Proofs.Ythkcfocoekonjaa
