/- SchedFair returns true for every input, and its argument reads afterwards as it read before. -/
import Derived.Test.YthkcfocoekonjaaScL
import Derived.Test.YthkcfocoekonjaaSpU
set_option maxRecDepth 100000
set_option linter.unusedVariables false
set_option linter.unusedSimpArgs false
namespace Go.Proofs.Ythkcfocoekonjaa
open Go Go.Sx
open Go.ChangeShapes Go.WideShapes Go.ChangeAt Go.RowKit

set_option maxRecDepth 100000 in
theorem schedFair_lifted (os : Os) (started : os.Started) (H : Type) (enc : TypeId × Value → H) :
    ReturnsInHanded {} Try.checked os 3 .any (Rows.schedFairSpec.pre6 enc Try.prog Try.f3 Rows.schedFairRow.domain false) (Rows.schedFairSpec.post enc Try.prog Try.f3 false true false false) := by
  refine returnsInHanded_of_change (C := Try.checked) Try.own started (by kernel_rfl) Try.func3
    (ChangeSpec.witness6 (enc := enc) (C := Try.checked) false ⟨#[], #[.slice none 0 0], []⟩ 8 (by kernel_rfl) (by kernel_rfl) (by kernel_rfl) (by kernel_rfl)) ?_
  intro W base args ds gs before hval0 hW hcnd _
  have hval : ∀ (j : Nat) t v, Try.f3.params[j]? = some t → args[j]? = some v → Value.okWide Try.prog W .any base t v := hval0
  have hW' := hW
  obtain ⟨p, q, hA0, hV, rfl, hfz, hnd⟩ := hW
  have hA : DataW.TrodAll enc Try.prog W 0 (fun _ => true) true Try.f3.params.toList args.toList ds p := hA0
  rw [Try.params3] at hA hval
  obtain ⟨v0, d0, rfl, rfl, h0⟩ := trodAll_one hA
  obtain ⟨rfl, rfl⟩ := trodVars_none hV
  clear hA0 hval0
  simp only [List.append_nil, List.nil_append] at hW' hfz
  have key : Calls Try.prog 3 #[v0] W fun e w' => e = .returned (.bool true) ∧ Below W.heap.size W w' := by
    rcases open_nums Try.underlying22 Try.underlying27 (by kernel_rfl) (okWide_slice Try.underlying22 (hval 0 22 v0 rfl rfl)) h0 hfz with ⟨o, cap, rfl⟩ | ⟨a, len, cap, zs, rfl, g1, g2, g3, g4, g5, o, t, g6, g7⟩
    · exact law_calls (h := [.gone (0, 0, 0), .chunk []]) (args := [.val (.slice o 0 cap)]) (vs := [.slice o 0 cap])
        (run_with five_sound _ _ _ _ _) (fun r => rfl) (fun b k hm => by simp at hm) (fun r => rfl) (faNil_goal o cap 0 [] _ _ _ _ rfl rfl rfl rfl trivial)
    · exact law_calls (h := [.ro a.block (.tab t a.off cap [.ints .u16 zs]), .chunk []]) (args := [.slc 0 0 len cap]) (vs := [.slice (some ⟨a.block, a.off * 1, none⟩) len cap])
        (run_with five_sound _ _ _ _ _) (fun r => rfl) (fun b k hm => by simp at hm; obtain ⟨rfl, rfl⟩ := hm; exact ⟨o, g6, g7⟩) (fun r => rfl) (fa_goal a.block t a.off len cap (min len 12) zs _ _ _ _ rfl rfl rfl rfl trivial g2 g1 fun z hz => wf_u16 (g5 z hz))
  refine key.mono fun e W' ⟨he, hb⟩ => ?_
  subst he
  refine ⟨_, rfl, [d0], [], p, [], p, [], hW', trodAll_mk1 (shut_bool Try.underlying4 true), ?_, rfl, hb.frame _, fun h => by cases h⟩
  have fin := trodAll_mk1 (p := p) (Below.trod Try.laidOut (by kernel_rfl) (of_decide_eq_true (by kernel_rfl)) h0 hb fun x hx => hW'.lt x (by simp [hx]))
  try simp only [List.append_nil, List.nil_append] at fin
  exact fin

theorem schedFair_holds : Rows.SchedFairSaid :=
  OpenClaim.holds_of_wide 3 Try.f3 rfl rfl rfl rfl rfl rfl rfl ⟨rfl, rfl, rfl, rfl, rfl⟩ rfl rfl rfl rfl rfl (by kernel_rfl) Try.func3 (by kernel_rfl)
    (of_decide_eq_true (by kernel_rfl)) (by unfold Func.isWrapper; first | (rw [if_pos (by decide +kernel)]; kernel_rfl) | (rw [if_neg (by decide +kernel)]; exact ⟨rfl, rfl⟩))
    (fun os started H enc _ => schedFair_lifted os started H enc)
#print axioms schedFair_holds
end Go.Proofs.Ythkcfocoekonjaa
