/- SpanRows returns true for every input, and each argument reads afterwards as it read before. -/
import Derived.Test.YtmjhfnmkegdafaaSpY
import Derived.Test.YtmjhfnmkegdafaaSpU
set_option maxRecDepth 100000
set_option linter.unusedVariables false
set_option linter.unusedSimpArgs false
namespace Go.Proofs.Ytmjhfnmkegdafaa
open Go Go.Sx
open Go.ChangeShapes Go.WideShapes Go.ChangeAt Go.RowKit

set_option maxRecDepth 100000 in
theorem spanRows_lifted (os : Os) (started : os.Started) (H : Type) (enc : TypeId × Value → H) :
    ReturnsInHanded {} Try.checked os 8 .any (Rows.spanRowsSpec.pre6 enc Try.prog Try.f8 Rows.spanRowsRow.domain false) (Rows.spanRowsSpec.post enc Try.prog Try.f8 false true false false) := by
  refine returnsInHanded_of_change (C := Try.checked) Try.own started (by kernel_rfl) Try.func8
    (ChangeSpec.witness6 (enc := enc) (C := Try.checked) false ⟨#[], #[.int .u32 0, .slice none 0 0], []⟩ 8 (by kernel_rfl) (by kernel_rfl) (by kernel_rfl) (by kernel_rfl)) ?_
  intro W base args ds gs before hval0 hW hcnd _
  have hval : ∀ (j : Nat) t v, Try.f8.params[j]? = some t → args[j]? = some v → Value.okWide Try.prog W .any base t v := hval0
  have hW' := hW
  obtain ⟨p, q, hA0, hV, rfl, hfz, hnd⟩ := hW
  have hA : DataW.TrodAll enc Try.prog W 0 (fun _ => true) true Try.f8.params.toList args.toList ds p := hA0
  rw [Try.params8] at hA hval
  obtain ⟨v0, v1, d0, d1, p0, p1, rfl, rfl, rfl, h0, h1⟩ := trodAll_two hA
  obtain ⟨rfl, rfl⟩ := trodVars_none hV
  obtain ⟨mark, rfl, rfl, rfl, w_mark⟩ := open_int Try.underlying22 (hval 0 22 v0 rfl rfl) h0
  clear hA0 hval0
  simp only [List.append_nil, List.nil_append] at hW' hfz
  have key : Calls Try.prog 8 #[.int .u32 mark, v1] W fun e w' => e = .returned (.bool true) ∧ Below W.heap.size W w' := by
    have hm := wf_u32 w_mark
    rcases open_nums Try.underlying23 Try.underlying24 (by kernel_rfl) (okWide_slice Try.underlying23 (hval 1 23 v1 rfl rfl)) h1 hfz with ⟨o, cap, rfl⟩ | ⟨a, len, cap, zs, rfl, g1, g2, g3, g4, g5, o, t, g6, g7⟩
    · exact law_calls (h := [.chunk []]) (args := [.val (.int .u32 mark), .val (.slice o 0 cap)]) (vs := [.int .u32 mark, .slice o 0 cap])
        (run_tbl3 _ _ _ _ _) (fun r => rfl) (fun b k hm => by simp at hm) (fun r => rfl) (rwNil_goal o cap mark hm.1 hm.2)
    · exact law_calls (h := [.ro a.block (.tab t a.off cap [.ints .u16 zs]), .chunk []]) (args := [.val (.int .u32 mark), .slc 0 0 len cap]) (vs := [.int .u32 mark, .slice (some ⟨a.block, a.off * 1, none⟩) len cap])
        (run_tbl3 _ _ _ _ _) (fun r => rfl) (fun b k hm => by simp at hm; obtain ⟨rfl, rfl⟩ := hm; exact ⟨o, g6, g7⟩) (fun r => rfl) (rw_goal a.block t a.off len cap zs mark g2 (by unfold maxLen at g3; omega) hm.1 hm.2 (fun z hz => wf_u16 (g5 z hz)))
  refine key.mono fun e W' ⟨he, hb⟩ => ?_
  subst he
  refine ⟨_, rfl, [.lit (.int .u32 mark), d1], [], p1, [], p1, [], hW', trodAll_mk1 (shut_bool Try.underlying4 true), ?_, rfl, hb.frame _, fun h => by cases h⟩
  have fin := trodAll_mk2 (p := []) (p' := p1) (shut_int Try.underlying22 w_mark) (Below.trod Try.laidOut (by kernel_rfl) (of_decide_eq_true (by kernel_rfl)) h1 hb fun x hx => hW'.lt x (by simp [hx]))
  simp only [List.append_nil, List.nil_append] at fin
  exact fin

theorem spanRows_holds : Rows.SpanRowsSaid :=
  OpenClaim.holds_of_wide 8 Try.f8 rfl rfl rfl rfl rfl rfl rfl ⟨rfl, rfl, rfl, rfl, rfl⟩ rfl rfl rfl rfl rfl (by kernel_rfl) Try.func8 (by kernel_rfl)
    (of_decide_eq_true (by kernel_rfl)) (by unfold Func.isWrapper; first | (rw [if_pos (by decide +kernel)]; kernel_rfl) | (rw [if_neg (by decide +kernel)]; exact ⟨rfl, rfl⟩))
    (fun os started H enc _ => spanRows_lifted os started H enc)
#print axioms spanRows_holds
end Go.Proofs.Ytmjhfnmkegdafaa
