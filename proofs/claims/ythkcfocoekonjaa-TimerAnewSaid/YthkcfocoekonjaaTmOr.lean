/- TimerAnew returns true for every input, and each argument reads afterwards as it read before. -/
import Derived.Test.YthkcfocoekonjaaTmO
import Derived.Test.YthkcfocoekonjaaSpU
set_option maxRecDepth 100000
set_option linter.unusedVariables false
set_option linter.unusedSimpArgs false
namespace Go.Proofs.Ythkcfocoekonjaa
open Go Go.Sx
open Go.ChangeShapes Go.WideShapes Go.ChangeAt Go.RowKit

set_option maxRecDepth 100000 in
theorem timerAnew_lifted (os : Os) (started : os.Started) (H : Type) (enc : TypeId × Value → H) :
    ReturnsInHanded {} Try.checked os 8 .any (Rows.timerAnewSpec.pre6 enc Try.prog Try.f8 Rows.timerAnewRow.domain false) (Rows.timerAnewSpec.post enc Try.prog Try.f8 false true false false) := by
  refine returnsInHanded_of_change (C := Try.checked) Try.own started (by kernel_rfl) Try.func8
    (ChangeSpec.witness6 (enc := enc) (C := Try.checked) false ⟨#[], #[.int .i64 0, .slice none 0 0, .bool false], []⟩ 8 (by kernel_rfl) (by kernel_rfl) (by kernel_rfl) (by kernel_rfl)) ?_
  intro W base args ds gs before hval0 hW hcnd _
  have hval : ∀ (j : Nat) t v, Try.f8.params[j]? = some t → args[j]? = some v → Value.okWide Try.prog W .any base t v := hval0
  have hW' := hW
  obtain ⟨p, q, hA0, hV, rfl, hfz, hnd⟩ := hW
  have hA : DataW.TrodAll enc Try.prog W 0 (fun _ => true) true Try.f8.params.toList args.toList ds p := hA0
  rw [Try.params8] at hA hval
  obtain ⟨v0, v1, v2, d0, d1, d2, p0, p1, p2, rfl, rfl, rfl, h0, h1, h2⟩ := trodAll_three hA
  obtain ⟨rfl, rfl⟩ := trodVars_none hV
  obtain ⟨kind, rfl, rfl, rfl, w_kind⟩ := open_int Try.underlying3 (hval 0 3 v0 rfl rfl) h0
  obtain ⟨stop, rfl, rfl, rfl⟩ := open_bool Try.underlying4 (hval 2 4 v2 rfl rfl) h2
  clear hA0 hval0
  simp only [List.append_nil, List.nil_append] at hW' hfz
  have key : Calls Try.prog 8 #[.int .i64 kind, v1, .bool stop] W fun e w' => e = .returned (.bool true) ∧ Below W.heap.size W w' := by
    rcases open_nums Try.underlying66 Try.underlying72 (by kernel_rfl) (okWide_slice Try.underlying66 (hval 1 66 v1 rfl rfl)) h1 hfz with ⟨o, cap, rfl⟩ | ⟨a, len, cap, zs, rfl, g1, g2, g3, g4, g5, o, t, g6, g7⟩
    · exact law_calls (h := [.chunk []]) (args := [.val (.int .i64 kind), .val (.slice o 0 cap), .val (.bool stop)]) (vs := [.int .i64 kind, .slice o 0 cap, .bool stop])
        (run_with tbl2_sound _ _ _ _ _) (fun r => rfl) (fun b k hm => by simp at hm) (fun r => rfl) (anNil_goal o cap kind stop)
    · exact law_calls (h := [.ro a.block (.tab t a.off cap [.ints .u64 zs]), .chunk []]) (args := [.val (.int .i64 kind), .slc 0 0 len cap, .val (.bool stop)]) (vs := [.int .i64 kind, .slice (some ⟨a.block, a.off * 1, none⟩) len cap, .bool stop])
        (run_with tbl2_sound _ _ _ _ _) (fun r => rfl) (fun b k hm => by simp at hm; obtain ⟨rfl, rfl⟩ := hm; exact ⟨o, g6, g7⟩) (fun r => rfl) (an_goal a.block t a.off len cap zs kind stop g1 g2 g3 g4 fun z hz => wf_u64 (g5 z hz))
  refine key.mono fun e W' ⟨he, hb⟩ => ?_
  subst he
  refine ⟨_, rfl, [.lit (.int .i64 kind), d1, .lit (.bool stop)], [], p1, [], p1, [], hW', trodAll_mk1 (shut_bool Try.underlying4 true), ?_, rfl, hb.frame _, fun h => by cases h⟩
  have fin := trodAll_mk3 (p := []) (p' := p1) (p'' := []) (shut_int Try.underlying3 w_kind) (Below.trod Try.laidOut (by kernel_rfl) (of_decide_eq_true (by kernel_rfl)) h1 hb fun x hx => hW'.lt x (by simp [hx])) (shut_bool Try.underlying4 stop)
  try simp only [List.append_nil, List.nil_append] at fin
  exact fin

theorem timerAnew_holds : Rows.TimerAnewSaid :=
  OpenClaim.holds_of_wide 8 Try.f8 rfl rfl rfl rfl rfl rfl rfl ⟨rfl, rfl, rfl, rfl, rfl⟩ rfl rfl rfl rfl rfl (by kernel_rfl) Try.func8 (by kernel_rfl)
    (of_decide_eq_true (by kernel_rfl)) (by unfold Func.isWrapper; first | (rw [if_pos (by decide +kernel)]; kernel_rfl) | (rw [if_neg (by decide +kernel)]; exact ⟨rfl, rfl⟩))
    (fun os started H enc _ => timerAnew_lifted os started H enc)
#print axioms timerAnew_holds
end Go.Proofs.Ythkcfocoekonjaa
