/- SchedDrops returns true for every input, and its arguments read afterwards as they read before. -/
import Derived.Test.YthkcfocoekonjaaDrJ
import Derived.Test.YthkcfocoekonjaaSpU
set_option maxRecDepth 100000
set_option linter.unusedVariables false
set_option linter.unusedSimpArgs false
namespace Go.Proofs.Ythkcfocoekonjaa
open Go Go.Sx
open Go.ChangeShapes Go.WideShapes Go.ChangeAt Go.RowKit

set_option maxRecDepth 100000 in
theorem schedDrops_lifted (os : Os) (started : os.Started) (H : Type) (enc : TypeId × Value → H) :
    ReturnsInHanded {} Try.checked os 11 .any (Rows.schedDropsSpec.pre6 enc Try.prog Try.f11 Rows.schedDropsRow.domain false) (Rows.schedDropsSpec.post enc Try.prog Try.f11 false true false false) := by
  refine returnsInHanded_of_change (C := Try.checked) Try.own started (by kernel_rfl) Try.func11
    (ChangeSpec.witness6 (enc := enc) (C := Try.checked) false ⟨#[], #[.bool false, .slice none 0 0, .slice none 0 0], []⟩ 8 (by kernel_rfl) (by kernel_rfl) (by kernel_rfl) (by kernel_rfl)) ?_
  intro W base args ds gs before hval0 hW hcnd _
  have hval : ∀ (j : Nat) t v, Try.f11.params[j]? = some t → args[j]? = some v → Value.okWide Try.prog W .any base t v := hval0
  have hW' := hW
  obtain ⟨p, q, hA0, hV, rfl, hfz, hnd⟩ := hW
  have hA : DataW.TrodAll enc Try.prog W 0 (fun _ => true) true Try.f11.params.toList args.toList ds p := hA0
  rw [Try.params11] at hA hval
  obtain ⟨v0, v1, v2, d0, d1, d2, p0, p1, p2, rfl, rfl, rfl, h0, h1, h2⟩ := trodAll_three hA
  obtain ⟨rfl, rfl⟩ := trodVars_none hV
  obtain ⟨inter, rfl, rfl, rfl⟩ := open_bool Try.underlying4 (hval 0 4 v0 rfl rfl) h0
  clear hA0 hval0
  simp only [List.append_nil, List.nil_append] at hW' hfz
  have key : Calls Try.prog 11 #[.bool inter, v1, v2] W fun e w' => e = .returned (.bool true) ∧ Below W.heap.size W w' := by
    rcases open_nums Try.underlying22 Try.underlying27 (by kernel_rfl) (okWide_slice Try.underlying22 (hval 1 22 v1 rfl rfl)) h1 (fun b off hm => hfz b off (by simp [hm])) with ⟨o, cap, rfl⟩ | ⟨a, len, cap, zs, rfl, g1, g2, g3, g4, g5, o, t, g6, g7⟩
    · rcases open_nums Try.underlying73 Try.underlying3 (by kernel_rfl) (okWide_slice Try.underlying73 (hval 2 73 v2 rfl rfl)) h2 (fun b off hm => hfz b off (by simp [hm])) with ⟨o', cap', rfl⟩ | ⟨a', len', cap', zs', rfl, g1', g2', g3', g4', g5', o', t', g6', g7'⟩
      · exact law_calls (h := [.gone (0, 0, 0), .gone (0, 0, 0), .chunk []]) (args := [.val (.bool inter), .val (.slice o 0 cap), .val (.slice o' 0 cap')]) (vs := [.bool inter, .slice o 0 cap, .slice o' 0 cap'])
            (run_with six_sd _ _ _ _ _) (fun r => rfl) (fun b k hm => by simp at hm) (fun r => rfl) (sdNM_goal inter o cap o' cap' [] 0 _ _ _ _ rfl rfl rfl rfl trivial)
      · exact law_calls (h := [.gone (0, 0, 0), .ro a'.block (.tab t' a'.off cap' [.ints .i64 zs']), .chunk []]) (args := [.val (.bool inter), .val (.slice o 0 cap), .slc 1 0 len' cap']) (vs := [.bool inter, .slice o 0 cap, .slice (some ⟨a'.block, a'.off * 1, none⟩) len' cap'])
            (run_with six_sd _ _ _ _ _) (fun r => rfl) (fun b k hm => by simp at hm; obtain ⟨rfl, rfl⟩ := hm; exact ⟨o', g6', g7'⟩) (fun r => rfl) (sdN_goal inter o cap a'.block t' a'.off len' cap' zs' [] 0 _ _ _ _ rfl rfl rfl rfl trivial g2')
    · rcases open_nums Try.underlying73 Try.underlying3 (by kernel_rfl) (okWide_slice Try.underlying73 (hval 2 73 v2 rfl rfl)) h2 (fun b off hm => hfz b off (by simp [hm])) with ⟨o', cap', rfl⟩ | ⟨a', len', cap', zs', rfl, g1', g2', g3', g4', g5', o', t', g6', g7'⟩
      · exact law_calls (h := [.ro a.block (.tab t a.off cap [.ints .u16 zs]), .gone (0, 0, 0), .chunk []]) (args := [.val (.bool inter), .slc 0 0 len cap, .val (.slice o' 0 cap')]) (vs := [.bool inter, .slice (some ⟨a.block, a.off * 1, none⟩) len cap, .slice o' 0 cap'])
            (run_with six_sd _ _ _ _ _) (fun r => rfl) (fun b k hm => by simp at hm; obtain ⟨rfl, rfl⟩ := hm; exact ⟨o, g6, g7⟩) (fun r => rfl) (sdM_goal inter a.block t a.off len cap zs o' cap' (min len 20) _ _ _ _ rfl rfl rfl rfl trivial g2 (fun z hz => wf_u16 (g5 z hz)))
      · exact law_calls (h := [.ro a.block (.tab t a.off cap [.ints .u16 zs]), .ro a'.block (.tab t' a'.off cap' [.ints .i64 zs']), .chunk []]) (args := [.val (.bool inter), .slc 0 0 len cap, .slc 1 0 len' cap']) (vs := [.bool inter, .slice (some ⟨a.block, a.off * 1, none⟩) len cap, .slice (some ⟨a'.block, a'.off * 1, none⟩) len' cap'])
            (run_with six_sd _ _ _ _ _) (fun r => rfl) (fun b k hm => by simp at hm; rcases hm with ⟨rfl, rfl⟩ | ⟨rfl, rfl⟩; exact ⟨o, g6, g7⟩; exact ⟨o', g6', g7'⟩) (fun r => rfl) (sd_goal inter a.block t a.off len cap zs a'.block t' a'.off len' cap' zs' (min len 20) _ _ _ _ rfl rfl rfl rfl trivial g2 (fun z hz => wf_u16 (g5 z hz)) g2')
  refine key.mono fun e W' ⟨he, hb⟩ => ?_
  subst he
  refine ⟨_, rfl, [.lit (.bool inter), d1, d2], [], p1 ++ p2, [], p1 ++ p2, [], hW', trodAll_mk1 (shut_bool Try.underlying4 true), ?_, rfl, hb.frame _, fun h => by cases h⟩
  have fin := trodAll_mk3 (p := []) (p' := p1) (p'' := p2) (shut_bool Try.underlying4 inter) (Below.trod Try.laidOut (by kernel_rfl) (of_decide_eq_true (by kernel_rfl)) h1 hb fun x hx => hW'.lt x (by simp [hx])) (Below.trod Try.laidOut (by kernel_rfl) (of_decide_eq_true (by kernel_rfl)) h2 hb fun x hx => hW'.lt x (by simp [hx]))
  try simp only [List.append_nil, List.nil_append] at fin
  exact fin

theorem schedDrops_holds : Rows.SchedDropsSaid :=
  OpenClaim.holds_of_wide 11 Try.f11 rfl rfl rfl rfl rfl rfl rfl ⟨rfl, rfl, rfl, rfl, rfl⟩ rfl rfl rfl rfl rfl (by kernel_rfl) Try.func11 (by kernel_rfl)
    (of_decide_eq_true (by kernel_rfl)) (by unfold Func.isWrapper; first | (rw [if_pos (by decide +kernel)]; kernel_rfl) | (rw [if_neg (by decide +kernel)]; exact ⟨rfl, rfl⟩))
    (fun os started H enc _ => schedDrops_lifted os started H enc)
#print axioms schedDrops_holds
end Go.Proofs.Ythkcfocoekonjaa
