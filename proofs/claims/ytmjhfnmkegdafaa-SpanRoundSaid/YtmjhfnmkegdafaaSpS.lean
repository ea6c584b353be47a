/- SpanRound returns true for every input, and each argument reads afterwards as it read before. -/
import Derived.Test.YtmjhfnmkegdafaaRows
import Derived.Test.YtmjhfnmkegdafaaSpR
import Derived.Test.YtmjhfnmkegdafaaSxY
import Derived.ProofKit
set_option maxRecDepth 100000
set_option linter.unusedVariables false
set_option linter.unusedSimpArgs false
namespace Go.Proofs.Ytmjhfnmkegdafaa
open Go Go.Sx
open Go.ChangeShapes Go.WideShapes Go.ChangeAt Go.RowKit

theorem Try.own : ownKnob Try.prog.godebug = none := by kernel_rfl
theorem Try.laidOut : laidOutB Try.prog = true := by kernel_rfl

/-- A slice of u32 numbers that came in: nil or empty, or a block that is only read. -/
theorem open_u32s {H : Type} {enc : TypeId × Value → H} {W : World} {v : Value} {d : DataW H} {ps : List MemPlace} (hok : ∃ a len cap, v = .slice a len cap)
    (h : DataW.Trod enc Try.prog W 0 (fun _ => true) true 34 v d ps) (hfz : ∀ b off, MemPlace.cell b off ∈ ps → W.frozen? ⟨b, off, none⟩ = false) :
    (∃ o cap, v = .slice o 0 cap) ∨ ∃ (a : Addr) (len cap : Nat) (zs : List Int), v = .slice (some ⟨a.block, a.off * 1, none⟩) len cap ∧ 0 < len ∧ len ≤ cap ∧ cap ≤ maxLen ∧ zs.length = cap ∧ (∀ z ∈ zs, 0 ≤ z ∧ z < 4294967296) ∧
      ∃ o t, W.heap[a.block]? = some o ∧ ∀ r, (SBlk.den r (.tab t a.off cap [.ints .u32 zs])).holds o := by
  obtain ⟨a0, len0, cap0, rfl⟩ := hok
  obtain ⟨fuel, hf⟩ := h
  rcases open_ints Try.underlying34 Try.underlying22 (by kernel_rfl) hf with ⟨hcs, hx⟩ | ⟨a, len, cap, zs, hcs, _, hl, hm, hz, hx, hcell, hwz⟩
  · simp [Value.cells] at hcs
    obtain ⟨rfl, rfl, rfl⟩ := hcs
    exact .inl ⟨_, _, rfl⟩
  · simp [Value.cells] at hcs
    obtain ⟨rfl, rfl, rfl⟩ := hcs
    rcases Nat.eq_zero_or_pos len0 with rfl | hpos
    · exact .inl ⟨_, _, rfl⟩
    · simp only [if_true] at hz
      simp only [Prod.mk.injEq] at hx
      have hne : 0 < zs.length := by omega
      have hp : ∀ i, i < zs.length → W.frozen? (a.add i) = false := fun i hi => by
        have hmem : MemPlace.cell a.block (a.off + i) ∈ ps := by
          rw [hx.2]
          unfold MemPlace.row
          exact List.mem_map.2 ⟨i, List.mem_range.2 hi, rfl⟩
        have := hfz _ _ hmem
        have e : (a.add i).block = a.block ∧ (a.add i).off = a.off + i := by
          unfold Addr.add
          split
          · rename_i h0; subst h0; exact ⟨rfl, rfl⟩
          · exact ⟨rfl, rfl⟩
        unfold World.frozen? at this ⊢
        rw [e.1, e.2]
        exact this
      obtain ⟨hsp, o, t, h1, h2⟩ := ro_ints hne hcell hp
      refine .inr ⟨a, len0, cap0, zs, ?_, hpos, hl, hm, hz, ?_, o, t, h1, ?_⟩
      · obtain ⟨b, off, sp⟩ := a
        simp only at hsp
        subst hsp
        simp
      · intro z hzm
        have := hwz z hzm
        simp [Lit.wf, IntKind.min, IntKind.max, IntKind.signed, IntKind.bits] at this
        omega
      · rw [← hz]; exact h2

set_option maxRecDepth 100000 in
theorem spanRound_lifted (os : Os) (started : os.Started) (H : Type) (enc : TypeId × Value → H) :
    ReturnsInHanded {} Try.checked os 6 .any (Rows.spanRoundSpec.pre6 enc Try.prog Try.f6 Rows.spanRoundRow.domain false) (Rows.spanRoundSpec.post enc Try.prog Try.f6 false true false false) := by
  refine returnsInHanded_of_change (C := Try.checked) Try.own started (by kernel_rfl) Try.func6
    (ChangeSpec.witness6 (enc := enc) (C := Try.checked) false ⟨#[], #[.int .u32 0, .int .u32 0, .slice none 0 0], []⟩ 8 (by kernel_rfl) (by kernel_rfl) (by kernel_rfl) (by kernel_rfl)) ?_
  intro W base args ds gs before hval0 hW hcnd _
  have hval : ∀ (j : Nat) t v, Try.f6.params[j]? = some t → args[j]? = some v → Value.okWide Try.prog W .any base t v := hval0
  have hW' := hW
  obtain ⟨p, q, hA0, hV, rfl, hfz, hnd⟩ := hW
  have hA : DataW.TrodAll enc Try.prog W 0 (fun _ => true) true Try.f6.params.toList args.toList ds p := hA0
  rw [Try.params6] at hA hval
  obtain ⟨v0, v1, v2, d0, d1, d2, p0, p1, p2, rfl, rfl, rfl, h0, h1, h2⟩ := trodAll_three hA
  obtain ⟨rfl, rfl⟩ := trodVars_none hV
  obtain ⟨mark, rfl, rfl, rfl, wa⟩ := open_int Try.underlying22 (hval 0 22 v0 rfl rfl) h0
  obtain ⟨by_, rfl, rfl, rfl, wb⟩ := open_int Try.underlying22 (hval 1 22 v1 rfl rfl) h1
  clear hA0 hval0
  simp only [List.append_nil, List.nil_append] at hW' hfz
  have key : Calls Try.prog 6 #[.int .u32 mark, .int .u32 by_, v2] W fun e w' => e = .returned (.bool true) ∧ Below W.heap.size W w' := by
    rcases open_u32s (okWide_slice Try.underlying34 (hval 2 34 v2 rfl rfl)) h2 hfz with ⟨o, cap, rfl⟩ | ⟨a, len, cap, zs, rfl, g1, g2, g3, g4, g5, o, t, g6, g7⟩
    · exact law_calls (h := [.chunk []]) (args := [.val (.int .u32 mark), .val (.int .u32 by_), .val (.slice o 0 cap)]) (vs := [.int .u32 mark, .int .u32 by_, .slice o 0 cap])
        (run_tbl2 _ _ _ _ _) (fun r => rfl) (fun b k hm => by simp at hm) (fun r => rfl) (rdNil_goal o cap mark by_)
    · exact law_calls (h := [.ro a.block (.tab t a.off cap [.ints .u32 zs]), .chunk []]) (args := [.val (.int .u32 mark), .val (.int .u32 by_), .slc 0 0 len cap]) (vs := [.int .u32 mark, .int .u32 by_, .slice (some ⟨a.block, a.off * 1, none⟩) len cap])
        (run_tbl2 _ _ _ _ _) (fun r => rfl) (fun b k hm => by simp at hm; obtain ⟨rfl, rfl⟩ := hm; exact ⟨o, g6, g7⟩) (fun r => rfl) (rd_goal a.block t a.off len cap zs mark by_ g2 (by unfold maxLen at g3; omega))
  refine key.mono fun e W' ⟨he, hb⟩ => ?_
  subst he
  have hlt : ∀ x ∈ p2, x.block < W.heap.size := fun x hx => hW'.lt x hx
  refine ⟨_, rfl, [.lit (.int .u32 mark), .lit (.int .u32 by_), d2], [], p2, [], p2, [], hW', trodAll_mk1 (shut_bool Try.underlying4 true), ?_, rfl, hb.frame _, fun h => by cases h⟩
  exact trodAll_mk3 (p := []) (p' := []) (shut_int Try.underlying22 wa) (shut_int Try.underlying22 wb) (Below.trod Try.laidOut (by kernel_rfl) (of_decide_eq_true (by kernel_rfl)) h2 hb hlt)

theorem spanRound_holds : Rows.SpanRoundSaid :=
  OpenClaim.holds_of_wide 6 Try.f6 rfl rfl rfl rfl rfl rfl rfl ⟨rfl, rfl, rfl, rfl, rfl⟩ rfl rfl rfl rfl rfl (by kernel_rfl) Try.func6 (by kernel_rfl)
    (of_decide_eq_true (by kernel_rfl)) (by unfold Func.isWrapper; first | (rw [if_pos (by decide +kernel)]; kernel_rfl) | (rw [if_neg (by decide +kernel)]; exact ⟨rfl, rfl⟩))
    (fun os started H enc _ => spanRound_lifted os started H enc)
#print axioms spanRound_holds
end Go.Proofs.Ytmjhfnmkegdafaa
