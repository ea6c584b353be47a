/- Joiners: what laws need. -/
import Derived.Test.YtpjikjhaljennaaJoT
import Derived.Test.YtpjikjhaljennaaSpU
import Derived.Test.YtpjikjhaljennaaSxPv
set_option maxRecDepth 100000
set_option linter.unusedVariables false
set_option linter.unusedSimpArgs false
namespace Go.Proofs.Ytpjikjhaljennaa
open Go Go.Sx
attribute [local irreducible] Go.Sx.xrun

open Go.ChangeShapes Go.WideShapes Go.ChangeAt Go.RowKit Classical
/-- A law whose run owns, among others, all that was there. -/
theorem law_perm {P : Program} {f : FuncId} {T : Trans} (hs : SoundT P f T) {args : List SV} {vs : List Value} {W : World} (ha : StdL [.chunk (oldF W)] args vs)
    (hx : T args [.chunk (oldF W)] fun s h' => bOf s (fun p => p) ∧ (fun L : Blks => ∃ G, L.Perm (oldF W ++ G)) (owned (locs h') h')) :
    Calls P f vs.toArray W fun e w' => e = .returned (.bool true) ∧ Below W.heap.size W w' := by
  have c : Ctx [] [.chunk (oldF W)] W := ⟨fun r => by
    have : owned (locs [.chunk (oldF W)] ++ r) [.chunk (oldF W)] = oldF W := by simp [owned, Ent.blocks]
    rw [this, List.append_nil]
    exact owns_old W, fun b k hm => by simp at hm⟩
  refine Calls.mono (hs [] [.chunk (oldF W)] W args vs _ c ha hx).2 fun e w' ⟨v, s, h', h1, ⟨h2, h8⟩, h3, h4, h5, h6, h7⟩ => ?_
  obtain ⟨p, hp, hd⟩ := bOf_spec h2 (locs h' ++ [])
  have hv := h7 []
  rw [hd] at hv
  obtain ⟨G, hG⟩ := h8
  have ho := h4.owns []
  rw [List.append_nil, List.append_nil] at ho
  exact ⟨by rw [h1, ← hv]; simp [hp], below_old ((ho.perm hG).perm List.perm_append_comm) h5⟩
/-- An array of three small numbers that came in. -/
theorem open_arr3 {W : World} {base : Nat} {v : Value} (h : Value.okWide Try.prog W .any base 22 v) : ∃ cs : List Int, v = .agg (cs.map (Value.int .u8)).toArray ∧ cs.length = 3 ∧ ∀ z ∈ cs, 0 ≤ z ∧ z < 256 := by
  obtain ⟨n, q, hfs⟩ : ∃ n q, Try.prog.underlying 22 = some (.array n q) := ⟨_, _, Try.underlying22⟩
  simp only [Value.okWide, hfs] at h
  obtain ⟨cs, rfl, hs, ts, hts, -, hc⟩ := h
  have hs : cs.size = 3 := hs.trans (by kernel_rfl)
  have e : Try.prog.cellTypes Try.prog.depth 22 = some [5, 5, 5] := by kernel_rfl
  rw [e] at hts
  obtain rfl := Option.some.inj hts
  obtain ⟨l⟩ := cs
  match l, hs with
  | [c0, c1, c2], _ =>
    have g : ∀ (i : Nat) (v : Value), [c0, c1, c2][i]? = some v → [5, 5, 5][i % 3]? = some 5 → ∃ n, v = .int .u8 n ∧ IntKind.u8.has n := fun i v h1 h2 => by
      obtain ⟨u, e1, e2⟩ := hc i v (by simpa using h1)
      have e1 : [5, 5, 5][i % 3]? = some u := e1
      rw [h2] at e1
      obtain rfl := Option.some.inj e1
      simp only [Cell.okWide, Try.underlying5, Cell.ok] at e2
      cases v <;> simp_all
    obtain ⟨n0, rfl, k0⟩ := g 0 c0 rfl rfl
    obtain ⟨n1, rfl, k1⟩ := g 1 c1 rfl rfl
    obtain ⟨n2, rfl, k2⟩ := g 2 c2 rfl rfl
    refine ⟨[n0, n1, n2], rfl, rfl, fun z hz => ?_⟩
    simp only [IntKind.has, IntKind.min, IntKind.max, IntKind.signed, IntKind.bits] at k0 k1 k2
    simp at k0 k1 k2 hz
    rcases hz with rfl | rfl | rfl <;> omega
theorem aw_sound : ∀ p ∈ [((17 : Nat), jfirstT), (18, jnewT), (19, absT jputT), (20, jtakeT), (21, absT jresetT), (22, jheldT)], SoundT Go.Proofs.Try.prog p.1 p.2 := by
  intro p hp
  simp at hp
  rcases hp with rfl | rfl | rfl | rfl | rfl | rfl
  · exact jfirstT_sound
  · exact jnewT_sound
  · exact absT_sound jputT_sound
  · exact jtakeT_sound
  · exact absT_sound jresetT_sound
  · exact jheldT_sound
end Go.Proofs.Ytpjikjhaljennaa
