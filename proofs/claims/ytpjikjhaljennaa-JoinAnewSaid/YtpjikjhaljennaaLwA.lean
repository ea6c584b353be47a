/- Laws over slices that came in, whatever lies where. -/
import Derived.Test.YtpjikjhaljennaaSpU
import Derived.Test.YtpjikjhaljennaaSxPv
set_option maxRecDepth 100000
set_option linter.unusedVariables false
set_option linter.unusedSimpArgs false
namespace Go.Proofs.Ytpjikjhaljennaa
open Go Go.Sx
open Go.ChangeShapes Go.WideShapes Go.ChangeAt Go.RowKit Classical
/-- A law whose run owns all that was there. -/
theorem law_own {P : Program} {f : FuncId} {T : Trans} (hs : SoundT P f T) {args : List SV} {vs : List Value} {W : World} (ha : StdL [.chunk (oldF W)] args vs)
    (hx : T args [.chunk (oldF W)] fun s h' => bOf s (fun p => p) ∧ headIs h' (oldF W)) :
    Calls P f vs.toArray W fun e w' => e = .returned (.bool true) ∧ Below W.heap.size W w' := by
  have c : Ctx [] [.chunk (oldF W)] W := ⟨fun r => by
    have : owned (locs [.chunk (oldF W)] ++ r) [.chunk (oldF W)] = oldF W := by simp [owned, Ent.blocks]
    rw [this, List.append_nil]
    exact owns_old W, fun b k hm => by simp at hm⟩
  refine Calls.mono (hs [] [.chunk (oldF W)] W args vs _ c ha hx).2 fun e w' ⟨v, s, h', h1, ⟨h2, h8⟩, h3, h4, h5, h6, h7⟩ => ?_
  obtain ⟨p, hp, hd⟩ := bOf_spec h2 (locs h' ++ [])
  have hv := h7 []
  rw [hd] at hv
  obtain ⟨G, hG⟩ := headIs_owned (ρ := locs h' ++ []) h8
  have ho := h4.owns []
  rw [hG, List.append_nil] at ho
  exact ⟨by rw [h1, ← hv]; simp [hp], below_old (ho.perm List.perm_append_comm) h5⟩
theorem wf_u8 {z : Int} (h : (Lit.int .u8 z).wf = true) : 0 ≤ z ∧ z < 256 := by
  simp [Lit.wf, IntKind.min, IntKind.max, IntKind.signed, IntKind.bits] at h
  omega
theorem ints_at {W : World} {a : Addr} {cap i : Nat} {k : IntKind} {zs : List Int} {o : Obj} {t : TypeId} (h1 : W.heap[a.block]? = some o) (h2 : (SBlk.den [] (.tab t a.off cap [.ints k zs])).holds o) (hi : i < cap) :
    rawCell (oldF W) a.block (a.off * 1 + i) (.int k (zs.getD i 0)) :=
  ⟨.obj o, mem_old h1, at_spec (k := .tab t a.off cap [.ints k zs]) h2 ⟨i, 0, .ints k zs, by simp, hi, rfl, rfl⟩⟩
end Go.Proofs.Ytpjikjhaljennaa
