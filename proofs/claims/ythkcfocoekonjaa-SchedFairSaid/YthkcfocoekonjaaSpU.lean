/- What the rows of all these laws share: a slice of numbers that came in. -/
import Derived.Test.YthkcfocoekonjaaRows
import Derived.Test.YthkcfocoekonjaaSxY
import Derived.ProofKit
set_option maxRecDepth 100000
set_option linter.unusedVariables false
set_option linter.unusedSimpArgs false
namespace Go.Proofs.Ythkcfocoekonjaa
open Go Go.Sx
open Go.ChangeShapes Go.WideShapes Go.ChangeAt Go.RowKit

theorem Try.own : ownKnob Try.prog.godebug = none := by kernel_rfl
theorem Try.laidOut : laidOutB Try.prog = true := by kernel_rfl

/-- A slice of numbers that came in: nil or empty, or a block that is only read. -/
theorem open_nums {T e : TypeId} {k : IntKind} (hT : Try.prog.underlying T = some (.slice e)) (he : Try.prog.underlying e = some (.int k)) (hc : Try.prog.cellsOf e = 1) {H : Type} {enc : TypeId × Value → H} {W : World} {v : Value} {d : DataW H} {ps : List MemPlace} (hok : ∃ a len cap, v = .slice a len cap)
    (h : DataW.Trod enc Try.prog W 0 (fun _ => true) true T v d ps) (hfz : ∀ b off, MemPlace.cell b off ∈ ps → W.frozen? ⟨b, off, none⟩ = false) :
    (∃ o cap, v = .slice o 0 cap) ∨ ∃ (a : Addr) (len cap : Nat) (zs : List Int), v = .slice (some ⟨a.block, a.off * 1, none⟩) len cap ∧ 0 < len ∧ len ≤ cap ∧ cap ≤ maxLen ∧ zs.length = cap ∧ (∀ z ∈ zs, (Lit.int k z).wf = true) ∧
      ∃ o t, W.heap[a.block]? = some o ∧ ∀ r, (SBlk.den r (.tab t a.off cap [.ints k zs])).holds o := by
  obtain ⟨a0, len0, cap0, rfl⟩ := hok
  obtain ⟨fuel, hf⟩ := h
  rcases open_ints hT he hc hf with ⟨hcs, hx⟩ | ⟨a, len, cap, zs, hcs, _, hl, hm, hz, hx, hcell, hwz⟩
  · simp [Value.cells] at hcs
    obtain ⟨rfl, rfl, rfl⟩ := hcs
    exact .inl ⟨_, _, rfl⟩
  · simp [Value.cells] at hcs
    obtain ⟨rfl, rfl, rfl⟩ := hcs
    rcases Nat.eq_zero_or_pos len0 with rfl | hpos
    · exact .inl ⟨_, _, rfl⟩
    · simp only [if_true] at hz
      simp only [Prod.mk.injEq] at hx
      have hne : 0 < zs.length := by omega
      have hp : ∀ i, i < zs.length → W.frozen? (a.add i) = false := fun i hi => by
        have hmem : MemPlace.cell a.block (a.off + i) ∈ ps := by
          rw [hx.2]
          unfold MemPlace.row
          exact List.mem_map.2 ⟨i, List.mem_range.2 hi, rfl⟩
        have := hfz _ _ hmem
        have e : (a.add i).block = a.block ∧ (a.add i).off = a.off + i := by
          unfold Addr.add
          split
          · rename_i h0; subst h0; exact ⟨rfl, rfl⟩
          · exact ⟨rfl, rfl⟩
        unfold World.frozen? at this ⊢
        rw [e.1, e.2]
        exact this
      obtain ⟨hsp, o, t, h1, h2⟩ := ro_ints hne hcell hp
      refine .inr ⟨a, len0, cap0, zs, ?_, hpos, hl, hm, hz, hwz, o, t, h1, ?_⟩
      · obtain ⟨b, off, sp⟩ := a
        simp only at hsp
        subst hsp
        simp
      · rw [← hz]; exact h2

theorem wf_u32 {z : Int} (h : (Lit.int .u32 z).wf = true) : 0 ≤ z ∧ z < 4294967296 := by
  simp [Lit.wf, IntKind.min, IntKind.max, IntKind.signed, IntKind.bits] at h
  omega
theorem wf_u16 {z : Int} (h : (Lit.int .u16 z).wf = true) : 0 ≤ z ∧ z < 65536 := by
  simp [Lit.wf, IntKind.min, IntKind.max, IntKind.signed, IntKind.bits] at h
  omega
theorem wf_u64 {z : Int} (h : (Lit.int .u64 z).wf = true) : 0 ≤ z ∧ z < 18446744073709551616 := by
  simp [Lit.wf, IntKind.min, IntKind.max, IntKind.signed, IntKind.bits] at h
  omega
theorem wf_i64 {z : Int} (h : (Lit.int .i64 z).wf = true) : -9223372036854775808 ≤ z ∧ z < 9223372036854775808 := by
  simp [Lit.wf, IntKind.min, IntKind.max, IntKind.signed, IntKind.bits] at h
  omega
end Go.Proofs.Ythkcfocoekonjaa
