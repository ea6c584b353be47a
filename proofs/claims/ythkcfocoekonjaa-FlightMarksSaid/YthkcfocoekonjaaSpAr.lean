/- A slice of arrays of numbers that came in: its cells, one by one. -/
import Derived.Test.YthkcfocoekonjaaSpU
import Derived.OpenShut
set_option maxRecDepth 100000
set_option linter.unusedVariables false
set_option linter.unusedSimpArgs false
namespace Go.Proofs.Ythkcfocoekonjaa
open Go Go.Sx
open Go.ChangeShapes Go.WideShapes Go.ChangeAt Go.RowKit Go.Deep

/-- A slice of arrays of numbers: nil or empty, or a block whose cells are known. -/
theorem open_arrs {T e q : TypeId} {n : Nat} {kd : IntKind} (hT : Try.prog.underlying T = some (.slice e)) (he : Try.prog.underlying e = some (.array n q)) (hq : Try.prog.underlying q = some (.int kd)) (hcq : Try.prog.cellsOf q = 1) (hc : Try.prog.cellsOf e = n) (hpos : 0 < n)
    {H : Type} {enc : TypeId × Value → H} {W : World} {v : Value} {d : DataW H} {ps : List MemPlace} (hok : ∃ a len cap, v = .slice a len cap) (h : DataW.Trod enc Try.prog W 0 (fun _ => true) true T v d ps) :
    (∃ o cap, v = .slice o 0 cap) ∨ ∃ (b off len cap : Nat) (ob : Obj) (Z : Nat → Nat → Int), v = .slice (some ⟨b, off, none⟩) len cap ∧ 0 < len ∧ len ≤ maxLen ∧ W.heap[b]? = some ob ∧
      ∀ i j, i < len → j < n → objCell ob (off + i * n + j) = some (.int kd (Z i j)) ∧ (Lit.int kd (Z i j)).wf = true := by
  obtain ⟨a0, len0, cap0, rfl⟩ := hok
  obtain ⟨fuel, hf⟩ := h
  rcases open_slice hT hf with ⟨hcs, hx⟩ | ⟨a, len, cap, m, fu, D, Pl, hcs, _, hl, hm, hmm, hx, hel⟩
  · simp [Value.cells] at hcs
    obtain ⟨rfl, rfl, rfl⟩ := hcs
    exact .inl ⟨_, _, rfl⟩
  · simp [Value.cells] at hcs
    obtain ⟨rfl, rfl, rfl⟩ := hcs
    rcases Nat.eq_zero_or_pos len0 with rfl | hlen
    · exact .inl ⟨_, _, rfl⟩
    · have hlm : len0 ≤ m := by rw [hmm]; simp; exact hl
      have each : ∀ i, i < len0 → ∀ j, j < n → ∃ z, W.cell? ((a.add (i * n)).add j) = some (.int kd z) ∧ (Lit.int kd z).wf = true := by
        intro i hi j hj
        obtain ⟨cs', h1, h2⟩ := hel i (by omega)
        rw [hc] at h1
        obtain ⟨_, hln, hcell⟩ := World.cells?_some h1
        obtain ⟨xs, n', _, _, _, hxl, hff⟩ := DataW.trod_array he h2
        have h3 := hff j hj
        rw [hcq, Nat.mul_one] at h3
        rw [List.getElem?_eq_getElem (by omega)] at h3
        obtain ⟨z, e1, e2, e3⟩ := DataW.trod_int hq h3
        refine ⟨z, ?_, e3⟩
        rw [hcell j hj]
        have := congrArg List.head? e1
        rw [List.head?_take, if_neg (by omega), List.head?_drop] at this
        simpa using this
      obtain ⟨z0, hz0, -⟩ := each 0 hlen 0 hpos
      have ea : (a.add (0 * n)).add 0 = a := by simp [Addr.add]
      rw [ea] at hz0
      have hsp : a.spot = none := by
        unfold World.cell? at hz0
        cases hb : W.heap[a.block]? with
        | none => rw [hb] at hz0; cases hz0
        | some o =>
          rw [hb] at hz0
          cases o with
          | cells arr t fz =>
            simp only at hz0
            cases hs : a.spot with
            | none => rfl
            | some x => rw [hs] at hz0; simp at hz0
          | _ => cases hz0
      obtain ⟨ob, hob⟩ := spot_of_cell hz0
      have each2 : ∀ i j, ∃ z : Int, i < len0 → j < n → objCell ob (a.off + i * n + j) = some (.int kd z) ∧ (Lit.int kd z).wf = true := by
        intro i j
        by_cases hi : i < len0
        · by_cases hj : j < n
          · obtain ⟨z, h1, h2⟩ := each i hi j hj
            refine ⟨z, fun _ _ => ?_⟩
            rw [addr_add_flat hsp, addr_add_flat rfl] at h1
            exact ⟨cell_objCell hob h1, h2⟩
          · exact ⟨0, fun _ h => absurd h hj⟩
        · exact ⟨0, fun h => absurd h hi⟩
      refine .inr ⟨a.block, a.off, len0, cap0, ob, fun i j => Classical.choose (each2 i j), ?_, hlen, by omega, hob, fun i j hi hj => Classical.choose_spec (each2 i j) hi hj⟩
      obtain ⟨b, off, sp⟩ := a
      simp only at hsp
      subst hsp
      rfl
theorem wf_u8 {z : Int} (h : (Lit.int .u8 z).wf = true) : 0 ≤ z ∧ z < 256 := by
  simp [Lit.wf, IntKind.min, IntKind.max, IntKind.signed, IntKind.bits] at h
  omega
end Go.Proofs.Ythkcfocoekonjaa
