/- What the rows of all these laws share: a slice of numbers that came in. -/
import Derived.Test.YtpjikjhaljennaaRows
import Derived.Test.YtpjikjhaljennaaSxRw
import Derived.ProofKit
import Derived.Deep.Slices
import Derived.Deep.Grids
set_option maxRecDepth 100000
set_option linter.unusedVariables false
set_option linter.unusedSimpArgs false
namespace Go.Proofs.Ytpjikjhaljennaa
open Go Go.Sx
open Go.ChangeShapes Go.WideShapes Go.ChangeAt Go.RowKit

theorem Try.own : ownKnob Try.prog.godebug = none := by kernel_rfl
theorem Try.laidOut : laidOutB Try.prog = true := by kernel_rfl

/-- A slice of numbers that came in: nil or empty, or a block that is only read. -/
theorem open_nums {T e : TypeId} {k : IntKind} (hT : Try.prog.underlying T = some (.slice e)) (he : Try.prog.underlying e = some (.int k)) (hc : Try.prog.cellsOf e = 1) {H : Type} {enc : TypeId × Value → H} {W : World} {v : Value} {d : DataW H} {ps : List MemPlace} (hok : ∃ a len cap, v = .slice a len cap)
    (h : DataW.Trod enc Try.prog W 0 (fun _ => true) true T v d ps) (hfz : ∀ b off, MemPlace.cell b off ∈ ps → W.frozen? ⟨b, off, none⟩ = false) :
    (∃ o cap, v = .slice o 0 cap) ∨ ∃ (a : Addr) (len cap : Nat) (zs : List Int), v = .slice (some ⟨a.block, a.off * 1, none⟩) len cap ∧ 0 < len ∧ len ≤ cap ∧ cap ≤ maxLen ∧ zs.length = cap ∧ (∀ z ∈ zs, (Lit.int k z).wf = true) ∧
      ∃ o t, W.heap[a.block]? = some o ∧ ∀ r, (SBlk.den r (.tab t a.off cap [.ints k zs])).holds o := by
  obtain ⟨a0, len0, cap0, rfl⟩ := hok
  obtain ⟨fuel, hf⟩ := h
  rcases open_ints hT he hc hf with ⟨hcs, hx⟩ | ⟨a, len, cap, zs, hcs, _, hl, hm, hz, hx, hcell, hwz⟩
  · simp [Value.cells] at hcs
    obtain ⟨rfl, rfl, rfl⟩ := hcs
    exact .inl ⟨_, _, rfl⟩
  · simp [Value.cells] at hcs
    obtain ⟨rfl, rfl, rfl⟩ := hcs
    rcases Nat.eq_zero_or_pos len0 with rfl | hpos
    · exact .inl ⟨_, _, rfl⟩
    · simp only [if_true] at hz
      simp only [Prod.mk.injEq] at hx
      have hne : 0 < zs.length := by omega
      have hp : ∀ i, i < zs.length → W.frozen? (a.add i) = false := fun i hi => by
        have hmem : MemPlace.cell a.block (a.off + i) ∈ ps := by
          rw [hx.2]
          unfold MemPlace.row
          exact List.mem_map.2 ⟨i, List.mem_range.2 hi, rfl⟩
        have := hfz _ _ hmem
        have e : (a.add i).block = a.block ∧ (a.add i).off = a.off + i := by
          unfold Addr.add
          split
          · rename_i h0; subst h0; exact ⟨rfl, rfl⟩
          · exact ⟨rfl, rfl⟩
        unfold World.frozen? at this ⊢
        rw [e.1, e.2]
        exact this
      obtain ⟨hsp, o, t, h1, h2⟩ := ro_ints hne hcell hp
      refine .inr ⟨a, len0, cap0, zs, ?_, hpos, hl, hm, hz, hwz, o, t, h1, ?_⟩
      · obtain ⟨b, off, sp⟩ := a
        simp only at hsp
        subst hsp
        simp
      · rw [← hz]; exact h2

theorem wf_u32 {z : Int} (h : (Lit.int .u32 z).wf = true) : 0 ≤ z ∧ z < 4294967296 := by
  simp [Lit.wf, IntKind.min, IntKind.max, IntKind.signed, IntKind.bits] at h
  omega
theorem wf_u16 {z : Int} (h : (Lit.int .u16 z).wf = true) : 0 ≤ z ∧ z < 65536 := by
  simp [Lit.wf, IntKind.min, IntKind.max, IntKind.signed, IntKind.bits] at h
  omega
theorem wf_u64 {z : Int} (h : (Lit.int .u64 z).wf = true) : 0 ≤ z ∧ z < 18446744073709551616 := by
  simp [Lit.wf, IntKind.min, IntKind.max, IntKind.signed, IntKind.bits] at h
  omega
theorem wf_i64 {z : Int} (h : (Lit.int .i64 z).wf = true) : -9223372036854775808 ≤ z ∧ z < 9223372036854775808 := by
  simp [Lit.wf, IntKind.min, IntKind.max, IntKind.signed, IntKind.bits] at h
  omega
end Go.Proofs.Ytpjikjhaljennaa

/- A slice of records of numbers that came in: its cells, one by one. -/
set_option maxRecDepth 100000
set_option linter.unusedVariables false
set_option linter.unusedSimpArgs false
namespace Go.Proofs.Ytpjikjhaljennaa
open Go Go.Sx
open Go.ChangeShapes Go.WideShapes Go.ChangeAt Go.RowKit Go.Deep

theorem addr_add_flat {a : Addr} (h : a.spot = none) (i : Nat) : a.add i = ⟨a.block, a.off + i, none⟩ := by
  obtain ⟨e1, e2, e3⟩ := add_parts h i
  cases hh : a.add i with
  | mk b o s => rw [hh] at e1 e2 e3; simp only at e1 e2 e3; rw [e1, e2, e3]
theorem cell_objCell {W : World} {b x : Nat} {o : Obj} {v : Value} (ho : W.heap[b]? = some o) (h : W.cell? ⟨b, x, none⟩ = some v) : objCell o x = some v := by
  unfold World.cell? at h
  rw [ho] at h
  cases o <;> simp_all [objCell]
theorem spot_of_cell {W : World} {a : Addr} {v : Value} (h : W.cell? a = some v) : ∃ o, W.heap[a.block]? = some o := by
  unfold World.cell? at h
  cases hb : W.heap[a.block]? with
  | none => rw [hb] at h; cases h
  | some o => exact ⟨o, rfl⟩
/-- A slice of records, each of whose fields is one number: nil or empty, or a block whose cells are known. -/
theorem open_recs {T e : TypeId} {fs : Array Field} {ks : List IntKind} (hT : Try.prog.underlying T = some (.slice e)) (he : Try.prog.underlying e = some (.struct fs)) (hc : Try.prog.cellsOf e = ks.length) (hpos : 0 < ks.length)
    (hfs : ∀ j k, ks[j]? = some k → ∃ f : Field, fs[j]? = some f ∧ f.offset = j ∧ Try.prog.cellsOf f.type = 1 ∧ Try.prog.underlying f.type = some (.int k))
    {H : Type} {enc : TypeId × Value → H} {W : World} {v : Value} {d : DataW H} {ps : List MemPlace} (hok : ∃ a len cap, v = .slice a len cap) (h : DataW.Trod enc Try.prog W 0 (fun _ => true) true T v d ps) :
    (∃ o cap, v = .slice o 0 cap) ∨ ∃ (b off len cap : Nat) (ob : Obj) (Z : Nat → Nat → Int), v = .slice (some ⟨b, off, none⟩) len cap ∧ 0 < len ∧ len ≤ maxLen ∧ W.heap[b]? = some ob ∧
      ∀ i j k, i < len → ks[j]? = some k → objCell ob (off + i * ks.length + j) = some (.int k (Z i j)) ∧ (Lit.int k (Z i j)).wf = true := by
  obtain ⟨a0, len0, cap0, rfl⟩ := hok
  obtain ⟨fuel, hf⟩ := h
  rcases open_slice hT hf with ⟨hcs, hx⟩ | ⟨a, len, cap, m, n, D, Pl, hcs, _, hl, hm, hmm, hx, hel⟩
  · simp [Value.cells] at hcs
    obtain ⟨rfl, rfl, rfl⟩ := hcs
    exact .inl ⟨_, _, rfl⟩
  · simp [Value.cells] at hcs
    obtain ⟨rfl, rfl, rfl⟩ := hcs
    rcases Nat.eq_zero_or_pos len0 with rfl | hlen
    · exact .inl ⟨_, _, rfl⟩
    · have hlm : len0 ≤ m := by rw [hmm]; simp; exact hl
      have each : ∀ i, i < len0 → ∀ j k, ks[j]? = some k → ∃ z, W.cell? ((a.add (i * ks.length)).add j) = some (.int k z) ∧ (Lit.int k z).wf = true := by
        intro i hi j k hjk
        obtain ⟨cs', h1, h2⟩ := hel i (by omega)
        rw [hc] at h1
        obtain ⟨_, hln, hcell⟩ := World.cells?_some h1
        obtain ⟨xs, n', _, _, _, hxl, hff⟩ := DataW.trod_struct he h2
        obtain ⟨f, f1, f2, f3, f4⟩ := hfs j k hjk
        have hj : j < ks.length := (List.getElem?_eq_some_iff.1 hjk).1
        have h3 := hff j f f1
        rw [f2, f3] at h3
        have hjx : j < xs.length := by rw [hxl]; exact (Array.getElem?_eq_some_iff.1 f1).1
        rw [List.getElem?_eq_getElem hjx] at h3
        obtain ⟨z, e1, e2, e3⟩ := DataW.trod_int f4 h3
        refine ⟨z, ?_, e3⟩
        rw [hcell j hj]
        have := congrArg List.head? e1
        rw [List.head?_take, if_neg (by omega), List.head?_drop] at this
        simpa using this
      have h00 : ks[0]? = some ks[0] := List.getElem?_eq_getElem hpos
      obtain ⟨z0, hz0, -⟩ := each 0 hlen 0 ks[0] h00
      have ea : (a.add (0 * ks.length)).add 0 = a := by simp [Addr.add]
      rw [ea] at hz0
      have hsp : a.spot = none := by
        unfold World.cell? at hz0
        cases hb : W.heap[a.block]? with
        | none => rw [hb] at hz0; cases hz0
        | some o =>
          rw [hb] at hz0
          cases o with
          | cells arr t fz =>
            simp only at hz0
            cases hs : a.spot with
            | none => rfl
            | some x => rw [hs] at hz0; simp at hz0
          | _ => cases hz0
      obtain ⟨ob, hob⟩ := spot_of_cell hz0
      have each2 : ∀ i j, ∃ z : Int, i < len0 → ∀ k, ks[j]? = some k → objCell ob (a.off + i * ks.length + j) = some (.int k z) ∧ (Lit.int k z).wf = true := by
        intro i j
        by_cases hi : i < len0
        · cases hj : ks[j]? with
          | none => exact ⟨0, fun _ k hk => by cases hk⟩
          | some k =>
            obtain ⟨z, h1, h2⟩ := each i hi j k hj
            refine ⟨z, fun _ k' hk' => ?_⟩
            cases hk'
            rw [addr_add_flat hsp, addr_add_flat rfl] at h1
            exact ⟨cell_objCell hob h1, h2⟩
        · exact ⟨0, fun h => absurd h hi⟩
      refine .inr ⟨a.block, a.off, len0, cap0, ob, fun i j => Classical.choose (each2 i j), ?_, hlen, by omega, hob, fun i j k hi hj => Classical.choose_spec (each2 i j) hi k hj⟩
      obtain ⟨b, off, sp⟩ := a
      simp only at hsp
      subst hsp
      rfl
end Go.Proofs.Ytpjikjhaljennaa

/- A slice of truth values that came in. -/
set_option maxRecDepth 100000
set_option linter.unusedVariables false
set_option linter.unusedSimpArgs false
namespace Go.Proofs.Ytpjikjhaljennaa
open Go Go.Sx
open Go.ChangeShapes Go.WideShapes Go.ChangeAt Go.RowKit Go.Deep

theorem open_boolsW {T e : TypeId} (hT : Try.prog.underlying T = some (.slice e)) (he : Try.prog.underlying e = some .bool) (hc : Try.prog.cellsOf e = 1)
    {H : Type} {enc : TypeId × Value → H} {W : World} {v : Value} {d : DataW H} {ps : List MemPlace} (hok : ∃ a len cap, v = .slice a len cap) (h : DataW.Trod enc Try.prog W 0 (fun _ => true) true T v d ps) :
    (∃ o cap, v = .slice o 0 cap) ∨ ∃ (b off len cap : Nat) (ob : Obj) (Z : Nat → Bool), v = .slice (some ⟨b, off, none⟩) len cap ∧ 0 < len ∧ len ≤ maxLen ∧ W.heap[b]? = some ob ∧ ∀ i, i < len → objCell ob (off + i) = some (.bool (Z i)) := by
  obtain ⟨a0, len0, cap0, rfl⟩ := hok
  obtain ⟨fuel, hf⟩ := h
  rcases open_slice hT hf with ⟨hcs, hx⟩ | ⟨a, len, cap, m, n, D, Pl, hcs, _, hl, hm, hmm, hx, hel⟩
  · simp [Value.cells] at hcs
    obtain ⟨rfl, rfl, rfl⟩ := hcs
    exact .inl ⟨_, _, rfl⟩
  · simp [Value.cells] at hcs
    obtain ⟨rfl, rfl, rfl⟩ := hcs
    rcases Nat.eq_zero_or_pos len0 with rfl | hlen
    · exact .inl ⟨_, _, rfl⟩
    · have hlm : len0 ≤ m := by rw [hmm]; simp; exact hl
      have each : ∀ i, i < len0 → ∃ z : Bool, W.cell? (a.add i) = some (.bool z) := by
        intro i hi
        obtain ⟨cs', h1, h2⟩ := hel i (by omega)
        rw [hc] at h1
        obtain ⟨_, hln, hcell⟩ := World.cells?_some h1
        obtain ⟨z, e1, -⟩ := DataW.trod_bool he h2
        refine ⟨z, ?_⟩
        have := hcell 0 (by omega)
        rw [Nat.mul_one] at this
        have e0 : (a.add i).add 0 = a.add i := by simp [Addr.add]
        rw [e0] at this
        rw [this]
        rw [e1]; rfl
      obtain ⟨z0, hz0⟩ := each 0 hlen
      have ea : a.add 0 = a := by simp [Addr.add]
      rw [ea] at hz0
      have hsp : a.spot = none := by
        unfold World.cell? at hz0
        cases hb : W.heap[a.block]? with
        | none => rw [hb] at hz0; cases hz0
        | some o =>
          rw [hb] at hz0
          cases o with
          | cells arr t fz =>
            simp only at hz0
            cases hs : a.spot with
            | none => rfl
            | some x => rw [hs] at hz0; simp at hz0
          | _ => cases hz0
      obtain ⟨ob, hob⟩ := spot_of_cell hz0
      refine .inr ⟨a.block, a.off, len0, cap0, ob, fun i => if h : i < len0 then (each i h).choose else false, ?_, hlen, by omega, hob, fun i hi => ?_⟩
      · obtain ⟨b, off, sp⟩ := a
        simp only at hsp
        subst hsp
        rfl
      · have h1 : W.cell? (a.add i) = some (.bool (each i hi).choose) := (each i hi).choose_spec
        simp only [dif_pos hi]
        generalize (each i hi).choose = zz at h1 ⊢
        rw [addr_add_flat hsp] at h1
        exact cell_objCell hob h1
end Go.Proofs.Ytpjikjhaljennaa
