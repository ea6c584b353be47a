/- Bytes that came in. -/
import Derived.Test.YtpjikjhaljennaaLwA
import Derived.Test.YtpjikjhaljennaaMaN
set_option maxRecDepth 100000
set_option linter.unusedVariables false
set_option linter.unusedSimpArgs false
namespace Go.Proofs.Ytpjikjhaljennaa
open Go Go.Sx
open Go.ChangeShapes Go.WideShapes Go.ChangeAt Go.RowKit
/-- A slice of bytes that came in. -/
theorem open_bytes {T : TypeId} (hT : Try.prog.underlying T = some (.slice 5)) {H : Type} {enc : TypeId × Value → H} {W : World} {v : Value} {d : DataW H} {ps : List MemPlace} (hok : ∃ a len cap, v = .slice a len cap)
    (h : DataW.Trod enc Try.prog W 0 (fun _ => true) true T v d ps) (hfz : ∀ b off, MemPlace.cell b off ∈ ps → W.frozen? ⟨b, off, none⟩ = false) :
    ∃ o l c bs, v = .slice o l c ∧ BytesAt (oldF W) o l bs ∧ Octets bs ∧ l ≤ c := by
  rcases open_nums hT Try.underlying5 (by kernel_rfl) hok h hfz with ⟨o, cap, rfl⟩ | ⟨a, len, cap, zs, rfl, g1, g2, g3, g4, g5, o, t, g6, g7⟩
  · exact ⟨o, 0, cap, [], rfl, ⟨rfl, fun h => absurd h (by omega)⟩, fun x hx => by simp at hx, Nat.zero_le _⟩
  · refine ⟨_, len, cap, zs.take len, rfl, ⟨by simp; omega, fun _ => ⟨_, _, rfl, fun i hi => ?_⟩⟩, fun x hx => wf_u8 (g5 x (List.mem_of_mem_take hx)), g2⟩
    have e : (zs.take len).getD i 0 = zs.getD i 0 := by rw [List.getD_eq_getElem?_getD, List.getD_eq_getElem?_getD, List.getElem?_take_of_lt hi]
    rw [e]
    exact ints_at g6 (g7 []) (by omega)
end Go.Proofs.Ytpjikjhaljennaa
