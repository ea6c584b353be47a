/- From a run to a law: true is answered, and what was there before is as it was. -/
import Derived.Test.YthkcfocoekonjaaSxX
import Derived.ProofKit
import Derived.Below
import Derived.Carry
set_option linter.unusedVariables false
set_option linter.unusedSimpArgs false
namespace Go.Sx
open Classical Go.RowKit

def objAt (W : World) (b : Nat) : Obj := match W.heap[b]? with
  | some o => o
  | none => .cells #[] 0 (0, 0)
/-- All blocks that are there. -/
def oldF (W : World) : Blks := (List.range W.heap.size).map fun b => (b, Blk.obj (objAt W b))
theorem objAt_some {W : World} {b : Nat} {o : Obj} (h : W.heap[b]? = some o) : objAt W b = o := by unfold objAt; rw [h]
theorem owns_old (W : World) : Owns W (oldF W) := by
  refine ⟨fun p hp => ?_, ?_⟩
  · obtain ⟨b, hb, rfl⟩ := List.mem_map.1 hp
    have hb := List.mem_range.1 hb
    have : W.heap[b]? = some W.heap[b] := Array.getElem?_eq_getElem hb
    exact ⟨_, this, (objAt_some this).symm⟩
  · unfold oldF
    rw [List.map_map]
    have : (Prod.fst ∘ fun b => (b, Blk.obj (objAt W b))) = id := rfl
    rw [this, List.map_id]
    exact List.nodup_range
theorem mem_old {W : World} {b : Nat} {o : Obj} (h : W.heap[b]? = some o) : (b, Blk.obj o) ∈ oldF W := by
  refine List.mem_map.2 ⟨b, List.mem_range.2 (Array.getElem?_eq_some_iff.1 h).1, ?_⟩
  rw [objAt_some h]
theorem below_old {W w' : World} {L : Blks} (h : Owns w' (L ++ oldF W)) (r : Rest W w') : Below W.heap.size W w' := by
  refine ⟨r.os, r.tape, r.output, r.size, fun b hb => ?_⟩
  have hw : W.heap[b]? = some W.heap[b] := Array.getElem?_eq_getElem hb
  obtain ⟨o, h1, h2⟩ := h.get (List.mem_append_right L (mem_old hw))
  have h2 : o = W.heap[b] := h2
  rw [h1, h2, hw]

theorem law_calls {P : Program} {f : FuncId} {T : Trans} (hs : SoundT P f T) {h : List Ent} {args : List SV} {vs : List Value} {W : World} (hown : ∀ r, owned (locs h ++ r) h = [])
    (hro : ∀ b k, Ent.ro b k ∈ h → ∃ o, W.heap[b]? = some o ∧ ∀ r, (k.den r).holds o) (ha : StdL h args vs) (hx : T args h fun s _ => bOf s fun p => p) :
    Calls P f vs.toArray W fun e w' => e = .returned (.bool true) ∧ Below W.heap.size W w' := by
  have c : Ctx (oldF W) h W := ⟨fun r => by rw [hown r]; exact owns_old W, fun b k hm => by
    obtain ⟨o, h1, h2⟩ := hro b k hm
    exact ⟨o, mem_old h1, fun r => h2 _⟩⟩
  refine Calls.mono (hs (oldF W) h W args vs _ c ha hx).2 fun e w' ⟨v, s, h', h1, h2, h3, h4, h5, h6, h7⟩ => ?_
  obtain ⟨p, hp, hd⟩ := bOf_spec h2 (locs h' ++ [])
  have hv := h7 []
  rw [hd] at hv
  refine ⟨by rw [h1, ← hv]; simp [hp], below_old (h4.owns []) h5⟩

theorem add_parts {a : Addr} (h : a.spot = none) (i : Nat) : (a.add i).block = a.block ∧ (a.add i).spot = none ∧ (a.add i).off = a.off + i := by
  unfold Addr.add
  split
  · rename_i h0; subst h0; exact ⟨rfl, h, rfl⟩
  · exact ⟨rfl, rfl, rfl⟩
/-- A slice of numbers that came in, as a block that is only read. -/
theorem ro_ints {W : World} {a : Addr} {k : IntKind} {zs : List Int} (hne : 0 < zs.length) (hc : ∀ i, i < zs.length → W.cell? (a.add i) = some (.int k (zs.getD i 0)))
    (hfz : ∀ i, i < zs.length → W.frozen? (a.add i) = false) :
    a.spot = none ∧ ∃ o t, W.heap[a.block]? = some o ∧ ∀ r, (SBlk.den r (.tab t a.off zs.length [.ints k zs])).holds o := by
  have h0 := hc 0 hne
  unfold World.cell? at h0
  have ez : a.add 0 = a := by unfold Addr.add; rw [if_pos rfl]
  have eb : (a.add 0).block = a.block := by rw [ez]
  have es : (a.add 0).spot = a.spot := by rw [ez]
  rw [eb] at h0
  cases hb : W.heap[a.block]? with
  | none => rw [hb] at h0; cases h0
  | some o =>
    rw [hb] at h0
    cases o with
    | cells arr t fz =>
      obtain ⟨lo, hi⟩ := fz
      simp only [es] at h0
      have hsp : a.spot = none := by
        cases hsp : a.spot with
        | none => rfl
        | some x => rw [hsp] at h0; simp at h0
      refine ⟨hsp, _, t, rfl, fun r => ⟨arr, lo, hi, rfl, ?_, ?_, ?_⟩⟩
      · intro c hcm
        simp at hcm
        subst hcm
        exact ⟨rfl, fun i hi => rfl⟩
      · intro i j c hi hj
        cases j with
        | succ j => simp at hj
        | zero =>
          simp at hj
          subst hj
          have hci := hc i hi
          unfold World.cell? at hci
          obtain ⟨e1, e2, e3⟩ := add_parts hsp i
          rw [e1, hb] at hci
          simp only [e2, e3] at hci
          simpa [Col.get] using hci
      · intro x hx1 hx2
        simp only [List.length_cons, List.length_nil, Nat.zero_add, Nat.mul_one] at hx1 hx2
        have := hfz (x - a.off) (by omega)
        unfold World.frozen? at this
        obtain ⟨e1, -, e3⟩ := add_parts hsp (x - a.off)
        rw [e1, hb] at this
        simp only [e3] at this
        rw [show a.off + (x - a.off) = x by omega] at this
        rintro ⟨g1, g2⟩
        simp [g1, g2] at this
    | _ => cases h0
theorem one_int (k : IntKind) (a : Int) : (Value.int k a).oneCell' = true := rfl
theorem one_bool (b : Bool) : (Value.bool b).oneCell' = true := rfl
theorem one_slice (o : Option Addr) (l c : Nat) : (Value.slice o l c).oneCell' = true := rfl
theorem one_ptr (o : Option Addr) : (Value.pointer o).oneCell' = true := rfl
theorem one_map (o : Option Nat) : (Value.map o).oneCell' = true := rfl
end Go.Sx
