/- Hashes: slices.Concat. -/
import Derived.Test.YtpjikjhaljennaaMaC
import Derived.Test.YtpjikjhaljennaaSxPw
set_option maxRecDepth 100000
set_option linter.unusedVariables false
set_option linter.unusedSimpArgs false
namespace Go.Proofs.Ytpjikjhaljennaa
open Go Go.Sx
attribute [local irreducible] Go.Sx.xrun

structure Bl where
  o : Option Addr
  l : Nat
  c : Nat
structure CcX where
  b : Nat
  base : Nat
  cap : Nat
  len : Nat
  i : Nat
  z : Int
  xs : List Int
noncomputable def Ann.cc (L : Blks) (P1 : Nat → Int → Prop) (P2 : CcX → Prop) (P2N : Nat → Prop) (n : Nat) : FnAnn := ⟨[(14, .to Bl fun s => .sl s.o s.l s.c), (30, .to Bl fun s => .sl s.o s.l s.c)],
  [(3, ⟨CcX, [(fun σ y => ⟨σ.n, (11, .val (.int .i64 y.i)) :: (3, .val (.int .i64 y.z)) :: keepE σ.env [0, 2, 9, 10], σ.heap⟩, fun _ y => P1 y.i y.z)], fun y => n - y.i⟩),
   (11, ⟨CcX, [(fun σ y => ⟨σ.n, (27, .val (.int .i64 y.i)) :: (6, .slc 1 0 y.len y.cap) :: keepE σ.env [2, 25, 26], [.chunk L, .own y.b (.tab 5 y.base y.cap [.ints .u8 y.xs])]⟩, fun _ y => P2 y),
      (fun σ y => ⟨σ.n, (27, .val (.int .i64 y.i)) :: (6, .val (.slice none 0 0)) :: keepE σ.env [2, 25, 26], [.chunk L]⟩, fun _ y => P2N y.i)], fun y => n - y.i⟩)]⟩
noncomputable def ccGoal (pb px n c : Nat) (L : Blks) (P1 : Nat → Int → Prop) (P2 : CcX → Prop) (P2N : Nat → Prop) (R : Value → Blks → Prop) : Prop :=
  xrun Go.Proofs.Try.prog [] [(59, Ann.cc L P1 P2 P2N n)] [] 9 [] 59 [.val (.slice (some ⟨pb, px, none⟩) n c)] [.chunk L] fun s h => R (den (locs h) s) (owned (locs h) h)
/-- Bytes that a slice value shows. -/
def BytesAt (L : Blks) (o : Option Addr) (l : Nat) (bs : List Int) : Prop := bs.length = l ∧ (0 < l → ∃ b x, o = some ⟨b, x, none⟩ ∧ ∀ i, i < l → rawCell L b (x + i) (.int .u8 (bs.getD i 0)))
/-- Parts of bytes that a slice of slices shows. -/
def PartsAt (L : Blks) (b x n : Nat) (ps : List (List Int)) : Prop := ps.length = n ∧ ∀ i, i < n → ∃ o l c, rawCell L b (x + i) (.slice o l c) ∧ BytesAt L o l (ps.getD i [])
theorem BytesAt.seen {L L' : Blks} (h : SeenIn L L') {o : Option Addr} {l : Nat} {bs : List Int} (hb : BytesAt L o l bs) : BytesAt L' o l bs :=
  ⟨hb.1, fun hl => let ⟨b, x, e, hc⟩ := hb.2 hl; ⟨b, x, e, fun i hi => h _ _ _ (hc i hi)⟩⟩
theorem PartsAt.seen {L L' : Blks} (h : SeenIn L L') {b x n : Nat} {ps : List (List Int)} (hb : PartsAt L b x n ps) : PartsAt L' b x n ps :=
  ⟨hb.1, fun i hi => let ⟨o, l, c, e, hc⟩ := hb.2 i hi; ⟨o, l, c, h _ _ _ e, hc.seen h⟩⟩
theorem BytesAt.raw {L : Blks} {b x l : Nat} {bs : List Int} (hb : BytesAt L (some ⟨b, x, none⟩) l bs) (hl : 0 < l) : rawTab L b x l [.ints .u8 bs] := by
  obtain ⟨b', x', e, hc⟩ := hb.2 hl
  simp at e
  obtain ⟨rfl, rfl⟩ := e
  exact .inr (.inl ⟨hl, .u8, bs, rfl, hb.1, hc⟩)
theorem flat_succ {ps : List (List Int)} {i : Nat} (hi : i < ps.length) : (ps.take (i + 1)).flatten = (ps.take i).flatten ++ ps.getD i [] := by
  rw [List.take_succ_eq_append_getElem hi, List.flatten_append]
  simp [List.getD_eq_getElem?_getD, List.getElem?_eq_getElem hi]
theorem flat_le (ps : List (List Int)) (i : Nat) : (ps.take i).flatten.length ≤ ps.flatten.length := by
  have : ps.flatten = (ps.take i).flatten ++ (ps.drop i).flatten := by rw [← List.flatten_append, List.take_append_drop]
  rw [this, List.length_append]; omega
def ccP1 (ps : List (List Int)) (i : Nat) (z : Int) : Prop := i ≤ ps.length ∧ z = ((ps.take i).flatten.length : Int)
def ccP2 (ps : List (List Int)) (y : CcX) : Prop := ps.flatten ≠ [] ∧ y.i ≤ ps.length ∧ y.len = (ps.take y.i).flatten.length ∧ y.xs.take y.len = (ps.take y.i).flatten ∧ y.len ≤ y.cap ∧ y.xs.length = y.cap
def ccP2N (ps : List (List Int)) (i : Nat) : Prop := i ≤ ps.length ∧ (ps.take i).flatten = []
def CcR (ps : List (List Int)) (L : Blks) (v : Value) (L' : Blks) : Prop := (ps.flatten = [] ∧ v = .slice none 0 0 ∧ L' = L) ∨
  (ps.flatten ≠ [] ∧ ∃ b base cap xs, v = .slice (some ⟨b, base, none⟩) ps.flatten.length cap ∧ xs.length = cap ∧ ps.flatten.length ≤ cap ∧ xs.take ps.flatten.length = ps.flatten ∧ L' = L ++ [(b, .tab 5 base cap [.ints .u8 xs])])
theorem cc_step {ps : List (List Int)} {x : CcX} (h : ccP2 ps x) (hi : x.i < ps.length) {l cap' : Nat} {sp : List Int} (hl : (ps.getD x.i []).length = l) (hc : x.len + l ≤ cap') (hs : sp.length = cap' - (x.len + l)) (b base : Nat) (z : Int) :
    ccP2 ps ⟨b, base, cap', x.len + l, x.i + 1, z, x.xs.take x.len ++ ps.getD x.i [] ++ sp⟩ := by
  obtain ⟨h0, h1, h2, h3, h4, h5⟩ := h
  have hb : (x.xs.take x.len).length = x.len := by rw [List.length_take]; omega
  have hA : (x.xs.take x.len ++ ps.getD x.i []).length = x.len + l := by rw [List.length_append, hb, hl]
  refine ⟨h0, hi, ?_, ?_, hc, ?_⟩
  · simp only []; rw [flat_succ hi, List.length_append, ← h2, hl]
  · simp only []; rw [← hA, List.take_left, flat_succ hi, h3]
  · simp only []; rw [List.length_append, hA, hs]; omega
theorem cc_stepN {ps : List (List Int)} {i : Nat} (h : ccP2N ps i) (hi : i < ps.length) {l cap' : Nat} {sp : List Int} (hl : (ps.getD i []).length = l) (h0 : 0 < l) (hc : l ≤ cap') (hs : sp.length = cap' - l) (b : Nat) (z : Int) :
    ccP2 ps ⟨b, 0, cap', l, i + 1, z, ps.getD i [] ++ sp⟩ := by
  have h3 : (ps.take (i + 1)).flatten = ps.getD i [] := by rw [flat_succ hi, h.2, List.nil_append]
  refine ⟨fun e => ?_, hi, ?_, ?_, hc, ?_⟩
  · have := flat_le ps (i + 1)
    rw [e, h3, hl] at this
    simp at this; omega
  · simp only []; rw [h3, hl]
  · simp only []; rw [h3, ← hl, List.take_left]
  · simp only []; rw [List.length_append, hl, hs]; omega
set_option maxHeartbeats 1000000 in
theorem cc_goal (pb px n c : Nat) (L : Blks) (P1 : Nat → Int → Prop) (P2 : CcX → Prop) (P2N : Nat → Prop) (R : Value → Blks → Prop) (ps : List (List Int))
    (e1 : P1 = ccP1 ps) (e2 : P2 = ccP2 ps) (e2N : P2N = ccP2N ps) (hp : PartsAt L pb px n ps) (hn : n < 1000000) (hb : ps.flatten.length < 1000000)
    (hR1 : ps.flatten = [] → R (.slice none 0 0) L)
    (hR2 : ∀ b base cap xs, ps.flatten ≠ [] → xs.length = cap → ps.flatten.length ≤ cap → xs.take ps.flatten.length = ps.flatten → R (.slice (some ⟨b, base, none⟩) ps.flatten.length cap) (L ++ [(b, .tab 5 base cap [.ints .u8 xs])])) :
    ccGoal pb px n c L P1 P2 P2N R :=
  Eq.mpr (by kernel_rfl) (show
  ∃ (x0 : CcX), ((((0 : Int) = (↑x0.5 : Int) ∧ (0 : Int) = x0.6 ∧ Value.slice (Option.some { block := pb, off := px }) n c = Value.slice (Option.some { block := pb, off := px }) n c ∧ Value.slice Option.none (0 : Nat) (0 : Nat) = Value.slice Option.none (0 : Nat) (0 : Nat) ∧ Value.slice (Option.some { block := pb, off := px }) n c = Value.slice (Option.some { block := pb, off := px }) n c ∧ (↑n : Int) = (↑n : Int) ∧ True) ∧ L = L ∧ True) ∧ P1 x0.5 x0.6) ∧ ∀ (x : CcX), P1 x.5 x.6 → ((↑x.5 : Int) < (↑n : Int) → ((0 : Int) ≤ (↑x.5 : Int) ∧ (↑x.5 : Int) < (↑n : Int)) ∧ ∃ (o : Option Go.Addr),
  ∃ (l : Nat), ∃ (c_1 : Nat), rawCell L pb (px + x.5 * (1 : Nat)) (Value.slice o l c_1) ∧ ∃ (x_1 : Bl), (∀ (r : List (Nat × Nat × Nat)), Value.slice x_1.1 x_1.2 x_1.3 = Value.slice o l c_1) ∧ (IntKind.wrap IntKind.i64 (x.6 + (↑x_1.2 : Int)) < (0 : Int) → False) ∧ (¬IntKind.wrap IntKind.i64 (x.6 + (↑x_1.2 : Int)) < (0 : Int) → ∃ (y : CcX), n - y.5 < n - x.5 ∧ ((IntKind.wrap IntKind.i64 ((↑x.5 : Int) + (1 : Int)) = (↑y.5 : Int) ∧ IntKind.wrap IntKind.i64 (x.6 + (↑x_1.2 : Int)) = y.6 ∧
  Value.slice (Option.some { block := pb, off := px }) n c = Value.slice (Option.some { block := pb, off := px }) n c ∧ Value.slice Option.none (0 : Nat) (0 : Nat) = Value.slice Option.none (0 : Nat) (0 : Nat) ∧ Value.slice (Option.some { block := pb, off := px }) n c = Value.slice (Option.some { block := pb, off := px }) n c ∧ (↑n : Int) = (↑n : Int) ∧ True) ∧ L = L ∧ True) ∧ P1 y.5 y.6)) ∧ (¬(↑x.5 : Int) < (↑n : Int) → (x.6 < (0 : Int) → False) ∧ (¬x.6 < (0 : Int) → ((0 : Int) < IntKind.wrap IntKind.i64 (x.6 - IntKind.wrap IntKind.i64 ((↑(0 : Nat) : Int) - (↑(0 : Nat) : Int))) →
  ((0 : Int) ≤ (↑(0 : Nat) : Int) ∧ (↑(0 : Nat) : Int) ≤ (↑(0 : Nat) : Int)) ∧ ((0 : Int) ≤ IntKind.wrap IntKind.i64 (x.6 - IntKind.wrap IntKind.i64 ((↑(0 : Nat) : Int) - (↑(0 : Nat) : Int))) ∧ Int.toNat (IntKind.wrap IntKind.i64 (x.6 - IntKind.wrap IntKind.i64 ((↑(0 : Nat) : Int) - (↑(0 : Nat) : Int)))) * (1 : Nat) ≤ (140737488355328 : Nat)) ∧ (Int.toNat (IntKind.wrap IntKind.i64 (x.6 - IntKind.wrap IntKind.i64 ((↑(0 : Nat) : Int) - (↑(0 : Nat) : Int)))) = (0 : Nat) → ((0 : Int) ≤ (↑(0 : Nat) : Int) ∧ (↑(0 : Nat) : Int) ≤ (↑(0 : Nat) : Int)) ∧ ∃ (x0 : CcX), ((((0 : Int) = (↑x0.5 : Int) ∧
  False ∧ Value.slice Option.none (0 : Nat) (0 : Nat) = Value.slice Option.none (0 : Nat) (0 : Nat) ∧ Value.slice (Option.some { block := pb, off := px }) n c = Value.slice (Option.some { block := pb, off := px }) n c ∧ (↑n : Int) = (↑n : Int) ∧ True) ∧ L = L ∧ False ∧ True) ∧ P2 x0 ∨ (((0 : Int) = (↑x0.5 : Int) ∧ Value.slice Option.none ((0 : Nat) - (0 : Nat)) ((0 : Nat) - (0 : Nat)) = Value.slice Option.none (0 : Nat) (0 : Nat) ∧ Value.slice Option.none (0 : Nat) (0 : Nat) = Value.slice Option.none (0 : Nat) (0 : Nat) ∧
  Value.slice (Option.some { block := pb, off := px }) n c = Value.slice (Option.some { block := pb, off := px }) n c ∧ (↑n : Int) = (↑n : Int) ∧ True) ∧ L = L ∧ True) ∧ P2N x0.5) ∧ (∀ (x : CcX), P2 x → ((↑x.5 : Int) < (↑n : Int) → ((0 : Int) ≤ (↑x.5 : Int) ∧ (↑x.5 : Int) < (↑n : Int)) ∧ ∃ (o : Option Go.Addr), ∃ (l : Nat), ∃ (c_1 : Nat), rawCell L pb (px + x.5 * (1 : Nat)) (Value.slice o l c_1) ∧ ∃ (x_1 : Bl), (∀ (r : List (Nat × Nat × Nat)), Value.slice x_1.1 x_1.2 x_1.3 = Value.slice o l c_1) ∧ (x_1.2 = (0 : Nat) → x.4 ≤ x.3 ∧ ∃ (y : CcX), n - y.5 < n - x.5 ∧
  (((IntKind.wrap IntKind.i64 ((↑x.5 : Int) + (1 : Int)) = (↑y.5 : Int) ∧ ((0 : Nat) = (0 : Nat) ∧ x.4 = y.4 ∧ x.3 = y.3) ∧ Value.slice Option.none (0 : Nat) (0 : Nat) = Value.slice Option.none (0 : Nat) (0 : Nat) ∧ Value.slice (Option.some { block := pb, off := px }) n c = Value.slice (Option.some { block := pb, off := px }) n c ∧ (↑n : Int) = (↑n : Int) ∧ True) ∧ L = L ∧ (x.1 = y.1 ∧ x.2 = y.2 ∧ x.3 = y.3 ∧ x.7 = y.7 ∧ True) ∧ True) ∧ P2 y ∨ ((IntKind.wrap IntKind.i64 ((↑x.5 : Int) + (1 : Int)) = (↑y.5 : Int) ∧ Value.slice (Option.some { block := x.1, off := x.2 * (1 : Nat) }) x.4 x.3 =
  Value.slice Option.none (0 : Nat) (0 : Nat) ∧ Value.slice Option.none (0 : Nat) (0 : Nat) = Value.slice Option.none (0 : Nat) (0 : Nat) ∧ Value.slice (Option.some { block := pb, off := px }) n c = Value.slice (Option.some { block := pb, off := px }) n c ∧ (↑n : Int) = (↑n : Int) ∧ True) ∧ L = L ∧ True) ∧ P2N y.5)) ∧ ((0 : Nat) < x_1.2 → ∃ (b : Nat), ∃ (x0 : Nat), x_1.1 = Option.some { block := b, off := x0 } ∧ ∃ (xs : List Int), rawTab L b x0 x_1.2 [Col.ints IntKind.u8 xs] ∧ (x.4 ≤ x.3 ∧ (0 : Nat) + x.3 ≤ x.3) ∧ (0 : Nat) + x.4 ≤ x.3 ∧ (x.4 + x_1.2) * (1 : Nat) ≤ (140737488355328 : Nat) ∧
  ∀ (b base cap' : Nat), x.4 + x_1.2 ≤ cap' → (x.4 + x_1.2 ≤ x.3 → cap' = x.3) → ∀ (sp : List Int), List.length sp = cap' - (x.4 + x_1.2) → ∃ (y : CcX), n - y.5 < n - x.5 ∧ (((IntKind.wrap IntKind.i64 ((↑x.5 : Int) + (1 : Int)) = (↑y.5 : Int) ∧ ((0 : Nat) = (0 : Nat) ∧ x.4 + x_1.2 = y.4 ∧ cap' = y.3) ∧ Value.slice Option.none (0 : Nat) (0 : Nat) = Value.slice Option.none (0 : Nat) (0 : Nat) ∧ Value.slice (Option.some { block := pb, off := px }) n c = Value.slice (Option.some { block := pb, off := px }) n c ∧ (↑n : Int) = (↑n : Int) ∧ True) ∧
  L = L ∧ (b = y.1 ∧ base = y.2 ∧ cap' = y.3 ∧ List.take x.4 x.7 ++ xs ++ sp = y.7 ∧ True) ∧ True) ∧ P2 y ∨ ((IntKind.wrap IntKind.i64 ((↑x.5 : Int) + (1 : Int)) = (↑y.5 : Int) ∧ Value.slice (Option.some { block := b, off := base * (1 : Nat) }) (x.4 + x_1.2) cap' = Value.slice Option.none (0 : Nat) (0 : Nat) ∧ Value.slice Option.none (0 : Nat) (0 : Nat) = Value.slice Option.none (0 : Nat) (0 : Nat) ∧ Value.slice (Option.some { block := pb, off := px }) n c = Value.slice (Option.some { block := pb, off := px }) n c ∧ (↑n : Int) = (↑n : Int) ∧ True) ∧ L = L ∧ True) ∧ P2N y.5))) ∧
  (¬(↑x.5 : Int) < (↑n : Int) → R (Value.slice (Option.some { block := x.1, off := x.2 * (1 : Nat) }) x.4 x.3) (L ++ [(x.1, Blk.tab (5 : Go.TypeId) x.2 x.3 [Col.ints IntKind.u8 x.7])]))) ∧ ∀ (x : CcX), P2N x.5 → ((↑x.5 : Int) < (↑n : Int) → ((0 : Int) ≤ (↑x.5 : Int) ∧ (↑x.5 : Int) < (↑n : Int)) ∧ ∃ (o : Option Go.Addr), ∃ (l : Nat), ∃ (c_1 : Nat), rawCell L pb (px + x.5 * (1 : Nat)) (Value.slice o l c_1) ∧ ∃ (x_1 : Bl), (∀ (r : List (Nat × Nat × Nat)), Value.slice x_1.1 x_1.2 x_1.3 = Value.slice o l c_1) ∧ (x_1.2 = (0 : Nat) → ∃ (y : CcX), n - y.5 < n - x.5 ∧
  (((IntKind.wrap IntKind.i64 ((↑x.5 : Int) + (1 : Int)) = (↑y.5 : Int) ∧ False ∧ Value.slice Option.none (0 : Nat) (0 : Nat) = Value.slice Option.none (0 : Nat) (0 : Nat) ∧ Value.slice (Option.some { block := pb, off := px }) n c = Value.slice (Option.some { block := pb, off := px }) n c ∧ (↑n : Int) = (↑n : Int) ∧ True) ∧ L = L ∧ False ∧ True) ∧ P2 y ∨ ((IntKind.wrap IntKind.i64 ((↑x.5 : Int) + (1 : Int)) = (↑y.5 : Int) ∧ Value.slice Option.none (0 : Nat) (0 : Nat) = Value.slice Option.none (0 : Nat) (0 : Nat) ∧
  Value.slice Option.none (0 : Nat) (0 : Nat) = Value.slice Option.none (0 : Nat) (0 : Nat) ∧ Value.slice (Option.some { block := pb, off := px }) n c = Value.slice (Option.some { block := pb, off := px }) n c ∧ (↑n : Int) = (↑n : Int) ∧ True) ∧ L = L ∧ True) ∧ P2N y.5)) ∧ ((0 : Nat) < x_1.2 → ∃ (b : Nat), ∃ (x0 : Nat), x_1.1 = Option.some { block := b, off := x0 } ∧ ∃ (xs : List Int), rawTab L b x0 x_1.2 [Col.ints IntKind.u8 xs] ∧ (x_1.2 = (0 : Nat) → ∃ (y : CcX), n - y.5 < n - x.5 ∧ (((IntKind.wrap IntKind.i64 ((↑x.5 : Int) + (1 : Int)) = (↑y.5 : Int) ∧ False ∧
  Value.slice Option.none (0 : Nat) (0 : Nat) = Value.slice Option.none (0 : Nat) (0 : Nat) ∧ Value.slice (Option.some { block := pb, off := px }) n c = Value.slice (Option.some { block := pb, off := px }) n c ∧ (↑n : Int) = (↑n : Int) ∧ True) ∧ L = L ∧ False ∧ True) ∧ P2 y ∨ ((IntKind.wrap IntKind.i64 ((↑x.5 : Int) + (1 : Int)) = (↑y.5 : Int) ∧ Value.slice Option.none (0 : Nat) (0 : Nat) = Value.slice Option.none (0 : Nat) (0 : Nat) ∧ Value.slice Option.none (0 : Nat) (0 : Nat) = Value.slice Option.none (0 : Nat) (0 : Nat) ∧ Value.slice (Option.some { block := pb, off := px }) n c =
  Value.slice (Option.some { block := pb, off := px }) n c ∧ (↑n : Int) = (↑n : Int) ∧ True) ∧ L = L ∧ True) ∧ P2N y.5)) ∧ ((0 : Nat) < x_1.2 → x_1.2 * (1 : Nat) ≤ (140737488355328 : Nat) ∧ ∀ (b cap' : Nat), x_1.2 ≤ cap' → ∀ (sp : List Int), List.length sp = cap' - x_1.2 → ∃ (y : CcX), n - y.5 < n - x.5 ∧ (((IntKind.wrap IntKind.i64 ((↑x.5 : Int) + (1 : Int)) = (↑y.5 : Int) ∧ ((0 : Nat) = (0 : Nat) ∧ x_1.2 = y.4 ∧ cap' = y.3) ∧ Value.slice Option.none (0 : Nat) (0 : Nat) = Value.slice Option.none (0 : Nat) (0 : Nat) ∧ Value.slice (Option.some { block := pb, off := px }) n c =
  Value.slice (Option.some { block := pb, off := px }) n c ∧ (↑n : Int) = (↑n : Int) ∧ True) ∧ L = L ∧ (b = y.1 ∧ (0 : Nat) = y.2 ∧ cap' = y.3 ∧ xs ++ sp = y.7 ∧ True) ∧ True) ∧ P2 y ∨ ((IntKind.wrap IntKind.i64 ((↑x.5 : Int) + (1 : Int)) = (↑y.5 : Int) ∧ Value.slice (Option.some { block := b, off := (0 : Nat) * (1 : Nat) }) x_1.2 cap' = Value.slice Option.none (0 : Nat) (0 : Nat) ∧ Value.slice Option.none (0 : Nat) (0 : Nat) = Value.slice Option.none (0 : Nat) (0 : Nat) ∧ Value.slice (Option.some { block := pb, off := px }) n c = Value.slice (Option.some { block := pb, off := px }) n c ∧
  (↑n : Int) = (↑n : Int) ∧ True) ∧ L = L ∧ True) ∧ P2N y.5)))) ∧ (¬(↑x.5 : Int) < (↑n : Int) → R (Value.slice Option.none (0 : Nat) (0 : Nat)) (L ++ []))) ∧ ((0 : Nat) < Int.toNat (IntKind.wrap IntKind.i64 (x.6 - IntKind.wrap IntKind.i64 ((↑(0 : Nat) : Int) - (↑(0 : Nat) : Int)))) → Int.toNat (IntKind.wrap IntKind.i64 (x.6 - IntKind.wrap IntKind.i64 ((↑(0 : Nat) : Int) - (↑(0 : Nat) : Int)))) * (1 : Nat) ≤ (140737488355328 : Nat) ∧ ∀ (b cap' : Nat), Int.toNat (IntKind.wrap IntKind.i64 (x.6 - IntKind.wrap IntKind.i64 ((↑(0 : Nat) : Int) - (↑(0 : Nat) : Int)))) ≤ cap' → ∀ (sp : List Int),
  List.length sp = cap' - Int.toNat (IntKind.wrap IntKind.i64 (x.6 - IntKind.wrap IntKind.i64 ((↑(0 : Nat) : Int) - (↑(0 : Nat) : Int)))) → ((0 : Int) ≤ (↑(0 : Nat) : Int) ∧ (↑(0 : Nat) : Int) ≤ (↑cap' : Int)) ∧ ∃ (x0 : CcX), ((((0 : Int) = (↑x0.5 : Int) ∧ ((0 : Nat) = (0 : Nat) ∧ (0 : Nat) = x0.4 ∧ cap' = x0.3) ∧ Value.slice Option.none (0 : Nat) (0 : Nat) = Value.slice Option.none (0 : Nat) (0 : Nat) ∧ Value.slice (Option.some { block := pb, off := px }) n c = Value.slice (Option.some { block := pb, off := px }) n c ∧ (↑n : Int) = (↑n : Int) ∧ True) ∧ L = L ∧ (b = x0.1 ∧ (0 : Nat) = x0.2 ∧
  cap' = x0.3 ∧ List.replicate (Int.toNat (IntKind.wrap IntKind.i64 (x.6 - IntKind.wrap IntKind.i64 ((↑(0 : Nat) : Int) - (↑(0 : Nat) : Int))))) (0 : Int) ++ sp = x0.7 ∧ True) ∧ True) ∧ P2 x0 ∨ (((0 : Int) = (↑x0.5 : Int) ∧ Value.slice (Option.some { block := b, off := (0 : Nat) * (1 : Nat) }) (0 : Nat) cap' = Value.slice Option.none (0 : Nat) (0 : Nat) ∧ Value.slice Option.none (0 : Nat) (0 : Nat) = Value.slice Option.none (0 : Nat) (0 : Nat) ∧ Value.slice (Option.some { block := pb, off := px }) n c = Value.slice (Option.some { block := pb, off := px }) n c ∧
  (↑n : Int) = (↑n : Int) ∧ True) ∧ L = L ∧ True) ∧ P2N x0.5) ∧ (∀ (x : CcX), P2 x → ((↑x.5 : Int) < (↑n : Int) → ((0 : Int) ≤ (↑x.5 : Int) ∧ (↑x.5 : Int) < (↑n : Int)) ∧ ∃ (o : Option Go.Addr), ∃ (l : Nat), ∃ (c_1 : Nat), rawCell L pb (px + x.5 * (1 : Nat)) (Value.slice o l c_1) ∧ ∃ (x_1 : Bl), (∀ (r : List (Nat × Nat × Nat)), Value.slice x_1.1 x_1.2 x_1.3 = Value.slice o l c_1) ∧ (x_1.2 = (0 : Nat) → x.4 ≤ x.3 ∧ ∃ (y : CcX), n - y.5 < n - x.5 ∧ (((IntKind.wrap IntKind.i64 ((↑x.5 : Int) + (1 : Int)) = (↑y.5 : Int) ∧ ((0 : Nat) = (0 : Nat) ∧ x.4 = y.4 ∧ x.3 = y.3) ∧
  Value.slice Option.none (0 : Nat) (0 : Nat) = Value.slice Option.none (0 : Nat) (0 : Nat) ∧ Value.slice (Option.some { block := pb, off := px }) n c = Value.slice (Option.some { block := pb, off := px }) n c ∧ (↑n : Int) = (↑n : Int) ∧ True) ∧ L = L ∧ (x.1 = y.1 ∧ x.2 = y.2 ∧ x.3 = y.3 ∧ x.7 = y.7 ∧ True) ∧ True) ∧ P2 y ∨ ((IntKind.wrap IntKind.i64 ((↑x.5 : Int) + (1 : Int)) = (↑y.5 : Int) ∧ Value.slice (Option.some { block := x.1, off := x.2 * (1 : Nat) }) x.4 x.3 = Value.slice Option.none (0 : Nat) (0 : Nat) ∧
  Value.slice Option.none (0 : Nat) (0 : Nat) = Value.slice Option.none (0 : Nat) (0 : Nat) ∧ Value.slice (Option.some { block := pb, off := px }) n c = Value.slice (Option.some { block := pb, off := px }) n c ∧ (↑n : Int) = (↑n : Int) ∧ True) ∧ L = L ∧ True) ∧ P2N y.5)) ∧ ((0 : Nat) < x_1.2 → ∃ (b : Nat), ∃ (x0 : Nat), x_1.1 = Option.some { block := b, off := x0 } ∧ ∃ (xs : List Int), rawTab L b x0 x_1.2 [Col.ints IntKind.u8 xs] ∧ (x.4 ≤ x.3 ∧ (0 : Nat) + x.3 ≤ x.3) ∧ (0 : Nat) + x.4 ≤ x.3 ∧ (x.4 + x_1.2) * (1 : Nat) ≤ (140737488355328 : Nat) ∧ ∀ (b base cap' : Nat), x.4 + x_1.2 ≤ cap' →
  (x.4 + x_1.2 ≤ x.3 → cap' = x.3) → ∀ (sp : List Int), List.length sp = cap' - (x.4 + x_1.2) → ∃ (y : CcX), n - y.5 < n - x.5 ∧ (((IntKind.wrap IntKind.i64 ((↑x.5 : Int) + (1 : Int)) = (↑y.5 : Int) ∧ ((0 : Nat) = (0 : Nat) ∧ x.4 + x_1.2 = y.4 ∧ cap' = y.3) ∧ Value.slice Option.none (0 : Nat) (0 : Nat) = Value.slice Option.none (0 : Nat) (0 : Nat) ∧ Value.slice (Option.some { block := pb, off := px }) n c = Value.slice (Option.some { block := pb, off := px }) n c ∧ (↑n : Int) = (↑n : Int) ∧ True) ∧ L = L ∧
  (b = y.1 ∧ base = y.2 ∧ cap' = y.3 ∧ List.take x.4 x.7 ++ xs ++ sp = y.7 ∧ True) ∧ True) ∧ P2 y ∨ ((IntKind.wrap IntKind.i64 ((↑x.5 : Int) + (1 : Int)) = (↑y.5 : Int) ∧ Value.slice (Option.some { block := b, off := base * (1 : Nat) }) (x.4 + x_1.2) cap' = Value.slice Option.none (0 : Nat) (0 : Nat) ∧ Value.slice Option.none (0 : Nat) (0 : Nat) = Value.slice Option.none (0 : Nat) (0 : Nat) ∧ Value.slice (Option.some { block := pb, off := px }) n c = Value.slice (Option.some { block := pb, off := px }) n c ∧ (↑n : Int) = (↑n : Int) ∧ True) ∧ L = L ∧ True) ∧ P2N y.5))) ∧
  (¬(↑x.5 : Int) < (↑n : Int) → R (Value.slice (Option.some { block := x.1, off := x.2 * (1 : Nat) }) x.4 x.3) (L ++ [(x.1, Blk.tab (5 : Go.TypeId) x.2 x.3 [Col.ints IntKind.u8 x.7])]))) ∧ ∀ (x : CcX), P2N x.5 → ((↑x.5 : Int) < (↑n : Int) → ((0 : Int) ≤ (↑x.5 : Int) ∧ (↑x.5 : Int) < (↑n : Int)) ∧ ∃ (o : Option Go.Addr), ∃ (l : Nat), ∃ (c_1 : Nat), rawCell L pb (px + x.5 * (1 : Nat)) (Value.slice o l c_1) ∧ ∃ (x_1 : Bl), (∀ (r : List (Nat × Nat × Nat)), Value.slice x_1.1 x_1.2 x_1.3 = Value.slice o l c_1) ∧ (x_1.2 = (0 : Nat) → ∃ (y : CcX), n - y.5 < n - x.5 ∧
  (((IntKind.wrap IntKind.i64 ((↑x.5 : Int) + (1 : Int)) = (↑y.5 : Int) ∧ False ∧ Value.slice Option.none (0 : Nat) (0 : Nat) = Value.slice Option.none (0 : Nat) (0 : Nat) ∧ Value.slice (Option.some { block := pb, off := px }) n c = Value.slice (Option.some { block := pb, off := px }) n c ∧ (↑n : Int) = (↑n : Int) ∧ True) ∧ L = L ∧ False ∧ True) ∧ P2 y ∨ ((IntKind.wrap IntKind.i64 ((↑x.5 : Int) + (1 : Int)) = (↑y.5 : Int) ∧ Value.slice Option.none (0 : Nat) (0 : Nat) = Value.slice Option.none (0 : Nat) (0 : Nat) ∧
  Value.slice Option.none (0 : Nat) (0 : Nat) = Value.slice Option.none (0 : Nat) (0 : Nat) ∧ Value.slice (Option.some { block := pb, off := px }) n c = Value.slice (Option.some { block := pb, off := px }) n c ∧ (↑n : Int) = (↑n : Int) ∧ True) ∧ L = L ∧ True) ∧ P2N y.5)) ∧ ((0 : Nat) < x_1.2 → ∃ (b : Nat), ∃ (x0 : Nat), x_1.1 = Option.some { block := b, off := x0 } ∧ ∃ (xs : List Int), rawTab L b x0 x_1.2 [Col.ints IntKind.u8 xs] ∧ (x_1.2 = (0 : Nat) → ∃ (y : CcX), n - y.5 < n - x.5 ∧ (((IntKind.wrap IntKind.i64 ((↑x.5 : Int) + (1 : Int)) = (↑y.5 : Int) ∧ False ∧
  Value.slice Option.none (0 : Nat) (0 : Nat) = Value.slice Option.none (0 : Nat) (0 : Nat) ∧ Value.slice (Option.some { block := pb, off := px }) n c = Value.slice (Option.some { block := pb, off := px }) n c ∧ (↑n : Int) = (↑n : Int) ∧ True) ∧ L = L ∧ False ∧ True) ∧ P2 y ∨ ((IntKind.wrap IntKind.i64 ((↑x.5 : Int) + (1 : Int)) = (↑y.5 : Int) ∧ Value.slice Option.none (0 : Nat) (0 : Nat) = Value.slice Option.none (0 : Nat) (0 : Nat) ∧ Value.slice Option.none (0 : Nat) (0 : Nat) = Value.slice Option.none (0 : Nat) (0 : Nat) ∧ Value.slice (Option.some { block := pb, off := px }) n c =
  Value.slice (Option.some { block := pb, off := px }) n c ∧ (↑n : Int) = (↑n : Int) ∧ True) ∧ L = L ∧ True) ∧ P2N y.5)) ∧ ((0 : Nat) < x_1.2 → x_1.2 * (1 : Nat) ≤ (140737488355328 : Nat) ∧ ∀ (b cap' : Nat), x_1.2 ≤ cap' → ∀ (sp : List Int), List.length sp = cap' - x_1.2 → ∃ (y : CcX), n - y.5 < n - x.5 ∧ (((IntKind.wrap IntKind.i64 ((↑x.5 : Int) + (1 : Int)) = (↑y.5 : Int) ∧ ((0 : Nat) = (0 : Nat) ∧ x_1.2 = y.4 ∧ cap' = y.3) ∧ Value.slice Option.none (0 : Nat) (0 : Nat) = Value.slice Option.none (0 : Nat) (0 : Nat) ∧ Value.slice (Option.some { block := pb, off := px }) n c =
  Value.slice (Option.some { block := pb, off := px }) n c ∧ (↑n : Int) = (↑n : Int) ∧ True) ∧ L = L ∧ (b = y.1 ∧ (0 : Nat) = y.2 ∧ cap' = y.3 ∧ xs ++ sp = y.7 ∧ True) ∧ True) ∧ P2 y ∨ ((IntKind.wrap IntKind.i64 ((↑x.5 : Int) + (1 : Int)) = (↑y.5 : Int) ∧ Value.slice (Option.some { block := b, off := (0 : Nat) * (1 : Nat) }) x_1.2 cap' = Value.slice Option.none (0 : Nat) (0 : Nat) ∧ Value.slice Option.none (0 : Nat) (0 : Nat) = Value.slice Option.none (0 : Nat) (0 : Nat) ∧ Value.slice (Option.some { block := pb, off := px }) n c = Value.slice (Option.some { block := pb, off := px }) n c ∧
  (↑n : Int) = (↑n : Int) ∧ True) ∧ L = L ∧ True) ∧ P2N y.5)))) ∧ (¬(↑x.5 : Int) < (↑n : Int) → R (Value.slice Option.none (0 : Nat) (0 : Nat)) (L ++ [])))) ∧ (¬(0 : Int) < IntKind.wrap IntKind.i64 (x.6 - IntKind.wrap IntKind.i64 ((↑(0 : Nat) : Int) - (↑(0 : Nat) : Int))) → ∃ (x0 : CcX), ((((0 : Int) = (↑x0.5 : Int) ∧ False ∧ Value.slice Option.none (0 : Nat) (0 : Nat) = Value.slice Option.none (0 : Nat) (0 : Nat) ∧ Value.slice (Option.some { block := pb, off := px }) n c = Value.slice (Option.some { block := pb, off := px }) n c ∧ (↑n : Int) = (↑n : Int) ∧ True) ∧ L = L ∧ False ∧ True) ∧
  P2 x0 ∨ (((0 : Int) = (↑x0.5 : Int) ∧ Value.slice Option.none (0 : Nat) (0 : Nat) = Value.slice Option.none (0 : Nat) (0 : Nat) ∧ Value.slice Option.none (0 : Nat) (0 : Nat) = Value.slice Option.none (0 : Nat) (0 : Nat) ∧ Value.slice (Option.some { block := pb, off := px }) n c = Value.slice (Option.some { block := pb, off := px }) n c ∧ (↑n : Int) = (↑n : Int) ∧ True) ∧ L = L ∧ True) ∧ P2N x0.5) ∧ (∀ (x : CcX), P2 x → ((↑x.5 : Int) < (↑n : Int) → ((0 : Int) ≤ (↑x.5 : Int) ∧ (↑x.5 : Int) < (↑n : Int)) ∧ ∃ (o : Option Go.Addr), ∃ (l : Nat), ∃ (c_1 : Nat),
  rawCell L pb (px + x.5 * (1 : Nat)) (Value.slice o l c_1) ∧ ∃ (x_1 : Bl), (∀ (r : List (Nat × Nat × Nat)), Value.slice x_1.1 x_1.2 x_1.3 = Value.slice o l c_1) ∧ (x_1.2 = (0 : Nat) → x.4 ≤ x.3 ∧ ∃ (y : CcX), n - y.5 < n - x.5 ∧ (((IntKind.wrap IntKind.i64 ((↑x.5 : Int) + (1 : Int)) = (↑y.5 : Int) ∧ ((0 : Nat) = (0 : Nat) ∧ x.4 = y.4 ∧ x.3 = y.3) ∧ Value.slice Option.none (0 : Nat) (0 : Nat) = Value.slice Option.none (0 : Nat) (0 : Nat) ∧ Value.slice (Option.some { block := pb, off := px }) n c = Value.slice (Option.some { block := pb, off := px }) n c ∧ (↑n : Int) = (↑n : Int) ∧ True) ∧
  L = L ∧ (x.1 = y.1 ∧ x.2 = y.2 ∧ x.3 = y.3 ∧ x.7 = y.7 ∧ True) ∧ True) ∧ P2 y ∨ ((IntKind.wrap IntKind.i64 ((↑x.5 : Int) + (1 : Int)) = (↑y.5 : Int) ∧ Value.slice (Option.some { block := x.1, off := x.2 * (1 : Nat) }) x.4 x.3 = Value.slice Option.none (0 : Nat) (0 : Nat) ∧ Value.slice Option.none (0 : Nat) (0 : Nat) = Value.slice Option.none (0 : Nat) (0 : Nat) ∧ Value.slice (Option.some { block := pb, off := px }) n c = Value.slice (Option.some { block := pb, off := px }) n c ∧ (↑n : Int) = (↑n : Int) ∧ True) ∧ L = L ∧ True) ∧ P2N y.5)) ∧ ((0 : Nat) < x_1.2 → ∃ (b : Nat), ∃ (x0 : Nat),
  x_1.1 = Option.some { block := b, off := x0 } ∧ ∃ (xs : List Int), rawTab L b x0 x_1.2 [Col.ints IntKind.u8 xs] ∧ (x.4 ≤ x.3 ∧ (0 : Nat) + x.3 ≤ x.3) ∧ (0 : Nat) + x.4 ≤ x.3 ∧ (x.4 + x_1.2) * (1 : Nat) ≤ (140737488355328 : Nat) ∧ ∀ (b base cap' : Nat), x.4 + x_1.2 ≤ cap' → (x.4 + x_1.2 ≤ x.3 → cap' = x.3) → ∀ (sp : List Int), List.length sp = cap' - (x.4 + x_1.2) → ∃ (y : CcX), n - y.5 < n - x.5 ∧ (((IntKind.wrap IntKind.i64 ((↑x.5 : Int) + (1 : Int)) = (↑y.5 : Int) ∧ ((0 : Nat) = (0 : Nat) ∧ x.4 + x_1.2 = y.4 ∧ cap' = y.3) ∧
  Value.slice Option.none (0 : Nat) (0 : Nat) = Value.slice Option.none (0 : Nat) (0 : Nat) ∧ Value.slice (Option.some { block := pb, off := px }) n c = Value.slice (Option.some { block := pb, off := px }) n c ∧ (↑n : Int) = (↑n : Int) ∧ True) ∧ L = L ∧ (b = y.1 ∧ base = y.2 ∧ cap' = y.3 ∧ List.take x.4 x.7 ++ xs ++ sp = y.7 ∧ True) ∧ True) ∧ P2 y ∨ ((IntKind.wrap IntKind.i64 ((↑x.5 : Int) + (1 : Int)) = (↑y.5 : Int) ∧ Value.slice (Option.some { block := b, off := base * (1 : Nat) }) (x.4 + x_1.2) cap' = Value.slice Option.none (0 : Nat) (0 : Nat) ∧
  Value.slice Option.none (0 : Nat) (0 : Nat) = Value.slice Option.none (0 : Nat) (0 : Nat) ∧ Value.slice (Option.some { block := pb, off := px }) n c = Value.slice (Option.some { block := pb, off := px }) n c ∧ (↑n : Int) = (↑n : Int) ∧ True) ∧ L = L ∧ True) ∧ P2N y.5))) ∧ (¬(↑x.5 : Int) < (↑n : Int) → R (Value.slice (Option.some { block := x.1, off := x.2 * (1 : Nat) }) x.4 x.3) (L ++ [(x.1, Blk.tab (5 : Go.TypeId) x.2 x.3 [Col.ints IntKind.u8 x.7])]))) ∧ ∀ (x : CcX), P2N x.5 → ((↑x.5 : Int) < (↑n : Int) → ((0 : Int) ≤ (↑x.5 : Int) ∧ (↑x.5 : Int) < (↑n : Int)) ∧ ∃ (o : Option Go.Addr),
  ∃ (l : Nat), ∃ (c_1 : Nat), rawCell L pb (px + x.5 * (1 : Nat)) (Value.slice o l c_1) ∧ ∃ (x_1 : Bl), (∀ (r : List (Nat × Nat × Nat)), Value.slice x_1.1 x_1.2 x_1.3 = Value.slice o l c_1) ∧ (x_1.2 = (0 : Nat) → ∃ (y : CcX), n - y.5 < n - x.5 ∧ (((IntKind.wrap IntKind.i64 ((↑x.5 : Int) + (1 : Int)) = (↑y.5 : Int) ∧ False ∧ Value.slice Option.none (0 : Nat) (0 : Nat) = Value.slice Option.none (0 : Nat) (0 : Nat) ∧ Value.slice (Option.some { block := pb, off := px }) n c = Value.slice (Option.some { block := pb, off := px }) n c ∧ (↑n : Int) = (↑n : Int) ∧ True) ∧ L = L ∧ False ∧ True) ∧ P2 y ∨
  ((IntKind.wrap IntKind.i64 ((↑x.5 : Int) + (1 : Int)) = (↑y.5 : Int) ∧ Value.slice Option.none (0 : Nat) (0 : Nat) = Value.slice Option.none (0 : Nat) (0 : Nat) ∧ Value.slice Option.none (0 : Nat) (0 : Nat) = Value.slice Option.none (0 : Nat) (0 : Nat) ∧ Value.slice (Option.some { block := pb, off := px }) n c = Value.slice (Option.some { block := pb, off := px }) n c ∧ (↑n : Int) = (↑n : Int) ∧ True) ∧ L = L ∧ True) ∧ P2N y.5)) ∧ ((0 : Nat) < x_1.2 → ∃ (b : Nat), ∃ (x0 : Nat), x_1.1 = Option.some { block := b, off := x0 } ∧ ∃ (xs : List Int), rawTab L b x0 x_1.2 [Col.ints IntKind.u8 xs] ∧
  (x_1.2 = (0 : Nat) → ∃ (y : CcX), n - y.5 < n - x.5 ∧ (((IntKind.wrap IntKind.i64 ((↑x.5 : Int) + (1 : Int)) = (↑y.5 : Int) ∧ False ∧ Value.slice Option.none (0 : Nat) (0 : Nat) = Value.slice Option.none (0 : Nat) (0 : Nat) ∧ Value.slice (Option.some { block := pb, off := px }) n c = Value.slice (Option.some { block := pb, off := px }) n c ∧ (↑n : Int) = (↑n : Int) ∧ True) ∧ L = L ∧ False ∧ True) ∧ P2 y ∨ ((IntKind.wrap IntKind.i64 ((↑x.5 : Int) + (1 : Int)) = (↑y.5 : Int) ∧ Value.slice Option.none (0 : Nat) (0 : Nat) = Value.slice Option.none (0 : Nat) (0 : Nat) ∧
  Value.slice Option.none (0 : Nat) (0 : Nat) = Value.slice Option.none (0 : Nat) (0 : Nat) ∧ Value.slice (Option.some { block := pb, off := px }) n c = Value.slice (Option.some { block := pb, off := px }) n c ∧ (↑n : Int) = (↑n : Int) ∧ True) ∧ L = L ∧ True) ∧ P2N y.5)) ∧ ((0 : Nat) < x_1.2 → x_1.2 * (1 : Nat) ≤ (140737488355328 : Nat) ∧ ∀ (b cap' : Nat), x_1.2 ≤ cap' → ∀ (sp : List Int), List.length sp = cap' - x_1.2 → ∃ (y : CcX), n - y.5 < n - x.5 ∧ (((IntKind.wrap IntKind.i64 ((↑x.5 : Int) + (1 : Int)) = (↑y.5 : Int) ∧ ((0 : Nat) = (0 : Nat) ∧ x_1.2 = y.4 ∧ cap' = y.3) ∧
  Value.slice Option.none (0 : Nat) (0 : Nat) = Value.slice Option.none (0 : Nat) (0 : Nat) ∧ Value.slice (Option.some { block := pb, off := px }) n c = Value.slice (Option.some { block := pb, off := px }) n c ∧ (↑n : Int) = (↑n : Int) ∧ True) ∧ L = L ∧ (b = y.1 ∧ (0 : Nat) = y.2 ∧ cap' = y.3 ∧ xs ++ sp = y.7 ∧ True) ∧ True) ∧ P2 y ∨ ((IntKind.wrap IntKind.i64 ((↑x.5 : Int) + (1 : Int)) = (↑y.5 : Int) ∧ Value.slice (Option.some { block := b, off := (0 : Nat) * (1 : Nat) }) x_1.2 cap' = Value.slice Option.none (0 : Nat) (0 : Nat) ∧
  Value.slice Option.none (0 : Nat) (0 : Nat) = Value.slice Option.none (0 : Nat) (0 : Nat) ∧ Value.slice (Option.some { block := pb, off := px }) n c = Value.slice (Option.some { block := pb, off := px }) n c ∧ (↑n : Int) = (↑n : Int) ∧ True) ∧ L = L ∧ True) ∧ P2N y.5)))) ∧ (¬(↑x.5 : Int) < (↑n : Int) → R (Value.slice Option.none (0 : Nat) (0 : Nat)) (L ++ []))))) from by
  subst e1 e2 e2N
  simp only [eq_self, true_and, and_true, false_and, and_false, or_false, false_or, and_self, Nat.zero_add, Nat.add_zero, Nat.sub_zero, Nat.zero_mul, Nat.mul_one, Int.toNat_natCast, cond_true, cond_false, forall_const, implies_true, Nat.beq_refl, ne_eq, not_false_eq_true, not_true_eq_false, Classical.not_not, List.cons.injEq, List.append_nil, List.nil_append, Go.Value.int.injEq, Go.Value.bool.injEq, Go.Value.slice.injEq, Nat.le_refl, Nat.zero_le, Go.Sx.one_int, Go.Sx.one_bool, Go.Sx.one_slice, Go.Sx.one_ptr, Go.Sx.one_map, Int.cast_ofNat_Int, reduceCtorEq, Nat.reduceLeDiff, Nat.reduceMul, Nat.reduceAdd, Nat.reduceSub, Nat.reduceEqDiff, Int.reduceLE, Int.reduceLT, Int.reduceEq, Int.reduceAdd, Int.reduceSub, Int.reduceNeg, Int.reduceMul, Nat.reduceBEq]
  have hpl := hp.1
  refine ⟨⟨0, 0, 0, 0, 0, 0, []⟩, ⟨⟨rfl, rfl⟩, Nat.zero_le _, rfl⟩, fun x ⟨h1, h2⟩ => ⟨fun hlt => ?_, fun hge => ?_⟩⟩
  · obtain ⟨o, l, c, e1, e2⟩ := hp.2 x.i (by omega)
    have hi : x.i < ps.length := by omega
    have hw : IntKind.wrap .i64 ((x.i : Int) + 1) = ((x.i + 1 : Nat) : Int) := by rw [IntKind.wrap_i64]; omega
    have hle := flat_le ps (x.i + 1)
    rw [flat_succ hi, List.length_append, e2.1] at hle
    have hw2 : IntKind.wrap .i64 (x.z + (l : Int)) = (((ps.take (x.i + 1)).flatten.length : Nat) : Int) := by rw [IntKind.wrap_i64, h2, flat_succ hi, List.length_append, e2.1]; omega
    refine ⟨⟨by omega, by omega⟩, o, l, c, e1, ⟨o, l, c⟩, ⟨rfl, rfl, rfl⟩, ?_⟩
    simp only [hw, hw2]
    refine ⟨fun h => by omega, fun _ => ⟨⟨0, 0, 0, 0, x.i + 1, _, []⟩, by simp only []; omega, ⟨rfl, rfl⟩, hi, rfl⟩⟩
  · have hz : x.z = (ps.flatten.length : Int) := by rw [h2, List.take_of_length_le (by omega)]
    have hw : IntKind.wrap .i64 ((ps.flatten.length : Int) - IntKind.wrap .i64 0) = (ps.flatten.length : Int) := by rw [IntKind.wrap_i64, IntKind.wrap_i64]; omega
    simp only [hz, hw, Int.toNat_natCast]
    refine ⟨fun h => by omega, fun _ => ⟨fun hlt => ⟨⟨by omega, by omega⟩, fun h0 => absurd h0 (by omega), fun _ => ⟨by omega, fun b cap' hc sp hs => ⟨by omega, ⟨b, 0, cap', 0, 0, 0, _⟩, ⟨⟨⟨rfl, rfl, rfl⟩, rfl, rfl, rfl, rfl⟩, ?_⟩, ?_, ?_⟩⟩⟩, fun hge => ⟨⟨0, 0, 0, 0, 0, 0, []⟩, ⟨rfl, Nat.zero_le _, rfl⟩, ?_, ?_⟩⟩⟩
    · refine ⟨fun e => by rw [e] at hlt; simp at hlt, Nat.zero_le _, rfl, rfl, Nat.zero_le _, ?_⟩
      simp only [List.length_append, List.length_replicate, hs]; omega
    ·
      intro x hx
      refine ⟨fun hlt => ?_, fun hge => ?_⟩
      · obtain ⟨o, l, c, e1, e2⟩ := hp.2 x.i (by omega)
        have hi : x.i < ps.length := by omega
        have hw : IntKind.wrap .i64 ((x.i : Int) + 1) = ((x.i + 1 : Nat) : Int) := by rw [IntKind.wrap_i64]; omega
        have h1 := hx
        obtain ⟨h10, h11, h12, h13, h14, h15⟩ := h1
        have hle := flat_le ps (x.i + 1)
        rw [flat_succ hi, List.length_append, e2.1] at hle
        refine ⟨⟨by omega, by omega⟩, o, l, c, e1, ⟨o, l, c⟩, ⟨rfl, rfl, rfl⟩, fun hl => ⟨h14, ⟨x.b, x.base, x.cap, x.len, x.i + 1, x.z, x.xs⟩, by simp only []; omega, ⟨⟨hw, rfl, rfl⟩, rfl, rfl, rfl, rfl⟩, ?_⟩, fun hl => ?_⟩
        · simp only [] at hl
          have h3 : ps.getD x.i [] = [] := List.eq_nil_of_length_eq_zero (by rw [e2.1, hl])
          refine ⟨h10, hi, ?_, ?_, h14, h15⟩
          · simp only []; rw [flat_succ hi, h3, List.append_nil]; exact h12
          · simp only []; rw [flat_succ hi, h3, List.append_nil]; exact h13
        · simp only [] at hl ⊢
          obtain ⟨b, x0, rfl, -⟩ := e2.2 hl
          refine ⟨b, x0, rfl, _, e2.raw hl, h14, h14, by omega, fun b' base' cap' hc hc2 sp hs => ⟨⟨b', base', cap', x.len + l, x.i + 1, x.z, _⟩, by simp only []; omega, ⟨⟨hw, rfl, rfl⟩, rfl, rfl, rfl, rfl⟩, ?_⟩⟩
          exact cc_step hx hi e2.1 hc hs _ _ _
      · obtain ⟨h10, h11, h12, h13, h14, h15⟩ := hx
        have e : ps.take x.i = ps := List.take_of_length_le (by omega)
        rw [e] at h12 h13
        rw [h12] at h14 h13
        rw [h12]
        exact hR2 _ _ _ _ h10 h15 h14 h13
    ·
      intro x hx
      refine ⟨fun hlt => ?_, fun hge => ?_⟩
      · obtain ⟨o, l, c, e1, e2⟩ := hp.2 x.i (by omega)
        have hi : x.i < ps.length := by omega
        have hw : IntKind.wrap .i64 ((x.i : Int) + 1) = ((x.i + 1 : Nat) : Int) := by rw [IntKind.wrap_i64]; omega
        have hle := flat_le ps (x.i + 1)
        rw [flat_succ hi, List.length_append, e2.1] at hle
        have hz : l = 0 → ∃ y : CcX, n - y.i < n - x.i ∧ IntKind.wrap .i64 ((x.i : Int) + 1) = (y.i : Int) ∧ ccP2N ps y.i := fun hl => by
          have h3 : ps.getD x.i [] = [] := List.eq_nil_of_length_eq_zero (by rw [e2.1, hl])
          refine ⟨⟨0, 0, 0, 0, x.i + 1, 0, []⟩, by simp only []; omega, hw, hi, ?_⟩
          simp only []; rw [flat_succ hi, h3, List.append_nil]; exact hx.2
        refine ⟨⟨by omega, by omega⟩, o, l, c, e1, ⟨o, l, c⟩, ⟨rfl, rfl, rfl⟩, hz, fun hl => ?_⟩
        simp only [] at hl ⊢
        obtain ⟨b, x0, rfl, -⟩ := e2.2 hl
        refine ⟨b, x0, rfl, _, e2.raw hl, hz, fun _ => ⟨by omega, fun b' cap' hc sp hs => ⟨⟨b', 0, cap', l, x.i + 1, 0, _⟩, by simp only []; omega, ⟨⟨hw, rfl, rfl⟩, rfl, rfl, rfl, rfl⟩, ?_⟩⟩⟩
        exact cc_stepN hx hi e2.1 hl hc hs _ _
      · have e : ps.take x.i = ps := List.take_of_length_le (by have := hx.1; omega)
        have h2 := hx.2
        rw [e] at h2
        exact hR1 h2
    ·
      intro x hx
      refine ⟨fun hlt => ?_, fun hge => ?_⟩
      · obtain ⟨o, l, c, e1, e2⟩ := hp.2 x.i (by omega)
        have hi : x.i < ps.length := by omega
        have hw : IntKind.wrap .i64 ((x.i : Int) + 1) = ((x.i + 1 : Nat) : Int) := by rw [IntKind.wrap_i64]; omega
        have h1 := hx
        obtain ⟨h10, h11, h12, h13, h14, h15⟩ := h1
        have hle := flat_le ps (x.i + 1)
        rw [flat_succ hi, List.length_append, e2.1] at hle
        refine ⟨⟨by omega, by omega⟩, o, l, c, e1, ⟨o, l, c⟩, ⟨rfl, rfl, rfl⟩, fun hl => ⟨h14, ⟨x.b, x.base, x.cap, x.len, x.i + 1, x.z, x.xs⟩, by simp only []; omega, ⟨⟨hw, rfl, rfl⟩, rfl, rfl, rfl, rfl⟩, ?_⟩, fun hl => ?_⟩
        · simp only [] at hl
          have h3 : ps.getD x.i [] = [] := List.eq_nil_of_length_eq_zero (by rw [e2.1, hl])
          refine ⟨h10, hi, ?_, ?_, h14, h15⟩
          · simp only []; rw [flat_succ hi, h3, List.append_nil]; exact h12
          · simp only []; rw [flat_succ hi, h3, List.append_nil]; exact h13
        · simp only [] at hl ⊢
          obtain ⟨b, x0, rfl, -⟩ := e2.2 hl
          refine ⟨b, x0, rfl, _, e2.raw hl, h14, h14, by omega, fun b' base' cap' hc hc2 sp hs => ⟨⟨b', base', cap', x.len + l, x.i + 1, x.z, _⟩, by simp only []; omega, ⟨⟨hw, rfl, rfl⟩, rfl, rfl, rfl, rfl⟩, ?_⟩⟩
          exact cc_step hx hi e2.1 hc hs _ _ _
      · obtain ⟨h10, h11, h12, h13, h14, h15⟩ := hx
        have e : ps.take x.i = ps := List.take_of_length_le (by omega)
        rw [e] at h12 h13
        rw [h12] at h14 h13
        rw [h12]
        exact hR2 _ _ _ _ h10 h15 h14 h13
    ·
      intro x hx
      refine ⟨fun hlt => ?_, fun hge => ?_⟩
      · obtain ⟨o, l, c, e1, e2⟩ := hp.2 x.i (by omega)
        have hi : x.i < ps.length := by omega
        have hw : IntKind.wrap .i64 ((x.i : Int) + 1) = ((x.i + 1 : Nat) : Int) := by rw [IntKind.wrap_i64]; omega
        have hle := flat_le ps (x.i + 1)
        rw [flat_succ hi, List.length_append, e2.1] at hle
        have hz : l = 0 → ∃ y : CcX, n - y.i < n - x.i ∧ IntKind.wrap .i64 ((x.i : Int) + 1) = (y.i : Int) ∧ ccP2N ps y.i := fun hl => by
          have h3 : ps.getD x.i [] = [] := List.eq_nil_of_length_eq_zero (by rw [e2.1, hl])
          refine ⟨⟨0, 0, 0, 0, x.i + 1, 0, []⟩, by simp only []; omega, hw, hi, ?_⟩
          simp only []; rw [flat_succ hi, h3, List.append_nil]; exact hx.2
        refine ⟨⟨by omega, by omega⟩, o, l, c, e1, ⟨o, l, c⟩, ⟨rfl, rfl, rfl⟩, hz, fun hl => ?_⟩
        simp only [] at hl ⊢
        obtain ⟨b, x0, rfl, -⟩ := e2.2 hl
        refine ⟨b, x0, rfl, _, e2.raw hl, hz, fun _ => ⟨by omega, fun b' cap' hc sp hs => ⟨⟨b', 0, cap', l, x.i + 1, 0, _⟩, by simp only []; omega, ⟨⟨hw, rfl, rfl⟩, rfl, rfl, rfl, rfl⟩, ?_⟩⟩⟩
        exact cc_stepN hx hi e2.1 hl hc hs _ _
      · have e : ps.take x.i = ps := List.take_of_length_le (by have := hx.1; omega)
        have h2 := hx.2
        rw [e] at h2
        exact hR1 h2
    )
structure PsX where
  b : Nat
  x : Nat
  n : Nat
  c : Nat
  ps : List (List Int)
def PartsPre (y : PsX) (vs : List Value) (L : Blks) : Prop := vs = [.slice (some ⟨y.b, y.x, none⟩) y.n y.c] ∧ PartsAt L y.b y.x y.n y.ps ∧ y.n < 1000000 ∧ y.ps.flatten.length < 1000000
theorem enters59 : Enters Go.Proofs.Try.prog 59 := ⟨Go.Proofs.Try.f59, Go.Proofs.Try.func59, by kernel_rfl, by kernel_rfl⟩
noncomputable def concatT : Trans := bytesT 5 PartsPre fun y => y.ps.flatten
theorem concatT_sound : SoundT Go.Proofs.Try.prog 59 concatT :=
  bytesT_sound enters59 (fun y vs L L' h ⟨h1, h2, h3⟩ => ⟨h1, h2.seen h, h3⟩) fun y vs L ⟨h1, h2, h3, h4⟩ => by
    subst h1
    refine triple_of_run (R := BytesR 5 y.ps.flatten L) (h := [.chunk L]) (args := [.val (.slice (some ⟨y.b, y.x, none⟩) y.n y.c)]) (run_with no_contracts _ _ _ _ _) (fun r => rfl) (fun r => by simp [owned, Ent.blocks]) (by simp)
      (cc_goal y.b y.x y.n y.c L _ _ _ _ y.ps rfl rfl rfl h2 h3 h4 (fun e => .inl ⟨e, rfl, [], by simp⟩) fun b base cap xs e r1 r2 r3 => .inr ⟨e, b, base, cap, xs, [], rfl, r1, r2, r3, ?_⟩)
    rw [List.append_nil]
    exact List.perm_append_comm (l₁ := L) (l₂ := [_])
end Go.Proofs.Ytpjikjhaljennaa
