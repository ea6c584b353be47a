/- Span: the triple of 'Skip'. -/
import Derived.Test.YtmjhfnmkegdafaaSpE
set_option maxRecDepth 100000
set_option linter.unusedVariables false
set_option linter.unusedSimpArgs false
namespace Go.Proofs.Ytmjhfnmkegdafaa
open Go Go.Sx

theorem SetRep.more {b : Nat} {mark : Int} {rows : List (Int × Int)} {L : Blks} (h : SetRep b mark rows L) (G : Blks) : SetRep b mark rows (L ++ G) := by
  obtain ⟨rv, L1, h1, h2⟩ := h
  exact ⟨rv, L1 ++ G, h1.more G, by simpa using h2.append_right G⟩
theorem SetRep.perm {b : Nat} {mark : Int} {rows : List (Int × Int)} {L L' : Blks} (h : SetRep b mark rows L) (p : L'.Perm L) : SetRep b mark rows L' := by
  obtain ⟨rv, L1, h1, h2⟩ := h
  exact ⟨rv, L1, h1, p.trans h2⟩

/-- A method of a set: from the two shapes of its blocks to any. -/
theorem set_triple {f : FuncId} {vs : List Value} {b : Nat} {mark : Int} {rows : List (Int × Int)} {L : Blks} {R : Value → Blks → Prop} (hr : SetRep b mark rows L)
    (hm : ∀ v L' G, R v L' → R v (L' ++ G)) (hp : ∀ v L' L'', R v L' → L''.Perm L' → R v L'')
    (hnil : rows = [] → Triple Go.Proofs.Try.prog f vs [(b, .cells [.int .u32 mark, .slice none 0 0] 55)] R)
    (htab : ∀ b1 base cap xs ys, 0 < rows.length → rows.length ≤ cap → xs.length = cap → ys.length = cap → xs.take rows.length = rows.map (·.1) → ys.take rows.length = rows.map (·.2) →
      Triple Go.Proofs.Try.prog f vs [(b, .cells [.int .u32 mark, .slice (some ⟨b1, base * 2, none⟩) rows.length cap] 55), (b1, .tab 60 base cap [.ints .u32 xs, .ints .u32 ys])] R) :
    Triple Go.Proofs.Try.prog f vs L R := by
  obtain ⟨rv, L1, h1, h2⟩ := hr
  rcases h1 with ⟨h1, rfl⟩ | ⟨b1, base, cap, xs, ys, G, rfl, g1, g2, g3, g4, g5, g6, g7⟩
  · have := (hnil h1).frame (G := L1)
    exact this.mono h2 fun v L' ⟨L0, k1, k2⟩ => k2 ▸ hm _ _ _ k1
  · have := (htab b1 base cap xs ys g1 g2 g3 g4 g5 g6).frame (G := G)
    exact this.mono (h2.trans (List.Perm.cons _ g7)) fun v L' ⟨L0, k1, k2⟩ => k2 ▸ hm _ _ _ k1

theorem run_move (ann : List (Nat × FnAnn)) (hs : Hints) (d : Nat) (path : List Nat) (g : FuncId) : SoundT Go.Proofs.Try.prog g (xrun Go.Proofs.Try.prog [(28, moveT)] ann hs d path g) :=
  xrun_sound mixed no_numG (fun g T h => by
    simp only [findT] at h
    cases hb : Nat.beq 28 g with
    | true =>
      rw [hb] at h
      have := Nat.eq_of_beq_eq_true hb
      subst this
      cases h
      exact moveT_sound
    | false => rw [hb] at h; cases h) d path g

theorem SkR.more {b : Nat} {mark : Int} {rows : List (Int × Int)} {t : Int} {v : Value} {L : Blks} (h : SkR b mark rows t v L) (G : Blks) : SkR b mark rows t v (L ++ G) :=
  ⟨fun hl => ⟨(h.1 hl).1, (h.1 hl).2.more G⟩, fun hl => ⟨(h.2 hl).1, (h.2 hl).2.more G⟩⟩
theorem SkR.perm {b : Nat} {mark : Int} {rows : List (Int × Int)} {t : Int} {v : Value} {L L' : Blks} (h : SkR b mark rows t v L) (p : L'.Perm L) : SkR b mark rows t v L' :=
  ⟨fun hl => ⟨(h.1 hl).1, (h.1 hl).2.perm p⟩, fun hl => ⟨(h.2 hl).1, (h.2 hl).2.perm p⟩⟩

theorem skip_triple {b : Nat} {mark : Int} {rows : List (Int × Int)} {L : Blks} (t : Int) (hr : SetRep b mark rows L) (hb : rows.length < 1000000) :
    Triple Go.Proofs.Try.prog 14 [.pointer (some ⟨b, 0, none⟩), .int .u32 t] L (SkR b mark rows t) := by
  refine set_triple hr (fun v L' G h => h.more G) (fun v L' L'' h p => h.perm p) (fun h0 => ?_) fun b1 base cap xs ys g1 g2 g3 g4 g5 g6 => ?_
  · subst h0
    exact triple_of_run (h := [.own b (.cells 2 [.val (.int .u32 mark), .val (.slice none 0 0)] 55)]) (args := [.ptr 0 0 0, .val (.int .u32 t)])
      (run_move _ _ _ _ _) (fun r => rfl) (fun r => rfl) (by simp) (skNil_goal b mark t)
  · exact triple_of_run (h := [.own b (.cells 2 [.val (.int .u32 mark), .slc 1 0 rows.length cap] 55), .own b1 (.tab 60 base cap [.ints .u32 xs, .ints .u32 ys])]) (args := [.ptr 0 0 0, .val (.int .u32 t)])
      (run_move _ _ _ _ _) (fun r => rfl) (fun r => rfl) (by simp) (sk_goal b b1 base cap xs ys mark t rows g2 hb g1 g3 g4 g5 g6)
end Go.Proofs.Ytmjhfnmkegdafaa
