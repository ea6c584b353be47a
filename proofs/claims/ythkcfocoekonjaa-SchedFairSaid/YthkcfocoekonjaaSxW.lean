/- From triples to contracts where several positions take part. -/
import Derived.Test.YthkcfocoekonjaaSxV
set_option linter.unusedVariables false
set_option linter.unusedSimpArgs false
namespace Go.Sx
open Classical

/-- From a triple over the blocks at some positions to a call within a heap. -/
theorem frame_many {P : Program} {F : Blks} {h : List Ent} {w : World} {K : SV → List Ent → Prop} {f : FuncId} {vs : List Value} {L G : Blks} {R : Value → Blks → Prop}
    (c : Ctx F h w) (J : List (Nat × Ent)) (hJ : ∀ p ∈ J, entAt h p.1 = some p.2) (hn : (J.map Prod.fst).Nodup) (hp : (blksOf (locs h) J).Perm (L ++ G)) (ht : Triple P f vs L R)
    (hk : ∀ v L', R v L' → ∃ s J' es G', K s (putAt h J' ++ es) ∧ J'.map Prod.fst = J.map Prod.fst ∧ (∀ p ∈ J', ∃ e, entAt h p.1 = some e ∧ e.loc = p.2.loc) ∧
      (∀ r, (blksOf (locs h ++ (locs es ++ r)) J' ++ owned (locs h ++ (locs es ++ r)) es ++ G').Perm (L' ++ G)) ∧ (∀ b k, (∀ p ∈ J', p.2 ≠ Ent.ro b k) ∧ Ent.ro b k ∉ es) ∧ s ≠ .top ∧ Std (putAt h J' ++ es) s v) :
    CallAns P F h w K f vs.toArray := by
  have h0 := c.owns []
  rw [List.append_nil] at h0
  let O := owned (locs h) (goneAt h (J.map Prod.fst))
  have hsplit : (owned (locs h) h).Perm (L ++ (G ++ O)) := by
    have := owned_put (locs h) J h hn fun p hm => ⟨p.2, hJ p hm, rfl⟩
    rw [put_self J h hJ] at this
    refine this.trans ?_
    rw [← List.append_assoc]
    exact hp.append_right _
  have h1 : Owns w (L ++ ((G ++ O) ++ F)) := h0.perm (by rw [← List.append_assoc]; exact hsplit.append_right F)
  refine Calls.mono (ht _ w h1) fun en w' ⟨v, L', e1, e2, e3, e4⟩ => ?_
  obtain ⟨s, J', es, G', k1, k2, k3, k4, k5, k6, k7⟩ := hk v L' e2
  have hn' : (J'.map Prod.fst).Nodup := by rw [k2]; exact hn
  have hlocs : locs (putAt h J' ++ es) = locs h ++ locs es := by
    have := locs_put J' h k3 hn'
    rw [locs_eq] at this ⊢
    rw [List.map_append, this, locs_eq es]
  refine ⟨v, s, _, e1, k1, ⟨locs es, hlocs⟩, ⟨fun r => ?_, fun b k hm => ?_⟩, e4, k6, k7⟩
  · rw [hlocs, owned_append, List.append_assoc (locs h)]
    have hg : owned (locs h ++ (locs es ++ r)) (goneAt h (J'.map Prod.fst)) = O := by
      rw [k2]
      exact owned_indep c _ _ fun x hx => mem_gone _ _ _ hx
    have p1 := owned_put (locs h ++ (locs es ++ r)) J' h hn' k3
    rw [hg] at p1
    have p4 := k4 r
    -- L' ++ ((G ++ O) ++ F)  ~  (put ++ es ++ F) ++ G'
    have p5 : (L' ++ ((G ++ O) ++ F)).Perm ((owned (locs h ++ (locs es ++ r)) (putAt h J') ++ owned (locs h ++ (locs es ++ r)) es ++ F) ++ G') := by
      have q1 : (L' ++ ((G ++ O) ++ F)).Perm ((L' ++ G) ++ (O ++ F)) := by simp only [List.append_assoc]; exact List.Perm.refl _
      refine q1.trans ((p4.symm.append_right _).trans ?_)
      have q2 := ((p1.append_right (owned (locs h ++ (locs es ++ r)) es)).append_right F).append_right G'
      refine List.Perm.trans ?_ q2.symm
      simp only [List.append_assoc]
      refine List.Perm.append_left _ ?_
      -- es ++ (G' ++ (O ++ F)) ~ O ++ (es ++ (F ++ G'))
      have q3 : (owned (locs h ++ (locs es ++ r)) es ++ (G' ++ (O ++ F))).Perm ((O ++ F) ++ (owned (locs h ++ (locs es ++ r)) es ++ G')) := by
        rw [← List.append_assoc]
        exact List.perm_append_comm
      refine q3.trans ?_
      rw [List.append_assoc]
      refine List.Perm.append_left _ ?_
      have q4 : (F ++ (owned (locs h ++ (locs es ++ r)) es ++ G')).Perm (owned (locs h ++ (locs es ++ r)) es ++ (F ++ G')) := by
        have := (List.perm_append_comm (l₁ := F) (l₂ := owned (locs h ++ (locs es ++ r)) es)).append_right G'
        simp only [List.append_assoc] at this ⊢
        exact this
      exact q4
    exact (e3.perm p5).sub (List.sublist_append_left _ _)
  · have hold : Ent.ro b k ∈ h := by
      rcases List.mem_append.1 hm with hm | hm
      · rcases mem_put _ _ _ hm with hm | ⟨p, hm, h2⟩
        · exact hm
        · exact absurd h2.symm ((k5 b k).1 p hm)
      · exact absurd hm (k5 b k).2
    obtain ⟨o, h2, h3⟩ := c.ro b k hold
    exact ⟨o, h2, fun r => by rw [hlocs, List.append_assoc]; exact h3 _⟩
end Go.Sx
