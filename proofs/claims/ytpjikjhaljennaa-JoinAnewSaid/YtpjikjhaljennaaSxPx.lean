/- Calls that read whatever is there and write one block. -/
import Derived.Test.YtpjikjhaljennaaSxPw
set_option linter.unusedVariables false
set_option linter.unusedSimpArgs false
namespace Go.Sx
open Classical

theorem frame_see {P : Program} {F : Blks} {h : List Ent} {w : World} {K : SV → List Ent → Prop} {f : FuncId} {vs : List Value} {n tb : Nat} {k k' : SBlk} {v : Value} {s : SV} {B B' : Blk}
    (c : Ctx F h w) (he : entAt h n = some (.own tb k)) (hl : (Ent.own tb k').loc = (Ent.own tb k).loc) (hd : ∀ r, k.den (locs h ++ r) = B) (hd' : ∀ r, k'.den (locs h ++ r) = B')
    (hs : s ≠ .top) (hv : ∀ r, den r s = v)
    (ht : ∀ L, SeenIn (owned (locs h) (h.set n (.gone (Ent.own tb k).loc)) ++ roL (locs h) h) L → Triple P f vs ((tb, B) :: L) fun u L' => u = v ∧ ∃ G, L'.Perm ((tb, B') :: (L ++ G)))
    (hk : K s (h.set n (.own tb k'))) : CallAns P F h w K f vs.toArray := by
  have hB : k.den (locs h) = B := by have := hd []; rwa [List.append_nil] at this
  have hO : Owns w (owned (locs h) h ++ F) := by have := c.owns []; rwa [List.append_nil] at this
  have hsplit : (owned (locs h) h).Perm ((tb, B) :: owned (locs h) (h.set n (.gone (Ent.own tb k).loc))) := by
    have := owned_out (ρ := locs h) (.own tb k) he
    rw [set_self he] at this
    rw [← hB]
    exact this
  have hO2 : Owns w ((tb, B) :: (owned (locs h) (h.set n (.gone (Ent.own tb k).loc)) ++ F)) := hO.perm (hsplit.append_right F)
  have hnd := hO2.2
  rw [List.map_cons, List.nodup_cons] at hnd
  have hnot : ∀ p ∈ owned (locs h) (h.set n (.gone (Ent.own tb k).loc)) ++ F, p.1 ≠ tb := fun p hp e => hnd.1 (List.mem_map.2 ⟨p, hp, e⟩)
  have inLr : ∀ b o, w.heap[b]? = some o → b ≠ tb → (b, Blk.obj o) ∈ (oldF w).filter (fun p => decide (p.1 ≠ tb)) := fun b o ho hne => List.mem_filter.2 ⟨mem_old ho, by simpa using hne⟩
  have hOL : Owns w ((tb, B) :: (oldF w).filter (fun p => decide (p.1 ≠ tb))) := by
    refine ⟨fun p hp => ?_, ?_⟩
    · rcases List.mem_cons.1 hp with rfl | hp
      · exact hO2.1 _ (by simp)
      · exact (owns_old w).1 p (List.mem_filter.1 hp).1
    · rw [List.map_cons, List.nodup_cons]
      refine ⟨fun hm => ?_, (owns_old w).2.sublist ((List.filter_sublist).map _)⟩
      obtain ⟨p, hp, e⟩ := List.mem_map.1 hm
      have := (List.mem_filter.1 hp).2
      simp [e] at this
  have hsee : SeenIn (owned (locs h) (h.set n (.gone (Ent.own tb k).loc)) ++ roL (locs h) h) ((oldF w).filter (fun p => decide (p.1 ≠ tb))) := fun b x u ⟨kk, hm, hat⟩ => by
    rcases List.mem_append.1 hm with hm | hm
    · obtain ⟨o, h1, h2⟩ := hO2.1 (b, kk) (List.mem_cons_of_mem _ (List.mem_append_left F hm))
      exact ⟨.obj o, inLr b o h1 (hnot _ (List.mem_append_left F hm)), at_spec h2 hat⟩
    · obtain ⟨k2, h1, h2⟩ := roL_mem hm
      obtain ⟨o, h3, h4⟩ := c.ro _ _ h1
      obtain ⟨o', h5, h6⟩ := hO2.1 (b, Blk.obj o) (List.mem_cons_of_mem _ (List.mem_append_right _ h3))
      have h6 : o' = o := h6
      subst h6
      have h7 := h4 []
      rw [List.append_nil] at h7
      simp only at h2
      rw [← h2] at h7
      exact ⟨.obj o', inLr b o' h5 (hnot _ (List.mem_append_right _ h3)), at_spec h7 hat⟩
  refine Calls.mono (ht _ hsee [] w (by rw [List.append_nil]; exact hOL)) fun e w' ⟨u, L', h1, ⟨h2, G, h3⟩, h4, h5⟩ => ?_
  rw [List.append_nil] at h4
  have h4 := h4.perm h3
  have hsame : ∀ b o, b ≠ tb → w.heap[b]? = some o → w'.heap[b]? = some o := fun b o hne ho => by
    obtain ⟨o', k1, k2⟩ := h4.1 (b, Blk.obj o) (List.mem_cons_of_mem _ (List.mem_append_left G (inLr b o ho hne)))
    have k2 : o' = o := k2
    rw [k1, k2]
  have hlocs : locs (h.set n (.own tb k')) = locs h := locs_set he hl
  have hnew : Owns w' ((tb, B') :: (owned (locs h) (h.set n (.gone (Ent.own tb k).loc)) ++ F)) := by
    refine ⟨fun p hp => ?_, by rw [List.map_cons, List.nodup_cons]; exact hnd⟩
    rcases List.mem_cons.1 hp with rfl | hp
    · exact h4.1 _ (by simp)
    · obtain ⟨o, k1, k2⟩ := hO2.1 p (List.mem_cons_of_mem _ hp)
      exact ⟨o, hsame _ _ (hnot p hp) k1, k2⟩
  refine ⟨u, s, _, h1, hk, ⟨[], by rw [hlocs, List.append_nil]⟩, ⟨fun r => ?_, fun b kk hm => ?_⟩, h5, hs, fun r => by rw [hv, h2]⟩
  · rw [hlocs]
    have p1 := owned_out (ρ := locs h ++ r) (.own tb k') he
    have p2 : owned (locs h ++ r) (h.set n (.gone (Ent.own tb k).loc)) = owned (locs h) (h.set n (.gone (Ent.own tb k).loc)) := owned_indep c r _ fun x hx => by
      rcases List.mem_or_eq_of_mem_set hx with hx | hx
      · exact .inl hx
      · exact .inr ⟨_, hx⟩
    rw [p2] at p1
    have e1 : (Ent.own tb k').blocks (locs h ++ r) = [(tb, B')] := by rw [← hd' r]; rfl
    rw [e1] at p1
    exact hnew.perm (p1.symm.append_right F)
  · have hold : Ent.ro b kk ∈ h := by
      rcases List.mem_or_eq_of_mem_set hm with hm | hm
      · exact hm
      · cases hm
    obtain ⟨o, k1, k2⟩ := c.ro b kk hold
    exact ⟨o, k1, fun r => by rw [hlocs]; exact k2 r⟩
end Go.Sx
