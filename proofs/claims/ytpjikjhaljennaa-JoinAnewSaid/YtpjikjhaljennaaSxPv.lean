/- Contracts of calls that only read, whatever the heap's form. -/
import Derived.Test.YtpjikjhaljennaaSxPu
set_option linter.unusedVariables false
set_option linter.unusedSimpArgs false
namespace Go.Sx
open Classical

/-- The blocks that are only read. -/
noncomputable def roL (ρ : List Loc) : List Ent → Blks
  | [] => []
  | .ro b k :: r => (b, k.den ρ) :: roL ρ r
  | _ :: r => roL ρ r
theorem roL_mem {ρ : List Loc} : ∀ {h : List Ent} {p : Nat × Blk}, p ∈ roL ρ h → ∃ k, Ent.ro p.1 k ∈ h ∧ p.2 = k.den ρ
  | [], p, hp => by cases hp
  | e :: r, p, hp => by
    cases e with
    | ro b k =>
      simp only [roL] at hp
      rcases List.mem_cons.1 hp with rfl | hp
      · exact ⟨k, by simp, rfl⟩
      · obtain ⟨k', h1, h2⟩ := roL_mem hp; exact ⟨k', by simp [h1], h2⟩
    | _ => simp only [roL] at hp; obtain ⟨k', h1, h2⟩ := roL_mem hp; exact ⟨k', by simp [h1], h2⟩
/-- What is seen in the one is seen in the other. -/
def SeenIn (L L' : Blks) : Prop := ∀ b x v, rawCell L b x v → rawCell L' b x v
noncomputable def readT {X : Type} (ret : X → SV) (pre : X → List Value → Blks → Prop) : Trans := fun args h K =>
  bif noTop args then ∃ x : X, pre x (denL (locs h) args) (owned (locs h) h ++ roL (locs h) h) ∧ K (ret x) h else False
theorem ctx_seen {F : Blks} {h : List Ent} {w : World} (c : Ctx F h w) : SeenIn (owned (locs h) h ++ roL (locs h) h) (oldF w) := by
  intro b x v ⟨k, hm, ha⟩
  have key : ∀ o, w.heap[b]? = some o → k.holds o → rawCell (oldF w) b x v := fun o ho hk => ⟨.obj o, mem_old ho, at_spec hk ha⟩
  rcases List.mem_append.1 hm with hm | hm
  · have ho := c.owns []
    rw [List.append_nil] at ho
    obtain ⟨o, h1, h2⟩ := ho.get (List.mem_append_left F hm)
    exact key o h1 h2
  · obtain ⟨k', h1, h2⟩ := roL_mem hm
    obtain ⟨o, h3, h4⟩ := c.ro _ _ h1
    have ho := c.owns []
    obtain ⟨o', h5, h6⟩ := ho.get (List.mem_append_right _ h3)
    have h6 : o' = o := h6
    subst h6
    have := h4 []
    rw [List.append_nil] at this
    simp only at h2
    rw [← h2] at this
    exact key _ h5 this
theorem owns_same {w w' : World} {L : Blks} (h : Owns w L) (hs : ∀ b, b < w.heap.size → w'.heap[b]? = w.heap[b]?) : Owns w' L := by
  refine ⟨fun p hp => ?_, h.2⟩
  obtain ⟨o, h1, h2⟩ := h.1 p hp
  exact ⟨o, by rw [hs _ (Array.getElem?_eq_some_iff.1 h1).1]; exact h1, h2⟩
theorem readT_sound {P : Program} {f : FuncId} (he : Enters P f) {X : Type} {ret : X → SV} {val : X → Value} {pre : X → List Value → Blks → Prop}
    (hd : ∀ a ρ, den ρ (ret a) = val a) (hn : ∀ a, ret a ≠ .top) (hm : ∀ x vs L L', SeenIn L L' → pre x vs L → pre x vs L') (ht : ∀ x vs L, pre x vs L → Triple P f vs L fun v L' => v = val x ∧ ∃ G, L'.Perm (L ++ G)) : SoundT P f (readT ret pre) := by
  intro F h w args vs K c ha hx
  refine ⟨he, ?_⟩
  unfold readT at hx
  obtain ⟨hnt, x, hp, hK⟩ := bif_false hx
  have hvs : denL (locs h) args = vs := by have := ha []; rwa [List.append_nil] at this
  rw [hvs] at hp
  have hp' := hm x vs _ _ (ctx_seen c) hp
  refine Calls.mono (ht x vs _ hp' [] w (by rw [List.append_nil]; exact owns_old w)) fun e w' ⟨v, L', h1, ⟨h2, G, h3⟩, h4, h5⟩ => ?_
  have hs : ∀ b, b < w.heap.size → w'.heap[b]? = w.heap[b]? := fun b hb => by
    have hw : w.heap[b]? = some w.heap[b] := Array.getElem?_eq_getElem hb
    rw [List.append_nil] at h4
    obtain ⟨o, k1, k2⟩ := h4.get (h3.mem_iff.2 (List.mem_append_left G (mem_old hw)))
    have k2 : o = w.heap[b] := k2
    rw [k1, k2, hw]
  refine ⟨v, ret x, h, h1, hK, Ext.refl h, ⟨fun r => owns_same (c.owns r) hs, c.ro⟩, h5, hn x, fun r => by rw [hd, h2]⟩
end Go.Sx
