/- Contracts of calls that only read and answer bytes in a new block. -/
import Derived.Test.YtpjikjhaljennaaSxPv
set_option linter.unusedVariables false
set_option linter.unusedSimpArgs false
namespace Go.Sx
open Classical

noncomputable def bytesT (t : TypeId) {X : Type} (pre : X → List Value → Blks → Prop) (val : X → List Int) : Trans := fun args h K =>
  bif noTop args then ∃ x : X, pre x (denL (locs h) args) (owned (locs h) h ++ roL (locs h) h) ∧ (val x = [] → K (.val (.slice none 0 0)) h) ∧
    (val x ≠ [] → ∀ b base cap xs, xs.length = cap → (val x).length ≤ cap → xs.take (val x).length = val x → appK h (.own b (.tab t base cap [.ints .u8 xs])) fun h' => K (.slc (lenE h) 0 (val x).length cap) h') else False
def BytesR (t : TypeId) (bs : List Int) (L : Blks) (v : Value) (L' : Blks) : Prop := (bs = [] ∧ v = .slice none 0 0 ∧ ∃ G, L'.Perm (L ++ G)) ∨
  (bs ≠ [] ∧ ∃ b base cap xs G, v = .slice (some ⟨b, base, none⟩) bs.length cap ∧ xs.length = cap ∧ bs.length ≤ cap ∧ xs.take bs.length = bs ∧ L'.Perm ((b, .tab t base cap [.ints .u8 xs]) :: (L ++ G)))
theorem bytesT_sound {P : Program} {f : FuncId} {t : TypeId} (he : Enters P f) {X : Type} {val : X → List Int} {pre : X → List Value → Blks → Prop}
    (hm : ∀ x vs L L', SeenIn L L' → pre x vs L → pre x vs L') (ht : ∀ x vs L, pre x vs L → Triple P f vs L (BytesR t (val x) L)) : SoundT P f (bytesT t pre val) := by
  intro F h w args vs K c ha hx
  refine ⟨he, ?_⟩
  unfold bytesT at hx
  obtain ⟨hnt, x, hp, hK0, hK⟩ := bif_false hx
  have hvs : denL (locs h) args = vs := by have := ha []; rwa [List.append_nil] at this
  rw [hvs] at hp
  have hp' := hm x vs _ _ (ctx_seen c) hp
  refine Calls.mono (ht x vs _ hp' [] w (by rw [List.append_nil]; exact owns_old w)) fun e w' ⟨v, L', h1, hr, h4, h5⟩ => ?_
  rw [List.append_nil] at h4
  have hs : (∀ q ∈ oldF w, q ∈ L') → ∀ b, b < w.heap.size → w'.heap[b]? = w.heap[b]? := fun hsub b hb => by
    have hw : w.heap[b]? = some w.heap[b] := Array.getElem?_eq_getElem hb
    obtain ⟨o, k1, k2⟩ := h4.get (hsub _ (mem_old hw))
    have k2 : o = w.heap[b] := k2
    rw [k1, k2, hw]
  rcases hr with ⟨e0, rfl, G, h3⟩ | ⟨e0, b, base, cap, xs, G, rfl, r1, r2, r3, h3⟩
  · have hs := hs fun q hq => h3.mem_iff.2 (List.mem_append_left G hq)
    exact ⟨_, _, h, h1, hK0 e0, Ext.refl h, ⟨fun r => owns_same (c.owns r) hs, c.ro⟩, h5, by simp, fun r => rfl⟩
  · have hs := hs fun q hq => h3.mem_iff.2 (List.mem_cons_of_mem _ (List.mem_append_left G hq))
    have hro := c.ro
    have ho := h4.perm h3
    obtain ⟨ob, k1, k2⟩ := ho.get (List.mem_cons_self)
    have hnew : ∀ r, b ∉ ((owned (locs h ++ r) h ++ F).map Prod.fst) := fun r hb => by
      have hlt := (c.owns r).lt hb
      have hw : w.heap[b]? = some w.heap[b] := Array.getElem?_eq_getElem hlt
      have hnd := ho.2
      rw [List.map_cons, List.nodup_cons] at hnd
      exact hnd.1 (List.mem_map.2 ⟨_, List.mem_append_left G (mem_old hw), rfl⟩)
    have hl : ∀ r, locs (h ++ [Ent.own b (.tab t base cap [.ints .u8 xs])]) ++ r = locs h ++ ((b, base, 1) :: r) := fun r => by simp [locs_eq, Ent.loc, SBlk.base, SBlk.wd]
    refine ⟨_, .slc (lenE h) 0 (val x).length cap, h ++ [.own b (.tab t base cap [.ints .u8 xs])], h1, appK_iff (hK e0 b base cap xs r1 r2 r3), Ext.app _ _, ⟨fun r => ?_, fun b' k' hm' => ?_⟩, h5, by simp, fun r => ?_⟩
    · rw [hl, owned_append]
      have o1 := owns_same (c.owns ((b, base, 1) :: r)) hs
      have o2 : Owns w' ((b, Blk.tab t base cap [.ints .u8 xs]) :: (owned (locs h ++ ((b, base, 1) :: r)) h ++ F)) := by
        refine ⟨fun q hq => ?_, ?_⟩
        · rcases List.mem_cons.1 hq with rfl | hq
          · exact ⟨ob, k1, k2⟩
          · exact o1.1 q hq
        · rw [List.map_cons, List.nodup_cons]
          exact ⟨hnew _, o1.2⟩
      refine o2.perm ?_
      have : owned (locs h ++ ((b, base, 1) :: r)) [Ent.own b (.tab t base cap [.ints .u8 xs])] = [(b, Blk.tab t base cap [.ints .u8 xs])] := rfl
      rw [this, List.append_assoc]
      exact (List.perm_middle (a := (b, Blk.tab t base cap [.ints .u8 xs]))).symm
    · rcases List.mem_append.1 hm' with hm' | hm'
      · obtain ⟨o, q1, q2⟩ := hro _ _ hm'
        exact ⟨o, q1, fun r => by rw [hl]; exact q2 _⟩
      · simp at hm'
    · simp only [den, loc_new, SBlk.base, SBlk.wd]
      simp

/-- What is new: a table of one column. -/
noncomputable def newT (t : TypeId) {X α : Type} (mkc : List α → Col) (pre : X → List Value → Blks → Prop) (nl : X → Prop) (val : X → List α) : Trans := fun args h K =>
  bif noTop args then ∃ x : X, pre x (denL (locs h) args) (owned (locs h) h ++ roL (locs h) h) ∧ (nl x → K (.val (.slice none 0 0)) h) ∧
    (¬ nl x → ∀ b base cap xs, xs.length = cap → (val x).length ≤ cap → xs.take (val x).length = val x → appK h (.own b (.tab t base cap [mkc xs])) fun h' => K (.slc (lenE h) 0 (val x).length cap) h') else False
def NewR {α : Type} (t : TypeId) (mkc : List α → Col) (nl : Prop) (bs : List α) (L : Blks) (v : Value) (L' : Blks) : Prop := (nl ∧ v = .slice none 0 0 ∧ ∃ G, L'.Perm (L ++ G)) ∨
  (¬ nl ∧ ∃ b base cap xs G, v = .slice (some ⟨b, base, none⟩) bs.length cap ∧ xs.length = cap ∧ bs.length ≤ cap ∧ xs.take bs.length = bs ∧ L'.Perm ((b, .tab t base cap [mkc xs]) :: (L ++ G)))
theorem newT_sound {P : Program} {f : FuncId} {t : TypeId} (he : Enters P f) {X α : Type} {mkc : List α → Col} {val : X → List α} {nl : X → Prop} {pre : X → List Value → Blks → Prop}
    (hm : ∀ x vs L L', SeenIn L L' → pre x vs L → pre x vs L') (ht : ∀ x vs L, pre x vs L → Triple P f vs L (NewR t mkc (nl x) (val x) L)) : SoundT P f (newT t mkc pre nl val) := by
  intro F h w args vs K c ha hx
  refine ⟨he, ?_⟩
  unfold newT at hx
  obtain ⟨hnt, x, hp, hK0, hK⟩ := bif_false hx
  have hvs : denL (locs h) args = vs := by have := ha []; rwa [List.append_nil] at this
  rw [hvs] at hp
  have hp' := hm x vs _ _ (ctx_seen c) hp
  refine Calls.mono (ht x vs _ hp' [] w (by rw [List.append_nil]; exact owns_old w)) fun e w' ⟨v, L', h1, hr, h4, h5⟩ => ?_
  rw [List.append_nil] at h4
  have hs : (∀ q ∈ oldF w, q ∈ L') → ∀ b, b < w.heap.size → w'.heap[b]? = w.heap[b]? := fun hsub b hb => by
    have hw : w.heap[b]? = some w.heap[b] := Array.getElem?_eq_getElem hb
    obtain ⟨o, k1, k2⟩ := h4.get (hsub _ (mem_old hw))
    have k2 : o = w.heap[b] := k2
    rw [k1, k2, hw]
  rcases hr with ⟨e0, rfl, G, h3⟩ | ⟨e0, b, base, cap, xs, G, rfl, r1, r2, r3, h3⟩
  · have hs := hs fun q hq => h3.mem_iff.2 (List.mem_append_left G hq)
    exact ⟨_, _, h, h1, hK0 e0, Ext.refl h, ⟨fun r => owns_same (c.owns r) hs, c.ro⟩, h5, by simp, fun r => rfl⟩
  · have hs := hs fun q hq => h3.mem_iff.2 (List.mem_cons_of_mem _ (List.mem_append_left G hq))
    have hro := c.ro
    have ho := h4.perm h3
    obtain ⟨ob, k1, k2⟩ := ho.get (List.mem_cons_self)
    have hnew : ∀ r, b ∉ ((owned (locs h ++ r) h ++ F).map Prod.fst) := fun r hb => by
      have hlt := (c.owns r).lt hb
      have hw : w.heap[b]? = some w.heap[b] := Array.getElem?_eq_getElem hlt
      have hnd := ho.2
      rw [List.map_cons, List.nodup_cons] at hnd
      exact hnd.1 (List.mem_map.2 ⟨_, List.mem_append_left G (mem_old hw), rfl⟩)
    have hl : ∀ r, locs (h ++ [Ent.own b (.tab t base cap [mkc xs])]) ++ r = locs h ++ ((b, base, 1) :: r) := fun r => by simp [locs_eq, Ent.loc, SBlk.base, SBlk.wd]
    refine ⟨_, .slc (lenE h) 0 (val x).length cap, h ++ [.own b (.tab t base cap [mkc xs])], h1, appK_iff (hK e0 b base cap xs r1 r2 r3), Ext.app _ _, ⟨fun r => ?_, fun b' k' hm' => ?_⟩, h5, by simp, fun r => ?_⟩
    · rw [hl, owned_append]
      have o1 := owns_same (c.owns ((b, base, 1) :: r)) hs
      have o2 : Owns w' ((b, Blk.tab t base cap [mkc xs]) :: (owned (locs h ++ ((b, base, 1) :: r)) h ++ F)) := by
        refine ⟨fun q hq => ?_, ?_⟩
        · rcases List.mem_cons.1 hq with rfl | hq
          · exact ⟨ob, k1, k2⟩
          · exact o1.1 q hq
        · rw [List.map_cons, List.nodup_cons]
          exact ⟨hnew _, o1.2⟩
      refine o2.perm ?_
      have : owned (locs h ++ ((b, base, 1) :: r)) [Ent.own b (.tab t base cap [mkc xs])] = [(b, Blk.tab t base cap [mkc xs])] := rfl
      rw [this, List.append_assoc]
      exact (List.perm_middle (a := (b, Blk.tab t base cap [mkc xs]))).symm
    · rcases List.mem_append.1 hm' with hm' | hm'
      · obtain ⟨o, q1, q2⟩ := hro _ _ hm'
        exact ⟨o, q1, fun r => by rw [hl]; exact q2 _⟩
      · simp at hm'
    · simp only [den, loc_new, SBlk.base, SBlk.wd]
      simp
/-- The same where something is there. -/
noncomputable def new1T (t : TypeId) {X α : Type} (mkc : List α → Col) (pre : X → List Value → Blks → Prop) (val : X → List α) : Trans := fun args h K =>
  bif noTop args then ∃ x : X, pre x (denL (locs h) args) (owned (locs h) h ++ roL (locs h) h) ∧
    ∀ b base cap xs, xs.length = cap → (val x).length ≤ cap → xs.take (val x).length = val x → appK h (.own b (.tab t base cap [mkc xs])) fun h' => K (.slc (lenE h) 0 (val x).length cap) h' else False
theorem new1T_sound {P : Program} {f : FuncId} {t : TypeId} {X α : Type} {mkc : List α → Col} {pre pre1 : X → List Value → Blks → Prop} {nl : X → Prop} {val : X → List α} (hs : SoundT P f (newT t mkc pre nl val))
    (h1 : ∀ x vs L, pre1 x vs L → pre x vs L ∧ ¬ nl x) : SoundT P f (new1T t mkc pre1 val) := fun F h w args vs K c ha hx => by
  refine hs F h w args vs K c ha ?_
  unfold new1T at hx
  obtain ⟨hnt, x, hp, hK⟩ := bif_false hx
  unfold newT
  rw [hnt]
  exact ⟨x, (h1 _ _ _ hp).1, fun h => absurd h (h1 _ _ _ hp).2, fun _ => hK⟩
end Go.Sx
