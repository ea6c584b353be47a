/- Triples over blocks; from runs to triples, and from triples to contracts. -/
import Derived.Test.YtpjikjhaljennaaSxU
import Derived.ProofKit
import Derived.Below
import Derived.Carry
set_option linter.unusedVariables false
set_option linter.unusedSimpArgs false
namespace Go.Sx
open Classical

/-- With these blocks (and whatever else) a call answers a value and leaves blocks as `R` says; all else is as it was. -/
def Triple (P : Program) (f : FuncId) (vs : List Value) (L : Blks) (R : Value → Blks → Prop) : Prop :=
  ∀ (F : Blks) (w : World), Owns w (L ++ F) → Calls P f vs.toArray w fun e w' => ∃ v L', e = .returned v ∧ R v L' ∧ Owns w' (L' ++ F) ∧ Rest w w'

theorem Triple.mono {P : Program} {f : FuncId} {vs : List Value} {L L1 : Blks} {R R' : Value → Blks → Prop} (h : Triple P f vs L R) (hp : L1.Perm L) (hr : ∀ v L', R v L' → R' v L') : Triple P f vs L1 R' :=
  fun F w ho => Calls.mono (h F w (ho.perm (hp.append_right F))) fun e w' ⟨v, L', h1, h2, h3, h4⟩ => ⟨v, L', h1, hr v L' h2, h3, h4⟩

theorem Triple.frame {P : Program} {f : FuncId} {vs : List Value} {L G : Blks} {R : Value → Blks → Prop} (h : Triple P f vs L R) : Triple P f vs (L ++ G) fun v L' => ∃ L1, R v L1 ∧ L' = L1 ++ G :=
  fun F w ho => Calls.mono (h (G ++ F) w (by rwa [List.append_assoc] at ho)) fun e w' ⟨v, L', h1, h2, h3, h4⟩ => ⟨v, _, h1, ⟨L', h2, rfl⟩, by rwa [List.append_assoc], h4⟩

/-- What is left may be said in other words. -/
theorem Triple.weak {P : Program} {f : FuncId} {vs : List Value} {L : Blks} {R R' : Value → Blks → Prop} (h : Triple P f vs L R) (hr : ∀ v L', R v L' → ∃ L2, R' v L2 ∧ ∀ F w, Owns w (L' ++ F) → Owns w (L2 ++ F)) : Triple P f vs L R' :=
  fun F w ho => Calls.mono (h F w ho) fun e w' ⟨v, L', h1, h2, h3, h4⟩ => by
    obtain ⟨L2, k1, k2⟩ := hr v L' h2
    exact ⟨v, L2, h1, k1, k2 F w' h3, h4⟩
theorem Owns.close {w : World} {L : Blks} {b clock : Nat} {es : List MapEntry} {ks : KShape} (h : Owns w ((b, .obj (.map ⟨es⟩ clock)) :: L)) (g : GoodMap ks ⟨es⟩ clock) : Owns w ((b, .map ks (getM es) none) :: L) := by
  refine ⟨fun p hp => ?_, h.2⟩
  rcases List.mem_cons.1 hp with rfl | hp
  · obtain ⟨o, h1, h2⟩ := h.1 (b, .obj (.map ⟨es⟩ clock)) (by simp)
    simp only [Blk.holds] at h2
    subst h2
    exact ⟨_, h1, _, _, rfl, g, fun k => rfl, fun k s hs => by cases hs⟩
  · exact h.1 p (by simp [hp])

/-- A run over blocks that are written out is a triple. -/
theorem triple_of_run {P : Program} {f : FuncId} {T : Trans} (hs : SoundT P f T) {h : List Ent} {args : List SV} {vs : List Value} {L : Blks} {R : Value → Blks → Prop}
    (ha : StdL h args vs) (hl : ∀ r, owned (locs h ++ r) h = L) (hro : ∀ b k, Ent.ro b k ∉ h)
    (hx : T args h fun s h' => R (den (locs h') s) (owned (locs h') h')) : Triple P f vs L R := by
  intro F w ho
  have c : Ctx F h w := ⟨fun r => by rw [hl r]; exact ho, fun b k hm => absurd hm (hro b k)⟩
  refine Calls.mono (hs F h w args vs _ c ha hx).2 fun e w' ⟨v, s, h', h1, h2, h3, h4, h5, h6, h7⟩ => ?_
  have hv : den (locs h') s = v := by have := h7 []; rwa [List.append_nil] at this
  have h2' : R v (owned (locs h') h') := by rw [← hv]; exact h2
  refine ⟨v, _, h1, h2', ?_, h5⟩
  have := h4.owns []
  rwa [List.append_nil] at this

/-- From a triple over some of the blocks at one position to a call within a heap. -/
theorem frame_gen {P : Program} {F : Blks} {h : List Ent} {w : World} {K : SV → List Ent → Prop} {f : FuncId} {vs : List Value} {L G : Blks} {R : Value → Blks → Prop} {n : Nat} {e : Ent}
    (c : Ctx F h w) (he : entAt h n = some e) (hp : (e.blocks (locs h)).Perm (L ++ G)) (ht : Triple P f vs L R)
    (hk : ∀ v L', R v L' → ∃ s e' es, K s (h.set n e' ++ es) ∧ e'.loc = e.loc ∧ (∀ r, (owned (locs h ++ (locs es ++ r)) (e' :: es)).Perm (L' ++ G)) ∧ (∀ b k, Ent.ro b k ∉ e' :: es) ∧ s ≠ .top ∧ Std (h.set n e' ++ es) s v) :
    CallAns P F h w K f vs.toArray := by
  have h0 := c.owns []
  rw [List.append_nil] at h0
  have hsplit : (owned (locs h) h).Perm (L ++ (G ++ owned (locs h) (h.set n (.gone e.loc)))) := by
    have := owned_out (ρ := locs h) e he
    rw [set_self he] at this
    refine this.trans ?_
    rw [← List.append_assoc]
    exact hp.append_right _
  have h1 : Owns w (L ++ ((G ++ owned (locs h) (h.set n (.gone e.loc))) ++ F)) := h0.perm (by rw [← List.append_assoc]; exact hsplit.append_right F)
  refine Calls.mono (ht _ w h1) fun en w' ⟨v, L', e1, e2, e3, e4⟩ => ?_
  obtain ⟨s, e', es, k1, k2, k3, k4, k5, k6⟩ := hk v L' e2
  have hlocs : locs (h.set n e' ++ es) = locs h ++ locs es := by
    have := locs_set he k2
    rw [locs_eq] at this ⊢
    rw [List.map_append, this, locs_eq es]
  refine ⟨v, s, _, e1, k1, ⟨locs es, hlocs⟩, ⟨fun r => ?_, fun b k hm => ?_⟩, e4, k5, k6⟩
  · rw [hlocs, owned_append, List.append_assoc (locs h)]
    refine e3.perm ?_
    have hg : owned (locs h ++ (locs es ++ r)) (h.set n (.gone e.loc)) = owned (locs h) (h.set n (.gone e.loc)) := owned_indep c _ _ fun x hx => by
      rcases List.mem_or_eq_of_mem_set hx with hx | hx
      · exact .inl hx
      · exact .inr ⟨_, hx⟩
    have p1 := owned_out (ρ := locs h ++ (locs es ++ r)) e' he
    rw [hg] at p1
    have p2 := k3 r
    rw [owned] at p2
    have p3 : (owned (locs h ++ (locs es ++ r)) (h.set n e') ++ owned (locs h ++ (locs es ++ r)) es).Perm ((e'.blocks (locs h ++ (locs es ++ r)) ++ owned (locs h ++ (locs es ++ r)) es) ++ owned (locs h) (h.set n (.gone e.loc))) := by
      refine (p1.append_right _).trans ?_
      rw [List.append_assoc, List.append_assoc]
      exact List.perm_append_comm.append_left _
    have p4 := (p3.trans (p2.append_right _)).append_right F
    refine List.Perm.trans ?_ p4.symm
    simp only [List.append_assoc]
    exact List.Perm.refl _
  · have hold : Ent.ro b k ∈ h := by
      rcases List.mem_append.1 hm with hm | hm
      · rcases List.mem_or_eq_of_mem_set hm with hm | hm
        · exact hm
        · exact absurd (by rw [hm]; simp) (k4 b k)
      · exact absurd (by simp [hm]) (k4 b k)
    obtain ⟨o, h2, h3⟩ := c.ro b k hold
    exact ⟨o, h2, fun r => by rw [hlocs, List.append_assoc]; exact h3 _⟩

/-- What is asked of a call that works on blocks of the chunk: the values, the blocks, what comes of them. -/
noncomputable def chunkT (pre : List Value → Blks → (Value → Blks → Prop) → Prop) : Trans := fun args h K =>
  bif noTop args then (match chunkAt h 0 with
    | none => False
    | some (n, L0) => ∃ L G R, L0.Perm (L ++ G) ∧ pre (denL (locs h) args) L R ∧ ∀ v L', R v L' → setK h n (.chunk (L' ++ G)) fun h' => K (.val v) h') else False

theorem chunkT_sound {P : Program} {f : FuncId} (he : Enters P f) {pre : List Value → Blks → (Value → Blks → Prop) → Prop} (ht : ∀ vs L R, pre vs L R → Triple P f vs L R) : SoundT P f (chunkT pre) := by
  intro F h w args vs K c ha hx
  refine ⟨he, ?_⟩
  unfold chunkT at hx
  obtain ⟨hn, hx⟩ := bif_false hx
  split at hx
  · exact hx.elim
  · rename_i n L0 hc
    obtain ⟨L, G, R, h1, h2, h3⟩ := hx
    obtain ⟨-, h4⟩ := chunkAt_spec hc
    rw [Nat.sub_zero] at h4
    have hvs : denL (locs h) args = vs := by have := ha []; rwa [List.append_nil] at this
    rw [hvs] at h2
    refine frame_gen c h4 (by simpa [Ent.blocks] using h1) (ht _ _ _ h2) fun v L' hr => ?_
    have h5 := setK_spec (h3 v L' hr)
    refine ⟨.val v, .chunk (L' ++ G), [], by simpa using h5, rfl, fun r => by simp [owned, Ent.blocks], by simp, by simp, fun r => rfl⟩
end Go.Sx

/- From triples to contracts where several positions take part. -/
set_option linter.unusedVariables false
set_option linter.unusedSimpArgs false
namespace Go.Sx
open Classical

/-- From a triple over the blocks at some positions to a call within a heap. -/
theorem frame_many {P : Program} {F : Blks} {h : List Ent} {w : World} {K : SV → List Ent → Prop} {f : FuncId} {vs : List Value} {L G : Blks} {R : Value → Blks → Prop}
    (c : Ctx F h w) (J : List (Nat × Ent)) (hJ : ∀ p ∈ J, entAt h p.1 = some p.2) (hn : (J.map Prod.fst).Nodup) (hp : (blksOf (locs h) J).Perm (L ++ G)) (ht : Triple P f vs L R)
    (hk : ∀ v L', R v L' → ∃ s J' es G', K s (putAt h J' ++ es) ∧ J'.map Prod.fst = J.map Prod.fst ∧ (∀ p ∈ J', ∃ e, entAt h p.1 = some e ∧ e.loc = p.2.loc) ∧
      (∀ r, (blksOf (locs h ++ (locs es ++ r)) J' ++ owned (locs h ++ (locs es ++ r)) es ++ G').Perm (L' ++ G)) ∧ (∀ b k, (∀ p ∈ J', p.2 ≠ Ent.ro b k) ∧ Ent.ro b k ∉ es) ∧ s ≠ .top ∧ Std (putAt h J' ++ es) s v) :
    CallAns P F h w K f vs.toArray := by
  have h0 := c.owns []
  rw [List.append_nil] at h0
  let O := owned (locs h) (goneAt h (J.map Prod.fst))
  have hsplit : (owned (locs h) h).Perm (L ++ (G ++ O)) := by
    have := owned_put (locs h) J h hn fun p hm => ⟨p.2, hJ p hm, rfl⟩
    rw [put_self J h hJ] at this
    refine this.trans ?_
    rw [← List.append_assoc]
    exact hp.append_right _
  have h1 : Owns w (L ++ ((G ++ O) ++ F)) := h0.perm (by rw [← List.append_assoc]; exact hsplit.append_right F)
  refine Calls.mono (ht _ w h1) fun en w' ⟨v, L', e1, e2, e3, e4⟩ => ?_
  obtain ⟨s, J', es, G', k1, k2, k3, k4, k5, k6, k7⟩ := hk v L' e2
  have hn' : (J'.map Prod.fst).Nodup := by rw [k2]; exact hn
  have hlocs : locs (putAt h J' ++ es) = locs h ++ locs es := by
    have := locs_put J' h k3 hn'
    rw [locs_eq] at this ⊢
    rw [List.map_append, this, locs_eq es]
  refine ⟨v, s, _, e1, k1, ⟨locs es, hlocs⟩, ⟨fun r => ?_, fun b k hm => ?_⟩, e4, k6, k7⟩
  · rw [hlocs, owned_append, List.append_assoc (locs h)]
    have hg : owned (locs h ++ (locs es ++ r)) (goneAt h (J'.map Prod.fst)) = O := by
      rw [k2]
      exact owned_indep c _ _ fun x hx => mem_gone _ _ _ hx
    have p1 := owned_put (locs h ++ (locs es ++ r)) J' h hn' k3
    rw [hg] at p1
    have p4 := k4 r
    -- L' ++ ((G ++ O) ++ F)  ~  (put ++ es ++ F) ++ G'
    have p5 : (L' ++ ((G ++ O) ++ F)).Perm ((owned (locs h ++ (locs es ++ r)) (putAt h J') ++ owned (locs h ++ (locs es ++ r)) es ++ F) ++ G') := by
      have q1 : (L' ++ ((G ++ O) ++ F)).Perm ((L' ++ G) ++ (O ++ F)) := by simp only [List.append_assoc]; exact List.Perm.refl _
      refine q1.trans ((p4.symm.append_right _).trans ?_)
      have q2 := ((p1.append_right (owned (locs h ++ (locs es ++ r)) es)).append_right F).append_right G'
      refine List.Perm.trans ?_ q2.symm
      simp only [List.append_assoc]
      refine List.Perm.append_left _ ?_
      -- es ++ (G' ++ (O ++ F)) ~ O ++ (es ++ (F ++ G'))
      have q3 : (owned (locs h ++ (locs es ++ r)) es ++ (G' ++ (O ++ F))).Perm ((O ++ F) ++ (owned (locs h ++ (locs es ++ r)) es ++ G')) := by
        rw [← List.append_assoc]
        exact List.perm_append_comm
      refine q3.trans ?_
      rw [List.append_assoc]
      refine List.Perm.append_left _ ?_
      have q4 : (F ++ (owned (locs h ++ (locs es ++ r)) es ++ G')).Perm (owned (locs h ++ (locs es ++ r)) es ++ (F ++ G')) := by
        have := (List.perm_append_comm (l₁ := F) (l₂ := owned (locs h ++ (locs es ++ r)) es)).append_right G'
        simp only [List.append_assoc] at this ⊢
        exact this
      exact q4
    exact (e3.perm p5).sub (List.sublist_append_left _ _)
  · have hold : Ent.ro b k ∈ h := by
      rcases List.mem_append.1 hm with hm | hm
      · rcases mem_put _ _ _ hm with hm | ⟨p, hm, h2⟩
        · exact hm
        · exact absurd h2.symm ((k5 b k).1 p hm)
      · exact absurd hm (k5 b k).2
    obtain ⟨o, h2, h3⟩ := c.ro b k hold
    exact ⟨o, h2, fun r => by rw [hlocs, List.append_assoc]; exact h3 _⟩
end Go.Sx

/- Runs that answer truth values; contracts over a chunk that say in which shape they answer. -/
set_option linter.unusedVariables false
set_option linter.unusedSimpArgs false
namespace Go.Sx
open Classical

def bOf (s : SV) (K : Prop → Prop) : Prop := match isB s with
  | some p => K p
  | none => False
theorem bOf_spec {s : SV} {K : Prop → Prop} (h : bOf s K) (ρ : List Loc) : ∃ p, K p ∧ den ρ s = .bool (decide p) := by
  unfold bOf at h
  split at h
  · rename_i p hp
    exact ⟨p, h, isB_den hp ρ⟩
  · exact h.elim

theorem triple_of_runK {P : Program} {f : FuncId} {T : Trans} (hs : SoundT P f T) {h : List Ent} {args : List SV} {vs : List Value} {L : Blks} {R : Value → Blks → Prop} {K : SV → List Ent → Prop}
    (ha : StdL h args vs) (hl : ∀ r, owned (locs h ++ r) h = L) (hro : ∀ b k, Ent.ro b k ∉ h)
    (hx : T args h K) (hK : ∀ s h', K s h' → R (den (locs h') s) (owned (locs h') h')) : Triple P f vs L R := by
  intro F w ho
  have c : Ctx F h w := ⟨fun r => by rw [hl r]; exact ho, fun b k hm => absurd hm (hro b k)⟩
  refine Calls.mono (hs F h w args vs _ c ha hx).2 fun e w' ⟨v, s, h', h1, h2, h3, h4, h5, h6, h7⟩ => ?_
  have hv : den (locs h') s = v := by have := h7 []; rwa [List.append_nil] at this
  have h2' : R v (owned (locs h') h') := by rw [← hv]; exact hK s h' h2
  refine ⟨v, _, h1, h2', ?_, h5⟩
  have := h4.owns []
  rwa [List.append_nil] at this

/-- What is asked of a call that works on blocks of the first chunk, and in which shape it answers. -/
noncomputable def chunkR {X A : Type} (ret : A → SV) (pre : X → List Value → Blks → Prop) (post : X → A → Blks → Prop) : Trans := fun args h K =>
  bif noTop args then (match chunkAt h 0 with
    | none => False
    | some (n, L0) => ∃ (x : X) (L G : Blks), L0.Perm (L ++ G) ∧ pre x (denL (locs h) args) L ∧ ∀ (a : A) (L' : Blks), post x a L' → setK h n (.chunk (L' ++ G)) fun h' => K (ret a) h') else False

theorem chunkR_sound {P : Program} {f : FuncId} (he : Enters P f) {X A : Type} {ret : A → SV} {val : A → Value} {pre : X → List Value → Blks → Prop} {post : X → A → Blks → Prop}
    (hd : ∀ a ρ, den ρ (ret a) = val a) (hn : ∀ a, ret a ≠ .top) (ht : ∀ x vs L, pre x vs L → Triple P f vs L fun v L' => ∃ a, v = val a ∧ post x a L') : SoundT P f (chunkR ret pre post) := by
  intro F h w args vs K c ha hx
  refine ⟨he, ?_⟩
  unfold chunkR at hx
  obtain ⟨hnt, hx⟩ := bif_false hx
  split at hx
  · exact hx.elim
  · rename_i n L0 hc
    obtain ⟨x, L, G, h1, h2, h3⟩ := hx
    obtain ⟨-, h4⟩ := chunkAt_spec hc
    rw [Nat.sub_zero] at h4
    have hvs : denL (locs h) args = vs := by have := ha []; rwa [List.append_nil] at this
    rw [hvs] at h2
    refine frame_gen c h4 (by simpa [Ent.blocks] using h1) (ht _ _ _ h2) fun v L' ⟨a, hv, hr⟩ => ?_
    have h5 := setK_spec (h3 a L' hr)
    refine ⟨ret a, .chunk (L' ++ G), [], by simpa using h5, rfl, fun r => by simp [owned, Ent.blocks], by simp, hn a, fun r => by rw [hd, hv]⟩
end Go.Sx

/- From a run to a law: true is answered, and what was there before is as it was. -/
set_option linter.unusedVariables false
set_option linter.unusedSimpArgs false
namespace Go.Sx
open Classical Go.RowKit

def objAt (W : World) (b : Nat) : Obj := match W.heap[b]? with
  | some o => o
  | none => .cells #[] 0 (0, 0)
/-- All blocks that are there. -/
def oldF (W : World) : Blks := (List.range W.heap.size).map fun b => (b, Blk.obj (objAt W b))
theorem objAt_some {W : World} {b : Nat} {o : Obj} (h : W.heap[b]? = some o) : objAt W b = o := by unfold objAt; rw [h]
theorem owns_old (W : World) : Owns W (oldF W) := by
  refine ⟨fun p hp => ?_, ?_⟩
  · obtain ⟨b, hb, rfl⟩ := List.mem_map.1 hp
    have hb := List.mem_range.1 hb
    have : W.heap[b]? = some W.heap[b] := Array.getElem?_eq_getElem hb
    exact ⟨_, this, (objAt_some this).symm⟩
  · unfold oldF
    rw [List.map_map]
    have : (Prod.fst ∘ fun b => (b, Blk.obj (objAt W b))) = id := rfl
    rw [this, List.map_id]
    exact List.nodup_range
theorem mem_old {W : World} {b : Nat} {o : Obj} (h : W.heap[b]? = some o) : (b, Blk.obj o) ∈ oldF W := by
  refine List.mem_map.2 ⟨b, List.mem_range.2 (Array.getElem?_eq_some_iff.1 h).1, ?_⟩
  rw [objAt_some h]
theorem below_old {W w' : World} {L : Blks} (h : Owns w' (L ++ oldF W)) (r : Rest W w') : Below W.heap.size W w' := by
  refine ⟨r.os, r.tape, r.output, r.size, fun b hb => ?_⟩
  have hw : W.heap[b]? = some W.heap[b] := Array.getElem?_eq_getElem hb
  obtain ⟨o, h1, h2⟩ := h.get (List.mem_append_right L (mem_old hw))
  have h2 : o = W.heap[b] := h2
  rw [h1, h2, hw]

theorem law_calls {P : Program} {f : FuncId} {T : Trans} (hs : SoundT P f T) {h : List Ent} {args : List SV} {vs : List Value} {W : World} (hown : ∀ r, owned (locs h ++ r) h = [])
    (hro : ∀ b k, Ent.ro b k ∈ h → ∃ o, W.heap[b]? = some o ∧ ∀ r, (k.den r).holds o) (ha : StdL h args vs) (hx : T args h fun s _ => bOf s fun p => p) :
    Calls P f vs.toArray W fun e w' => e = .returned (.bool true) ∧ Below W.heap.size W w' := by
  have c : Ctx (oldF W) h W := ⟨fun r => by rw [hown r]; exact owns_old W, fun b k hm => by
    obtain ⟨o, h1, h2⟩ := hro b k hm
    exact ⟨o, mem_old h1, fun r => h2 _⟩⟩
  refine Calls.mono (hs (oldF W) h W args vs _ c ha hx).2 fun e w' ⟨v, s, h', h1, h2, h3, h4, h5, h6, h7⟩ => ?_
  obtain ⟨p, hp, hd⟩ := bOf_spec h2 (locs h' ++ [])
  have hv := h7 []
  rw [hd] at hv
  refine ⟨by rw [h1, ← hv]; simp [hp], below_old (h4.owns []) h5⟩

theorem add_parts {a : Addr} (h : a.spot = none) (i : Nat) : (a.add i).block = a.block ∧ (a.add i).spot = none ∧ (a.add i).off = a.off + i := by
  unfold Addr.add
  split
  · rename_i h0; subst h0; exact ⟨rfl, h, rfl⟩
  · exact ⟨rfl, rfl, rfl⟩
/-- A slice of numbers that came in, as a block that is only read. -/
theorem ro_ints {W : World} {a : Addr} {k : IntKind} {zs : List Int} (hne : 0 < zs.length) (hc : ∀ i, i < zs.length → W.cell? (a.add i) = some (.int k (zs.getD i 0)))
    (hfz : ∀ i, i < zs.length → W.frozen? (a.add i) = false) :
    a.spot = none ∧ ∃ o t, W.heap[a.block]? = some o ∧ ∀ r, (SBlk.den r (.tab t a.off zs.length [.ints k zs])).holds o := by
  have h0 := hc 0 hne
  unfold World.cell? at h0
  have ez : a.add 0 = a := by unfold Addr.add; rw [if_pos rfl]
  have eb : (a.add 0).block = a.block := by rw [ez]
  have es : (a.add 0).spot = a.spot := by rw [ez]
  rw [eb] at h0
  cases hb : W.heap[a.block]? with
  | none => rw [hb] at h0; cases h0
  | some o =>
    rw [hb] at h0
    cases o with
    | cells arr t fz =>
      obtain ⟨lo, hi⟩ := fz
      simp only [es] at h0
      have hsp : a.spot = none := by
        cases hsp : a.spot with
        | none => rfl
        | some x => rw [hsp] at h0; simp at h0
      refine ⟨hsp, _, t, rfl, fun r => ⟨arr, lo, hi, rfl, ?_, ?_, ?_⟩⟩
      · intro c hcm
        simp at hcm
        subst hcm
        exact ⟨rfl, fun i hi => rfl⟩
      · intro i j c hi hj
        cases j with
        | succ j => simp at hj
        | zero =>
          simp at hj
          subst hj
          have hci := hc i hi
          unfold World.cell? at hci
          obtain ⟨e1, e2, e3⟩ := add_parts hsp i
          rw [e1, hb] at hci
          simp only [e2, e3] at hci
          simpa [Col.get] using hci
      · intro x hx1 hx2
        simp only [List.length_cons, List.length_nil, Nat.zero_add, Nat.mul_one] at hx1 hx2
        have := hfz (x - a.off) (by omega)
        unfold World.frozen? at this
        obtain ⟨e1, -, e3⟩ := add_parts hsp (x - a.off)
        rw [e1, hb] at this
        simp only [e3] at this
        rw [show a.off + (x - a.off) = x by omega] at this
        rintro ⟨g1, g2⟩
        simp [g1, g2] at this
    | _ => cases h0
theorem one_int (k : IntKind) (a : Int) : (Value.int k a).oneCell' = true := rfl
theorem one_bool (b : Bool) : (Value.bool b).oneCell' = true := rfl
theorem one_slice (o : Option Addr) (l c : Nat) : (Value.slice o l c).oneCell' = true := rfl
theorem one_ptr (o : Option Addr) : (Value.pointer o).oneCell' = true := rfl
theorem one_map (o : Option Nat) : (Value.map o).oneCell' = true := rfl
end Go.Sx

/- Contracts whose arguments' own blocks go into the chunk. -/
set_option linter.unusedVariables false
set_option linter.unusedSimpArgs false
namespace Go.Sx
open Classical

def posS : SV → List Nat
  | .ptr n _ _ => [n]
  | .slc n _ _ _ => [n]
  | .mp n => [n]
  | _ => []
def posA : List SV → List Nat
  | [] => []
  | s :: r => posS s ++ posA r
/-- The positions that these arguments name (records are looked into). -/
def posL : List SV → List Nat
  | [] => []
  | .agg l :: r => posA l ++ posL r
  | s :: r => posS s ++ posL r
noncomputable def absorb1 (h : List Ent) (n : Nat) : List Ent :=
  match entAt h n with
  | some (.own b k) => (match chunkAt h 0 with
    | some (m, L) => (h.set n (.gone (b, k.base, k.wd))).set m (.chunk (L ++ [(b, k.den (locs h))]))
    | none => h)
  | _ => h
noncomputable def absorb : List Ent → List Nat → List Ent
  | h, [] => h
  | h, n :: r => absorb (absorb1 h n) r
noncomputable def absT (T : Trans) : Trans := fun args h K => T args (absorb h (posL args)) K

theorem absorb1_ok {F : Blks} {h : List Ent} {w : World} (c : Ctx F h w) (n : Nat) : Ctx F (absorb1 h n) w ∧ locs (absorb1 h n) = locs h := by
  unfold absorb1
  split
  · rename_i b k he
    split
    · rename_i m L hc
      obtain ⟨-, h4⟩ := chunkAt_spec hc
      rw [Nat.sub_zero] at h4
      have hne : n ≠ m := by rintro rfl; rw [he] at h4; cases h4
      have := c.view (J := [(n, .gone (b, k.base, k.wd)), (m, .chunk (L ++ [(b, k.den (locs h))]))]) (es := []) (G := []) (A := True)
        (by simp [chgOk, he, h4, isRo, Ent.loc]) (by simp [hne]) (by simp) (fun r => by
          simp only [oldAt, he, h4, blksOf, Ent.blocks, owned, List.append_nil, List.nil_append, List.cons_append]
          exact (List.perm_append_comm (l₁ := [(b, k.den (locs h))]) (l₂ := L)))
      simpa [putAt, locs] using this
    · exact ⟨c, rfl⟩
  · exact ⟨c, rfl⟩
theorem absorb_ok {F : Blks} {w : World} : ∀ (ns : List Nat) {h : List Ent}, Ctx F h w → Ctx F (absorb h ns) w ∧ locs (absorb h ns) = locs h
  | [], h, c => ⟨c, rfl⟩
  | n :: r, h, c => by
    obtain ⟨c1, l1⟩ := absorb1_ok c n
    obtain ⟨c2, l2⟩ := absorb_ok r c1
    exact ⟨c2, l2.trans l1⟩
theorem absT_sound {P : Program} {f : FuncId} {T : Trans} (hs : SoundT P f T) : SoundT P f (absT T) := by
  intro F h w args vs K c ha hx
  obtain ⟨c', hl⟩ := absorb_ok (posL args) c
  have ha' : StdL (absorb h (posL args)) args vs := fun r => by rw [hl]; exact ha r
  obtain ⟨h1, h2⟩ := hs F _ w args vs K c' ha' hx
  refine ⟨h1, Calls.mono h2 fun e w' ⟨v, s, h', k1, k2, k3, k4, k5, k6, k7⟩ => ⟨v, s, h', k1, k2, ?_, k4, k5, k6, k7⟩⟩
  obtain ⟨r, hr⟩ := k3
  exact ⟨r, by rw [hr, hl]⟩
end Go.Sx

/- Many things, each in blocks of its own. -/
set_option linter.unusedVariables false
set_option linter.unusedSimpArgs false
namespace Go.Sx
open Classical

/-- Each of these things lies in blocks of its own; what is left over is of no use. -/
def SepL {α : Type} (R : α → Blks → Prop) : List α → Blks → Prop
  | [], _ => True
  | a :: r, L => ∃ L1 L2, L.Perm (L1 ++ L2) ∧ R a L1 ∧ SepL R r L2
section
variable {α : Type} {R R' : α → Blks → Prop}
theorem SepL.permL : ∀ {l : List α} {L L' : Blks}, SepL R l L → L.Perm L' → SepL R l L'
  | [], _, _, _, _ => trivial
  | a :: r, L, L', ⟨L1, L2, h1, h2, h3⟩, p => ⟨L1, L2, p.symm.trans h1, h2, h3⟩
theorem SepL.more : ∀ {l : List α} {L : Blks} (G : Blks), SepL R l L → SepL R l (L ++ G)
  | [], _, _, _ => trivial
  | a :: r, L, G, ⟨L1, L2, h1, h2, h3⟩ => ⟨L1, L2 ++ G, by simpa using h1.append_right G, h2, h3.more G⟩
theorem SepL.mono : ∀ {l : List α} {L : Blks}, SepL R l L → (∀ a ∈ l, ∀ L, R a L → R' a L) → SepL R' l L
  | [], _, _, _ => trivial
  | a :: r, L, ⟨L1, L2, h1, h2, h3⟩, h => ⟨L1, L2, h1, h a (by simp) L1 h2, h3.mono fun b hb => h b (by simp [hb])⟩
theorem SepL.app {l l' : List α} {L L' : Blks} (h : SepL R l L) (h' : SepL R l' L') : SepL R (l ++ l') (L ++ L') := by
  induction l generalizing L with
  | nil => exact (h'.more L).permL List.perm_append_comm
  | cons a r ih =>
    obtain ⟨L1, L2, h1, h2, h3⟩ := h
    exact ⟨L1, L2 ++ L', by simpa using h1.append_right L', h2, ih h3⟩
theorem SepL.one {a : α} {L : Blks} (h : R a L) : SepL R [a] L := ⟨L, [], by simp, h, trivial⟩
theorem SepL.split : ∀ {l l' : List α} {L : Blks}, SepL R (l ++ l') L → ∃ L1 L2, L.Perm (L1 ++ L2) ∧ SepL R l L1 ∧ SepL R l' L2
  | [], l', L, h => ⟨[], L, by simp, trivial, h⟩
  | a :: r, l', L, ⟨L1, L2, h1, h2, h3⟩ => by
    obtain ⟨M1, M2, k1, k2, k3⟩ := SepL.split (l := r) h3
    exact ⟨L1 ++ M1, M2, h1.trans (by simpa using k1.append_left L1), ⟨L1, M1, List.Perm.refl _, h2, k2⟩, k3⟩
theorem SepL.perm {l l' : List α} (p : l.Perm l') : ∀ {L : Blks}, SepL R l L → SepL R l' L := by
  induction p with
  | nil => exact fun h => h
  | cons a _ ih => exact fun ⟨L1, L2, h1, h2, h3⟩ => ⟨L1, L2, h1, h2, ih h3⟩
  | swap a b r =>
    rintro L ⟨L1, L2, h1, h2, M1, M2, k1, k2, k3⟩
    refine ⟨M1, L1 ++ M2, ?_, k2, L1, M2, List.Perm.refl _, h2, k3⟩
    refine h1.trans ((k1.append_left L1).trans ?_)
    rw [← List.append_assoc, ← List.append_assoc]
    exact List.perm_append_comm.append_right M2
  | trans _ _ ih1 ih2 => exact fun h => ih2 (ih1 h)
theorem SepL.mid {A B : List α} {a : α} {L : Blks} (h : SepL R (A ++ a :: B) L) : ∃ L1 L2, L.Perm (L1 ++ L2) ∧ R a L1 ∧ SepL R (A ++ B) L2 := h.perm List.perm_middle
theorem SepL.mid_mk {A B : List α} {a : α} {L1 L2 : Blks} (h : R a L1) (h2 : SepL R (A ++ B) L2) : SepL R (A ++ a :: B) (L1 ++ L2) :=
  SepL.perm (List.perm_middle (l₁ := A)).symm ⟨L1, L2, List.Perm.refl _, h, h2⟩
end

/-- A window of numbers, as a slice; nil if there are none, or not. -/
structure Win where
  b : Nat
  base : Nat
  o : Nat
  N : Nat
  cap : Nat
  zs : List Int
  G : Blks
def Win.ok (x : Win) (l : List Int) : Prop := l.length ≤ x.cap ∧ x.o + x.cap ≤ x.N ∧ x.zs.length = x.N ∧ (x.zs.drop x.o).take l.length = l
def Win.val (x : Win) (n : Nat) : Value := .slice (some ⟨x.b, (x.base + x.o) * 1, none⟩) n x.cap
def WinAt (t : TypeId) (k : IntKind) (l : List Int) (v : Value) (L : Blks) : Prop := ∃ x : Win, x.ok l ∧ v = x.val l.length ∧ L.Perm ((x.b, .tab t x.base x.N [.ints k x.zs]) :: x.G)
def WinNil (t : TypeId) (k : IntKind) (l : List Int) (v : Value) (L : Blks) : Prop := (l = [] ∧ v = .slice none 0 0) ∨ WinAt t k l v L
theorem WinAt.more {t : TypeId} {k : IntKind} {l : List Int} {v : Value} {L : Blks} (h : WinAt t k l v L) (G : Blks) : WinAt t k l v (L ++ G) := by
  obtain ⟨x, h1, h2, h3⟩ := h
  exact ⟨{ x with G := x.G ++ G }, h1, h2, by simpa using h3.append_right G⟩
theorem WinNil.more {t : TypeId} {k : IntKind} {l : List Int} {v : Value} {L : Blks} (h : WinNil t k l v L) (G : Blks) : WinNil t k l v (L ++ G) := by
  rcases h with h | h
  · exact .inl h
  · exact .inr (h.more G)
/-- What is left of a window behind its first n numbers. -/
theorem Win.drop {x : Win} {l : List Int} (h : x.ok l) {n : Nat} (hn : n ≤ l.length) {off : Nat} (h1 : n < x.cap → off = x.o + n) (h2 : off + (x.cap - n) ≤ x.o + x.cap) : ({ x with o := off, cap := x.cap - n } : Win).ok (l.drop n) := by
  obtain ⟨o1, o2, o3, o4⟩ := h
  refine ⟨by rw [List.length_drop]; show l.length - n ≤ x.cap - n; omega, by show off + (x.cap - n) ≤ x.N; omega, o3, ?_⟩
  show (x.zs.drop off).take (l.drop n).length = l.drop n
  rw [List.length_drop]
  rcases Nat.lt_or_ge n l.length with hlt | hge
  · rw [h1 (by omega)]
    conv => rhs; rw [← o4]
    rw [List.drop_take, List.drop_drop]
  · rw [show l.length - n = 0 by omega, List.drop_eq_nil_of_le hge]; simp
theorem Win.get {x : Win} {l : List Int} (h : x.ok l) {i : Nat} (hi : i < l.length) : x.zs.getD (x.o + i) 0 = l[i] := by
  have h1 : ((x.zs.drop x.o).take l.length)[i]? = l[i]? := by rw [h.2.2.2]
  rw [List.getElem?_take, if_pos hi, List.getElem?_drop, List.getElem?_eq_getElem hi] at h1
  simp [List.getD, h1]

/-! Permutations by weighing. -/
theorem perm_sum {L L' : Blks} (h : L.Perm L') (f : Nat × Blk → Nat) : (L.map f).sum = (L'.map f).sum := by
  induction h with
  | nil => rfl
  | cons x _ ih => simp [ih]
  | swap x y l => simp; omega
  | trans _ _ ih1 ih2 => exact ih1.trans ih2
theorem perm_of_sums {L L' : Blks} (h : ∀ f : Nat × Blk → Nat, (L.map f).sum = (L'.map f).sum) : L.Perm L' := by
  have key : ∀ (a : Nat × Blk) (l : Blks), (l.map fun b => if b = a then 1 else 0).sum = l.count a := fun a l => by
    induction l with
    | nil => rfl
    | cons b r ih =>
      simp only [List.map_cons, List.sum_cons, ih, List.count_cons]
      by_cases e : b = a
      · subst e; simp; omega
      · have : (b == a) = false := by simpa using e
        simp [e, this]
  refine List.perm_iff_count.2 fun a => ?_
  rw [← key, ← key]
  exact h _
theorem win_copy {x : Win} {l : List Int} (h : x.ok l) {b base cap : Nat} {sp : List Int} (hc : l.length ≤ cap) (hs : sp.length = cap - l.length) :
    ({ b := b, base := base, o := 0, N := cap, cap := cap, zs := (x.zs.drop x.o).take l.length ++ sp, G := [] } : Win).ok l := by
  obtain ⟨h1, h2, h3, h4⟩ := h
  rw [h4]
  refine ⟨hc, by simp, by simp [hs]; omega, ?_⟩
  show ((l ++ sp).drop 0).take l.length = _
  rw [List.drop_zero, List.take_left]
end Go.Sx

/- What a loop over a map that deletes leaves of it. -/
set_option linter.unusedVariables false
set_option linter.unusedSimpArgs false
namespace Go.Sx
open Classical

/-- Entries that the iterator has not shown. -/
noncomputable def unseen (es : List MapEntry) (seen : List Nat) : Nat := (es.filter fun e => decide (e.born ∉ seen)).length
/-- Of es0 those are left that are not bad, and some that were not shown. -/
structure RangeI (bad : Value → Prop) (es0 es : List MapEntry) (seen : List Nat) : Prop where
  sub : es.Sublist es0
  kept : ∀ e ∈ es0, e ∈ es ∨ bad e.key
  good : ∀ e ∈ es, e.born ∈ seen → ¬ bad e.key

theorem unseen_lt {es es' : List MapEntry} {seen : List Nat} {e : MapEntry} (hs : es'.Sublist es) (he : e ∈ es) (hn : e.born ∉ seen) : unseen es' (seen ++ [e.born]) < unseen es seen := by
  have h1 : unseen es' (seen ++ [e.born]) ≤ unseen es (seen ++ [e.born]) := (hs.filter _).length_le
  refine Nat.lt_of_le_of_lt h1 ?_
  unfold unseen
  clear h1 hs
  induction es with
  | nil => simp at he
  | cons x r ih =>
    have hle : (r.filter fun a => decide (a.born ∉ seen ++ [e.born])).length ≤ (r.filter fun a => decide (a.born ∉ seen)).length := by
      rw [← List.countP_eq_length_filter, ← List.countP_eq_length_filter]
      refine List.countP_mono_left fun a _ ha => ?_
      simp only [decide_eq_true_eq, List.mem_append, not_or] at ha ⊢
      exact ha.1
    by_cases hx : x.born ∈ seen
    · rw [List.filter_cons_of_neg (by simp [hx]), List.filter_cons_of_neg (by simp [hx])]
      rcases List.mem_cons.1 he with rfl | he
      · exact absurd hx hn
      · exact ih he
    · by_cases hxe : x.born = e.born
      · rw [List.filter_cons_of_neg (by simp [hxe]), List.filter_cons_of_pos (by simp [hx])]
        exact Nat.lt_succ_of_le hle
      · rw [List.filter_cons_of_pos (by simp [hx, hxe]), List.filter_cons_of_pos (by simp [hx])]
        rcases List.mem_cons.1 he with rfl | he
        · exact absurd rfl hxe
        · simpa using ih he

variable {bad : Value → Prop} {es0 es : List MapEntry} {seen : List Nat} {ks : KShape} {clock : Nat}

theorem RangeI.start (bad : Value → Prop) (es : List MapEntry) : RangeI bad es es [] := ⟨List.Sublist.refl _, fun e he => .inl he, fun e _ h => by simp at h⟩
theorem born_inj (g : GoodMap ks ⟨es0⟩ clock) {a b : MapEntry} (ha : a ∈ es0) (hb : b ∈ es0) (h : a.born = b.born) : a = b := by
  have h1 := find_born ha g.born
  have h2 := find_born hb g.born
  rw [h] at h1
  rw [h1] at h2
  exact (Option.some.inj h2)
theorem key_inj {l : List MapEntry} (g : (l.map (·.key)).Nodup) {a b : MapEntry} (ha : a ∈ l) (hb : b ∈ l) (h : a.key = b.key) : a = b := by
  induction l with
  | nil => simp at ha
  | cons x r ih =>
    simp only [List.map_cons, List.nodup_cons] at g
    rcases List.mem_cons.1 ha with e1 | h1
    · rcases List.mem_cons.1 hb with e2 | h2
      · rw [e1, e2]
      · exact absurd (by rw [← e1, h]; exact List.mem_map_of_mem h2) g.1
    · rcases List.mem_cons.1 hb with e2 | h2
      · exact absurd (by rw [← e2, ← h]; exact List.mem_map_of_mem h1) g.1
      · exact ih g.2 h1 h2
theorem RangeI.keep (i : RangeI bad es0 es seen) (g : GoodMap ks ⟨es0⟩ clock) {e : MapEntry} (he : e ∈ es) (hb : ¬ bad e.key) : RangeI bad es0 es (seen ++ [e.born]) := by
  refine ⟨i.sub, i.kept, fun e' he' hs => ?_⟩
  rw [List.mem_append, List.mem_singleton] at hs
  rcases hs with hs | hs
  · exact i.good e' he' hs
  · rw [born_inj g (i.sub.subset he') (i.sub.subset he) hs]
    exact hb
theorem RangeI.del (i : RangeI bad es0 es seen) (g : GoodMap ks ⟨es0⟩ clock) {e : MapEntry} (he : e ∈ es) (hb : bad e.key) : RangeI bad es0 (es.filter fun x => decide (x.key ≠ e.key)) (seen ++ [e.born]) := by
  refine ⟨(List.filter_sublist).trans i.sub, fun x hx => ?_, fun e' he' hs => ?_⟩
  · by_cases hk : x.key = e.key
    · exact .inr (by rw [hk]; exact hb)
    · rcases i.kept x hx with h | h
      · exact .inl (List.mem_filter.2 ⟨h, by simpa using hk⟩)
      · exact .inr h
  · obtain ⟨h1, h2⟩ := List.mem_filter.1 he'
    rw [List.mem_append, List.mem_singleton] at hs
    rcases hs with hs | hs
    · exact i.good e' h1 hs
    · rw [born_inj g (i.sub.subset h1) (i.sub.subset he) hs] at h2
      simp at h2
theorem RangeI.sound (i : RangeI bad es0 es seen) (g : GoodMap ks ⟨es0⟩ clock) : GoodMap ks ⟨es⟩ clock := g.sub i.sub
theorem RangeI.safe (i : RangeI bad es0 es seen) (g : GoodMap ks ⟨es0⟩ clock) : seen = [] ∨ es = [] ∨ ∃ e, e ∈ es ∧ e.born < clock := by
  cases es with
  | nil => exact .inr (.inl rfl)
  | cons x r => exact .inr (.inr ⟨x, by simp, (i.sound g).old x (by simp)⟩)
theorem getM_mem {l : List MapEntry} (hn : (l.map (·.key)).Nodup) {e : MapEntry} (he : e ∈ l) : getM l e.key = some e.val := by
  unfold getM
  induction l with
  | nil => simp at he
  | cons x r ih =>
    simp only [List.map_cons, List.nodup_cons] at hn
    rcases List.mem_cons.1 he with rfl | he
    · simp
    · have hne : x.key ≠ e.key := fun h => hn.1 (by rw [h]; exact List.mem_map_of_mem he)
      rw [List.find?_cons_of_neg (by simpa using hne)]
      exact ih hn.2 he
theorem getM_some {l : List MapEntry} {k v : Value} (h : getM l k = some v) : ∃ e, e ∈ l ∧ e.key = k ∧ e.val = v := by
  unfold getM at h
  cases hf : l.find? (fun e => decide (e.key = k)) with
  | none => rw [hf] at h; cases h
  | some e =>
    rw [hf] at h
    simp only [Option.map_some, Option.some.injEq] at h
    exact ⟨e, List.mem_of_find?_eq_some hf, by simpa using List.find?_some hf, h⟩
theorem getM_no {l : List MapEntry} {k : Value} (h : ∀ e ∈ l, e.key ≠ k) : getM l k = none := by
  cases hm : getM l k with
  | none => rfl
  | some v => obtain ⟨e, h1, h2, -⟩ := getM_some hm; exact absurd h2 (h e h1)
theorem RangeI.done (i : RangeI bad es0 es seen) (g : GoodMap ks ⟨es0⟩ clock) (hd : ∀ e ∈ es, e.born < clock → e.born ∈ seen) : getM es = fun k => if bad k then none else getM es0 k := by
  funext k
  have hg := i.sound g
  by_cases hb : bad k
  · rw [if_pos hb]
    refine getM_no fun e he hk => ?_
    exact i.good e he (hd e he (hg.old e he)) (by rw [hk]; exact hb)
  · rw [if_neg hb]
    cases hm : getM es0 k with
    | none =>
      refine getM_no fun e he hk => ?_
      have := getM_mem g.nodup (i.sub.subset he)
      rw [hk, hm] at this
      cases this
    | some v =>
      obtain ⟨e, h1, h2, h3⟩ := getM_some hm
      rcases i.kept e h1 with h | h
      · have := getM_mem hg.nodup h
        rw [h2, h3] at this
        exact this
      · exact absurd (by rw [← h2]; exact h) hb
end Go.Sx

/- Raw addresses: what is needed of them in proofs. -/
set_option linter.unusedVariables false
set_option linter.unusedSimpArgs false
namespace Go.Sx
open Classical

theorem rawCell_cells {L : Blks} {b x : Nat} {l : List Value} {t : TypeId} {v : Value} (hm : (b, Blk.cells l t) ∈ L) (hx : l[x]? = some v) : rawCell L b x v := ⟨_, hm, hx⟩
theorem rawCell_tab1 {L : Blks} {b base N i x : Nat} {t : TypeId} {c : Col} {v : Value} (hm : (b, Blk.tab t base N [c]) ∈ L) (hi : i < N) (hx : x = base + i) (hv : v = c.get i) : rawCell L b x v :=
  ⟨_, hm, i, 0, c, by simp [hx], hi, rfl, hv⟩
theorem rawCell_perm {L L' : Blks} {b x : Nat} {v : Value} (h : rawCell L b x v) (p : L.Perm L') : rawCell L' b x v := by
  obtain ⟨k, h1, h2⟩ := h
  exact ⟨k, p.mem_iff.1 h1, h2⟩
theorem upd_cells {l : List Value} {t : TypeId} {x : Nat} {v : Value} (h : x < l.length) : Blk.upd (.cells l t) x v (.cells (l.set x v) t) := ⟨h, rfl⟩
theorem getD_set_eq {α : Type} (l : List α) (d a : α) {i : Nat} (h : i < l.length) : (l.set i a).getD i d = a := by simp [List.getD_eq_getElem?_getD, h]
theorem getD_set_ne {α : Type} (l : List α) (d a : α) {i y : Nat} (h : y ≠ i) : (l.set i a).getD y d = l.getD y d := by
  simp only [List.getD_eq_getElem?_getD]
  rw [List.getElem?_set_ne (Ne.symm h)]
theorem upd_ints {t : TypeId} {base N x i : Nat} {k : IntKind} {xs : List Int} {n : Int} (hx : x = base + i) (hi : i < N) (hl : xs.length = N) : Blk.upd (.tab t base N [.ints k xs]) x (.int k n) (.tab t base N [.ints k (xs.set i n)]) :=
  ⟨i, 0, .ints k xs, .ints k (xs.set i n), by simp [hx], hi, rfl, by simp [Col.len], by simp only [Col.get, getD_set_eq xs 0 n (show i < xs.length by omega)], fun y hy => by simp only [Col.get, getD_set_ne xs 0 n hy], rfl⟩
theorem upd_bools {t : TypeId} {base N x i : Nat} {xs : List Bool} {n : Bool} (hx : x = base + i) (hi : i < N) (hl : xs.length = N) : Blk.upd (.tab t base N [.bools xs]) x (.bool n) (.tab t base N [.bools (xs.set i n)]) :=
  ⟨i, 0, .bools xs, .bools (xs.set i n), by simp [hx], hi, rfl, by simp [Col.len], by simp only [Col.get, getD_set_eq xs false n (show i < xs.length by omega)], fun y hy => by simp only [Col.get, getD_set_ne xs false n hy], rfl⟩
theorem upd_raws {t : TypeId} {base N x i : Nat} {xs : List Value} {v : Value} (hx : x = base + i) (hi : i < N) (hl : xs.length = N) : Blk.upd (.tab t base N [.raws xs]) x v (.tab t base N [.raws (xs.set i v)]) :=
  ⟨i, 0, .raws xs, .raws (xs.set i v), by simp [hx], hi, rfl, by simp [Col.len], by simp only [Col.get, getD_set_eq xs .nilIface v (show i < xs.length by omega)], fun y hy => by simp only [Col.get, getD_set_ne xs .nilIface v hy], rfl⟩

theorem SepL.get {α : Type} {R : α → Blks → Prop} : ∀ {l : List α} {L : Blks} {i : Nat} {a : α}, SepL R l L → l[i]? = some a → ∃ L1 L2, L.Perm (L1 ++ L2) ∧ R a L1
  | [], L, i, a, h, hi => by simp at hi
  | x :: r, L, 0, a, h, hi => by
    simp at hi
    subst hi
    obtain ⟨L1, L2, h1, h2, h3⟩ := h
    exact ⟨L1, L2, h1, h2⟩
  | x :: r, L, i + 1, a, h, hi => by
    obtain ⟨L1, L2, h1, h2, h3⟩ := h
    obtain ⟨L3, L4, k1, k2⟩ := SepL.get (l := r) (i := i) h3 (by simpa using hi)
    refine ⟨L3, L1 ++ L4, h1.trans ((k1.append_left L1).trans ?_), k2⟩
    rw [← List.append_assoc, ← List.append_assoc]
    exact List.perm_append_comm.append_right _
theorem mem_of_perm {L L1 L2 : Blks} {p : Nat × Blk} (h : L.Perm (L1 ++ L2)) (hp : p ∈ L1) : p ∈ L := h.mem_iff.2 (by simp [hp])

/-- What is owned may be seen otherwise. -/
def Sees (L L' : Blks) : Prop := ∀ F w, Owns w (L ++ F) → Owns w (L' ++ F)
theorem Sees.refl (L : Blks) : Sees L L := fun _ _ h => h
theorem Sees.trans {A B C : Blks} (h : Sees A B) (k : Sees B C) : Sees A C := fun F w o => k F w (h F w o)
theorem Sees.perm {A B : Blks} (p : A.Perm B) : Sees A B := fun F w o => o.perm (p.append_right F)
theorem Sees.frame {A B : Blks} (h : Sees A B) (G : Blks) : Sees (A ++ G) (B ++ G) := fun F w o => by
  rw [List.append_assoc] at o ⊢
  exact h _ w o
theorem Sees.left {A B : Blks} (h : Sees A B) (G : Blks) : Sees (G ++ A) (G ++ B) :=
  (Sees.perm List.perm_append_comm).trans ((h.frame G).trans (Sees.perm List.perm_append_comm))
theorem sees_one {b : Nat} {k k' : Blk} (h : ∀ o, k.holds o → k'.holds o) : Sees [(b, k)] [(b, k')] := fun F w o => by
  refine ⟨fun p hp => ?_, o.2⟩
  rcases List.mem_cons.1 hp with rfl | hp
  · obtain ⟨ob, h1, h2⟩ := o.1 (b, k) (by simp)
    exact ⟨ob, h1, h ob h2⟩
  · exact o.1 p (List.mem_cons_of_mem _ hp)
theorem sees_ints (b : Nat) (t : TypeId) (k : IntKind) (l : List Int) : Sees [(b, .cells (l.map (Value.int k)) t)] [(b, .tab t 0 l.length [.ints k l])] := sees_one fun o h => by
  simp only [Blk.holds] at h
  subst h
  refine ⟨_, 0, 0, rfl, fun c hc => ?_, fun i j c hi hc => ?_, fun x _ hx h => by omega⟩
  · simp at hc
    subst hc
    exact ⟨rfl, fun i _ => rfl⟩
  · cases j with
    | zero =>
      simp at hc
      subst hc
      simp [Col.get, List.getD, hi]
    | succ j => simp at hc
theorem Triple.see {P : Program} {f : FuncId} {vs : List Value} {L L1 : Blks} {R : Value → Blks → Prop} (h : Triple P f vs L R) (hs : Sees L1 L) : Triple P f vs L1 R := fun F w o => h F w (hs F w o)
end Go.Sx
