/- Triples over blocks; from runs to triples, and from triples to contracts. -/
import Derived.Test.YthkcfocoekonjaaSxU
set_option linter.unusedVariables false
set_option linter.unusedSimpArgs false
namespace Go.Sx
open Classical

/-- With these blocks (and whatever else) a call answers a value and leaves blocks as `R` says; all else is as it was. -/
def Triple (P : Program) (f : FuncId) (vs : List Value) (L : Blks) (R : Value → Blks → Prop) : Prop :=
  ∀ (F : Blks) (w : World), Owns w (L ++ F) → Calls P f vs.toArray w fun e w' => ∃ v L', e = .returned v ∧ R v L' ∧ Owns w' (L' ++ F) ∧ Rest w w'

theorem Triple.mono {P : Program} {f : FuncId} {vs : List Value} {L L1 : Blks} {R R' : Value → Blks → Prop} (h : Triple P f vs L R) (hp : L1.Perm L) (hr : ∀ v L', R v L' → R' v L') : Triple P f vs L1 R' :=
  fun F w ho => Calls.mono (h F w (ho.perm (hp.append_right F))) fun e w' ⟨v, L', h1, h2, h3, h4⟩ => ⟨v, L', h1, hr v L' h2, h3, h4⟩

theorem Triple.frame {P : Program} {f : FuncId} {vs : List Value} {L G : Blks} {R : Value → Blks → Prop} (h : Triple P f vs L R) : Triple P f vs (L ++ G) fun v L' => ∃ L1, R v L1 ∧ L' = L1 ++ G :=
  fun F w ho => Calls.mono (h (G ++ F) w (by rwa [List.append_assoc] at ho)) fun e w' ⟨v, L', h1, h2, h3, h4⟩ => ⟨v, _, h1, ⟨L', h2, rfl⟩, by rwa [List.append_assoc], h4⟩

/-- A run over blocks that are written out is a triple. -/
theorem triple_of_run {P : Program} {f : FuncId} {T : Trans} (hs : SoundT P f T) {h : List Ent} {args : List SV} {vs : List Value} {L : Blks} {R : Value → Blks → Prop}
    (ha : StdL h args vs) (hl : ∀ r, owned (locs h ++ r) h = L) (hro : ∀ b k, Ent.ro b k ∉ h)
    (hx : T args h fun s h' => R (den (locs h') s) (owned (locs h') h')) : Triple P f vs L R := by
  intro F w ho
  have c : Ctx F h w := ⟨fun r => by rw [hl r]; exact ho, fun b k hm => absurd hm (hro b k)⟩
  refine Calls.mono (hs F h w args vs _ c ha hx).2 fun e w' ⟨v, s, h', h1, h2, h3, h4, h5, h6, h7⟩ => ?_
  have hv : den (locs h') s = v := by have := h7 []; rwa [List.append_nil] at this
  have h2' : R v (owned (locs h') h') := by rw [← hv]; exact h2
  refine ⟨v, _, h1, h2', ?_, h5⟩
  have := h4.owns []
  rwa [List.append_nil] at this

/-- From a triple over some of the blocks at one position to a call within a heap. -/
theorem frame_gen {P : Program} {F : Blks} {h : List Ent} {w : World} {K : SV → List Ent → Prop} {f : FuncId} {vs : List Value} {L G : Blks} {R : Value → Blks → Prop} {n : Nat} {e : Ent}
    (c : Ctx F h w) (he : entAt h n = some e) (hp : (e.blocks (locs h)).Perm (L ++ G)) (ht : Triple P f vs L R)
    (hk : ∀ v L', R v L' → ∃ s e' es, K s (h.set n e' ++ es) ∧ e'.loc = e.loc ∧ (∀ r, (owned (locs h ++ (locs es ++ r)) (e' :: es)).Perm (L' ++ G)) ∧ (∀ b k, Ent.ro b k ∉ e' :: es) ∧ s ≠ .top ∧ Std (h.set n e' ++ es) s v) :
    CallAns P F h w K f vs.toArray := by
  have h0 := c.owns []
  rw [List.append_nil] at h0
  have hsplit : (owned (locs h) h).Perm (L ++ (G ++ owned (locs h) (h.set n (.gone e.loc)))) := by
    have := owned_out (ρ := locs h) e he
    rw [set_self he] at this
    refine this.trans ?_
    rw [← List.append_assoc]
    exact hp.append_right _
  have h1 : Owns w (L ++ ((G ++ owned (locs h) (h.set n (.gone e.loc))) ++ F)) := h0.perm (by rw [← List.append_assoc]; exact hsplit.append_right F)
  refine Calls.mono (ht _ w h1) fun en w' ⟨v, L', e1, e2, e3, e4⟩ => ?_
  obtain ⟨s, e', es, k1, k2, k3, k4, k5, k6⟩ := hk v L' e2
  have hlocs : locs (h.set n e' ++ es) = locs h ++ locs es := by
    have := locs_set he k2
    rw [locs_eq] at this ⊢
    rw [List.map_append, this, locs_eq es]
  refine ⟨v, s, _, e1, k1, ⟨locs es, hlocs⟩, ⟨fun r => ?_, fun b k hm => ?_⟩, e4, k5, k6⟩
  · rw [hlocs, owned_append, List.append_assoc (locs h)]
    refine e3.perm ?_
    have hg : owned (locs h ++ (locs es ++ r)) (h.set n (.gone e.loc)) = owned (locs h) (h.set n (.gone e.loc)) := owned_indep c _ _ fun x hx => by
      rcases List.mem_or_eq_of_mem_set hx with hx | hx
      · exact .inl hx
      · exact .inr ⟨_, hx⟩
    have p1 := owned_out (ρ := locs h ++ (locs es ++ r)) e' he
    rw [hg] at p1
    have p2 := k3 r
    rw [owned] at p2
    have p3 : (owned (locs h ++ (locs es ++ r)) (h.set n e') ++ owned (locs h ++ (locs es ++ r)) es).Perm ((e'.blocks (locs h ++ (locs es ++ r)) ++ owned (locs h ++ (locs es ++ r)) es) ++ owned (locs h) (h.set n (.gone e.loc))) := by
      refine (p1.append_right _).trans ?_
      rw [List.append_assoc, List.append_assoc]
      exact List.perm_append_comm.append_left _
    have p4 := (p3.trans (p2.append_right _)).append_right F
    refine List.Perm.trans ?_ p4.symm
    simp only [List.append_assoc]
    exact List.Perm.refl _
  · have hold : Ent.ro b k ∈ h := by
      rcases List.mem_append.1 hm with hm | hm
      · rcases List.mem_or_eq_of_mem_set hm with hm | hm
        · exact hm
        · exact absurd (by rw [hm]; simp) (k4 b k)
      · exact absurd (by simp [hm]) (k4 b k)
    obtain ⟨o, h2, h3⟩ := c.ro b k hold
    exact ⟨o, h2, fun r => by rw [hlocs, List.append_assoc]; exact h3 _⟩

/-- A contract over a chunk: the first one that the heap has. -/
def chunkAt : List Ent → Nat → Option (Nat × Blks)
  | [], _ => none
  | .chunk L :: _, n => some (n, L)
  | _ :: r, n => chunkAt r (n + 1)

theorem chunkAt_spec : ∀ {h : List Ent} {i n : Nat} {L : Blks}, chunkAt h i = some (n, L) → i ≤ n ∧ entAt h (n - i) = some (.chunk L)
  | [], _, _, _, hc => by cases hc
  | e :: r, i, n, L, hc => by
    have other : chunkAt r (i + 1) = some (n, L) → i ≤ n ∧ entAt (e :: r) (n - i) = some (.chunk L) := fun hc => by
      obtain ⟨h1, h2⟩ := chunkAt_spec hc
      refine ⟨by omega, ?_⟩
      rw [show n - i = (n - (i + 1)) + 1 by omega]
      exact h2
    cases e with
    | chunk L' =>
      simp only [chunkAt, Option.some.injEq, Prod.mk.injEq] at hc
      obtain ⟨rfl, rfl⟩ := hc
      exact ⟨Nat.le_refl _, by simp [entAt]⟩
    | _ => exact other hc

/-- What is asked of a call that works on blocks of the chunk: the values, the blocks, what comes of them. -/
noncomputable def chunkT (pre : List Value → Blks → (Value → Blks → Prop) → Prop) : Trans := fun args h K =>
  bif noTop args then (match chunkAt h 0 with
    | none => False
    | some (n, L0) => ∃ L G R, L0.Perm (L ++ G) ∧ pre (denL (locs h) args) L R ∧ ∀ v L', R v L' → setK h n (.chunk (L' ++ G)) fun h' => K (.val v) h') else False

theorem chunkT_sound {P : Program} {f : FuncId} (he : Enters P f) {pre : List Value → Blks → (Value → Blks → Prop) → Prop} (ht : ∀ vs L R, pre vs L R → Triple P f vs L R) : SoundT P f (chunkT pre) := by
  intro F h w args vs K c ha hx
  refine ⟨he, ?_⟩
  unfold chunkT at hx
  obtain ⟨hn, hx⟩ := bif_false hx
  split at hx
  · exact hx.elim
  · rename_i n L0 hc
    obtain ⟨L, G, R, h1, h2, h3⟩ := hx
    obtain ⟨-, h4⟩ := chunkAt_spec hc
    rw [Nat.sub_zero] at h4
    have hvs : denL (locs h) args = vs := by have := ha []; rwa [List.append_nil] at this
    rw [hvs] at h2
    refine frame_gen c h4 (by simpa [Ent.blocks] using h1) (ht _ _ _ h2) fun v L' hr => ?_
    have h5 := setK_spec (h3 v L' hr)
    refine ⟨.val v, .chunk (L' ++ G), [], by simpa using h5, rfl, fun r => by simp [owned, Ent.blocks], by simp, by simp, fun r => rfl⟩
end Go.Sx
