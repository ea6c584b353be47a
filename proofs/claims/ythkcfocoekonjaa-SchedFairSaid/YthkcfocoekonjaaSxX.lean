/- Runs that answer truth values; contracts over a chunk that say in which shape they answer. -/
import Derived.Test.YthkcfocoekonjaaSxW
set_option linter.unusedVariables false
set_option linter.unusedSimpArgs false
namespace Go.Sx
open Classical

def bOf (s : SV) (K : Prop → Prop) : Prop := match isB s with
  | some p => K p
  | none => False
theorem bOf_spec {s : SV} {K : Prop → Prop} (h : bOf s K) (ρ : List Loc) : ∃ p, K p ∧ den ρ s = .bool (decide p) := by
  unfold bOf at h
  split at h
  · rename_i p hp
    exact ⟨p, h, isB_den hp ρ⟩
  · exact h.elim

theorem triple_of_runK {P : Program} {f : FuncId} {T : Trans} (hs : SoundT P f T) {h : List Ent} {args : List SV} {vs : List Value} {L : Blks} {R : Value → Blks → Prop} {K : SV → List Ent → Prop}
    (ha : StdL h args vs) (hl : ∀ r, owned (locs h ++ r) h = L) (hro : ∀ b k, Ent.ro b k ∉ h)
    (hx : T args h K) (hK : ∀ s h', K s h' → R (den (locs h') s) (owned (locs h') h')) : Triple P f vs L R := by
  intro F w ho
  have c : Ctx F h w := ⟨fun r => by rw [hl r]; exact ho, fun b k hm => absurd hm (hro b k)⟩
  refine Calls.mono (hs F h w args vs _ c ha hx).2 fun e w' ⟨v, s, h', h1, h2, h3, h4, h5, h6, h7⟩ => ?_
  have hv : den (locs h') s = v := by have := h7 []; rwa [List.append_nil] at this
  have h2' : R v (owned (locs h') h') := by rw [← hv]; exact hK s h' h2
  refine ⟨v, _, h1, h2', ?_, h5⟩
  have := h4.owns []
  rwa [List.append_nil] at this

/-- What is asked of a call that works on blocks of the first chunk, and in which shape it answers. -/
noncomputable def chunkR {X A : Type} (ret : A → SV) (pre : X → List Value → Blks → Prop) (post : X → A → Blks → Prop) : Trans := fun args h K =>
  bif noTop args then (match chunkAt h 0 with
    | none => False
    | some (n, L0) => ∃ (x : X) (L G : Blks), L0.Perm (L ++ G) ∧ pre x (denL (locs h) args) L ∧ ∀ (a : A) (L' : Blks), post x a L' → setK h n (.chunk (L' ++ G)) fun h' => K (ret a) h') else False

theorem chunkR_sound {P : Program} {f : FuncId} (he : Enters P f) {X A : Type} {ret : A → SV} {val : A → Value} {pre : X → List Value → Blks → Prop} {post : X → A → Blks → Prop}
    (hd : ∀ a ρ, den ρ (ret a) = val a) (hn : ∀ a, ret a ≠ .top) (ht : ∀ x vs L, pre x vs L → Triple P f vs L fun v L' => ∃ a, v = val a ∧ post x a L') : SoundT P f (chunkR ret pre post) := by
  intro F h w args vs K c ha hx
  refine ⟨he, ?_⟩
  unfold chunkR at hx
  obtain ⟨hnt, hx⟩ := bif_false hx
  split at hx
  · exact hx.elim
  · rename_i n L0 hc
    obtain ⟨x, L, G, h1, h2, h3⟩ := hx
    obtain ⟨-, h4⟩ := chunkAt_spec hc
    rw [Nat.sub_zero] at h4
    have hvs : denL (locs h) args = vs := by have := ha []; rwa [List.append_nil] at this
    rw [hvs] at h2
    refine frame_gen c h4 (by simpa [Ent.blocks] using h1) (ht _ _ _ h2) fun v L' ⟨a, hv, hr⟩ => ?_
    have h5 := setK_spec (h3 a L' hr)
    refine ⟨ret a, .chunk (L' ++ G), [], by simpa using h5, rfl, fun r => by simp [owned, Ent.blocks], by simp, hn a, fun r => by rw [hd, hv]⟩
end Go.Sx
