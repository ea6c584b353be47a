/- Contracts of calls that only read the chunk. -/
import Derived.Test.YtpjikjhaljennaaSxRw
set_option linter.unusedVariables false
set_option linter.unusedSimpArgs false
namespace Go.Sx
open Classical

/-- The heap begins with this chunk. -/
def headIs : List Ent → Blks → Prop
  | .chunk L' :: _, L => L' = L
  | _, _ => False
theorem headIs_owned {ρ : List Loc} : ∀ {h : List Ent} {L : Blks}, headIs h L → ∃ G, owned ρ h = L ++ G
  | [], _, hx => hx.elim
  | e :: r, L, hx => by
    cases e with
    | chunk L' =>
      cases hx
      exact ⟨owned ρ r, rfl⟩
    | _ => exact hx.elim
noncomputable def pureT {X : Type} (ret : X → SV) (pre : X → List Value → Blks → Prop) : Trans := fun args h K =>
  bif noTop args then (match chunkAt h 0 with
    | none => False
    | some (_, L0) => ∃ x : X, pre x (denL (locs h) args) L0 ∧ K (ret x) h) else False
theorem pureT_sound {P : Program} {f : FuncId} (he : Enters P f) {X : Type} {ret : X → SV} {val : X → Value} {pre : X → List Value → Blks → Prop}
    (hd : ∀ a ρ, den ρ (ret a) = val a) (hn : ∀ a, ret a ≠ .top) (ht : ∀ x vs L, pre x vs L → Triple P f vs L fun v L' => v = val x ∧ ∃ G, L'.Perm (L ++ G)) : SoundT P f (pureT ret pre) := by
  intro F h w args vs K c ha hx
  refine ⟨he, ?_⟩
  unfold pureT at hx
  obtain ⟨hnt, hx⟩ := bif_false hx
  split at hx
  · exact hx.elim
  · rename_i n L0 hc
    obtain ⟨x, h2, hK⟩ := hx
    obtain ⟨-, h4⟩ := chunkAt_spec hc
    rw [Nat.sub_zero] at h4
    have hvs : denL (locs h) args = vs := by have := ha []; rwa [List.append_nil] at this
    rw [hvs] at h2
    refine frame_many (G := []) c [(n, .chunk L0)] (by simp [h4]) (by simp) (L := L0) (by simp [blksOf, Ent.blocks]) (ht _ _ _ h2) fun v L' ⟨hv, G, hr⟩ => ?_
    refine ⟨ret x, [(n, .chunk L0)], [], G, ?_, rfl, ?_, fun r => ?_, by simp, hn x, fun r => by rw [hd, hv]⟩
    · rw [put_self _ _ (by simp [h4]), List.append_nil]; exact hK
    · intro q hq
      simp at hq
      subst hq
      exact ⟨_, h4, rfl⟩
    · simp only [blksOf, Ent.blocks, owned, List.append_nil]
      exact hr.symm
/-- Reading functions, from a run over a chunk. -/
theorem pure_of_run {P : Program} {f : FuncId} {T : Trans} (hs : SoundT P f T) {args : List SV} {vs : List Value} {L : Blks} {v : Value} {K : SV → List Ent → Prop}
    (ha : StdL [.chunk L] args vs) (hx : T args [.chunk L] K) (hK : ∀ s h', K s h' → den (locs h') s = v ∧ headIs h' L) : Triple P f vs L fun r L' => r = v ∧ ∃ G, L'.Perm (L ++ G) :=
  triple_of_runK hs ha (fun r => by simp [owned, Ent.blocks]) (by simp) hx fun s h' hk => by
    obtain ⟨h1, h2⟩ := hK s h' hk
    obtain ⟨G, hG⟩ := headIs_owned (ρ := locs h') h2
    exact ⟨h1, G, by rw [hG]⟩
end Go.Sx
