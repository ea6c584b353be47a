/- Span: Gaps as a contract whose answer is a block of its own. -/
import Derived.Test.YtmjhfnmkegdafaaSpX
set_option maxRecDepth 100000
set_option linter.unusedVariables false
set_option linter.unusedSimpArgs false
namespace Go.Proofs.Ytmjhfnmkegdafaa
open Go Go.Sx

noncomputable def gapsOwnT : Trans := fun args h K => bif noTop args then (match chunkAt h 0 with
    | none => False
    | some (n, L0) => ∃ (x : TX) (L G : Blks), L0.Perm (L ++ G) ∧ (denL (locs h) args = [.pointer (some ⟨x.b, 0, none⟩), .int .i64 x.t] ∧ SetRep x.b x.mark x.rows L ∧ Good x.rows) ∧
      (gapsF x.t x.rows = [] → ∀ L' : Blks, SetRep x.b x.mark x.rows L' → setK h n (.chunk (L' ++ G)) fun h' => K (.val (.slice none 0 0)) h') ∧
      ∀ (b' base' cap' : Nat) (xs' ys' : List Int) (L' : Blks), 0 < (gapsF x.t x.rows).length → (gapsF x.t x.rows).length ≤ cap' → xs'.length = cap' → ys'.length = cap' →
        xs'.take (gapsF x.t x.rows).length = (gapsF x.t x.rows).map (·.1) → ys'.take (gapsF x.t x.rows).length = (gapsF x.t x.rows).map (·.2) → SetRep x.b x.mark x.rows L' →
        setK h n (.chunk (L' ++ G)) fun h' => appK h' (.own b' (.tab 47 base' cap' [.ints .u16 xs', .ints .u16 ys'])) fun h'' => K (.slc (lenE h) 0 (gapsF x.t x.rows).length cap') h'') else False

theorem gapsOwnT_sound : SoundT Go.Proofs.Try.prog 18 gapsOwnT := by
  intro F h w args vs K c ha hx
  refine ⟨enters18, ?_⟩
  unfold gapsOwnT at hx
  obtain ⟨hnt, hx⟩ := bif_false hx
  split at hx
  · exact hx.elim
  · rename_i n L0 hc
    obtain ⟨⟨b, mark, rows, t⟩, L, G, h1, ⟨h2, h3, h4⟩, hx1, hx2⟩ := hx
    obtain ⟨-, h5⟩ := chunkAt_spec hc
    rw [Nat.sub_zero] at h5
    have hvs : denL (locs h) args = vs := by have := ha []; rwa [List.append_nil] at this
    rw [hvs] at h2
    subst h2
    simp only at h3 h4 hx1 hx2
    refine frame_gen c h5 (by simpa [Ent.blocks] using h1) (gaps_triple t h3 (by have := h4.len'; omega)) fun v L' hr => ?_
    obtain ⟨L1, L2, k1, k2, k3⟩ := hr
    rcases k2 with ⟨e, rfl⟩ | ⟨b1, base, cap, xs, ys, G2, rfl, g1, g2, g3, g4, g5, g6, g7⟩
    · have h6 := setK_spec (hx1 e (L1 ++ L2) (k1.more L2))
      refine ⟨.val (.slice none 0 0), .chunk ((L1 ++ L2) ++ G), [], by simpa using h6, rfl, fun r => ?_, by simp, by simp, fun r => rfl⟩
      simp only [owned, Ent.blocks, List.append_nil]
      exact (k3.symm.append_right G)
    · have h6 := appK_iff (setK_spec (hx2 b1 base cap xs ys (L1 ++ G2) g1 g2 g3 g4 g5 g6 (k1.more G2)))
      refine ⟨.slc (lenE h) 0 (gapsF t rows).length cap, .chunk ((L1 ++ G2) ++ G), [.own b1 (.tab 47 base cap [.ints .u16 xs, .ints .u16 ys])], h6, rfl, fun r => ?_, by simp, by simp, fun r => ?_⟩
      · simp only [owned, Ent.blocks, List.append_nil, SBlk.den, List.append_assoc]
        refine List.Perm.trans ?_ ((k3.trans (g7.append_left L1)).symm.append_right G)
        simp only [List.append_assoc, List.cons_append, List.nil_append]
        refine List.Perm.append_left L1 ?_
        rw [← List.append_assoc]
        exact List.perm_append_comm
      · have e2 := loc_new (h.set n (.chunk ((L1 ++ G2) ++ G))) b1 (.tab 47 base cap [.ints .u16 xs, .ints .u16 ys]) r
        have e3 : lenE (h.set n (.chunk ((L1 ++ G2) ++ G))) = lenE h := lenE_set _ _ _
        rw [e3] at e2
        simp only [den, e2, SBlk.base, SBlk.wd, Nat.add_zero]
        rfl
noncomputable def tbl3T : List (FuncId × Trans) := (18, gapsOwnT) :: tbl2T
theorem tbl3_sound : ∀ p ∈ tbl3T, SoundT Go.Proofs.Try.prog p.1 p.2 := by
  intro p hp
  rcases List.mem_cons.1 hp with rfl | hp
  · exact gapsOwnT_sound
  · exact tbl2_sound p hp
theorem run_tbl3 (ann : List (Nat × FnAnn)) (hs : Hints) (d : Nat) (path : List Nat) (g : FuncId) : SoundT Go.Proofs.Try.prog g (xrun Go.Proofs.Try.prog tbl3T ann hs d path g) :=
  xrun_sound mixed no_numG (findT_sound tbl3_sound) d path g
end Go.Proofs.Ytmjhfnmkegdafaa
