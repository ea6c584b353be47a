/- Span: the contract of 'move' within a run. -/
import Derived.Test.YtmjhfnmkegdafaaSpC
set_option maxRecDepth 100000
set_option linter.unusedVariables false
set_option linter.unusedSimpArgs false
namespace Go.Proofs.Ytmjhfnmkegdafaa
open Go Go.Sx

/-- What follows a move: the set's cells stand at p; its rows are nil or stand at a new position. -/
noncomputable def mvNext (h : List Ent) (p b : Nat) (mark d : Int) (rows : List (Int × Int)) (K : SV → List Ent → Prop) : Prop :=
  (mvRows d rows = [] → setK h p (.own b (.cells 2 [.val (.int .u32 (IntKind.wrap .u32 (mark + d))), .val (.slice none 0 0)] 55)) fun h1 => K (.tup []) h1) ∧
  ∀ b' base' cap' xs' ys', 0 < (mvRows d rows).length → (mvRows d rows).length ≤ cap' → xs'.length = cap' → ys'.length = cap' → xs'.take (mvRows d rows).length = (mvRows d rows).map (·.1) → ys'.take (mvRows d rows).length = (mvRows d rows).map (·.2) →
    setK h p (.own b (.cells 2 [.val (.int .u32 (IntKind.wrap .u32 (mark + d))), .slc (lenE h) 0 (mvRows d rows).length cap'] 55)) fun h1 =>
      appK h1 (.own b' (.tab 60 base' cap' [.ints .u32 xs', .ints .u32 ys'])) fun h2 => K (.tup []) h2

def zipRows (len : Nat) (xs ys : List Int) : List (Int × Int) := (xs.take len).zip (ys.take len)

noncomputable def moveT : Trans := fun args h K => match args with
  | [.ptr p 0 0, .val (.int .u32 d)] => (match entAt h p with
    | some (.own b (.cells 2 [.val (.int .u32 mark), rv] 55)) => (match rv with
      | .val (.slice none 0 0) => mvNext h p b mark d [] K
      | .slc q 0 len cap => (match entAt h q with
        | some (.own b1 (.tab 60 base N [.ints .u32 xs, .ints .u32 ys])) => bif Nat.beq p q then False else (len ≤ cap ∧ N = cap ∧ len < 1000000) ∧
            setK h q (.gone (b1, base, 2)) fun h0 => mvNext h0 p b mark d (zipRows len xs ys) K
        | _ => False)
      | _ => False)
    | _ => False)
  | _ => False

theorem enters28 : Enters Go.Proofs.Try.prog 28 := ⟨Go.Proofs.Try.f28, Go.Proofs.Try.func28, by kernel_rfl, by kernel_rfl⟩

theorem zipRows_len {len : Nat} {xs ys : List Int} (hx : len ≤ xs.length) (hy : len ≤ ys.length) : (zipRows len xs ys).length = len := by
  simp [zipRows]; omega
theorem zipRows_fst {len : Nat} {xs ys : List Int} (hx : len ≤ xs.length) (hy : len ≤ ys.length) : xs.take len = (zipRows len xs ys).map (·.1) := by
  unfold zipRows
  exact (List.map_fst_zip (by simp; omega)).symm
theorem zipRows_snd {len : Nat} {xs ys : List Int} (hx : len ≤ xs.length) (hy : len ≤ ys.length) : ys.take len = (zipRows len xs ys).map (·.2) := by
  unfold zipRows
  exact (List.map_snd_zip (by simp; omega)).symm

theorem lenE_set (h : List Ent) (n : Nat) (e : Ent) : lenE (h.set n e) = lenE h := by simp [lenE_eq]

/-- From what a move leaves to what follows it. -/
theorem mvNext_run {h : List Ent} {p b : Nat} {mark d : Int} {rows : List (Int × Int)} {K : SV → List Ent → Prop} {v : Value} {L' : Blks} {e : Ent} (hp : entAt h p = some e) (hl : e.loc = (b, 0, 2))
    (hr : MvR b mark d rows v L') (hx : mvNext h p b mark d rows K) :
    ∃ s e' es G', K s (h.set p e' ++ es) ∧ e'.loc = e.loc ∧ (∀ r, (e'.blocks (locs h ++ (locs es ++ r)) ++ owned (locs h ++ (locs es ++ r)) es ++ G').Perm L') ∧ (∀ b k, e' ≠ Ent.ro b k ∧ Ent.ro b k ∉ es) ∧ s ≠ .top ∧ ∀ ρ, den ρ s = v := by
  obtain ⟨rfl, rv, L1, h1, h2⟩ := hr
  rcases h1 with ⟨h1, rfl⟩ | ⟨b', base', cap', xs', ys', G, rfl, g1, g2, g3, g4, g5, g6, g7⟩
  · have := setK_spec (hx.1 h1)
    refine ⟨_, _, [], L1, by simpa using this, by rw [hl]; rfl, fun r => ?_, by simp, by simp, fun ρ => rfl⟩
    simp only [Ent.blocks, owned, List.append_nil]
    exact h2.symm
  · have := appK_iff (setK_spec (hx.2 b' base' cap' xs' ys' g1 g2 g3 g4 g5 g6))
    refine ⟨_, _, [.own b' (.tab 60 base' cap' [.ints .u32 xs', .ints .u32 ys'])], G, this, by rw [hl]; rfl, fun r => ?_, by simp, by simp, fun ρ => rfl⟩
    have e2 : locAt (locs h ++ ([(b', base', 2)] ++ r)) (lenE h) = (b', base', 2) := by
      rw [locAt_get, lenE_eq, List.getElem?_append_right (by rw [locs_eq]; simp)]
      simp [locs_eq]
    have e3 : locs [Ent.own b' (.tab 60 base' cap' [.ints .u32 xs', .ints .u32 ys'])] = [(b', base', 2)] := rfl
    simp only [Ent.blocks, owned, SBlk.den, denL, den, e3, e2, List.append_nil, List.append_assoc]
    refine List.Perm.trans ?_ h2.symm
    refine List.Perm.cons _ ?_
    exact g7.symm

theorem moveT_sound : SoundT Go.Proofs.Try.prog 28 moveT := by
  intro F h w args vs K c ha hx
  refine ⟨enters28, ?_⟩
  unfold moveT at hx
  split at hx
  · rename_i p d
    split at hx
    · rename_i b mark rv he
      obtain ⟨-, hloc⟩ := c.blk he rfl
      have hvs : vs = [.pointer (some ⟨b, 0, none⟩), .int .u32 d] := by
        have := ha []
        simp only [denL, den, hloc []] at this
        rw [← this]
        simp [SBlk.base, SBlk.wd]
      subst hvs
      split at hx
      · refine frame_many (G := []) c [(p, .own b (.cells 2 [.val (.int .u32 mark), .val (.slice none 0 0)] 55))] (by simp [he]) (by simp) (L := [(b, .cells [.int .u32 mark, .slice none 0 0] 55)]) (List.Perm.refl _)
          (mvNil_triple b mark d) fun v L' hr => ?_
        obtain ⟨s, e', es, G', k1, k2, k3, k4, k5, k6⟩ := mvNext_run he rfl hr hx
        refine ⟨s, [(p, e')], es, G', k1, rfl, ?_, fun r => ?_, ?_, k5, fun r => k6 _⟩
        · intro q hq
          simp at hq
          subst hq
          exact ⟨_, he, k2.symm⟩
        · simpa [blksOf] using k3 r
        · intro b k
          refine ⟨?_, (k4 b k).2⟩
          intro q hq
          simp at hq
          subst hq
          exact (k4 b k).1
      · rename_i q len cap
        split at hx
        · rename_i b1 base N xs ys he2
          cases hb : Nat.beq p q with
          | true => rw [hb] at hx; exact hx.elim
          | false =>
            rw [hb] at hx
            simp only [cond_false] at hx
            have hne : p ≠ q := by rintro rfl; simp at hb
            obtain ⟨⟨h1, rfl, h3⟩, hx⟩ := hx
            have hx := setK_spec hx
            obtain ⟨⟨ob, hob, hk⟩, hloc2⟩ := c.blk he2 rfl
            obtain ⟨arr, lo, hi, -, g1, -, -⟩ := hk []
            have hxl : xs.length = N := (g1 (.ints .u32 xs) (by simp)).1
            have hyl : ys.length = N := (g1 (.ints .u32 ys) (by simp)).1
            have zl := zipRows_len (len := len) (xs := xs) (ys := ys) (by omega) (by omega)
            have ht := mv_triple b b1 base N xs ys mark d (zipRows len xs ys) (by omega) (by omega) (by rw [zl]; exact zipRows_fst (by omega) (by omega)) (by rw [zl]; exact zipRows_snd (by omega) (by omega))
            rw [zl] at ht
            have hden : blksOf (locs h) [(p, .own b (.cells 2 [.val (.int .u32 mark), .slc q 0 len N] 55)), (q, .own b1 (.tab 60 base N [.ints .u32 xs, .ints .u32 ys]))] =
                [(b, .cells [.int .u32 mark, .slice (some ⟨b1, base * 2, none⟩) len N] 55), (b1, .tab 60 base N [.ints .u32 xs, .ints .u32 ys])] := by
              have := hloc2 []
              rw [List.append_nil] at this
              simp [blksOf, Ent.blocks, SBlk.den, denL, den, this, SBlk.base, SBlk.wd]
            refine frame_many (G := []) c [(p, .own b (.cells 2 [.val (.int .u32 mark), .slc q 0 len N] 55)), (q, .own b1 (.tab 60 base N [.ints .u32 xs, .ints .u32 ys]))] (by simp [he, he2]) (by simp [hne]) (L := _) (by rw [hden, List.append_nil]) ht fun v L' hr => ?_
            have hp' : entAt (h.set q (.gone (b1, base, 2))) p = some (.own b (.cells 2 [.val (.int .u32 mark), .slc q 0 len N] 55)) := by rw [entAt_set_ne _ (Ne.symm hne)]; exact he
            obtain ⟨s, e', es, G', k1, k2, k3, k4, k5, k6⟩ := mvNext_run hp' rfl hr hx
            have hls : locs (h.set q (.gone (b1, base, 2))) = locs h := locs_set he2 rfl
            refine ⟨s, [(p, e'), (q, .gone (b1, base, 2))], es, G', ?_, rfl, ?_, fun r => ?_, ?_, k5, fun r => k6 _⟩
            · simp only [putAt]
              rw [List.set_comm _ _ hne]
              exact k1
            · intro x hx'
              simp at hx'
              rcases hx' with rfl | rfl
              · exact ⟨_, he, k2.symm⟩
              · exact ⟨_, he2, rfl⟩
            · have := k3 r
              rw [hls] at this
              simpa [blksOf, Ent.blocks] using this
            · intro b k
              refine ⟨?_, (k4 b k).2⟩
              intro x hx'
              simp at hx'
              rcases hx' with rfl | rfl
              · exact (k4 b k).1
              · simp
        · exact hx.elim
      · exact hx.elim
    · exact hx.elim
  · exact hx.elim
end Go.Proofs.Ytmjhfnmkegdafaa
