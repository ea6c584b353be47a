/- Span: the contract of slices.Delete of one row within a run. -/
import Derived.Test.YtmjhfnmkegdafaaSpJ
set_option maxRecDepth 100000
set_option linter.unusedVariables false
set_option linter.unusedSimpArgs false
namespace Go.Proofs.Ytmjhfnmkegdafaa
open Go Go.Sx

theorem del_triple (b base len cap i : Nat) (xs ys : List Int) (hi : i < len) (hlc : len ≤ cap) (hb : len < 1000000) (hx : xs.length = cap) (hy : ys.length = cap) :
    Triple Go.Proofs.Try.prog 26 [.slice (some ⟨b, base * 2, none⟩) len cap, .int .i64 i, .int .i64 ((i + 1 : Nat) : Int)] [(b, .tab 60 base cap [.ints .u32 xs, .ints .u32 ys])] (DelR len i xs ys) :=
  triple_of_run (h := [.own b (.tab 60 base cap [.ints .u32 xs, .ints .u32 ys])]) (args := [.slc 0 0 len cap, .val (.int .i64 i), .val (.int .i64 ((i + 1 : Nat) : Int))])
    (run_ok _ _ _ _ _) (fun r => rfl) (fun r => rfl) (by simp) (del_goal b base len cap i xs ys hi hlc hb hx hy)

noncomputable def delT : Trans := fun args h K => match args with
  | [.slc m 0 len cap, .val (.int .i64 i), .val (.int .i64 j)] => (match entAt h m with
    | some (.own b (.tab 60 base N [.ints .u32 xs, .ints .u32 ys])) =>
        (0 ≤ i ∧ i < (len : Int) ∧ j = i + 1 ∧ len ≤ cap ∧ N = cap ∧ len < 1000000) ∧ ∀ b' base' cap' xs' ys', len - 1 ≤ cap' → xs'.length = cap' → ys'.length = cap' →
          xs'.take (len - 1) = (xs.take len).take i.toNat ++ (xs.take len).drop (i.toNat + 1) → ys'.take (len - 1) = (ys.take len).take i.toNat ++ (ys.take len).drop (i.toNat + 1) →
          setK h m (.gone (b, base, 2)) fun h1 => appK h1 (.own b' (.tab 60 base' cap' [.ints .u32 xs', .ints .u32 ys'])) fun h2 => K (.slc (lenE h) 0 (len - 1) cap') h2
    | _ => False)
  | _ => False

theorem enters26 : Enters Go.Proofs.Try.prog 26 := ⟨Go.Proofs.Try.f26, Go.Proofs.Try.func26, by kernel_rfl, by kernel_rfl⟩

theorem delT_sound : SoundT Go.Proofs.Try.prog 26 delT := by
  intro F h w args vs K c ha hx
  refine ⟨enters26, ?_⟩
  unfold delT at hx
  split at hx
  · rename_i m len cap i j
    split at hx
    · rename_i b base N xs ys he
      obtain ⟨⟨h1, h2, rfl, h3, rfl, h5⟩, hK⟩ := hx
      obtain ⟨⟨ob, hob, hk⟩, hloc⟩ := c.blk he rfl
      obtain ⟨arr, lo, hi, -, g1, -, -⟩ := hk []
      have hxl := (g1 (.ints .u32 xs) (by simp)).1
      have hyl := (g1 (.ints .u32 ys) (by simp)).1
      obtain ⟨k, hkk⟩ : ∃ k : Nat, i = k := ⟨i.toNat, by omega⟩
      subst hkk
      have hvs : vs = [.slice (some ⟨b, base * 2, none⟩) len N, .int .i64 (k : Int), .int .i64 ((k + 1 : Nat) : Int)] := by
        have := ha []
        simp only [denL, den, hloc []] at this
        rw [← this]
        simp [SBlk.base, SBlk.wd]
      subst hvs
      refine frame_many (G := []) c [(m, .own b (.tab 60 base N [.ints .u32 xs, .ints .u32 ys]))] (by simp [he]) (by simp) (L := [(b, .tab 60 base N [.ints .u32 xs, .ints .u32 ys])]) (List.Perm.refl _)
        (del_triple b base len N k xs ys (by omega) h3 h5 hxl hyl) fun v L' hr => ?_
      obtain ⟨b', base', cap', xs', ys', G, rfl, r1, r2, r3, r4, r5, r6⟩ := hr
      have hK := appK_iff (setK_spec (hK b' base' cap' xs' ys' r1 r2 r3 (by simpa using r4) (by simpa using r5)))
      refine ⟨.slc (lenE h) 0 (len - 1) cap', [(m, .gone (b, base, 2))], [.own b' (.tab 60 base' cap' [.ints .u32 xs', .ints .u32 ys'])], G, hK, rfl, ?_, fun r => ?_, by simp, by simp, fun r => ?_⟩
      · intro q hq
        simp at hq
        subst hq
        exact ⟨_, he, rfl⟩
      · simp only [blksOf, Ent.blocks, owned, List.nil_append, List.append_nil]
        exact r6.symm
      · have e1 : locs (putAt h [(m, .gone (b, base, 2))]) = locs h := locs_put _ _ (by
          intro q hq
          simp at hq
          subst hq
          exact ⟨_, he, rfl⟩) (by simp)
        have e2 : locAt (locs h ++ ([(b', base', 2)] ++ r)) (lenE h) = (b', base', 2) := by
          rw [locAt_get, lenE_eq, List.getElem?_append_right (by rw [locs_eq]; simp)]
          simp [locs_eq]
        have e3 : locs [Ent.own b' (.tab 60 base' cap' [.ints .u32 xs', .ints .u32 ys'])] = [(b', base', 2)] := rfl
        simp only [den, locs_app', e1, List.append_assoc, e3, e2]
        rfl
    · exact hx.elim
  · exact hx.elim
end Go.Proofs.Ytmjhfnmkegdafaa
