/- Span: the contract of 'at' within a run. -/
import Derived.Test.YtmjhfnmkegdafaaSpG
set_option maxRecDepth 100000
set_option linter.unusedVariables false
set_option linter.unusedSimpArgs false
namespace Go.Proofs.Ytmjhfnmkegdafaa
open Go Go.Sx

noncomputable def atT : Trans := fun args h K => match args with
  | [.ptr p 0 0, .val (.int .u32 d)] => (match entAt h p with
    | some (.own b (.cells 2 [.val (.int .u32 mark), rv] 55)) => (match rv with
      | .val (.slice none 0 0) => K (.val (.int .i64 ((0 : Nat) : Int))) h
      | .slc q 0 len cap => (match entAt h q with
        | some (.own b1 (.tab 60 base N [.ints .u32 xs, .ints .u32 ys])) => bif Nat.beq p q then False else (len ≤ cap ∧ N = cap ∧ len < 1000000 ∧ Rising (zipRows len xs ys)) ∧
            ∀ i : Nat, i ≤ len → (∀ k r, k < i → (zipRows len xs ys)[k]? = some r → r.2 < d) → (∀ k r, i ≤ k → (zipRows len xs ys)[k]? = some r → d ≤ r.2) → K (.val (.int .i64 (i : Int))) h
        | _ => False)
      | _ => False)
    | _ => False)
  | _ => False

theorem enters24 : Enters Go.Proofs.Try.prog 24 := ⟨Go.Proofs.Try.f24, Go.Proofs.Try.func24, by kernel_rfl, by kernel_rfl⟩

theorem atT_sound : SoundT Go.Proofs.Try.prog 24 atT := by
  intro F h w args vs K c ha hx
  refine ⟨enters24, ?_⟩
  unfold atT at hx
  split at hx
  · rename_i p d
    split at hx
    · rename_i b mark rv he
      obtain ⟨-, hloc⟩ := c.blk he rfl
      have hvs : vs = [.pointer (some ⟨b, 0, none⟩), .int .u32 d] := by
        have := ha []
        simp only [denL, den, hloc []] at this
        rw [← this]
        simp [SBlk.base, SBlk.wd]
      subst hvs
      split at hx
      · refine frame_many (G := []) c [(p, .own b (.cells 2 [.val (.int .u32 mark), .val (.slice none 0 0)] 55))] (by simp [he]) (by simp) (L := [(b, .cells [.int .u32 mark, .slice none 0 0] 55)]) (List.Perm.refl _)
          (atNil_triple b mark d) fun v L' hr => ?_
        obtain ⟨i, rfl, g1, g2, g3, G, rfl⟩ := hr
        have hi : i = 0 := by simpa using g1
        subst hi
        refine ⟨.val (.int .i64 ((0 : Nat) : Int)), [(p, .own b (.cells 2 [.val (.int .u32 mark), .val (.slice none 0 0)] 55))], [], G, ?_, rfl, ?_, fun r => ?_, by simp, by simp, fun r => rfl⟩
        · rw [put_self _ _ (by simp [he]), List.append_nil]; exact hx
        · intro q hq
          simp at hq
          subst hq
          exact ⟨_, he, rfl⟩
        · simp [blksOf, Ent.blocks, owned, SBlk.den, denL, den]
      · rename_i q len cap
        split at hx
        · rename_i b1 base N xs ys he2
          cases hb : Nat.beq p q with
          | true => rw [hb] at hx; exact hx.elim
          | false =>
            rw [hb] at hx
            simp only [cond_false] at hx
            have hne : p ≠ q := by rintro rfl; simp at hb
            obtain ⟨⟨h1, rfl, h3, h4⟩, hx⟩ := hx
            obtain ⟨⟨ob, hob, hk⟩, hloc2⟩ := c.blk he2 rfl
            obtain ⟨arr, lo, hi, -, g1, -, -⟩ := hk []
            have hxl : xs.length = N := (g1 (.ints .u32 xs) (by simp)).1
            have hyl : ys.length = N := (g1 (.ints .u32 ys) (by simp)).1
            have zl := zipRows_len (len := len) (xs := xs) (ys := ys) (by omega) (by omega)
            have ht := at_triple b b1 base N xs ys mark d (zipRows len xs ys) (by omega) (by omega) (by rw [zl]; exact zipRows_fst (by omega) (by omega)) (by rw [zl]; exact zipRows_snd (by omega) (by omega)) h4
            rw [zl] at ht
            have hden : ∀ r, blksOf (locs h ++ r) [(p, .own b (.cells 2 [.val (.int .u32 mark), .slc q 0 len N] 55)), (q, .own b1 (.tab 60 base N [.ints .u32 xs, .ints .u32 ys]))] =
                [(b, .cells [.int .u32 mark, .slice (some ⟨b1, base * 2, none⟩) len N] 55), (b1, .tab 60 base N [.ints .u32 xs, .ints .u32 ys])] := fun r => by
              have := hloc2 r
              simp [blksOf, Ent.blocks, SBlk.den, denL, den, this, SBlk.base, SBlk.wd]
            have hden0 := hden []
            rw [List.append_nil] at hden0
            refine frame_many (G := []) c [(p, .own b (.cells 2 [.val (.int .u32 mark), .slc q 0 len N] 55)), (q, .own b1 (.tab 60 base N [.ints .u32 xs, .ints .u32 ys]))] (by simp [he, he2]) (by simp [hne]) (L := _) (by rw [hden0, List.append_nil]) ht fun v L' hr => ?_
            obtain ⟨i, rfl, g1, g2, g3, G, rfl⟩ := hr
            rw [zl] at g1
            refine ⟨.val (.int .i64 (i : Int)), [(p, .own b (.cells 2 [.val (.int .u32 mark), .slc q 0 len N] 55)), (q, .own b1 (.tab 60 base N [.ints .u32 xs, .ints .u32 ys]))], [], G, ?_, rfl, ?_, fun r => ?_, by simp, by simp, fun r => rfl⟩
            · rw [put_self _ _ (by simp [he, he2]), List.append_nil]; exact hx i g1 g2 g3
            · intro x hx'
              simp at hx'
              rcases hx' with rfl | rfl
              · exact ⟨_, he, rfl⟩
              · exact ⟨_, he2, rfl⟩
            · rw [hden]; simp [owned]
        · exact hx.elim
      · exact hx.elim
    · exact hx.elim
  · exact hx.elim
end Go.Proofs.Ytmjhfnmkegdafaa
