/- Hashes: the contract of a block. -/
import Derived.Test.YtpjikjhaljennaaMaB
set_option maxRecDepth 100000
set_option linter.unusedVariables false
set_option linter.unusedSimpArgs false
namespace Go.Proofs.Ytpjikjhaljennaa
open Go Go.Sx
attribute [local irreducible] Go.Sx.xrun

theorem enters61 : Enters Go.Proofs.Try.prog 61 := ⟨Go.Proofs.Try.f61, Go.Proofs.Try.func61, by kernel_rfl, by kernel_rfl⟩
/-- A block of 64 bytes goes in. -/
noncomputable def blockT : Trans := fun args h K => match args with
  | [.ptr n 0 0, .slc m o l cap] => (match entAt h n with
    | some (.own bs (.tab 129 0 8 [.ints .u32 ss])) => (match entAt h m with
      | some (.own bb (.tab 5 base N [.ints .u8 ys])) => (l = 64 ∧ o + 64 ≤ N) ∧ setK h n (.own bs (.tab 129 0 8 [.ints .u32 (blockF ss ((ys.drop o).take 64))])) fun h1 => K (.val (.tuple #[])) h1
      | _ => False)
    | _ => False)
  | _ => False
theorem two_sound : ∀ p ∈ [((90 : Nat), rightT), (92, roundsT)], SoundT Go.Proofs.Try.prog p.1 p.2 := by
  intro p hp
  simp at hp
  rcases hp with rfl | rfl
  · exact rightT_sound
  · exact roundsT_sound
def BkR (bs bb base N : Nat) (zs ys : List Int) (v : Value) (L : Blks) : Prop := v = .tuple #[] ∧ ∃ G, L = (bs, .tab 129 0 8 [.ints .u32 zs]) :: (bb, .tab 5 base N [.ints .u8 ys]) :: G
theorem blockT_sound : SoundT Go.Proofs.Try.prog 61 blockT := by
  intro F h w args vs K c ha hx
  refine ⟨enters61, ?_⟩
  unfold blockT at hx
  split at hx
  · rename_i n m o l cap
    split at hx
    · rename_i bs ss hen
      split at hx
      · rename_i bb base N ys hem
        obtain ⟨⟨rfl, h1⟩, hK⟩ := hx
        have hne : n ≠ m := by rintro rfl; rw [hen] at hem; simp at hem
        obtain ⟨⟨ob, hob, hk⟩, hloc⟩ := c.blk hen rfl
        obtain ⟨⟨ob2, hob2, hk2⟩, hloc2⟩ := c.blk hem rfl
        obtain ⟨arr, lo, hi, -, g1, -, -⟩ := hk []
        have hsl : ss.length = 8 := (g1 (.ints .u32 ss) (by simp)).1
        have hvs : vs = [.pointer (some ⟨bs, 0, none⟩), .slice (some ⟨bb, (base + o) * 1, none⟩) 64 cap] := by
          have := ha []
          simp only [denL, den, hloc [], hloc2 []] at this
          rw [← this]
          simp [SBlk.base, SBlk.wd]
        subst hvs
        have ht := triple_of_run (R := BkR bs bb base N (blockF ss ((ys.drop o).take 64)) ys) (h := [.own bs (.tab 129 0 8 [.ints .u32 ss]), .own bb (.tab 5 base N [.ints .u8 ys])]) (args := [.ptr 0 0 0, .slc 1 o 64 cap])
          (vs := [.pointer (some ⟨bs, 0, none⟩), .slice (some ⟨bb, (base + o) * 1, none⟩) 64 cap])
          (L := [(bs, .tab 129 0 8 [.ints .u32 ss]), (bb, .tab 5 base N [.ints .u8 ys])]) (run_with two_sound _ _ _ _ _) (fun r => rfl) (fun r => rfl) (by simp)
          (bk_goal bs bb base N o cap ss ys _ _ _ _ _ _ rfl rfl rfl rfl rfl hsl h1 fun G => ⟨rfl, G, rfl⟩)
        refine frame_many (G := []) c [(n, .own bs (.tab 129 0 8 [.ints .u32 ss])), (m, .own bb (.tab 5 base N [.ints .u8 ys]))] (by simp [hen, hem]) (by simp [hne]) (L := [(bs, .tab 129 0 8 [.ints .u32 ss]), (bb, .tab 5 base N [.ints .u8 ys])]) (List.Perm.refl _)
          ht fun v L' hr => ?_
        obtain ⟨rfl, G, rfl⟩ := hr
        have hK1 := setK_spec hK
        refine ⟨.val (.tuple #[]), [(n, .own bs (.tab 129 0 8 [.ints .u32 (blockF ss ((ys.drop o).take 64))])), (m, .own bb (.tab 5 base N [.ints .u8 ys]))], [], G, ?_, rfl, ?_, fun r => ?_, by simp, by simp, fun r => rfl⟩
        · rw [List.append_nil]
          have e : putAt h [(n, .own bs (.tab 129 0 8 [.ints .u32 (blockF ss ((ys.drop o).take 64))])), (m, .own bb (.tab 5 base N [.ints .u8 ys]))] = putAt h [(n, .own bs (.tab 129 0 8 [.ints .u32 (blockF ss ((ys.drop o).take 64))]))] := by
            refine put_self [(m, .own bb (.tab 5 base N [.ints .u8 ys]))] (h.set n _) fun q hq => ?_
            simp at hq
            subst hq
            show entAt (h.set n _) m = _
            rw [entAt_set_ne _ hne, hem]
          rw [e]
          exact hK1
        · intro q hq
          simp at hq
          rcases hq with rfl | rfl
          · exact ⟨_, hen, rfl⟩
          · exact ⟨_, hem, rfl⟩
        · simp [blksOf, Ent.blocks, owned, SBlk.den]
      · exact hx.elim
    · exact hx.elim
  · exact hx.elim
end Go.Proofs.Ytpjikjhaljennaa
