/- Contracts whose arguments' own blocks go into the chunk. -/
import Derived.Test.YthkcfocoekonjaaSxY
set_option linter.unusedVariables false
set_option linter.unusedSimpArgs false
namespace Go.Sx
open Classical

def posS : SV → List Nat
  | .ptr n _ _ => [n]
  | .slc n _ _ _ => [n]
  | .mp n => [n]
  | _ => []
def posA : List SV → List Nat
  | [] => []
  | s :: r => posS s ++ posA r
/-- The positions that these arguments name (records are looked into). -/
def posL : List SV → List Nat
  | [] => []
  | .agg l :: r => posA l ++ posL r
  | s :: r => posS s ++ posL r
noncomputable def absorb1 (h : List Ent) (n : Nat) : List Ent :=
  match entAt h n with
  | some (.own b k) => (match chunkAt h 0 with
    | some (m, L) => (h.set n (.gone (b, k.base, k.wd))).set m (.chunk (L ++ [(b, k.den (locs h))]))
    | none => h)
  | _ => h
noncomputable def absorb : List Ent → List Nat → List Ent
  | h, [] => h
  | h, n :: r => absorb (absorb1 h n) r
noncomputable def absT (T : Trans) : Trans := fun args h K => T args (absorb h (posL args)) K

theorem absorb1_ok {F : Blks} {h : List Ent} {w : World} (c : Ctx F h w) (n : Nat) : Ctx F (absorb1 h n) w ∧ locs (absorb1 h n) = locs h := by
  unfold absorb1
  split
  · rename_i b k he
    split
    · rename_i m L hc
      obtain ⟨-, h4⟩ := chunkAt_spec hc
      rw [Nat.sub_zero] at h4
      have hne : n ≠ m := by rintro rfl; rw [he] at h4; cases h4
      have := c.view (J := [(n, .gone (b, k.base, k.wd)), (m, .chunk (L ++ [(b, k.den (locs h))]))]) (es := []) (G := []) (A := True)
        (by simp [chgOk, he, h4, isRo, Ent.loc]) (by simp [hne]) (by simp) (fun r => by
          simp only [oldAt, he, h4, blksOf, Ent.blocks, owned, List.append_nil, List.nil_append, List.cons_append]
          exact (List.perm_append_comm (l₁ := [(b, k.den (locs h))]) (l₂ := L)))
      simpa [putAt, locs] using this
    · exact ⟨c, rfl⟩
  · exact ⟨c, rfl⟩
theorem absorb_ok {F : Blks} {w : World} : ∀ (ns : List Nat) {h : List Ent}, Ctx F h w → Ctx F (absorb h ns) w ∧ locs (absorb h ns) = locs h
  | [], h, c => ⟨c, rfl⟩
  | n :: r, h, c => by
    obtain ⟨c1, l1⟩ := absorb1_ok c n
    obtain ⟨c2, l2⟩ := absorb_ok r c1
    exact ⟨c2, l2.trans l1⟩
theorem absT_sound {P : Program} {f : FuncId} {T : Trans} (hs : SoundT P f T) : SoundT P f (absT T) := by
  intro F h w args vs K c ha hx
  obtain ⟨c', hl⟩ := absorb_ok (posL args) c
  have ha' : StdL (absorb h (posL args)) args vs := fun r => by rw [hl]; exact ha r
  obtain ⟨h1, h2⟩ := hs F _ w args vs K c' ha' hx
  refine ⟨h1, Calls.mono h2 fun e w' ⟨v, s, h', k1, k2, k3, k4, k5, k6, k7⟩ => ⟨v, s, h', k1, k2, ?_, k4, k5, k6, k7⟩⟩
  obtain ⟨r, hr⟩ := k3
  exact ⟨r, by rw [hr, hl]⟩
end Go.Sx
