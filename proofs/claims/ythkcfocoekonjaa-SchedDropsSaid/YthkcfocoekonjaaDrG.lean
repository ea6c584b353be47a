/- Drop: its contract. -/
import Derived.Test.YthkcfocoekonjaaDrF
set_option maxRecDepth 100000
set_option linter.unusedVariables false
set_option linter.unusedSimpArgs false
namespace Go.Proofs.Ythkcfocoekonjaa
open Go Go.Sx
attribute [local irreducible] Go.Sx.xrun

theorem enters37 : Enters Go.Proofs.Try.prog 37 := ⟨Go.Proofs.Try.f37, Go.Proofs.Try.func37, by kernel_rfl, by kernel_rfl⟩
theorem dr_sound : ∀ p ∈ [(51, turnT), (65, dfT), (67, dnT)], SoundT Go.Proofs.Try.prog p.1 p.2 := by
  intro p hp
  simp only [List.mem_cons, List.not_mem_nil, or_false] at hp
  rcases hp with rfl | rfl | rfl
  · exact turnT_sound
  · exact dfT_sound
  · exact dnT_sound
structure DpX where
  q : SQ
  b : Nat
  id : Int
structure DpA where
  d : DSt
  s : Sl
def DpPre (x : DpX) (vs : List Value) (L : Blks) : Prop := vs = [.pointer (some ⟨x.b, 0, none⟩), .int .i64 x.id] ∧ (∀ l ∈ x.q.lines, l.2 ≠ []) ∧ (x.q.lines.length < 1000000 ∧ (x.q.lines.map fun l => l.2.length).sum < 1000000) ∧ SQAt x.q x.b L
def DpPost (x : DpX) (a : DpA) (L' : Blks) : Prop := a.d = dropF x.q x.id ∧ ∃ Lq Lo, L'.Perm (Lq ++ Lo) ∧ SQAt a.d.q x.b Lq ∧ OutAt a.d.ds (.slice a.s.o a.s.l a.s.c) Lo
noncomputable def dropT : Trans := chunkR (X := DpX) (A := DpA) (fun a => .tup [.val (.int .i64 a.d.n), .val (.slice a.s.o a.s.l a.s.c)]) DpPre DpPost
theorem dropT_sound : SoundT Go.Proofs.Try.prog 37 dropT := chunkR_sound (val := fun a => .tuple #[.int .i64 a.d.n, .slice a.s.o a.s.l a.s.c]) enters37 (fun a ρ => rfl) (fun a => by simp) fun x vs L ⟨h1, h2, ⟨h3, h4⟩, mi, mn, tv, fi, fn, Lt, Li, hp, k1, k2, k3⟩ => by
  subst h1
  have hg := dr_goal mi x.b x.id x.q fi ((x.b, .cells [.bool x.q.inter, .map (some mi), tv, .bool x.q.held, .map (some mn), .int .i64 x.q.all] 123) :: (mn, .map (.many [.int .u16, .bool]) fn none) :: (Lt ++ Li)) _ _
    (fun v L' => ∃ a : DpA, v = .tuple #[.int .i64 a.d.n, .slice a.s.o a.s.l a.s.c] ∧ DpPost x a L') rfl rfl ⟨mn, tv, fn, Lt, Li, List.Perm.refl _, k1, k2, k3⟩ h2 h3 h4 fun d o l c L' hd h => ⟨⟨d, ⟨o, l, c⟩⟩, rfl, hd, h⟩
  exact Triple.mono (triple_of_run (R := fun v L' => ∃ a : DpA, v = .tuple #[.int .i64 a.d.n, .slice a.s.o a.s.l a.s.c] ∧ DpPost x a L') (h := [.own mi (.map (.one (.int .u16)) fi none), .chunk ((x.b, .cells [.bool x.q.inter, .map (some mi), tv, .bool x.q.held, .map (some mn), .int .i64 x.q.all] 123) :: (mn, .map (.many [.int .u16, .bool]) fn none) :: (Lt ++ Li))])
    (args := [.val (.pointer (some ⟨x.b, 0, none⟩)), .val (.int .i64 x.id)]) (run_with dr_sound _ _ _ _ _) (fun r => rfl) (fun r => by simp [owned, Ent.blocks, SBlk.den, denL, den, locAt, locs, Ent.loc]) (by simp) hg) (hp.trans (List.Perm.swap _ _ _)) fun v L' h => h
end Go.Proofs.Ythkcfocoekonjaa
