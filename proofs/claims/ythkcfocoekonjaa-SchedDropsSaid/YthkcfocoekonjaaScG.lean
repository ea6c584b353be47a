/- Queues: Next's contract. -/
import Derived.Test.YthkcfocoekonjaaScF
set_option maxRecDepth 100000
set_option linter.unusedVariables false
set_option linter.unusedSimpArgs false
namespace Go.Proofs.Ythkcfocoekonjaa
open Go Go.Sx
attribute [local irreducible] Go.Sx.xrun


theorem nextF_fail {q : SQ} {most : Int} (hsm : q.small) (h : q.lines = [] ∨ most < 1 ∨ q.room < most) : nextF q most = (chZ, q) := by
  unfold nextF
  split
  · rename_i s it its rest e
    exact if_pos (by rcases h with h | h | h <;> simp_all)
  · rfl
theorem next_fail {q : SQ} {b : Nat} {most : Int} {Lq : Blks} (hq : SQAt q b Lq) (hsm : q.small) (h : q.lines = [] ∨ most < 1 ∨ q.room < most) :
    Triple Go.Proofs.Try.prog 17 [.pointer (some ⟨b, 0, none⟩), .int .i64 most] Lq (NxR q b most) := by
  have he := nextF_fail hsm h
  obtain ⟨mi, mn, tv, fi, fn, Lt, Li, hp, h1, h2, h3⟩ := hq
  obtain ⟨s, rfl, hs⟩ : ∃ s : Sl, tv = .slice s.o s.l s.c ∧ s.l = q.lines.length := by
    rcases h1 with ⟨e, rfl⟩ | ⟨x, x1, rfl, x3⟩
    · exact ⟨⟨none, 0, 0⟩, rfl, by rw [← List.length_map (f := Prod.fst), e]; rfl⟩
    · exact ⟨⟨_, _, _⟩, rfl, by simp⟩
  have key : ∀ g1 g2, NxR q b most (chZ.val ⟨none, 0, 0⟩) (zL b mi mn q.inter q.held s q.all :: (((mi, .map (.one (.int .u16)) fi none) :: (mn, .map (.many [.int .u16, .bool]) fn none) :: (Lt ++ Li)) ++ [g1, g2])) := fun g1 g2 => by
    refine nxR_mk he (mi := mi) (mn := mn) (fi := fi) (fn := fn) (Lt := Lt) (Li := Li) (Lb := []) (E := [g1, g2]) h1 h2 h3 (.inl ⟨rfl, rfl⟩) ?_
    refine perm_of_sums fun f => ?_
    simp only [zL]
    simp only [List.map_append, List.map_cons, List.map_nil, List.sum_append, List.sum_cons, List.sum_nil, List.append_assoc, List.cons_append, List.nil_append]
    try omega
  have go : ∀ hs, nzRun hs b mi mn q.inter q.held s q.all most ((mi, .map (.one (.int .u16)) fi none) :: (mn, .map (.many [.int .u16, .bool]) fn none) :: (Lt ++ Li)) (NxR q b most) → Triple Go.Proofs.Try.prog 17 [.pointer (some ⟨b, 0, none⟩), .int .i64 most] Lq (NxR q b most) := fun hs hg =>
    Triple.mono (triple_of_run (R := NxR q b most) (h := [.own b (.cells 6 [.val (.bool q.inter), .val (.map (some mi)), .val (.slice s.o s.l s.c), .val (.bool q.held), .val (.map (some mn)), .val (.int .i64 q.all)] 123), .chunk ((mi, .map (.one (.int .u16)) fi none) :: (mn, .map (.many [.int .u16, .bool]) fn none) :: (Lt ++ Li))])
      (args := [.ptr 0 0 0, .val (.int .i64 most)]) (L := (b, .cells [.bool q.inter, .map (some mi), .slice s.o s.l s.c, .bool q.held, .map (some mn), .int .i64 q.all] 123) :: (mi, .map (.one (.int .u16)) fi none) :: (mn, .map (.many [.int .u16, .bool]) fn none) :: (Lt ++ Li))
      (run_with no_contracts _ _ _ _ _) (fun r => by simp [denL, den, locAt, locs, Ent.loc, SBlk.base, SBlk.wd]) (fun r => by simp [owned, Ent.blocks, SBlk.den, denL, den, locAt, locs, Ent.loc, SBlk.base, SBlk.wd]) (by simp) hg) hp (fun v L' h => h)
  by_cases a : s.l = 0
  · exact go _ (nzA_goal b mi mn q.inter q.held s q.all most _ _ a key)
  by_cases a2 : most < 1
  · exact go _ (nzB_goal b mi mn q.inter q.held s q.all most _ _ a a2 key)
  · refine go _ (nzC_goal b mi mn q.inter q.held s q.all most _ _ a (by omega) ?_ key)
    rcases h with h | h | h
    · rw [h] at hs; simp at hs; omega
    · omega
    · exact h
theorem next_triple {q : SQ} {b : Nat} {most : Int} {Lq : Blks} (hq : SQAt q b Lq) (h0 : 0 ≤ q.all ∧ q.all ≤ 1000000) (hsm : q.small) :
    Triple Go.Proofs.Try.prog 17 [.pointer (some ⟨b, 0, none⟩), .int .i64 most] Lq (NxR q b most) := by
  by_cases h : q.lines = [] ∨ most < 1 ∨ q.room < most
  · exact next_fail hq hsm h
  · rcases hl : q.lines with _ | ⟨⟨s, its⟩, rest⟩
    · exact absurd (.inl hl) h
    · have hne := (hsm.2 (s, its) (by rw [hl]; simp)).1
      rcases its with _ | ⟨it, its⟩
      · simp at hne
      · have hm : 1 ≤ most ∧ most ≤ q.room := by omega
        by_cases hE : min most.toNat it.body.length = it.body.length
        · cases hi : q.inter
          · exact next_FT hq hl h0 hsm hm hi hE
          · exact next_TT hq hl h0 hsm hm hi hE
        · cases hi : q.inter
          · exact next_FF hq hl h0 hsm hm hi hE
          · exact next_TF hq hl h0 hsm hm hi hE

/-! The contract. -/
structure NxX where
  q : SQ
  b : Nat
  most : Int
noncomputable def Ch.sv (a : Ch) (s : Sl) : SV := .tup [.agg ((a.flds s).map .val), .val (.int .i64 a.id), .agg [.val (.int .i64 a.lk), .val (.int .u32 a.ln)], .val (.bool a.ok)]
theorem denL_vals (ρ : List Go.Sx.Loc) (l : List Value) : denL ρ (l.map .val) = l := by
  induction l with
  | nil => rfl
  | cons a r ih => simp [denL, den, ih]
theorem Ch.den (a : Ch) (s : Sl) (ρ : List Go.Sx.Loc) : Go.Sx.den ρ (a.sv s) = a.val s := by
  unfold Ch.sv Ch.val
  simp only [Go.Sx.den, denL, denL_vals]
theorem enters17 : Enters Go.Proofs.Try.prog 17 := ⟨Go.Proofs.Try.f17, Go.Proofs.Try.func17, by kernel_rfl, by kernel_rfl⟩
noncomputable def nextT : Trans := chunkR (X := NxX) (A := Ch × Sl × SQ) (fun a => a.1.sv a.2.1) (fun x vs L => vs = [.pointer (some ⟨x.b, 0, none⟩), .int .i64 x.most] ∧ x.q.small ∧ (0 ≤ x.q.all ∧ x.q.all ≤ 1000000) ∧ SQAt x.q x.b L)
  fun x a L' => a.1 = (nextF x.q x.most).1 ∧ a.2.2 = (nextF x.q x.most).2 ∧ ∃ La Lb, L'.Perm (La ++ Lb) ∧ SQAt a.2.2 x.b La ∧ WinNil 5 .u8 a.1.body (.slice a.2.1.o a.2.1.l a.2.1.c) Lb
theorem nextT_sound : SoundT Go.Proofs.Try.prog 17 nextT := chunkR_sound (val := fun a => a.1.val a.2.1) enters17 (fun a ρ => Ch.den _ _ _) (fun a => by simp [Ch.sv]) fun x vs L ⟨h1, h2, h3, h4⟩ => by
  subst h1
  exact (next_triple h4 h3 h2).mono (List.Perm.refl _) fun v L' ⟨sl, La, Lb, e1, e2, e3, e4⟩ => ⟨(_, sl, _), e1, rfl, rfl, La, Lb, e2, e3, e4⟩
end Go.Proofs.Ythkcfocoekonjaa
