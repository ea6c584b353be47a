/- Joiners: all and run. -/
import Derived.Test.YtpjikjhaljennaaJoI
set_option maxRecDepth 100000
set_option linter.unusedVariables false
set_option linter.unusedSimpArgs false
namespace Go.Proofs.Ytpjikjhaljennaa
open Go Go.Sx
attribute [local irreducible] Go.Sx.xrun

open Classical
theorem entersAll : Enters Go.Proofs.Try.prog 47 := ⟨Go.Proofs.Try.f47, Go.Proofs.Try.func47, by kernel_rfl, by kernel_rfl⟩
theorem entersRun : Enters Go.Proofs.Try.prog 46 := ⟨Go.Proofs.Try.f46, Go.Proofs.Try.func46, by kernel_rfl, by kernel_rfl⟩
structure AlY where
  q : JQ
  b : Nat
  G : Blks
  k : Ky
  t : Int
  r : Option (List Pc)
def JalPre (x : AlY) (vs : List Value) (L : Blks) : Prop := vs = [.pointer (some ⟨x.b, 0, none⟩), kK x.k] ∧ JAt x.q x.b x.G L ∧ ∃ ps n, (x.k, ps) ∈ x.q.parts ∧ n < 1000000 ∧ AllS ps n 0 [] x.r
def JrnPre (x : AlY) (vs : List Value) (L : Blks) : Prop := vs = [.pointer (some ⟨x.b, 0, none⟩), .int .u32 x.t] ∧ JAt x.q x.b x.G L ∧ RunS x.q.pieces x.t x.r
def JcsPost (x : AlY) (a : JS) (L' : Blks) : Prop := ∃ N, JAt x.q x.b (x.G ++ N) L' ∧ ∃ cb cx cn cc, CsV (x.G ++ N) x.r cb cx cn cc (.slice a.o a.l a.c)
noncomputable def jallT : Trans := chunkR (X := AlY) (A := JS) (fun a => .val (.slice a.o a.l a.c)) JalPre JcsPost
noncomputable def jrunT : Trans := chunkR (X := AlY) (A := JS) (fun a => .val (.slice a.o a.l a.c)) JrnPre JcsPost
theorem AllS.len {ps : List Pc} {n : Nat} {i : Int} {out : List Pc} {r : Option (List Pc)} (h : AllS ps n i out r) : ∀ cs, r = some cs → cs.length = out.length + n + 1 := by
  induction h with
  | no hn => intro cs e; cases e
  | en hc hi he => intro cs e; obtain rfl := Option.some.inj e; simp
  | st hc hi he h ih => intro cs e; have := ih cs e; simp at this; omega
theorem FwdS.len {ps : List Pc} {p0 : Pc} {n : Nat} {t : Int} {out : List Pc} {p : Pc} {r : Option (List Pc)} (h : FwdS ps p0 n t out p r) : ∀ cs, r = some cs → cs.length = out.length + n + 1 := by
  induction h with
  | en he => intro cs e; obtain rfl := Option.some.inj e; simp
  | no he hn => intro cs e; cases e
  | st he hc hct hb hf h ih => intro cs e; have := ih cs e; simp at this; omega
theorem jallT_sound : SoundT Go.Proofs.Try.prog 47 jallT := chunkR_sound (val := fun a => .slice a.o a.l a.c) entersAll (fun a ρ => rfl) (fun a => by simp) fun y vs L ⟨h1, h2, ps, n0, hk, hn0, hS⟩ => by
  subst h1
  have h2' := h2
  obtain ⟨mp, mq, mw, mn, rv, fp, fq, fw, fn, Lr, Li, hL, hr, hp, hq, hw, hn⟩ := h2
  obtain ⟨v, L1, L2, hfp, hLi, ⟨bi, fi, rfl, hfi, hL1⟩⟩ := SM.get hp hk
  have hrv : ∃ s : JS, rv = .slice s.o s.l s.c := by
    rcases hr with ⟨-, e, -⟩ | ⟨x, -, e, -⟩
    · exact ⟨⟨none, 0, 0⟩, e⟩
    · exact ⟨⟨_, _, _⟩, e⟩
  obtain ⟨s, rfl⟩ := hrv
  have fin : ∀ (N : Blks), ((y.b, Blk.cells [.bool y.q.inter, .map (some mp), .map (some mq), .map (some mw), .map (some mn), .slice s.o s.l s.c] 97) :: (mp, Blk.map kSh fp none) :: (bi, Blk.map (.one (.int .u32)) fi none) :: (((mq, Blk.map (.one (.int .u32)) fq none) :: (mw, Blk.map kSh fw none) :: (mn, Blk.map (.one (.int .u16)) fn none) :: (Lr ++ (L2 ++ y.G))) ++ N)).Perm (L ++ N) := fun N => by
    refine perm_of_sums fun f => ?_
    have i1 := perm_sum hL f
    have i2 := perm_sum hLi f
    have i3 := perm_sum hL1 f
    clear hL hLi hL1
    simp only [List.map_append, List.map_cons, List.map_nil, List.sum_append, List.sum_cons, List.sum_nil, List.append_assoc, List.cons_append, List.nil_append] at *
    omega
  refine Triple.mono (triple_of_run (R := fun v L' => ∃ a : JS, v = .slice a.o a.l a.c ∧ JcsPost y a L') (h := Ann.alH y.q.inter y.b mp mq mw mn bi fp fi s ((mq, .map (.one (.int .u32)) fq none) :: (mw, .map kSh fw none) :: (mn, .map (.one (.int .u16)) fn none) :: (Lr ++ (L2 ++ y.G))))
    (args := [.ptr 0 0 0, .agg [.val (.int .u16 y.k.1), .val (.bool y.k.2.1), .val (.int .u32 y.k.2.2)]]) (L := (y.b, .cells [.bool y.q.inter, .map (some mp), .map (some mq), .map (some mw), .map (some mn), .slice s.o s.l s.c] 97) :: (mp, .map kSh fp none) :: (bi, .map (.one (.int .u32)) fi none) :: ((mq, .map (.one (.int .u32)) fq none) :: (mw, .map kSh fw none) :: (mn, .map (.one (.int .u16)) fn none) :: (Lr ++ (L2 ++ y.G))))
    (run_with no_contracts _ _ _ _ _) (fun r => rfl) (fun r => by simp [Ann.alH, Ann.alJ, owned, Ent.blocks, SBlk.den, denL, den, locs, Ent.loc, locAt, SBlk.base, SBlk.wd]) (by simp [Ann.alH])
    (al_goal y.q.inter y.b mp mq mw mn bi fp fi s y.k _ _ _ (fun v L' => ∃ a : JS, v = .slice a.o a.l a.c ∧ JcsPost y a L') (G0 := y.G) hS hn0 hfp hfi rfl rfl (fun hr N => ?_) fun cs b1 base cap n rows C N hr hn hC hx hm => ?_)) (by have := (fin []).symm; rw [List.append_nil, List.append_nil] at this; exact this) fun v L' h => h
  · exact ⟨⟨none, 0, 0⟩, rfl, N, (h2'.more N).permL (fin N), 0, 0, 0, 0, .inl ⟨hr, rfl⟩⟩
  · have := hS.len cs hr
    exact ⟨⟨_, _, _⟩, rfl, N, (h2'.more N).permL (fin N), b1, base * 19, n, cap, .inr ⟨cs, hr, rfl, hn, rows_cs hx hC (seen_left _ _) (List.mem_append_right _ hm), by simp at this; omega⟩⟩
theorem rn_sound : ∀ p ∈ [((83 : Nat), fitsT)], SoundT Go.Proofs.Try.prog p.1 p.2 := by
  intro p hp
  simp at hp
  subst hp
  exact fitsT_sound
theorem jrunT_sound : SoundT Go.Proofs.Try.prog 46 jrunT := chunkR_sound (val := fun a => .slice a.o a.l a.c) entersRun (fun a ρ => rfl) (fun a => by simp) fun y vs L ⟨h1, h2, hS⟩ => by
  subst h1
  have h2' := h2
  obtain ⟨mp, mq, mw, mn, rv, fp, fq, fw, fn, Lr, Li, hL, hr, hp, hq, hw, hn⟩ := h2
  have hrv : ∃ s : JS, rv = .slice s.o s.l s.c := by
    rcases hr with ⟨-, e, -⟩ | ⟨x, -, e, -⟩
    · exact ⟨⟨none, 0, 0⟩, e⟩
    · exact ⟨⟨_, _, _⟩, e⟩
  obtain ⟨s, rfl⟩ := hrv
  have fin : ∀ (N : Blks), ((y.b, Blk.cells [.bool y.q.inter, .map (some mp), .map (some mq), .map (some mw), .map (some mn), .slice s.o s.l s.c] 97) :: (mq, Blk.map (.one (.int .u32)) fq none) :: (((mp, Blk.map kSh fp none) :: (mw, Blk.map kSh fw none) :: (mn, Blk.map (.one (.int .u16)) fn none) :: (Lr ++ (Li ++ y.G))) ++ N)).Perm (L ++ N) := fun N => by
    refine perm_of_sums fun f => ?_
    have i1 := perm_sum hL f
    clear hL
    simp only [List.map_append, List.map_cons, List.map_nil, List.sum_append, List.sum_cons, List.sum_nil, List.append_assoc, List.cons_append, List.nil_append] at *
    omega
  have hlen : ∀ cs, y.r = some cs → cs.length ≤ 1000000 := fun cs hr => by
    obtain ⟨n, x, -, h | ⟨t0, p0, n', -, -, -, hn', hF⟩⟩ := hS
    · rw [hr] at h; cases h.2
    · have := hF.len cs hr
      simp at this
      omega
  refine Triple.mono (triple_of_run (R := fun v L' => ∃ a : JS, v = .slice a.o a.l a.c ∧ JcsPost y a L') (h := Ann.rnH y.q.inter y.b mp mq mw mn fq s ((mp, .map kSh fp none) :: (mw, .map kSh fw none) :: (mn, .map (.one (.int .u16)) fn none) :: (Lr ++ (Li ++ y.G))))
    (args := [.ptr 0 0 0, .val (.int .u32 y.t)]) (L := (y.b, .cells [.bool y.q.inter, .map (some mp), .map (some mq), .map (some mw), .map (some mn), .slice s.o s.l s.c] 97) :: (mq, .map (.one (.int .u32)) fq none) :: ((mp, .map kSh fp none) :: (mw, .map kSh fw none) :: (mn, .map (.one (.int .u16)) fn none) :: (Lr ++ (Li ++ y.G))))
    (run_with rn_sound _ _ _ _ _) (fun r => rfl) (fun r => by simp [Ann.rnH, Ann.rnJ, owned, Ent.blocks, SBlk.den, denL, den, locs, Ent.loc, locAt, SBlk.base, SBlk.wd]) (by simp [Ann.rnH])
    (rn_goal y.q.inter y.b mp mq mw mn fq s y.t _ _ _ _ (fun v L' => ∃ a : JS, v = .slice a.o a.l a.c ∧ JcsPost y a L') (G0 := y.G) hS hq rfl rfl rfl (fun hr N => ?_) fun cs cb cx n cc N hr hn hC => ?_)) (by have := (fin []).symm; rw [List.append_nil, List.append_nil] at this; exact this) fun v L' h => h
  · exact ⟨⟨none, 0, 0⟩, rfl, N, (h2'.more N).permL (fin N), 0, 0, 0, 0, .inl ⟨hr, rfl⟩⟩
  · exact ⟨⟨_, _, _⟩, rfl, N, (h2'.more N).permL (fin N), cb, cx, n, cc, .inr ⟨cs, hr, rfl, hn, hC _ (seen_left _ _) fun p hp => List.mem_append_right _ hp, hlen cs hr⟩⟩
end Go.Proofs.Ytpjikjhaljennaa
