/- Joiners: Held. -/
import Derived.Test.YtpjikjhaljennaaJoM
set_option maxRecDepth 100000
set_option linter.unusedVariables false
set_option linter.unusedSimpArgs false
namespace Go.Proofs.Ytpjikjhaljennaa
open Go Go.Sx
attribute [local irreducible] Go.Sx.xrun

open Classical
theorem entersHeld : Enters Go.Proofs.Try.prog 22 := ⟨Go.Proofs.Try.f22, Go.Proofs.Try.func22, by kernel_rfl, by kernel_rfl⟩
def JhdPre (x : JX) (vs : List Value) (L : Blks) : Prop := vs = [.pointer (some ⟨x.b, 0, none⟩)] ∧ JAt x.q x.b x.G L ∧ x.q.parts = [] ∧ x.q.held < 4611686018427387904 ∧ x.q.ready.length < 1000000000000
def JhdPost (x : JX) (a : Int) (L' : Blks) : Prop := a = ((x.q.held : Nat) : Int) ∧ JAt x.q x.b x.G L'
noncomputable def jheldT : Trans := chunkR (X := JX) (A := Int) (fun a => .val (.int .i64 a)) JhdPre JhdPost
theorem row_cells {x : MW} {G M : Blks} {i : Nat} {m : Mg} (h : x.row G (x.o + i) m) (hm : (x.b, x.blk) ∈ M) (hi : x.o + i < x.N) : ∃ s : JS, (∀ j v, (m.cells s)[j]? = some v → rawCell M x.b ((x.base + x.o) * 5 + i * 5 + j) v) ∧ s.l = m.bs.length := by
  obtain ⟨h1, h2, h3, h4, s, h5, h6, h7⟩ := h
  refine ⟨s, fun j v hv => ?_, h6.1.symm⟩
  have hx : (x.base + x.o) * 5 + i * 5 + j = (x.base + (x.o + i)) * 5 + j := by omega
  rw [hx]
  match j, hv with
  | 0, hv => exact ⟨_, hm, x.o + i, 0, .ints .u16 x.c1, rfl, hi, rfl, by rw [← Option.some.inj hv]; exact congrArg (Value.int .u16) h1.symm⟩
  | 1, hv => exact ⟨_, hm, x.o + i, 1, .bools x.c2, rfl, hi, rfl, by rw [← Option.some.inj hv]; exact congrArg Value.bool h2.symm⟩
  | 2, hv => exact ⟨_, hm, x.o + i, 2, .ints .u32 x.c3, rfl, hi, rfl, by rw [← Option.some.inj hv]; exact congrArg (Value.int .u32) h3.symm⟩
  | 3, hv => exact ⟨_, hm, x.o + i, 3, .ints .u32 x.c4, rfl, hi, rfl, by rw [← Option.some.inj hv]; exact congrArg (Value.int .u32) h4.symm⟩
  | 4, hv => exact ⟨_, hm, x.o + i, 4, .raws x.c5, rfl, hi, rfl, by rw [← Option.some.inj hv]; exact h5.symm⟩
  | _ + 5, hv => simp [Mg.cells] at hv
theorem jheldT_sound : SoundT Go.Proofs.Try.prog 22 jheldT := chunkR_sound (val := fun a => .int .i64 a) entersHeld (fun a ρ => rfl) (fun a => by simp) fun y vs L ⟨h1, h2, h3, h4, h5⟩ => by
  subst h1
  have h2' := h2
  obtain ⟨mp, mq, mw, mn, rv, fp, fq, fw, fn, Lr, Li, hL, hr, hp, hq, hw, hn⟩ := h2
  have hfp : fp = fun _ => none := sm_nil (by rw [h3] at hp; exact hp)
  have hheld : y.q.held = sumP y.q.pieces + (sumM y.q.wait + sumM y.q.ready) := by
    unfold JQ.held
    rw [h3]
    exact Nat.zero_add _
  rw [hheld] at h4
  rcases hr with ⟨e1, e2, e3⟩ | ⟨x, hx, e2, e3⟩
  · subst e2 e3
    have hz : sumM y.q.ready = 0 := by rw [e1]; rfl
    refine Triple.mono (triple_of_run (R := fun v L' => ∃ a : Int, v = .int .i64 a ∧ JhdPost y a L') (h := Ann.hdH y.q.inter y.b mp mq mw mn fp fq fw (.val (.slice none 0 0)) ((mn, .map (.one (.int .u16)) fn none) :: (Li ++ y.G)))
      (args := [.ptr 0 0 0]) (L := (y.b, .cells [.bool y.q.inter, .map (some mp), .map (some mq), .map (some mw), .map (some mn), .slice none 0 0] 97) :: (mp, .map kSh fp none) :: (mq, .map (.one (.int .u32)) fq none) :: (mw, .map kSh fw none) :: ((mn, .map (.one (.int .u16)) fn none) :: (Li ++ y.G)))
      (run_with no_contracts _ _ _ _ _) (fun r => rfl) (fun r => by simp [Ann.hdH, Ann.hdJ, owned, Ent.blocks, SBlk.den, denL, den, locs, Ent.loc, locAt, SBlk.base, SBlk.wd]) (by simp [Ann.hdH])
      (hdN_goal y.q.inter y.b mp mq mw mn fp fq fw _ _ _ _ _ _ _ _ (fun v L' => ∃ a : Int, v = .int .i64 a ∧ JhdPost y a L') hfp hq hw (by omega) rfl rfl rfl rfl rfl rfl rfl ⟨_, rfl, by rw [hheld, hz, Nat.add_zero], h2'.permL hL.symm⟩)) hL fun v L' h => h
  · subst e2 e3
    refine Triple.mono (triple_of_run (R := fun v L' => ∃ a : Int, v = .int .i64 a ∧ JhdPost y a L') (h := Ann.hdH y.q.inter y.b mp mq mw mn fp fq fw (.val (.slice (some ⟨x.b, (x.base + x.o) * 5, none⟩) y.q.ready.length x.cap)) ((mn, .map (.one (.int .u16)) fn none) :: ([(x.b, x.blk)] ++ (Li ++ y.G))))
      (args := [.ptr 0 0 0]) (L := (y.b, .cells [.bool y.q.inter, .map (some mp), .map (some mq), .map (some mw), .map (some mn), .slice (some ⟨x.b, (x.base + x.o) * 5, none⟩) y.q.ready.length x.cap] 97) :: (mp, .map kSh fp none) :: (mq, .map (.one (.int .u32)) fq none) :: (mw, .map kSh fw none) :: ((mn, .map (.one (.int .u16)) fn none) :: ([(x.b, x.blk)] ++ (Li ++ y.G))))
      (run_with no_contracts _ _ _ _ _) (fun r => rfl) (fun r => by simp [Ann.hdH, Ann.hdJ, owned, Ent.blocks, SBlk.den, denL, den, locs, Ent.loc, locAt, SBlk.base, SBlk.wd]) (by simp [Ann.hdH])
      (hd_goal y.q.inter y.b mp mq mw mn fp fq fw x.b ((x.base + x.o) * 5) y.q.ready.length x.cap _ _ _ _ _ _ _ _ (fun v L' => ∃ a : Int, v = .int .i64 a ∧ JhdPost y a L') (ms := y.q.ready) hfp hq hw (by omega) rfl rfl rfl rfl rfl rfl rfl ⟨rfl, h5⟩ (fun i m hm => ?_) ⟨_, rfl, by rw [hheld, Nat.add_assoc], h2'.permL hL.symm⟩)) hL fun v L' h => h
    have hi := (List.getElem?_eq_some_iff.1 hm).1
    have := hx.2.1
    have := hx.2.2.1
    exact row_cells (hx.2.2.2 i m hm) (by simp) (by omega)
end Go.Proofs.Ytpjikjhaljennaa
