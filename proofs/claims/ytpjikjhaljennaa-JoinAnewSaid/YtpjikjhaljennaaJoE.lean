/- Joiners: on with a stream. -/
import Derived.Test.YtpjikjhaljennaaJoD
set_option maxRecDepth 100000
set_option linter.unusedVariables false
set_option linter.unusedSimpArgs false
namespace Go.Proofs.Ytpjikjhaljennaa
open Go Go.Sx
attribute [local irreducible] Go.Sx.xrun

open Classical
theorem entersOnward : Enters Go.Proofs.Try.prog 82 := ⟨Go.Proofs.Try.f82, Go.Proofs.Try.func82, by kernel_rfl, by kernel_rfl⟩
structure OnY where
  q : JQ
  b : Nat
  G : Blks
  s : Int
  q' : JQ
def JonPre (x : OnY) (vs : List Value) (L : Blks) : Prop := vs = [.pointer (some ⟨x.b, 0, none⟩), .int .u16 x.s] ∧ JAt x.q x.b x.G L ∧ OnIs x.q x.s x.q' ∧ x.q.ready.length + x.q.wait.length ≤ 1000000000
def JonPost (x : OnY) (_ : Unit) (L' : Blks) : Prop := ∃ N, JAt x.q' x.b (x.G ++ N) L'
noncomputable def jonT : Trans := chunkR (X := OnY) (A := Unit) (fun _ => .tup []) JonPre JonPost
theorem on_sound : ∀ p ∈ [((42 : Nat), midT)], SoundT Go.Proofs.Try.prog p.1 p.2 := by
  intro p hp
  simp at hp
  subst hp
  exact midT_sound
theorem jonT_sound : SoundT Go.Proofs.Try.prog 82 jonT := chunkR_sound (val := fun _ => .tuple #[]) entersOnward (fun a ρ => rfl) (fun a => by simp) fun y vs L ⟨h1, h2, h3, h4⟩ => by
  subst h1
  obtain ⟨mp, mq, mw, mn, rv, fp, fq, fw, fn, Lr, Li, hL, hr, hp, hq, hw, hn⟩ := h2
  obtain ⟨k, w', n', r', hS, eq'⟩ := h3
  have fin : ∀ (fw' fn' : Value → Option Value) (rv : Value) (Lr : Blks) (b1 b2 : Nat) (t1 t2 : Blk), WaitAt y.G w' fw' → NextAt (updN y.q.next y.s n') fn' → ReadyAt y.G r' rv Lr →
      ∃ a : Unit, (Value.tuple #[] : Value) = .tuple #[] ∧ JonPost y a ((y.b, .cells [.bool y.q.inter, .map (some mp), .map (some mq), .map (some mw), .map (some mn), rv] 97) :: (mw, .map kSh fw' none) :: (mn, .map (.one (.int .u16)) fn' none) :: (((mp, .map kSh fp none) :: (mq, .map (.one (.int .u32)) fq none) :: (Li ++ y.G)) ++ (Lr ++ [(b1, t1), (b2, t2)]))) :=
    fun fw' fn' rv Lr b1 b2 t1 t2 k1 k2 k3 => ⟨(), rfl, [(b1, t1), (b2, t2)], by
      rw [eq']
      refine ⟨mp, mq, mw, mn, rv, fp, fq, fw', fn', Lr, Li, ?_, k3.seen (seen_left _ _), PartsAt'.seen hp (seen_left _ _), PiecesAt.seen hq (seen_left _ _), WaitAt.seen k1 (seen_left _ _), k2⟩
      refine perm_of_sums fun f => ?_
      simp only [List.map_append, List.map_cons, List.map_nil, List.sum_append, List.sum_cons, List.sum_nil, List.append_assoc, List.cons_append, List.nil_append] at *
      omega⟩
  rcases hr with ⟨e1, e2, e3⟩ | ⟨x, hx, e2, e3⟩
  · subst e2 e3
    rw [e1] at hS h4
    refine Triple.mono (triple_of_run (R := fun v L' => ∃ a : Unit, v = .tuple #[] ∧ JonPost y a L') (h := [.own y.b (Ann.onJ y.q.inter mp mq (.val (.slice none 0 0))), .own mw (.map kSh fw none), .own mn (.map (.one (.int .u16)) fn none), .chunk ((mp, .map kSh fp none) :: (mq, .map (.one (.int .u32)) fq none) :: (Li ++ y.G))])
      (args := [.ptr 0 0 0, .val (.int .u16 y.s)]) (L := (y.b, .cells [.bool y.q.inter, .map (some mp), .map (some mq), .map (some mw), .map (some mn), .slice none 0 0] 97) :: (mw, .map kSh fw none) :: (mn, .map (.one (.int .u16)) fn none) :: ((mp, .map kSh fp none) :: (mq, .map (.one (.int .u32)) fq none) :: (Li ++ y.G)))
      (run_with on_sound _ _ _ _ _) (fun r => rfl) (fun r => by simp [owned, Ent.blocks, SBlk.den, denL, den, locs, Ent.loc, locAt, SBlk.base, SBlk.wd, Ann.onJ]) (by simp)
      (onN_goal y.q.inter y.b mp mq mw mn fw fn y.s _ y.G _ _ (fun v L' => ∃ a : Unit, v = .tuple #[] ∧ JonPost y a L') hS hw hn (by simpa using h4) rfl rfl fin)) (hL.trans (perm_of_sums fun f => by simp only [List.map_append, List.map_cons, List.map_nil, List.sum_append, List.sum_cons, List.sum_nil, List.append_assoc, List.cons_append, List.nil_append] at *; omega)) fun v L' h => h
  · subst e2 e3
    refine Triple.mono (triple_of_run (R := fun v L' => ∃ a : Unit, v = .tuple #[] ∧ JonPost y a L') (h := [.own y.b (Ann.onJ y.q.inter mp mq (.slc 4 x.o y.q.ready.length x.cap)), .own mw (.map kSh fw none), .own mn (.map (.one (.int .u16)) fn none), .chunk ((mp, .map kSh fp none) :: (mq, .map (.one (.int .u32)) fq none) :: (Li ++ y.G)), .own x.b (Ann.mwB x)])
      (args := [.ptr 0 0 0, .val (.int .u16 y.s)]) (L := (y.b, .cells [.bool y.q.inter, .map (some mp), .map (some mq), .map (some mw), .map (some mn), .slice (some ⟨x.b, (x.base + x.o) * 5, none⟩) y.q.ready.length x.cap] 97) :: (mw, .map kSh fw none) :: (mn, .map (.one (.int .u16)) fn none) :: (((mp, .map kSh fp none) :: (mq, .map (.one (.int .u32)) fq none) :: (Li ++ y.G)) ++ [(x.b, x.blk)]))
      (run_with on_sound _ _ _ _ _) (fun r => rfl) (fun r => by simp [owned, Ent.blocks, SBlk.den, denL, den, locs, Ent.loc, locAt, SBlk.base, SBlk.wd, Ann.onJ, Ann.mwB, MW.blk]) (by simp)
      (on_goal y.q.inter y.b mp mq mw mn fw fn x _ y.s _ y.G _ (fun v L' => ∃ a : Unit, v = .tuple #[] ∧ JonPost y a L') hS hw hn hx rfl h4 rfl fin)) (hL.trans (perm_of_sums fun f => by simp only [List.map_append, List.map_cons, List.map_nil, List.sum_append, List.sum_cons, List.sum_nil, List.append_assoc, List.cons_append, List.nil_append] at *; omega)) fun v L' h => h
end Go.Proofs.Ytpjikjhaljennaa
