/- Joiners: Reset of one stream. -/
import Derived.Test.YtpjikjhaljennaaJoR
set_option maxRecDepth 100000
set_option linter.unusedVariables false
set_option linter.unusedSimpArgs false
namespace Go.Proofs.Ytpjikjhaljennaa
open Go Go.Sx
attribute [local irreducible] Go.Sx.xrun

open Classical
theorem entersReset : Enters Go.Proofs.Try.prog 21 := ⟨Go.Proofs.Try.f21, Go.Proofs.Try.func21, by kernel_rfl, by kernel_rfl⟩
structure RsY where
  q : JQ
  b : Nat
  G : Blks
  a : JS
  w : Int
def JrsPre (x : RsY) (vs : List Value) (L : Blks) : Prop := vs = [.pointer (some ⟨x.b, 0, none⟩), .slice x.a.o 1 x.a.c] ∧ JAt x.q x.b x.G L ∧ (x.q.parts = [] ∧ x.q.pieces = [] ∧ x.q.wait = []) ∧ ∃ ab ax, x.a.o = some ⟨ab, ax, none⟩ ∧ rawCell x.G ab ax (.int .u16 x.w)
def JrsPost (x : RsY) (_ : Unit) (L' : Blks) : Prop := ∃ N, JAt { x.q with next := updN x.q.next x.w 0 } x.b (x.G ++ N) L'
noncomputable def jresetT : Trans := chunkR (X := RsY) (A := Unit) (fun _ => .tup []) JrsPre JrsPost
def RsR (y : RsY) (s : JS) (mp mq mw mn : Nat) (fp fq fw fn : Value → Option Value) (G : Blks) (v : Value) (L' : Blks) : Prop := v = .tuple #[] ∧ ∃ (es : List MapEntry) (clock : Nat) (N : Blks), GoodMap (.one (.int .u16)) ⟨es⟩ clock ∧ (getM es = fun k => if k = kSt y.w then none else fn k) ∧
  L' = (y.b, .cells [.bool y.q.inter, .map (some mp), .map (some mq), .map (some mw), .map (some mn), .slice s.o s.l s.c] 97) :: (mp, .map kSh fp none) :: (mq, .map (.one (.int .u32)) fq none) :: (mw, .map kSh fw none) :: (mn, .obj (.map ⟨es⟩ clock)) :: (G ++ N)
theorem rs_sound : ∀ p ∈ [((49 : Nat), hs1T), (51, neverT)], SoundT Go.Proofs.Try.prog p.1 p.2 := by
  intro p hp
  simp at hp
  rcases hp with rfl | rfl
  · exact hs1T_sound
  · exact neverT_sound
theorem next_rs {nx : Int → Int} {fn : Value → Option Value} (h : NextAt nx fn) (w : Int) : NextAt (updN nx w 0) (fun k => if k = kSt w then none else fn k) := by
  refine ⟨fun k hk => ?_, fun s => ?_⟩
  · by_cases e : k = kSt w
    · exact ⟨w, e⟩
    · simp only [if_neg e] at hk
      exact h.1 k hk
  · unfold updN
    by_cases e : s = w
    · subst e
      simp
    · have : kSt s ≠ kSt w := fun h => e (kSt_inj h)
      simp only [if_neg this, if_neg e]
      exact h.2 s
theorem rs_out {α : Type} (a b c d x : α) (M F : List α) : (a :: b :: c :: d :: x :: M ++ F).Perm (x :: (a :: b :: c :: d :: M) ++ F) := by
  simp only [List.cons_append]
  exact List.perm_middle (l₁ := [a, b, c, d])
theorem jresetT_sound : SoundT Go.Proofs.Try.prog 21 jresetT := chunkR_sound (val := fun _ => .tuple #[]) entersReset (fun a ρ => rfl) (fun a => by simp) fun y vs L ⟨h1, h2, ⟨p1, p2, p3⟩, ab, ax, ha, hw'⟩ => by
  subst h1
  obtain ⟨mp, mq, mw, mn, rv, fp, fq, fw, fn, Lr, Li, hL, hr, hp, hq, hw, hn⟩ := h2
  have hrv : ∃ s : JS, rv = .slice s.o s.l s.c := by
    rcases hr with ⟨-, e, -⟩ | ⟨x, -, e, -⟩
    · exact ⟨⟨none, 0, 0⟩, e⟩
    · exact ⟨⟨_, _, _⟩, e⟩
  obtain ⟨s, rfl⟩ := hrv
  have e1 : fp = fun _ => none := sm_nil (by rw [p1] at hp; exact hp)
  have e2 : fq = fun _ => none := sm_nil (by rw [p2] at hq; exact hq)
  have e3 : fw = fun _ => none := sm_nil (by rw [p3] at hw; exact hw)
  refine Triple.weak (Triple.mono (triple_of_run (R := RsR y s mp mq mw mn fp fq fw fn (Lr ++ (Li ++ y.G))) (h := Ann.rsH y.q.inter y.b mp mq mw mn fp fq fw fn s (Lr ++ (Li ++ y.G)))
    (args := [.ptr 0 0 0, .sl y.a.o 1 y.a.c]) (L := (y.b, .cells [.bool y.q.inter, .map (some mp), .map (some mq), .map (some mw), .map (some mn), .slice s.o s.l s.c] 97) :: (mp, .map kSh fp none) :: (mq, .map (.one (.int .u32)) fq none) :: (mw, .map kSh fw none) :: (mn, .map (.one (.int .u16)) fn none) :: (Lr ++ (Li ++ y.G)))
    (run_with rs_sound _ _ _ _ _) (fun r => rfl) (fun r => by simp [Ann.rsH, owned, Ent.blocks, SBlk.den, denL, den, locs, Ent.loc, locAt, SBlk.base, SBlk.wd]) (by simp [Ann.rsH])
    (rs_goal y.q.inter y.b mp mq mw mn fp fq fw fn s y.a _ _ _ True (RsR y s mp mq mw mn fp fq fw fn (Lr ++ (Li ++ y.G))) trivial e1 e2 e3 hn ha ((seen_sub fun p hp => by simp [hp]) _ _ _ hw') rfl rfl fun es clock N g hm => ⟨rfl, es, clock, N, g, hm, rfl⟩)) hL fun v L' h => h) ?_
  rintro v L' ⟨rfl, es, clock, N, g, hm, rfl⟩
  refine ⟨(mn, .map (.one (.int .u16)) (getM es) none) :: ((y.b, .cells [.bool y.q.inter, .map (some mp), .map (some mq), .map (some mw), .map (some mn), .slice s.o s.l s.c] 97) :: (mp, .map kSh fp none) :: (mq, .map (.one (.int .u32)) fq none) :: (mw, .map kSh fw none) :: ((Lr ++ (Li ++ y.G)) ++ N)), ⟨(), rfl, N, ?_⟩, fun F w ho => (ho.perm (rs_out _ _ _ _ _ _ _)).close g⟩
  refine ⟨mp, mq, mw, mn, _, fp, fq, fw, getM es, Lr, Li, ?_, hr.seen (seen_left _ _), PartsAt'.seen hp (seen_left _ _), PiecesAt.seen hq (seen_left _ _), WaitAt.seen hw (seen_left _ _), by rw [hm]; exact next_rs hn y.w⟩
  refine perm_of_sums fun f => ?_
  clear hL
  simp only [List.map_append, List.map_cons, List.map_nil, List.sum_append, List.sum_cons, List.sum_nil, List.append_assoc, List.cons_append, List.nil_append] at *
  omega
end Go.Proofs.Ytpjikjhaljennaa
