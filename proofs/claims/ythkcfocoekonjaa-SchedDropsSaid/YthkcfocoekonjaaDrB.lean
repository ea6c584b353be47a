/- Drop: the closure's contract. -/
import Derived.Test.YthkcfocoekonjaaDrA
set_option maxRecDepth 100000
set_option linter.unusedVariables false
set_option linter.unusedSimpArgs false
namespace Go.Proofs.Ythkcfocoekonjaa
open Go Go.Sx
attribute [local irreducible] Go.Sx.xrun

theorem enters66 : Enters Go.Proofs.Try.prog 66 := ⟨Go.Proofs.Try.f66, Go.Proofs.Try.func66, by kernel_rfl, by kernel_rfl⟩
def DA.args (a : DA) (p : Value) : List Value := [p, .pointer (some ⟨a.bk, 0, none⟩), .pointer (some ⟨a.bn, 0, none⟩), .pointer (some ⟨a.bs, 0, none⟩), .pointer (some ⟨a.bq, 0, none⟩), .pointer (some ⟨a.bo, 0, none⟩)]
def DcR (x : DS) (a : DA) (it : QItem) (Li : Blks) (v : Value) (L' : Blks) : Prop := v = .bool (decide (it.id = x.k)) ∧ ∃ La, L'.Perm (La ++ Li) ∧ dState (dF x it) a La
theorem dc_triple (x : DS) (a : DA) (it : QItem) (p : Value) (L Lx Li : Blks) (hL : L.Perm (Lx ++ Li)) (hx : dState x a Lx) (hi : ItemAt it p Li) (hm : x.ds.length < 1000000) :
    Triple Go.Proofs.Try.prog 66 (a.args p) L (DcR x a it Li) := by
  obtain ⟨b, v, L1, rfl, ⟨w, w1, rfl, w3⟩, hp⟩ := hi
  obtain ⟨ov, Lo, ho, hpx⟩ := hx
  by_cases hA : it.id = x.k → it.begun = false
  · have hL2 : L.Perm ((a.bn, .cells [.int .i64 x.n] 3) :: ((a.bo, .cells [ov] 93) :: (dRest x a ++ Lo)) ++ Li) := hL.trans (hpx.append_right Li)
    refine triple_of_run (R := DcR x a it Li) (h := [.chunk L]) (args := [.val (.pointer (some ⟨b, 0, none⟩)), .val (.pointer (some ⟨a.bk, 0, none⟩)), .val (.pointer (some ⟨a.bn, 0, none⟩)), .val (.pointer (some ⟨a.bs, 0, none⟩)), .val (.pointer (some ⟨a.bq, 0, none⟩)), .val (.pointer (some ⟨a.bo, 0, none⟩))])
      (run_with no_contracts _ _ _ _ _) (fun r => rfl) (fun r => by simp [owned, Ent.blocks]) (by simp)
      (dcA_goal ⟨b, a.bk, a.bn, a.bs, a.bq, a.bo⟩ L _ _ x it ⟨some ⟨w.b, (w.base + w.o) * 1, none⟩, it.body.length, w.cap⟩ hL2 ?_ ?_ rfl hA ?_ ?_)
    · simp [dRest]
    · exact List.mem_append_right _ (hp.mem_iff.2 List.mem_cons_self)
    · intro e
      refine ⟨by simp [e], Lx, hL, ?_⟩
      rw [dF, if_neg e]
      exact ⟨ov, Lo, ho, hpx⟩
    · intro e
      have hb : it.begun = false := hA e
      refine ⟨by simp [e], (a.bn, .cells [.int .i64 (IntKind.wrap .i64 (x.n + it.body.length))] 3) :: (a.bo, .cells [ov] 93) :: (dRest x a ++ Lo), List.Perm.refl _, ov, Lo, ?_, ?_⟩
      · rw [dF, if_pos e]; simpa [hb] using ho
      · rw [dF, if_pos e]; exact List.Perm.refl _
  · obtain ⟨hk, hb⟩ := Classical.not_imp.1 hA
    have hb : it.begun = true := by simpa using hb
    have hL2 : L.Perm ((a.bo, .cells [ov] 93) :: ((a.bn, .cells [.int .i64 x.n] 3) :: (dRest x a ++ (Lo ++ Li)))) := by
      refine perm_of_sums fun f => ?_
      have e1 := perm_sum hL f
      have e2 := perm_sum hpx f
      simp only [List.map_append, List.map_cons, List.map_nil, List.sum_append, List.sum_cons, List.sum_nil, List.append_assoc, List.cons_append, List.nil_append] at *
      omega
    have hm1 : (a.bk, Blk.cells [.int .i64 x.k] 3) ∈ dRest x a ++ Li := by simp [dRest]
    have hm2 : (a.bs, Blk.cells [.int .u16 x.s] 27) ∈ dRest x a ++ Li := by simp [dRest]
    have hm3 : (a.bq, Blk.cells [.pointer (some ⟨a.b, 0, none⟩)] 24) ∈ dRest x a ++ Li := by simp [dRest]
    have hm5 : (a.b, Blk.cells (.bool x.inter :: a.qr) 123) ∈ dRest x a ++ Li := by simp [dRest]
    have hm4 : (b, Blk.cells (it.cells (w.val it.body.length)) 128) ∈ dRest x a ++ Li := List.mem_append_right _ (hp.mem_iff.2 List.mem_cons_self)
    have hd : dF x it = { x with n := IntKind.wrap .i64 (x.n + it.body.length), ds := x.ds ++ [dcOf x it] } := by rw [dF, if_pos hk]; simp [hb]
    rcases ho with ⟨hnil, rfl⟩ | ⟨ba, base, N, cap, c, G, hc, hl, rfl, hG⟩
    · refine Triple.mono (triple_of_run (R := DcR x a it Li) (h := [.own a.bo (.cells 1 [.val (.slice none 0 0)] 93), .chunk ((a.bn, .cells [.int .i64 x.n] 3) :: (dRest x a ++ Li ++ Lo))]) (args := [.val (.pointer (some ⟨b, 0, none⟩)), .val (.pointer (some ⟨a.bk, 0, none⟩)), .val (.pointer (some ⟨a.bn, 0, none⟩)), .val (.pointer (some ⟨a.bs, 0, none⟩)), .val (.pointer (some ⟨a.bq, 0, none⟩)), .ptr 0 0 0])
        (L := (a.bo, .cells [.slice none 0 0] 93) :: (a.bn, .cells [.int .i64 x.n] 3) :: (dRest x a ++ Li ++ Lo)) (run_with no_contracts _ _ _ _ _) (fun r => rfl) (fun r => by simp [owned, Ent.blocks, SBlk.den, denL, den]) (by simp)
        (dcB_goal ⟨b, a.bk, a.bn, a.bs, a.bq, a.bo⟩ _ (dRest x a ++ Li ++ Lo) _ x a.b a.qr it ⟨some ⟨w.b, (w.base + w.o) * 1, none⟩, it.body.length, w.cap⟩ (List.Perm.refl _) (List.mem_append_left _ hm1) (List.mem_append_left _ hm2) (List.mem_append_left _ hm3) (List.mem_append_left _ hm5) (List.mem_append_left _ hm4) rfl hb hk ?_)) ?_ fun v L' h => h
      · intro v Lo2 G ho2 L' hp2
        refine ⟨by simp [hk], (a.bn, .cells [.int .i64 (IntKind.wrap .i64 (x.n + it.body.length))] 3) :: (a.bo, .cells [v] 93) :: (dRest x a ++ (Lo2 ++ (Lo ++ G))), ?_, v, Lo2 ++ (Lo ++ G), ?_, ?_⟩
        · refine perm_of_sums fun f => ?_
          have e2 := perm_sum hp2 f
          simp only [List.map_append, List.map_cons, List.map_nil, List.sum_append, List.sum_cons, List.sum_nil, List.append_assoc, List.cons_append, List.nil_append] at *
          omega
        · rw [hd]
          show OutAt (x.ds ++ [dcOf x it]) v _
          rw [hnil]
          rcases ho2 with h | ⟨b', base', N', cap', c', G', h1, h2, h3, h4⟩
          · exact absurd h.1 (by simp)
          · exact .inr ⟨b', base', N', cap', c', G' ++ (Lo ++ G), h1, h2, h3, by simpa using h4.append_right (Lo ++ G)⟩
        · rw [hd]; exact List.Perm.refl _
      · refine perm_of_sums fun f => ?_
        have e1 := perm_sum hL2 f
        simp only [List.map_append, List.map_cons, List.map_nil, List.sum_append, List.sum_cons, List.sum_nil, List.append_assoc, List.cons_append, List.nil_append] at *
        omega
    · refine Triple.mono (triple_of_run (R := DcR x a it Li) (h := [.own a.bo (.cells 1 [.slc 1 0 x.ds.length cap] 93), .own ba (.tab 43 base N c.cols), .chunk ((a.bn, .cells [.int .i64 x.n] 3) :: (dRest x a ++ Li ++ G))]) (args := [.val (.pointer (some ⟨b, 0, none⟩)), .val (.pointer (some ⟨a.bk, 0, none⟩)), .val (.pointer (some ⟨a.bn, 0, none⟩)), .val (.pointer (some ⟨a.bs, 0, none⟩)), .val (.pointer (some ⟨a.bq, 0, none⟩)), .ptr 0 0 0])
        (L := (a.bo, .cells [.slice (some ⟨ba, base * 19, none⟩) x.ds.length cap] 93) :: (ba, .tab 43 base N c.cols) :: (a.bn, .cells [.int .i64 x.n] 3) :: (dRest x a ++ Li ++ G)) (run_with no_contracts _ _ _ _ _) (fun r => rfl) (fun r => by simp [owned, Ent.blocks, SBlk.den, denL, den, locAt, locs, Ent.loc, SBlk.base, SBlk.wd, Oc.cols]) (by simp)
        (dcC_goal ⟨b, a.bk, a.bn, a.bs, a.bq, a.bo⟩ _ (dRest x a ++ Li ++ G) _ x a.b a.qr it ⟨some ⟨w.b, (w.base + w.o) * 1, none⟩, it.body.length, w.cap⟩ (List.Perm.refl _) (List.mem_append_left _ hm1) (List.mem_append_left _ hm2) (List.mem_append_left _ hm3) (List.mem_append_left _ hm5) (List.mem_append_left _ hm4) rfl hb hk
          ba base N x.ds.length cap c hc rfl hl hm ?_)) ?_ fun v L' h => h
      · intro v Lo2 G2 ho2 L' hp2
        refine ⟨by simp [hk], (a.bn, .cells [.int .i64 (IntKind.wrap .i64 (x.n + it.body.length))] 3) :: (a.bo, .cells [v] 93) :: (dRest x a ++ (Lo2 ++ (G ++ G2))), ?_, v, Lo2 ++ (G ++ G2), ?_, ?_⟩
        · refine perm_of_sums fun f => ?_
          have e2 := perm_sum hp2 f
          simp only [List.map_append, List.map_cons, List.map_nil, List.sum_append, List.sum_cons, List.sum_nil, List.append_assoc, List.cons_append, List.nil_append] at *
          omega
        · rw [hd]
          show OutAt (x.ds ++ [dcOf x it]) v _
          rcases ho2 with h | ⟨b', base', N', cap', c', G', h1, h2, h3, h4⟩
          · exact absurd h.1 (by simp)
          · exact .inr ⟨b', base', N', cap', c', G' ++ (G ++ G2), h1, h2, h3, by simpa using h4.append_right (G ++ G2)⟩
        · rw [hd]; exact List.Perm.refl _
      · refine perm_of_sums fun f => ?_
        have e1 := perm_sum hL2 f
        have e2 := perm_sum hG f
        simp only [List.map_append, List.map_cons, List.map_nil, List.sum_append, List.sum_cons, List.sum_nil, List.append_assoc, List.cons_append, List.nil_append] at *
        omega
structure DcX where
  x : DS
  a : DA
  it : QItem
  p : Value
  Li : Blks
def DcPre (y : DcX) (vs : List Value) (L : Blks) : Prop := vs = y.a.args y.p ∧ y.x.ds.length < 1000000 ∧ ItemAt y.it y.p y.Li ∧ ∃ Lx, L.Perm (Lx ++ y.Li) ∧ dState y.x y.a Lx
def DcPost (y : DcX) (r : Bool) (L' : Blks) : Prop := r = decide (y.it.id = y.x.k) ∧ ∃ La, L'.Perm (La ++ y.Li) ∧ dState (dF y.x y.it) y.a La
noncomputable def dcT : Trans := chunkR (X := DcX) (A := Bool) (fun a => .val (.bool a)) DcPre DcPost
theorem dcT_sound : SoundT Go.Proofs.Try.prog 66 dcT := chunkR_sound (val := fun a => .bool a) enters66 (fun a ρ => rfl) (fun a => by simp) fun y vs L ⟨h1, h2, h3, Lx, h4, h5⟩ => by
  subst h1
  exact Triple.mono (dc_triple y.x y.a y.it y.p L Lx y.Li h4 h5 h3 h2) (List.Perm.refl _) fun v L' ⟨k1, k2⟩ => ⟨_, k1, rfl, k2⟩
end Go.Proofs.Ythkcfocoekonjaa
