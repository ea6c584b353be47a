/- Drop: DeleteFunc's and Delete's contracts. -/
import Derived.Test.YthkcfocoekonjaaDrC
set_option maxRecDepth 100000
set_option linter.unusedVariables false
set_option linter.unusedSimpArgs false
namespace Go.Proofs.Ythkcfocoekonjaa
open Go Go.Sx
attribute [local irreducible] Go.Sx.xrun

theorem enters65 : Enters Go.Proofs.Try.prog 65 := ⟨Go.Proofs.Try.f65, Go.Proofs.Try.func65, by kernel_rfl, by kernel_rfl⟩
theorem dc_sound : ∀ p ∈ [(66, dcT)], SoundT Go.Proofs.Try.prog p.1 p.2 := by
  intro p hp
  cases List.mem_singleton.1 hp
  exact dcT_sound
noncomputable def keepI (k : Int) (its : List QItem) : List QItem := its.filter fun it => decide (it.id ≠ k)
theorem keepZ_fst (k : Int) (its : List QItem) : ∀ {vs : List Value}, vs.length = its.length → (keepZ k (its.zip vs)).map Prod.fst = keepI k its := by
  unfold keepZ keepI
  induction its with
  | nil => intro vs h; simp
  | cons a r ih =>
    intro vs h
    match vs, h with
    | v :: vs, h =>
      rw [List.zip_cons_cons, List.filter_cons, List.filter_cons]
      have e := ih (vs := vs) (by simpa using h)
      split
      · rw [List.map_cons, e]
      · exact e
def DfR (x : DS) (a : DA) (its : List QItem) (v : Value) (L' : Blks) : Prop := ∃ (s : RSl) (La Lb : Blks), v = .slice (some ⟨s.b, s.x, none⟩) s.n s.c ∧ s.n = (keepI x.k its).length ∧ L'.Perm (La ++ Lb) ∧ dState (dL x its) a La ∧ LineAt (keepI x.k its) v Lb
theorem df_triple (x : DS) (a : DA) (its : List QItem) (v : Value) (L Lx Ll : Blks) (hL : L.Perm (Lx ++ Ll)) (hx : dState x a Lx) (hi : LineAt its v Ll) (hm : x.ds.length + its.length < 1000000) :
    Triple Go.Proofs.Try.prog 65 [v, .func (.func 66) #[] #[.pointer (some ⟨a.bk, 0, none⟩), .pointer (some ⟨a.bn, 0, none⟩), .pointer (some ⟨a.bs, 0, none⟩), .pointer (some ⟨a.bq, 0, none⟩), .pointer (some ⟨a.bo, 0, none⟩)]] L (DfR x a its) := by
  obtain ⟨y, ⟨y1, y2, y3, y4⟩, rfl, hp⟩ := hi
  refine Triple.mono (triple_of_run (R := DfR x a its) (h := [.own y.b (.tab 126 y.base y.N [.raws y.ps]), .chunk (Lx ++ y.G)]) (args := [.slc 0 y.o its.length y.cap, .fn 66 [.val (.pointer (some ⟨a.bk, 0, none⟩)), .val (.pointer (some ⟨a.bn, 0, none⟩)), .val (.pointer (some ⟨a.bs, 0, none⟩)), .val (.pointer (some ⟨a.bq, 0, none⟩)), .val (.pointer (some ⟨a.bo, 0, none⟩))]])
    (L := (y.b, .tab 126 y.base y.N [.raws y.ps]) :: (Lx ++ y.G)) (run_with dc_sound _ _ _ _ _) (fun r => rfl) (fun r => by simp [owned, Ent.blocks, SBlk.den]) (by simp)
    (df_goal x a y.b y.base y.o y.N its.length y.cap its y.ps _ y.G _ _ _ rfl rfl rfl y1 y2 y3 hm ⟨Lx, List.Perm.refl _, hx⟩ y4 ?_)) ?_ fun v L' h => h
  · intro ps' L' Lx' k1 k2 k3 k4
    have hz : ((y.ps.drop y.o).take its.length).length = its.length := by rw [List.length_take, List.length_drop]; omega
    have hl : (keepZ x.k (its.zip ((y.ps.drop y.o).take its.length))).length = (keepI x.k its).length := by rw [← keepZ_fst x.k its hz, List.length_map]
    have hle : (keepI x.k its).length ≤ its.length := List.length_filter_le _ _
    rw [hl] at k2 ⊢
    refine ⟨⟨y.b, y.base + y.o, (keepI x.k its).length, y.cap⟩, Lx', (y.b, .tab 126 y.base y.N [.raws ps']) :: y.G, rfl, rfl, ?_, k4, { y with ps := ps' }, ⟨by show _ ≤ y.cap; omega, y2, k1, ?_⟩, ?_, List.Perm.refl _⟩
    · refine perm_of_sums fun f => ?_
      have e1 := perm_sum k3 f
      simp only [List.map_append, List.map_cons, List.map_nil, List.sum_append, List.sum_cons, List.sum_nil, List.append_assoc, List.cons_append, List.nil_append] at *
      omega
    · show SepL _ ((keepI x.k its).zip ((ps'.drop y.o).take (keepI x.k its).length)) y.G
      rw [k2, ← keepZ_fst x.k its hz, List.zip_map', List.map_id']
      exact SepL.sub List.filter_sublist y4
    · show _ = Value.slice (some ⟨y.b, (y.base + y.o) * 1, none⟩) _ _
      rw [Nat.mul_one]
  · refine perm_of_sums fun f => ?_
    have e1 := perm_sum hL f
    have e2 := perm_sum hp f
    simp only [List.map_append, List.map_cons, List.map_nil, List.sum_append, List.sum_cons, List.sum_nil, List.append_assoc, List.cons_append, List.nil_append] at *
    omega
structure DfY where
  x : DS
  a : DA
  its : List QItem
  v : Value
def DfPre (y : DfY) (vs : List Value) (L : Blks) : Prop := vs = [y.v, .func (.func 66) #[] #[.pointer (some ⟨y.a.bk, 0, none⟩), .pointer (some ⟨y.a.bn, 0, none⟩), .pointer (some ⟨y.a.bs, 0, none⟩), .pointer (some ⟨y.a.bq, 0, none⟩), .pointer (some ⟨y.a.bo, 0, none⟩)]] ∧
  y.x.ds.length + y.its.length < 1000000 ∧ ∃ Lx Ll, L.Perm (Lx ++ Ll) ∧ dState y.x y.a Lx ∧ LineAt y.its y.v Ll
def DfPost (y : DfY) (s : RSl) (L' : Blks) : Prop := s.n = (keepI y.x.k y.its).length ∧ ∃ La Lb, L'.Perm (La ++ Lb) ∧ dState (dL y.x y.its) y.a La ∧ LineAt (keepI y.x.k y.its) (.slice (some ⟨s.b, s.x, none⟩) s.n s.c) Lb
noncomputable def dfT : Trans := chunkR (X := DfY) (A := RSl) (fun s => .val (.slice (some ⟨s.b, s.x, none⟩) s.n s.c)) DfPre DfPost
theorem dfT_sound : SoundT Go.Proofs.Try.prog 65 dfT := chunkR_sound (val := fun s => .slice (some ⟨s.b, s.x, none⟩) s.n s.c) enters65 (fun a ρ => rfl) (fun a => by simp) fun y vs L ⟨h1, h2, Lx, Ll, h3, h4, h5⟩ => by
  subst h1
  exact Triple.mono (df_triple y.x y.a y.its y.v L Lx Ll h3 h4 h5 h2) (List.Perm.refl _) fun v L' ⟨s, La, Lb, k1, k2, k3, k4, k5⟩ => ⟨s, k1, k2, La, Lb, k3, k4, by rw [← k1]; exact k5⟩
/-! slices.Delete of one number, in the chunk. -/
structure DnX where
  l : List Int
  v : Value
  i : Nat
def DnPre (y : DnX) (vs : List Value) (L : Blks) : Prop := vs = [y.v, .int .i64 y.i, .int .i64 (y.i + 1)] ∧ y.i < y.l.length ∧ y.l.length < 1000000 ∧ WinAt 27 .u16 y.l y.v L
def DnPost (y : DnX) (s : RSl) (L' : Blks) : Prop := s.n = y.l.length - 1 ∧ WinAt 27 .u16 (y.l.eraseIdx y.i) (.slice (some ⟨s.b, s.x, none⟩) s.n s.c) L'
noncomputable def dnT : Trans := chunkR (X := DnX) (A := RSl) (fun s => .val (.slice (some ⟨s.b, s.x, none⟩) s.n s.c)) DnPre DnPost
theorem dnT_sound : SoundT Go.Proofs.Try.prog 67 dnT := chunkR_sound (val := fun s => .slice (some ⟨s.b, s.x, none⟩) s.n s.c) enters67 (fun a ρ => rfl) (fun a => by simp) fun y vs L ⟨h1, h2, h3, w, w1, w2, w3⟩ => by
  subst h1
  obtain ⟨g1, g2, g3, g4⟩ := w1
  rw [w2]
  refine Triple.mono (triple_of_runK (R := fun v L' => ∃ s : RSl, v = .slice (some ⟨s.b, s.x, none⟩) s.n s.c ∧ DnPost y s L') (h := [.own w.b (.tab 27 w.base w.N [.ints .u16 w.zs]), .chunk w.G]) (args := [.slc 0 w.o y.l.length w.cap, .val (.int .i64 y.i), .val (.int .i64 (y.i + 1))])
    (L := (w.b, .tab 27 w.base w.N [.ints .u16 w.zs]) :: w.G) del16T_sound (fun r => rfl) (fun r => by simp [owned, Ent.blocks, SBlk.den]) (by simp)
    (show del16T [.slc 0 w.o y.l.length w.cap, .val (.int .i64 y.i), .val (.int .i64 (y.i + 1))] [.own w.b (.tab 27 w.base w.N [.ints .u16 w.zs]), .chunk w.G] (fun s h' => ∃ (b' base' cap' : Nat) (xs' : List Int), s = .slc 2 0 (y.l.length - 1) cap' ∧ y.l.length - 1 ≤ cap' ∧ xs'.length = cap' ∧
      xs'.take (y.l.length - 1) = y.l.take y.i ++ y.l.drop (y.i + 1) ∧ h' = [.gone (w.b, w.base, 1), .chunk w.G, .own b' (.tab 27 base' cap' [.ints .u16 xs'])]) from
      ⟨⟨by omega, by omega, by omega, g1, g2, h3⟩, fun b' base' cap' xs' k1 k2 k3 => ⟨b', base', cap', xs', rfl, k1, k2, by rw [k3, g4]; rfl, rfl⟩⟩) fun s h' ⟨b', base', cap', xs', e1, e2, e3, e4, e5⟩ => ?_) w3 fun v L' h => h
  subst e1 e5
  refine ⟨⟨b', base' * 1, y.l.length - 1, cap'⟩, by simp [den, locAt, locs, Ent.loc, SBlk.base, SBlk.wd], rfl, ⟨b', base', 0, cap', cap', xs', w.G⟩, ⟨?_, by simp, e3, ?_⟩, ?_, ?_⟩
  · rw [List.length_eraseIdx]; split <;> omega
  · rw [List.eraseIdx_eq_take_drop_succ]
    have hl : (y.l.take y.i ++ y.l.drop (y.i + 1)).length = y.l.length - 1 := by rw [List.length_append, List.length_take, List.length_drop]; omega
    rw [hl, List.drop_zero]; exact e4
  · have hl : (y.l.eraseIdx y.i).length = y.l.length - 1 := by rw [List.length_eraseIdx, if_pos h2]
    rw [hl]
    show _ = Value.slice (some ⟨b', (base' + 0) * 1, none⟩) _ _
    rfl
  · refine perm_of_sums fun f => ?_
    simp only [owned, Ent.blocks, SBlk.den, locs, Ent.loc, SBlk.base, SBlk.wd]
    simp only [List.map_append, List.map_cons, List.map_nil, List.sum_append, List.sum_cons, List.sum_nil, List.append_assoc, List.cons_append, List.nil_append] at *
    omega
end Go.Proofs.Ythkcfocoekonjaa
