/- Span: the methods as contracts over a chunk. -/
import Derived.Test.YtmjhfnmkegdafaaSpN
set_option maxRecDepth 100000
set_option linter.unusedVariables false
set_option linter.unusedSimpArgs false
namespace Go.Proofs.Ytmjhfnmkegdafaa
open Go Go.Sx

def retI (n : Int) : SV := .val (.int .i64 n)
def retM (n : Int) : SV := .val (.int .u32 n)
def retP (p : Prop) : SV := .prop p
def retB (b : Nat) : SV := .val (.pointer (some ⟨b, 0, none⟩))
structure VS where
  a : Option Addr
  n : Nat
  c : Nat
def retV (s : VS) : SV := .val (.slice s.a s.n s.c)

/-- An added number: the answer, the mark and the rows behind it. -/
def AddS (mark : Int) (rows : List (Int × Int)) (t n mark' : Int) (rows' : List (Int × Int)) : Prop :=
  (¬ lessF mark t ∧ n = 1 ∧ mark' = mark ∧ rows' = rows) ∨ (lessF mark t ∧ 4096 < distF mark t ∧ n = 2 ∧ mark' = mark ∧ rows' = rows) ∨
  (lessF mark t ∧ distF mark t ≤ 4096 ∧ Has (distF mark t) rows ∧ n = 1 ∧ mark' = mark ∧ rows' = rows) ∨
  (lessF mark t ∧ distF mark t ≤ 4096 ∧ ¬ Has (distF mark t) rows ∧ n = 0 ∧ ∃ i, Place (distF mark t) rows i ∧ mark' = (settleF mark (addF (distF mark t) i rows)).1 ∧ rows' = (settleF mark (addF (distF mark t) i rows)).2)
/-- A skip. -/
def SkipS (mark : Int) (rows : List (Int × Int)) (t : Int) (p : Prop) (mark' : Int) (rows' : List (Int × Int)) : Prop :=
  (¬ lessF mark t ∧ (p ↔ False) ∧ mark' = mark ∧ rows' = rows) ∨
  (lessF mark t ∧ (p ↔ True) ∧ mark' = (settleF (IntKind.wrap .u32 (mark + distF mark t)) (mvRows (distF mark t) rows)).1 ∧ rows' = (settleF (IntKind.wrap .u32 (mark + distF mark t)) (mvRows (distF mark t) rows)).2)

structure SX where
  b : Nat
  mark : Int
  rows : List (Int × Int)
structure TX where
  b : Nat
  mark : Int
  rows : List (Int × Int)
  t : Int
structure WX where
  l : List (Int × Int)
  l' : List (Int × Int)
  v : Value
  v' : Value

noncomputable def newT : Trans := chunkR retB (fun (m : Int) vs L => vs = [.int .u32 m] ∧ L = []) fun m b L' => SetRep b m [] L'
noncomputable def addT : Trans := chunkR retI (fun (x : TX) vs L => vs = [.pointer (some ⟨x.b, 0, none⟩), .int .u32 x.t] ∧ SetRep x.b x.mark x.rows L ∧ Good x.rows)
  fun x n L' => ∃ mark' rows', AddS x.mark x.rows x.t n mark' rows' ∧ SetRep x.b mark' rows' L'
noncomputable def skipT : Trans := chunkR retP (fun (x : TX) vs L => vs = [.pointer (some ⟨x.b, 0, none⟩), .int .u32 x.t] ∧ SetRep x.b x.mark x.rows L ∧ Good x.rows)
  fun x p L' => ∃ mark' rows', SkipS x.mark x.rows x.t p mark' rows' ∧ SetRep x.b mark' rows' L'
noncomputable def markT : Trans := chunkR retM (fun (x : SX) vs L => vs = [.pointer (some ⟨x.b, 0, none⟩)] ∧ SetRep x.b x.mark x.rows L) fun x n L' => n = x.mark ∧ SetRep x.b x.mark x.rows L'
noncomputable def hasT : Trans := chunkR retP (fun (x : TX) vs L => vs = [.pointer (some ⟨x.b, 0, none⟩), .int .u32 x.t] ∧ SetRep x.b x.mark x.rows L ∧ Good x.rows) fun x p L' => (p ↔ hasF x.mark x.rows x.t) ∧ SetRep x.b x.mark x.rows L'
noncomputable def gapsT : Trans := chunkR retV (fun (x : TX) vs L => vs = [.pointer (some ⟨x.b, 0, none⟩), .int .i64 x.t] ∧ SetRep x.b x.mark x.rows L ∧ Good x.rows) fun x s L' => GpR x.b x.mark x.t x.rows (.slice s.a s.n s.c) L'
noncomputable def lenT : Trans := chunkR retI (fun (x : SX) vs L => vs = [.pointer (some ⟨x.b, 0, none⟩)] ∧ SetRep x.b x.mark x.rows L ∧ Good x.rows) fun x n L' => n = lenF x.rows ∧ SetRep x.b x.mark x.rows L'
noncomputable def sameT : Trans := chunkR retP (fun (x : WX) vs L => vs = [x.v, x.v'] ∧ x.l.length < 1000000 ∧ ∃ L1 L2, L = L1 ++ L2 ∧ GapsAt x.l x.v L1 ∧ GapsAt x.l' x.v' L2) fun x p L' => p ↔ x.l = x.l'

theorem enters10 : Enters Go.Proofs.Try.prog 10 := ⟨Go.Proofs.Try.f10, Go.Proofs.Try.func10, by kernel_rfl, by kernel_rfl⟩
theorem enters11 : Enters Go.Proofs.Try.prog 11 := ⟨Go.Proofs.Try.f11, Go.Proofs.Try.func11, by kernel_rfl, by kernel_rfl⟩
theorem enters12 : Enters Go.Proofs.Try.prog 12 := ⟨Go.Proofs.Try.f12, Go.Proofs.Try.func12, by kernel_rfl, by kernel_rfl⟩
theorem enters13 : Enters Go.Proofs.Try.prog 13 := ⟨Go.Proofs.Try.f13, Go.Proofs.Try.func13, by kernel_rfl, by kernel_rfl⟩
theorem enters14 : Enters Go.Proofs.Try.prog 14 := ⟨Go.Proofs.Try.f14, Go.Proofs.Try.func14, by kernel_rfl, by kernel_rfl⟩
theorem enters18 : Enters Go.Proofs.Try.prog 18 := ⟨Go.Proofs.Try.f18, Go.Proofs.Try.func18, by kernel_rfl, by kernel_rfl⟩
theorem enters20 : Enters Go.Proofs.Try.prog 20 := ⟨Go.Proofs.Try.f20, Go.Proofs.Try.func20, by kernel_rfl, by kernel_rfl⟩
theorem enters21 : Enters Go.Proofs.Try.prog 21 := ⟨Go.Proofs.Try.f21, Go.Proofs.Try.func21, by kernel_rfl, by kernel_rfl⟩

theorem Triple.to {P : Program} {f : FuncId} {vs : List Value} {L : Blks} {R R' : Value → Blks → Prop} (h : Triple P f vs L R) (hr : ∀ v L', R v L' → R' v L') : Triple P f vs L R' := h.mono (List.Perm.refl _) hr

theorem newT_sound : SoundT Go.Proofs.Try.prog 10 newT := chunkR_sound (val := fun b => .pointer (some ⟨b, 0, none⟩)) enters10 (fun a ρ => rfl) (fun a => by simp [retB]) fun m vs L ⟨h1, h2⟩ => by
  subst h1 h2
  exact Triple.to (new_triple m) fun v L' h => h
theorem addT_sound : SoundT Go.Proofs.Try.prog 11 addT := chunkR_sound (val := fun n => .int .i64 n) enters11 (fun a ρ => rfl) (fun a => by simp [retI]) fun ⟨b, mark, rows, t⟩ vs L ⟨h1, h2, h3⟩ => by
  subst h1
  refine Triple.to (add_triple t h2 h3.len' h3.rising) fun v L' ⟨k1, k2, k3⟩ => ?_
  by_cases hl : lessF mark t
  · by_cases hd : 4096 < distF mark t
    · have hd' := hd
      obtain ⟨rfl, k⟩ := k2 hl hd
      exact ⟨2, rfl, mark, rows, .inr (.inl ⟨hl, hd, rfl, rfl, rfl⟩), k⟩
    · have hd' : distF mark t ≤ 4096 := by omega
      rcases k3 hl hd with ⟨rfl, k, k'⟩ | ⟨rfl, i, k, k'⟩
      · exact ⟨1, rfl, mark, rows, .inr (.inr (.inl ⟨hl, hd', known_iff.1 k, rfl, rfl, rfl⟩)), k'⟩
      · exact ⟨0, rfl, _, _, .inr (.inr (.inr ⟨hl, hd', place_known k h3, rfl, i, k, rfl, rfl⟩)), k'⟩
  · obtain ⟨rfl, k⟩ := k1 hl
    exact ⟨1, rfl, mark, rows, .inl ⟨hl, rfl, rfl, rfl⟩, k⟩
open Classical in
theorem skipT_sound : SoundT Go.Proofs.Try.prog 14 skipT := chunkR_sound (val := fun p => .bool (decide p)) enters14 (fun a ρ => rfl) (fun a => by simp [retP]) fun ⟨b, mark, rows, t⟩ vs L ⟨h1, h2, h3⟩ => by
  subst h1
  refine Triple.to (skip_triple t h2 (by have := h3.len'; simp only at this ⊢; omega)) fun v L' ⟨k1, k2⟩ => ?_
  by_cases hl : lessF mark t
  · obtain ⟨rfl, k⟩ := k1 hl
    exact ⟨True, by simp, _, _, .inr ⟨hl, Iff.rfl, rfl, rfl⟩, k⟩
  · obtain ⟨rfl, k⟩ := k2 hl
    exact ⟨False, by simp, mark, rows, .inl ⟨hl, Iff.rfl, rfl, rfl⟩, k⟩
theorem markT_sound : SoundT Go.Proofs.Try.prog 12 markT := chunkR_sound (val := fun n => .int .u32 n) enters12 (fun a ρ => rfl) (fun a => by simp [retM]) fun ⟨b, mark, rows⟩ vs L ⟨h1, h2⟩ => by
  subst h1
  exact Triple.to (mark_triple h2) fun v L' ⟨k1, k2⟩ => ⟨mark, k1, rfl, k2⟩
open Classical in
theorem hasT_sound : SoundT Go.Proofs.Try.prog 13 hasT := chunkR_sound (val := fun p => .bool (decide p)) enters13 (fun a ρ => rfl) (fun a => by simp [retP]) fun ⟨b, mark, rows, t⟩ vs L ⟨h1, h2, h3⟩ => by
  subst h1
  exact Triple.to (has_triple t h2 (by have := h3.len'; simp only at this ⊢; omega) h3.rising) fun v L' ⟨p, k1, k2⟩ => ⟨p, k1, k2⟩
theorem gapsT_sound : SoundT Go.Proofs.Try.prog 18 gapsT := chunkR_sound (val := fun s => .slice s.a s.n s.c) enters18 (fun a ρ => rfl) (fun a => by simp [retV]) fun ⟨b, mark, rows, t⟩ vs L ⟨h1, h2, h3⟩ => by
  subst h1
  exact Triple.to (gaps_triple t h2 (by have := h3.len'; simp only at this ⊢; omega)) fun v L' k => by
    obtain ⟨L1, L2, k1, k2, k3⟩ := k
    rcases k2 with ⟨e, rfl⟩ | ⟨b1, base, cap, xs, ys, G, rfl, k4⟩
    · exact ⟨⟨none, 0, 0⟩, rfl, L1, L2, k1, .inl ⟨e, rfl⟩, k3⟩
    · exact ⟨⟨some ⟨b1, base * 2, none⟩, _, cap⟩, rfl, L1, L2, k1, .inr ⟨b1, base, cap, xs, ys, G, rfl, k4⟩, k3⟩
theorem lenT_sound : SoundT Go.Proofs.Try.prog 20 lenT := chunkR_sound (val := fun n => .int .i64 n) enters20 (fun a ρ => rfl) (fun a => by simp [retI]) fun ⟨b, mark, rows⟩ vs L ⟨h1, h2, h3⟩ => by
  subst h1
  exact Triple.to (len_triple h2 (by have := h3.len'; simp only at this ⊢; omega)) fun v L' ⟨k1, k2⟩ => ⟨_, k1, rfl, k2⟩
open Classical in
theorem sameT_sound : SoundT Go.Proofs.Try.prog 21 sameT := chunkR_sound (val := fun p => .bool (decide p)) enters21 (fun a ρ => rfl) (fun a => by simp [retP]) fun ⟨l, l', v, v'⟩ vs L ⟨h1, h2, L1, L2, h3, h4, h5⟩ => by
  subst h1 h3
  exact Triple.to (same_triple h4 h5 h2) fun r L' ⟨p, k1, k2⟩ => ⟨p, k1, k2⟩

theorem findT_sound {P : Program} : ∀ {l : List (FuncId × Trans)}, (∀ p ∈ l, SoundT P p.1 p.2) → ∀ g T, findT l g = some T → SoundT P g T
  | [], _, _, _, h => by cases h
  | (f, T0) :: r, hl, g, T, h => by
    simp only [findT] at h
    cases hb : Nat.beq f g with
    | true =>
      rw [hb] at h
      have := Nat.eq_of_beq_eq_true hb
      subst this
      cases h
      exact hl (f, T0) (by simp)
    | false =>
      rw [hb] at h
      exact findT_sound (fun p hp => hl p (by simp [hp])) g T h

noncomputable def tblT : List (FuncId × Trans) := [(10, newT), (11, addT), (12, markT), (13, hasT), (14, skipT), (18, gapsT), (20, lenT), (21, sameT)]
theorem tbl_sound : ∀ p ∈ tblT, SoundT Go.Proofs.Try.prog p.1 p.2 := by
  intro p hp
  simp only [tblT, List.mem_cons, List.not_mem_nil, or_false] at hp
  rcases hp with rfl | rfl | rfl | rfl | rfl | rfl | rfl | rfl
  · exact newT_sound
  · exact addT_sound
  · exact markT_sound
  · exact hasT_sound
  · exact skipT_sound
  · exact gapsT_sound
  · exact lenT_sound
  · exact sameT_sound
theorem run_tbl (ann : List (Nat × FnAnn)) (hs : Hints) (d : Nat) (path : List Nat) (g : FuncId) : SoundT Go.Proofs.Try.prog g (xrun Go.Proofs.Try.prog tblT ann hs d path g) :=
  xrun_sound mixed no_numG (findT_sound tbl_sound) d path g
end Go.Proofs.Ytmjhfnmkegdafaa
