/- Flights: Ack. -/
import Derived.Test.YthkcfocoekonjaaFlP
set_option maxRecDepth 100000
set_option linter.unusedVariables false
set_option linter.unusedSimpArgs false
namespace Go.Proofs.Ythkcfocoekonjaa
open Go Go.Sx
attribute [local irreducible] Go.Sx.xrun

structure AkX where
  i : Nat
  bytes : Int
  rtt : Int
  top : Int
  L : Blks
structure MsX where
  i : Nat
  lost : Bool
  L : Blks
def Ann.setE : List Ent → Nat → Ent → List Ent
  | [], _, _ => []
  | _ :: r, 0, e => e :: r
  | x :: r, n + 1, e => x :: Ann.setE r n e
def Ann.setL : List SV → Nat → SV → List SV
  | [], _, _ => []
  | _ :: r, 0, e => e :: r
  | x :: r, n + 1, e => x :: Ann.setL r n e
/-- This cell of the block at this position. -/
def Ann.putC : List Ent → Nat → Nat → SV → List Ent
  | [], _, _, _ => []
  | .own b (.cells k l t) :: r, 0, j, v => .own b (.cells k (Ann.setL l j v) t) :: r
  | x :: r, 0, _, _ => x :: r
  | x :: r, n + 1, j, v => x :: Ann.putC r n j v
noncomputable def Ann.akH (σ : St) (y : AkX) (top : Nat) : List Ent := Ann.putC (Ann.putC (Ann.putC (Ann.setE σ.heap 0 (.chunk y.L)) 5 0 (.val (.int .i64 y.bytes))) 5 3 (.val (.int .i64 y.rtt))) top 0 (.val (.int .i64 y.top))
noncomputable def Ann.ak (tp n ng : Nat) (P9 : Nat → Int → Int → Int → Blks → Prop) (P14 : Nat → Int → Int → Int → Blks → Prop) (P17 : Nat → Nat → Int → Int → Int → Blks → Prop) (m17 : Nat → Nat → Nat) (P22 : Nat → Bool → Blks → Prop) (m22 : Nat) : FnAnn :=
  ⟨[(69, .to RSl fun s => .val (.slice (some ⟨s.b, s.x, none⟩) s.n s.c)), (77, .to Nat fun b => .val (.pointer (some ⟨b, 0, none⟩))), (112, .to RSl fun s => .val (.slice (some ⟨s.b, s.x, none⟩) s.n s.c))],
   [(9, ⟨AkX, [(fun σ y => ⟨σ.n, (35, .val (.int .i64 y.i)) :: keepE σ.env [3, 4, 5, 6, 7, 8, 9, 10, 34], Ann.akH σ y tp⟩, fun _ y => P9 y.i y.bytes y.rtt y.top y.L)], fun y => n - y.i⟩),
    (14, ⟨AkX, [(fun σ y => ⟨σ.n, (45, .val (.int .i64 y.i)) :: keepE σ.env [3, 4, 5, 6, 7, 8, 9, 10, 43, 44], Ann.akH σ y tp⟩, fun _ y => P14 y.i y.bytes y.rtt y.top y.L)], fun y => ng - y.i⟩),
    (17, ⟨Nat × AkX, [(fun σ y => ⟨σ.n, (14, .val (.int .i64 y.2.i)) :: keepE σ.env [3, 4, 5, 6, 7, 8, 9, 10, 13, 43, 44, 45], Ann.akH σ y.2 tp⟩, fun x0 y => y.1 = x0.1 ∧ P17 y.1 y.2.i y.2.bytes y.2.rtt y.2.top y.2.L)], fun y => m17 y.1 y.2.i⟩),
    (22, ⟨MsX, [(fun σ y => ⟨σ.n, (74, .val (.int .i64 y.i)) :: keepE σ.env [3, 4, 5, 6, 7, 8, 72, 73], Ann.putC (Ann.setE σ.heap 0 (.chunk y.L)) 5 2 (.val (.bool y.lost))⟩, fun _ y => P22 y.i y.lost y.L)], fun y => m22 - y.i⟩)]⟩
noncomputable def Ann.arr : FnAnn := ⟨[(13, .to Nat fun b => .val (.pointer (some ⟨b, 0, none⟩)))], []⟩
noncomputable def akGoal (b : Nat) (s : Sk) (now : Int) (L : Blks) (tp n ng : Nat) (P9 : Nat → Int → Int → Int → Blks → Prop) (P14 : Nat → Int → Int → Int → Blks → Prop) (P17 : Nat → Nat → Int → Int → Int → Blks → Prop) (m17 : Nat → Nat → Nat) (P22 : Nat → Bool → Blks → Prop) (m22 : Nat) (R : Value → Blks → Prop) : Prop :=
  xrun Go.Proofs.Try.prog [(56, badT)] [(24, Ann.ak tp n ng P9 P14 P17 m17 P22 m22), (58, Ann.arr)] [] 9 [] 24 [.val (.pointer (some ⟨b, 0, none⟩)), s.sv, .val (.int .u32 now)] [.chunk L] fun s h => R (den (locs h) s) (owned (locs h) h)
noncomputable def akSGoal (b : Nat) (s : Sk) (now : Int) (L : Blks) (n ng : Nat) (P9 : Nat → Int → Int → Int → Blks → Prop) (P14 : Nat → Int → Int → Int → Blks → Prop) (P17 : Nat → Nat → Int → Int → Int → Blks → Prop) (m17 : Nat → Nat → Nat) (P22 : Nat → Bool → Blks → Prop) (m22 : Nat) (R : Value → Blks → Prop) : Prop :=
  akGoal b s now L 6 n ng P9 P14 P17 m17 P22 m22 R

noncomputable def Ann.akN : FnAnn :=
  ⟨[(69, .to Unit fun _ => .val (.slice none 0 0)), (112, .to Unit fun _ => .val (.slice none 0 0))],
   [(9, ⟨Unit, [(fun σ y => ⟨σ.n, (35, .val (.int .i64 0)) :: keepE σ.env [3, 4, 5, 6, 7, 8, 9, 10, 34], σ.heap⟩, fun _ y => y = ())], fun y => 0⟩),
    (14, ⟨Unit, [(fun σ y => ⟨σ.n, (45, .val (.int .i64 0)) :: keepE σ.env [3, 4, 5, 6, 7, 8, 9, 10, 43, 44], σ.heap⟩, fun _ y => y = ())], fun y => 0⟩),
    (17, ⟨Unit, [(fun σ y => ⟨σ.n, keepE σ.env [3, 4, 5, 6, 7, 8, 9, 10, 13, 43, 44, 45], σ.heap⟩, fun _ y => False)], fun y => 0⟩),
    (22, ⟨Unit, [(fun σ y => ⟨σ.n, (74, .val (.int .i64 0)) :: keepE σ.env [3, 4, 5, 6, 7, 8, 72, 73], σ.heap⟩, fun _ y => y = ())], fun y => 0⟩)]⟩
noncomputable def akNGoal (b : Nat) (s : Sk) (now : Int) (L : Blks) (R : Value → Blks → Prop) : Prop :=
  xrun Go.Proofs.Try.prog [(56, badT)] [(24, Ann.akN), (58, Ann.arr)] [([], (36, false)), ([], (46, false)), ([], (75, false))] 9 [] 24 [.val (.pointer (some ⟨b, 0, none⟩)), s.sv, .val (.int .u32 now)] [.chunk L] fun s h => R (den (locs h) s) (owned (locs h) h)

def AO.val (a : AO) : Value := .agg #[.int .i64 a.bytes, .bool a.on, .bool a.lost, .int .i64 a.rtt, .bool a.bad]
/-- What a call of Ack leaves. -/
def AkR (f : Fl) (s : Sk) (gs : List (Int × Int)) (now : Int) (b : Nat) (v : Value) (L' : Blks) : Prop := v = (ackF f s gs now).val ∧ FlAt (ackF f s gs now).f b L' ∧ GapsAt gs s L'
theorem GapsAt.mem {gs : List (Int × Int)} {s : Sk} {L L' : Blks} (h : GapsAt gs s L) (hm : ∀ q ∈ L, q ∈ L') : GapsAt gs s L' := by
  refine ⟨h.1, fun i g hg => ?_⟩
  obtain ⟨gb, gx, e, ⟨k1, q1, q2⟩, k2, q3, q4⟩ := h.2 i g hg
  exact ⟨gb, gx, e, ⟨k1, hm _ q1, q2⟩, k2, hm _ q3, q4⟩
def gapsR (gs : List (Int × Int)) : Prop := ∀ g ∈ gs, (0 ≤ g.1 ∧ g.1 < 65536) ∧ (0 ≤ g.2 ∧ g.2 < 65536)
theorem gapsBad_not {far : Int} : ∀ {gs : List (Int × Int)} {ahead : Int}, ¬ gapsBad far ahead gs → ∀ g ∈ gs, ¬ IntKind.wrap .i64 g.1 < 2 ∧ ¬ g.2 < g.1 ∧ ¬ far < IntKind.wrap .u32 g.2
  | [], _, _, g, hg => by simp at hg
  | a :: r, ahead, h, g, hg => by
    simp only [gapsBad, not_or] at h
    obtain ⟨h1, h2, h3, h4⟩ := h
    rcases List.mem_cons.1 hg with rfl | hg
    · exact ⟨by omega, h2, h3⟩
    · exact gapsBad_not h4 g hg
theorem not_bad {f : Fl} {s : Sk} {gs : List (Int × Int)} (h : ¬ badP f s gs) (hl : f.ps.length < 1000000) (hr : gapsR gs) : IntKind.wrap .i64 (IntKind.wrap .u32 (s.tsn - f.mark)) = (ackN f s : Int) ∧ ackN f s ≤ f.ps.length ∧ ∀ g ∈ gs, 2 ≤ g.1 ∧ g.1 ≤ g.2 ∧ g.2 + ackN f s ≤ f.ps.length := by
  unfold badP at h
  simp only [not_or, Classical.not_not] at h
  obtain ⟨h1, h2, h3⟩ := h
  unfold ackN
  have hlast : lastN f.mark f.ps.length = IntKind.wrap .u32 (f.mark + f.ps.length) := by
    unfold lastN nextN
    simp only [IntKind.wrap_u32]
    omega
  rw [hlast] at h2 h3
  simp only [IntKind.wrap_i64, IntKind.wrap_u32] at h2 ⊢
  refine ⟨by omega, by omega, fun g hg => ?_⟩
  obtain ⟨k1, k2, k3⟩ := gapsBad_not h3 g hg
  obtain ⟨r1, r2⟩ := hr g hg
  simp only [IntKind.wrap_i64, IntKind.wrap_u32] at k1 k3
  refine ⟨by omega, by omega, ?_⟩
  omega
theorem idx_lt {n N : Nat} {gs : List (Int × Int)} (hn : n ≤ N) (hg : ∀ g ∈ gs, 2 ≤ g.1 ∧ g.1 ≤ g.2 ∧ g.2 + n ≤ N) : ∀ k ∈ idxs n gs, k < N := by
  intro k hk
  unfold idxs at hk
  rcases List.mem_append.1 hk with hk | hk
  · have := List.mem_range.1 hk; omega
  · obtain ⟨g, h1, h2⟩ := List.mem_flatMap.1 hk
    obtain ⟨d, h3, rfl⟩ := List.mem_map.1 h2
    have := List.mem_range.1 h3
    have := hg g h1
    omega
theorem foldl_top {now : Int} {N : Nat} : ∀ (l : List Nat) (s : AS), (∀ k ∈ l, k < N) → s.top < N → (l.foldl (arr1 now) s).top < N
  | [], s, _, h => h
  | k :: r, s, hl, h => by
    rw [List.foldl_cons]
    refine foldl_top r _ (fun x hx => hl x (by simp [hx])) ?_
    have hk := hl k (by simp)
    unfold arr1
    split
    · exact h
    · split
      · exact h
      · split <;> (show (k : Int) < N; omega)
theorem range_foldl {α : Type} (g : α → Nat → α) (a : α) (i : Nat) : (List.range (i + 1)).foldl g a = g ((List.range i).foldl g a) i := by rw [List.range_succ, List.foldl_append]; rfl
theorem ackS_len (now : Int) (ps : List Pc) (l : List Nat) : (ackS now ps l).ps.length = ps.length := foldl_len now l _
theorem ackS_snoc (now : Int) (ps : List Pc) (l : List Nat) (k : Nat) : ackS now ps (l ++ [k]) = arr1 now (ackS now ps l) k := by unfold ackS; rw [List.foldl_append]; rfl
theorem mis_step {mark : Int} {b : Nat} {pv : Value} {gm : Nat} {gs : List (Int × Int)} {s : Sk} {ps : List Pc} {m : Nat} {L : Blks} (h : AJ mark b pv gm gs s (misS ps m).1 L) (hm : m < ps.length) (K : Bool → Blks → Prop)
    (hK : ∀ L', AJ mark b pv gm gs s (misS ps (m + 1)).1 L' → K (misS ps (m + 1)).2 L') : ∃ o c sb sx pb, pv = .slice o ps.length c ∧ o = some ⟨sb, sx, none⟩ ∧ rawCell L sb (sx + m) (.pointer (some ⟨pb, 0, none⟩)) ∧
      ∃ n : Int, rawCell L pb 25 (.int .i64 n) ∧ (¬ n = 0 → K (misS ps m).2 L) ∧ (n = 0 → ∃ n1 : Int, rawCell L pb 24 (.int .i64 n1) ∧ ∃ (k : Blk) (G : Blks), L.Perm ((pb, k) :: G) ∧ ∃ k1, k.upd 24 (.int .i64 (IntKind.wrap .i64 (n1 + 1))) k1 ∧
        ∃ n2 : Int, rawCell ((pb, k1) :: G) pb 24 (.int .i64 n2) ∧ (n2 = 3 → ∃ (k : Blk) (G1 : Blks), ((pb, k1) :: G).Perm ((pb, k) :: G1) ∧ ∃ k2, k.upd 25 (.int .i64 1) k2 ∧ K true ((pb, k2) :: G1)) ∧ (¬ n2 = 3 → K (misS ps m).2 ((pb, k1) :: G))) := by
  have hlen : (misS ps m).1.length = ps.length := misS_len _ _
  obtain ⟨p, hp⟩ : ∃ p, (misS ps m).1[m]? = some p := ⟨(misS ps m).1[m], by simp [hlen, hm]⟩
  obtain ⟨o, c, sb, sx, pb, l, G, rfl, rfl, e3, e4, e5, e6⟩ := h.store hp
  have hmem : (pb, Blk.cells l 139) ∈ L := e5.mem_iff.2 (by simp)
  obtain ⟨g1, ⟨bo, bc, g2⟩, g3, g4, g5, g6⟩ := id e4
  have hstep : misS ps (m + 1) = mis1 (misS ps m) m := range_foldl _ _ _
  have hmi := ok_missed e4 (IntKind.wrap .i64 (p.missed + 1))
  refine ⟨_, c, sb, sx, pb, by rw [hlen], rfl, e3, p.how, rc hmem g6, fun q => ?_, fun q => ⟨p.missed, rc hmem g5, _, G, e5, _, upd_missed e4 _, IntKind.wrap .i64 (p.missed + 1), rc (t := 139) (l := l.set 24 (.int .i64 (IntKind.wrap .i64 (p.missed + 1)))) (by simp) (by rw [List.getElem?_set_self (by omega)]), fun q3 => ⟨_, G, List.Perm.refl _, _, upd_how hmi 1, ?_⟩, fun q3 => ?_⟩⟩
  · have e : misS ps (m + 1) = misS ps m := by rw [hstep]; simp [mis1, hp, q]
    have := hK L
    rw [e] at this
    exact this h
  · have e : misS ps (m + 1) = ((misS ps m).1.set m { p with missed := IntKind.wrap .i64 (p.missed + 1), how := 1 }, true) := by
      rw [hstep]; unfold mis1; simp only [hp]; rw [if_pos q, if_pos q3]
    have := hK ((pb, .cells ((l.set 24 (.int .i64 (IntKind.wrap .i64 (p.missed + 1)))).set 25 (.int .i64 1)) 139) :: G)
    rw [e] at this
    exact this (e6 _ _ (ok_how hmi 1))
  · have e : misS ps (m + 1) = ((misS ps m).1.set m { p with missed := IntKind.wrap .i64 (p.missed + 1) }, (misS ps m).2) := by
      rw [hstep]; unfold mis1; simp only [hp]; rw [if_pos q, if_neg q3]
    have := hK ((pb, .cells (l.set 24 (.int .i64 (IntKind.wrap .i64 (p.missed + 1)))) 139) :: G)
    rw [e] at this
    exact this (e6 _ _ hmi)

theorem AkR.more {f : Fl} {s : Sk} {gs : List (Int × Int)} {now : Int} {b : Nat} {v : Value} {L : Blks} (h : AkR f s gs now b v L) (G : Blks) : AkR f s gs now b v (L ++ G) := ⟨h.1, h.2.1.more G, h.2.2.mem fun q hq => List.mem_append_left _ hq⟩
def AkI (f : Fl) (s : Sk) (gs : List (Int × Int)) (now : Int) (b : Nat) (pv : Value) (gm : Nat) (l : List Nat) (bytes rtt top : Int) (L : Blks) : Prop :=
  (bytes = (ackS now f.ps l).bytes ∧ rtt = (ackS now f.ps l).rtt ∧ top = (ackS now f.ps l).top) ∧ AJ f.mark b pv gm gs s (ackS now f.ps l).ps L
def gapPart (n : Nat) (g : Int × Int) (i : Nat) : List Nat := (List.range (i - g.1.toNat)).map fun d => n + g.1.toNat + d - 1
theorem gapPart_succ (n : Nat) (g : Int × Int) {i : Nat} (h : g.1.toNat ≤ i) : gapPart n g (i + 1) = gapPart n g i ++ [n + i - 1] := by
  unfold gapPart
  rw [show i + 1 - g.1.toNat = (i - g.1.toNat) + 1 by omega, List.range_succ, List.map_append, List.map_singleton]
  congr 2
  omega
theorem gapPart_all {n : Nat} {g : Int × Int} (h : 0 ≤ g.1 ∧ g.1 ≤ g.2) : gapPart n g (g.2.toNat + 1) = gapIdx n g := by
  unfold gapPart gapIdx
  congr 2
  omega
theorem zip_drop (ps : List Pc) (vs : List Value) (n : Nat) (hl : vs.length = ps.length) : ps.zip vs = (ps.take n).zip (vs.take n) ++ (ps.drop n).zip (vs.drop n) := by
  rw [← List.zip_append (by simp [hl]), List.take_append_drop, List.take_append_drop]
theorem idx_wrap {n i : Nat} (h : 1 ≤ i) (h2 : n + i < 10000000) : IntKind.wrap .i64 (IntKind.wrap .i64 ((n : Int) + (i : Int)) - 1) = ((n + i - 1 : Nat) : Int) := by
  simp only [IntKind.wrap_i64]
  omega
theorem ackS_top {now : Int} {ps : List Pc} {l : List Nat} (h : ∀ k ∈ l, k < ps.length) : (ackS now ps l).top < (ps.length : Int) := foldl_top l _ h (by show (-1 : Int) < _; omega)
theorem slice_eq {a b : Addr} {n m c d : Nat} (h : Value.slice (some a) n c = Value.slice (some b) m d) : a = b ∧ n = m ∧ c = d := by
  injection h with h1 h2 h3
  exact ⟨Option.some.inj h1, h2, h3⟩
/-- What is left behind the first n pieces, in a new table. -/
theorem fl_last {mark tsn : Int} {b gm n : Nat} {gs : List (Int × Int)} {s : Sk} {ps : List Pc} {rs : RSl} {L : Blks} (h : AJ mark b (.slice (some ⟨rs.b, rs.x, none⟩) rs.n rs.c) gm gs s ps L) (hn : n ≤ ps.length) (hrn : rs.n = ps.length) :
    ∃ G xs, L.Perm ((b, .cells [.int .u32 mark, .slice (some ⟨rs.b, rs.x, none⟩) rs.n rs.c, .map (some gm)] 134) :: G) ∧ xs.length = rs.n - n ∧
      GapsAt gs s G ∧ (∀ k1, rawTab ((b, k1) :: G) rs.b (if rs.c = n then rs.x else rs.x + n) (rs.n - n) [.raws xs]) ∧
      ∀ (b7 base cap' : Nat) (sp : List Value), rs.n - n ≤ cap' → sp.length = cap' - (rs.n - n) → FlAt ⟨tsn, ps.drop n⟩ b ((b, .cells [.int .u32 tsn, .slice (some ⟨b7, base, none⟩) (rs.n - n) cap', .map (some gm)] 134) :: (G ++ [(b7, .tab 136 base cap' [.raws (xs ++ sp)])])) := by
  obtain ⟨Lf, Lg, p1, ⟨Lp, p2, p3⟩, p4⟩ := h
  simp only at p2 p3
  rcases p3 with ⟨-, h0⟩ | ⟨x, ⟨a1, a2, a3, a4⟩, a5, a6⟩
  · cases h0
  · unfold PX.val at a5
    obtain ⟨e1, e2, e3⟩ := slice_eq a5
    simp only [Addr.mk.injEq, and_true] at e1
    obtain ⟨e4, e5⟩ := e1
    have hvl : ((x.ps.drop x.o).take ps.length).length = ps.length := by rw [List.length_take, List.length_drop]; omega
    refine ⟨Lp ++ Lg, ((x.ps.drop x.o).take ps.length).drop n, p1.trans (by simpa using p2.append_right Lg), by rw [List.length_drop, hvl, hrn], p4.mem fun q hq => List.mem_append_right _ hq, fun k1 => ?_, fun b7 base cap' sp c1 c2 => ?_⟩
    · have hmem : (rs.b, Blk.tab 136 x.base x.N [.raws x.ps]) ∈ (b, k1) :: (Lp ++ Lg) := by
        rw [e4]
        exact List.mem_cons_of_mem _ (List.mem_append_left _ (a6.mem_iff.2 (by simp)))
      by_cases hc : rs.c = n
      · rw [if_pos hc]
        have h0 : rs.n - n = 0 := by omega
        refine ⟨136, x.base, x.N, [.raws x.ps], x.o, hmem, by simp [e5], by omega, ?_⟩
        rw [h0]
        simp only [List.map_cons, List.map_nil, winOf, List.take_zero]
        rw [List.drop_eq_nil_of_le (by rw [hvl]; omega)]
      · rw [if_neg hc]
        refine ⟨136, x.base, x.N, [.raws x.ps], x.o + n, hmem, by simp [e5]; omega, by omega, ?_⟩
        simp only [List.map_cons, List.map_nil, winOf]
        rw [List.drop_take, List.drop_drop, hrn]
    · have hz := zip_drop ps ((x.ps.drop x.o).take ps.length) n hvl
      rw [hz] at a4
      obtain ⟨L1, L2, q1, q2, q3⟩ := a4.split
      refine ⟨_, gm, (Lp ++ Lg) ++ [(b7, .tab 136 base cap' [.raws (((x.ps.drop x.o).take ps.length).drop n ++ sp)])], List.Perm.refl _, .inr ⟨⟨b7, base, 0, cap', cap', ((x.ps.drop x.o).take ps.length).drop n ++ sp, Lp ++ Lg⟩, ⟨by show (ps.drop n).length ≤ cap'; rw [List.length_drop]; omega, by show 0 + cap' ≤ cap'; omega, by show (_ ++ sp).length = cap'; rw [List.length_append, List.length_drop, hvl, c2]; omega, ?_⟩, ?_, ?_⟩⟩
      · show SepL _ ((ps.drop n).zip (((((x.ps.drop x.o).take ps.length).drop n ++ sp).drop 0).take (ps.drop n).length)) (Lp ++ Lg)
        rw [List.drop_zero, List.take_left' (by rw [List.length_drop, List.length_drop, hvl])]
        refine (q3.more ((x.b, .tab 136 x.base x.N [.raws x.ps]) :: (L1 ++ Lg))).permL ?_
        refine perm_of_sums fun g => ?_
        have u1 := perm_sum q1 g
        have u2 := perm_sum a6 g
        simp only [List.map_append, List.map_cons, List.map_nil, List.sum_append, List.sum_cons, List.sum_nil, List.append_assoc, List.cons_append, List.nil_append] at *
        omega
      · show Value.slice _ _ _ = Value.slice (some ⟨b7, base + 0, none⟩) (ps.drop n).length cap'
        rw [List.length_drop, hrn, Nat.add_zero]
      · exact List.perm_append_comm (l₂ := [_])
theorem fl_junk {f : Fl} {b : Nat} {p a1 a2 a3 a4 a5 a6 t : Nat × Blk} {G : Blks} (h : FlAt f b (p :: (G ++ [t]))) : FlAt f b (p :: (G ++ [a1, a2, a3, a4, a5, a6, t])) := by
  refine FlAt.permL (h.more [a1, a2, a3, a4, a5, a6]) ?_
  refine perm_of_sums fun g => ?_
  simp only [List.map_append, List.map_cons, List.map_nil, List.sum_append, List.sum_cons, List.sum_nil, List.append_assoc, List.cons_append, List.nil_append] at *
  omega
set_option maxHeartbeats 2000000 in
theorem ak_goal (b : Nat) (f : Fl) (s : Sk) (gs : List (Int × Int)) (now : Int) (L : Blks) (tp n ng : Nat) (gm : Nat) (rs : RSl) (hn : n = ackN f s) (hng : ng = gs.length) (hrn : rs.n = f.ps.length) (hrc : rs.n ≤ rs.c) (hl : f.ps.length < 1000000) (hgl : gs.length < 1000000) (hr : gapsR gs) (pv : Value) (hpv : pv = .slice (some ⟨rs.b, rs.x, none⟩) rs.n rs.c)
    (hJ : AJ f.mark b pv gm gs s f.ps L)
    (P9 : Nat → Int → Int → Int → Blks → Prop) (P14 : Nat → Int → Int → Int → Blks → Prop) (P17 : Nat → Nat → Int → Int → Int → Blks → Prop) (m17 : Nat → Nat → Nat) (P22 : Nat → Bool → Blks → Prop) (m22 : Nat) (R : Value → Blks → Prop)
    (e9 : P9 = fun i x y z L => i ≤ ackN f s ∧ AkI f s gs now b pv gm (List.range i) x y z L)
    (e14 : P14 = fun j x y z L => j ≤ gs.length ∧ AkI f s gs now b pv gm (idxs (ackN f s) (gs.take j)) x y z L)
    (e17 : P17 = fun j i x y z L => ∃ g, gs[j]? = some g ∧ (g.1.toNat ≤ i ∧ i ≤ g.2.toNat + 1) ∧ AkI f s gs now b pv gm (idxs (ackN f s) (gs.take j) ++ gapPart (ackN f s) g i) x y z L)
    (em17 : m17 = fun j i => ((gs[j]?.map fun g => g.2.toNat).getD 0) + 1 - i)
    (e22 : P22 = fun k lost L => k ≤ (max (ackS now f.ps (idxs (ackN f s) gs)).top 0).toNat ∧ lost = (misS (ackS now f.ps (idxs (ackN f s) gs)).ps k).2 ∧ AJ f.mark b pv gm gs s (misS (ackS now f.ps (idxs (ackN f s) gs)).ps k).1 L)
    (em22 : m22 = (max (ackS now f.ps (idxs (ackN f s) gs)).top 0).toNat) (eR : R = AkR f s gs now b) : akSGoal b s now L n ng P9 P14 P17 m17 P22 m22 R :=
  Eq.mpr (by kernel_rfl) (show
  ∀ (b_1 b_2 b_3 b_4 b_5 : Nat), Value.oneCell' (Value.int IntKind.i64 (0 : Int)) = Bool.true ∧ Value.oneCell' (Value.int IntKind.i64 (-1 : Int)) = Bool.true ∧ ∃ (x : BdY), BdPre x [Value.pointer (Option.some { block := b, off := (0 : Nat) }), Value.agg #[Value.int IntKind.u8 s.1, Value.bool Bool.false, Value.bool Bool.false, Value.bool Bool.false, Value.bool Bool.false, Value.int IntKind.u32 s.2, Value.int IntKind.u16 (0 : Int), Value.int IntKind.u32 (0 : Int), Value.int IntKind.u32 (0 : Int), Value.int IntKind.u32 (0 : Int),
  Value.int IntKind.u32 (0 : Int), Value.int IntKind.u32 (0 : Int), Value.int IntKind.u16 (0 : Int), Value.int IntKind.u16 (0 : Int), Value.slice s.3 s.4 s.5, Value.slice Option.none (0 : Nat) (0 : Nat), Value.slice Option.none (0 : Nat) (0 : Nat), Value.slice Option.none (0 : Nat) (0 : Nat), Value.slice Option.none (0 : Nat) (0 : Nat)]] L ∧ (badP x.1 x.3 x.4 → Value.oneCell' (Value.int IntKind.i64 (0 : Int)) = Bool.true ∧ Value.oneCell' (Value.int IntKind.i64 (-1 : Int)) = Bool.true ∧ R (Value.agg
  #[Value.int IntKind.i64 (0 : Int), Value.bool Bool.false, Value.bool Bool.false, Value.int IntKind.i64 (-1 : Int), Value.bool (pbool (badP x.1 x.3 x.4))]) (L ++ [(b_1, Blk.cells [Value.pointer (Option.some { block := b, off := (0 : Nat) })] (49 : Nat)), (b_2, Blk.cells [Value.int IntKind.u8 s.1, Value.bool Bool.false, Value.bool Bool.false, Value.bool Bool.false, Value.bool Bool.false, Value.int IntKind.u32 s.2, Value.int IntKind.u16 (0 : Int), Value.int IntKind.u32 (0 : Int), Value.int IntKind.u32 (0 : Int), Value.int IntKind.u32 (0 : Int),
  Value.int IntKind.u32 (0 : Int), Value.int IntKind.u32 (0 : Int), Value.int IntKind.u16 (0 : Int), Value.int IntKind.u16 (0 : Int), Value.slice s.3 s.4 s.5, Value.slice Option.none (0 : Nat) (0 : Nat), Value.slice Option.none (0 : Nat) (0 : Nat), Value.slice Option.none (0 : Nat) (0 : Nat), Value.slice Option.none (0 : Nat) (0 : Nat)] (43 : Nat)), (b_3, Blk.cells [Value.int IntKind.u32 now] (31 : Nat)), (b_4, Blk.cells [Value.int IntKind.i64 (0 : Int), Value.bool Bool.false, Value.bool Bool.false, Value.int IntKind.i64 (-1 : Int), Value.bool (pbool (badP x.1 x.3 x.4))] (57 : Nat)), (b_5,
  Blk.cells [Value.int IntKind.i64 (0 : Int), Value.bool Bool.false, Value.bool Bool.false, Value.int IntKind.i64 (-1 : Int), Value.bool (pbool (badP x.1 x.3 x.4))] (57 : Nat))])) ∧ (¬badP x.1 x.3 x.4 → ∃ (n_1 : Int), rawCell L b (0 : Nat) (Value.int IntKind.u32 n_1) ∧ ∀ (b_6 : Nat), Value.oneCell' (Value.int IntKind.i64 (-1 : Int)) = Bool.true ∧ ∃ (x0 : AkX), ((((0 : Int) = (↑x0.1 : Int) ∧ ((0 : Nat) = (0 : Nat) ∧ (0 : Nat) = (0 : Nat)) ∧ ((0 : Nat) = (0 : Nat) ∧ (0 : Nat) = (0 : Nat)) ∧ ((0 : Nat) = (0 : Nat) ∧ (0 : Nat) = (0 : Nat)) ∧ ((0 : Nat) = (0 : Nat) ∧ (0 : Nat) = (0 : Nat)) ∧
  ((0 : Nat) = (0 : Nat) ∧ (0 : Nat) = (0 : Nat)) ∧ IntKind.wrap IntKind.i64 (IntKind.wrap IntKind.u32 (s.2 - n_1)) = IntKind.wrap IntKind.i64 (IntKind.wrap IntKind.u32 (s.2 - n_1)) ∧ ((0 : Nat) = (0 : Nat) ∧ (0 : Nat) = (0 : Nat)) ∧ (((0 : Nat) = (0 : Nat) ∧ (0 : Nat) = (0 : Nat)) ∧ ((0 : Nat) = (0 : Nat) ∧ (0 : Nat) = (0 : Nat)) ∧ ((0 : Nat) = (0 : Nat) ∧ (0 : Nat) = (0 : Nat)) ∧ ((0 : Nat) = (0 : Nat) ∧ (0 : Nat) = (0 : Nat)) ∧ True) ∧ IntKind.wrap IntKind.i64 (IntKind.wrap IntKind.u32 (s.2 - n_1)) = IntKind.wrap IntKind.i64 (IntKind.wrap IntKind.u32 (s.2 - n_1)) ∧ True) ∧ L = x0.5 ∧
  (b_1 = b_1 ∧ Value.pointer (Option.some { block := b, off := (0 : Nat) }) = Value.pointer (Option.some { block := b, off := (0 : Nat) }) ∧ True) ∧ (b_2 = b_2 ∧ s.1 = s.1 ∧ Value.bool Bool.false = Value.bool Bool.false ∧ Value.bool Bool.false = Value.bool Bool.false ∧ Value.bool Bool.false = Value.bool Bool.false ∧ Value.bool Bool.false = Value.bool Bool.false ∧ s.2 = s.2 ∧ (0 : Int) = (0 : Int) ∧ (0 : Int) = (0 : Int) ∧ (0 : Int) = (0 : Int) ∧ (0 : Int) = (0 : Int) ∧ (0 : Int) = (0 : Int) ∧ (0 : Int) = (0 : Int) ∧ (0 : Int) = (0 : Int) ∧ (0 : Int) = (0 : Int) ∧
  Value.slice s.3 s.4 s.5 = Value.slice s.3 s.4 s.5 ∧ Value.slice Option.none (0 : Nat) (0 : Nat) = Value.slice Option.none (0 : Nat) (0 : Nat) ∧ Value.slice Option.none (0 : Nat) (0 : Nat) = Value.slice Option.none (0 : Nat) (0 : Nat) ∧ Value.slice Option.none (0 : Nat) (0 : Nat) = Value.slice Option.none (0 : Nat) (0 : Nat) ∧ Value.slice Option.none (0 : Nat) (0 : Nat) = Value.slice Option.none (0 : Nat) (0 : Nat) ∧ True) ∧ (b_3 = b_3 ∧ now = now ∧ True) ∧ (b_4 = b_4 ∧ (0 : Int) = (0 : Int) ∧ True ∧ True ∧ (0 : Int) = (0 : Int) ∧ True ∧ True) ∧ (b_5 = b_5 ∧
  (0 : Int) = x0.2 ∧ True ∧ True ∧ (-1 : Int) = x0.3 ∧ (badP x.1 x.3 x.4 ↔ badP x.1 x.3 x.4) ∧ True) ∧ (b_6 = b_6 ∧ (-1 : Int) = x0.4 ∧ True) ∧ True) ∧ P9 x0.1 x0.2 x0.3 x0.4 x0.5) ∧ ∀ (x_1 : AkX), P9 x_1.1 x_1.2 x_1.3 x_1.4 x_1.5 → ((↑x_1.1 : Int) < IntKind.wrap IntKind.i64 (IntKind.wrap IntKind.u32 (s.2 - n_1)) → ∃ (o : Option Go.Addr), ∃ (l : Nat), ∃ (c : Nat), rawCell x_1.5 b (1 : Nat) (Value.slice o l c) ∧ rawA o fun (b_7 x0 : Nat) => ((0 : Int) ≤ (↑x_1.1 : Int) ∧ (↑x_1.1 : Int) < (↑l : Int)) ∧ ∃ (a : Option Go.Addr), rawCell x_1.5 b_7 (x0 + x_1.1 * (1 : Nat)) (Value.pointer a) ∧
  ∃ (x_2 : Nat), (∀ (r : List (Nat × Nat × Nat)), Value.pointer (Option.some { block := x_2, off := (0 : Nat) }) = Value.pointer a) ∧ ∃ (n_2 : Int), rawCell x_1.5 x_2 (25 : Nat) (Value.int IntKind.i64 n_2) ∧ (n_2 = (2 : Int) → ∃ (y : AkX), n - y.1 < n - x_1.1 ∧ ((IntKind.wrap IntKind.i64 ((↑x_1.1 : Int) + (1 : Int)) = (↑y.1 : Int) ∧ ((0 : Nat) = (0 : Nat) ∧ (0 : Nat) = (0 : Nat)) ∧ ((0 : Nat) = (0 : Nat) ∧ (0 : Nat) = (0 : Nat)) ∧ ((0 : Nat) = (0 : Nat) ∧ (0 : Nat) = (0 : Nat)) ∧ ((0 : Nat) = (0 : Nat) ∧ (0 : Nat) = (0 : Nat)) ∧ ((0 : Nat) = (0 : Nat) ∧ (0 : Nat) = (0 : Nat)) ∧
  IntKind.wrap IntKind.i64 (IntKind.wrap IntKind.u32 (s.2 - n_1)) = IntKind.wrap IntKind.i64 (IntKind.wrap IntKind.u32 (s.2 - n_1)) ∧ ((0 : Nat) = (0 : Nat) ∧ (0 : Nat) = (0 : Nat)) ∧ (((0 : Nat) = (0 : Nat) ∧ (0 : Nat) = (0 : Nat)) ∧ ((0 : Nat) = (0 : Nat) ∧ (0 : Nat) = (0 : Nat)) ∧ ((0 : Nat) = (0 : Nat) ∧ (0 : Nat) = (0 : Nat)) ∧ ((0 : Nat) = (0 : Nat) ∧ (0 : Nat) = (0 : Nat)) ∧ True) ∧ IntKind.wrap IntKind.i64 (IntKind.wrap IntKind.u32 (s.2 - n_1)) = IntKind.wrap IntKind.i64 (IntKind.wrap IntKind.u32 (s.2 - n_1)) ∧ True) ∧ x_1.5 = y.5 ∧ (b_1 = b_1 ∧
  Value.pointer (Option.some { block := b, off := (0 : Nat) }) = Value.pointer (Option.some { block := b, off := (0 : Nat) }) ∧ True) ∧ (b_2 = b_2 ∧ s.1 = s.1 ∧ Value.bool Bool.false = Value.bool Bool.false ∧ Value.bool Bool.false = Value.bool Bool.false ∧ Value.bool Bool.false = Value.bool Bool.false ∧ Value.bool Bool.false = Value.bool Bool.false ∧ s.2 = s.2 ∧ (0 : Int) = (0 : Int) ∧ (0 : Int) = (0 : Int) ∧ (0 : Int) = (0 : Int) ∧ (0 : Int) = (0 : Int) ∧ (0 : Int) = (0 : Int) ∧ (0 : Int) = (0 : Int) ∧ (0 : Int) = (0 : Int) ∧ (0 : Int) = (0 : Int) ∧
  Value.slice s.3 s.4 s.5 = Value.slice s.3 s.4 s.5 ∧ Value.slice Option.none (0 : Nat) (0 : Nat) = Value.slice Option.none (0 : Nat) (0 : Nat) ∧ Value.slice Option.none (0 : Nat) (0 : Nat) = Value.slice Option.none (0 : Nat) (0 : Nat) ∧ Value.slice Option.none (0 : Nat) (0 : Nat) = Value.slice Option.none (0 : Nat) (0 : Nat) ∧ Value.slice Option.none (0 : Nat) (0 : Nat) = Value.slice Option.none (0 : Nat) (0 : Nat) ∧ True) ∧ (b_3 = b_3 ∧ now = now ∧ True) ∧ (b_4 = b_4 ∧ (0 : Int) = (0 : Int) ∧ True ∧ True ∧ (0 : Int) = (0 : Int) ∧ True ∧ True) ∧ (b_5 = b_5 ∧ x_1.2 = y.2 ∧ True ∧ True ∧
  x_1.3 = y.3 ∧ (badP x.1 x.3 x.4 ↔ badP x.1 x.3 x.4) ∧ True) ∧ (b_6 = b_6 ∧ x_1.4 = y.4 ∧ True) ∧ True) ∧ P9 y.1 y.2 y.3 y.4 y.5) ∧ (¬n_2 = (2 : Int) → ∃ (n_3 : Int), rawCell x_1.5 x_2 (25 : Nat) (Value.int IntKind.i64 n_3) ∧ (n_3 = (0 : Int) → ∃ (o : Option Go.Addr), ∃ (l : Nat), ∃ (c : Nat), rawCell x_1.5 x_2 (18 : Nat) (Value.slice o l c) ∧ Value.oneCell' (Value.int IntKind.i64 (IntKind.wrap IntKind.i64 (x_1.2 + (↑l : Int)))) = Bool.true ∧ ∃ (n_4 : Int), rawCell x_1.5 x_2 (22 : Nat) (Value.int IntKind.u64 n_4) ∧ (n_4 = (1 : Int) → ∃ (n_5 : Int),
  rawCell x_1.5 x_2 (23 : Nat) (Value.int IntKind.u32 n_5) ∧ Value.oneCell' (Value.int IntKind.i64 (IntKind.wrap IntKind.i64 (IntKind.wrap IntKind.u32 (now - n_5)))) = Bool.true ∧ ∃ (k : Blk), ∃ (G : List (Nat × Blk)), List.Perm x_1.5 ((x_2, k) :: G) ∧ Value.oneCell' (Value.int IntKind.i64 (2 : Int)) = Bool.true ∧ ∃ (k1 : Blk), Blk.upd k (25 : Nat) (Value.int IntKind.i64 (2 : Int)) k1 ∧ Value.oneCell' (Value.int IntKind.i64 (↑x_1.1 : Int)) = Bool.true ∧ ∃ (y : AkX), n - y.1 < n - x_1.1 ∧ ((IntKind.wrap IntKind.i64 ((↑x_1.1 : Int) + (1 : Int)) = (↑y.1 : Int) ∧
  ((0 : Nat) = (0 : Nat) ∧ (0 : Nat) = (0 : Nat)) ∧ ((0 : Nat) = (0 : Nat) ∧ (0 : Nat) = (0 : Nat)) ∧ ((0 : Nat) = (0 : Nat) ∧ (0 : Nat) = (0 : Nat)) ∧ ((0 : Nat) = (0 : Nat) ∧ (0 : Nat) = (0 : Nat)) ∧ ((0 : Nat) = (0 : Nat) ∧ (0 : Nat) = (0 : Nat)) ∧ IntKind.wrap IntKind.i64 (IntKind.wrap IntKind.u32 (s.2 - n_1)) = IntKind.wrap IntKind.i64 (IntKind.wrap IntKind.u32 (s.2 - n_1)) ∧ ((0 : Nat) = (0 : Nat) ∧ (0 : Nat) = (0 : Nat)) ∧ (((0 : Nat) = (0 : Nat) ∧ (0 : Nat) = (0 : Nat)) ∧ ((0 : Nat) = (0 : Nat) ∧ (0 : Nat) = (0 : Nat)) ∧ ((0 : Nat) = (0 : Nat) ∧ (0 : Nat) = (0 : Nat)) ∧
  ((0 : Nat) = (0 : Nat) ∧ (0 : Nat) = (0 : Nat)) ∧ True) ∧ IntKind.wrap IntKind.i64 (IntKind.wrap IntKind.u32 (s.2 - n_1)) = IntKind.wrap IntKind.i64 (IntKind.wrap IntKind.u32 (s.2 - n_1)) ∧ True) ∧ (x_2, k1) :: G = y.5 ∧ (b_1 = b_1 ∧ Value.pointer (Option.some { block := b, off := (0 : Nat) }) = Value.pointer (Option.some { block := b, off := (0 : Nat) }) ∧ True) ∧ (b_2 = b_2 ∧ s.1 = s.1 ∧ Value.bool Bool.false = Value.bool Bool.false ∧ Value.bool Bool.false = Value.bool Bool.false ∧ Value.bool Bool.false = Value.bool Bool.false ∧ Value.bool Bool.false = Value.bool Bool.false ∧ s.2 = s.2 ∧
  (0 : Int) = (0 : Int) ∧ (0 : Int) = (0 : Int) ∧ (0 : Int) = (0 : Int) ∧ (0 : Int) = (0 : Int) ∧ (0 : Int) = (0 : Int) ∧ (0 : Int) = (0 : Int) ∧ (0 : Int) = (0 : Int) ∧ (0 : Int) = (0 : Int) ∧ Value.slice s.3 s.4 s.5 = Value.slice s.3 s.4 s.5 ∧ Value.slice Option.none (0 : Nat) (0 : Nat) = Value.slice Option.none (0 : Nat) (0 : Nat) ∧ Value.slice Option.none (0 : Nat) (0 : Nat) = Value.slice Option.none (0 : Nat) (0 : Nat) ∧ Value.slice Option.none (0 : Nat) (0 : Nat) = Value.slice Option.none (0 : Nat) (0 : Nat) ∧ Value.slice Option.none (0 : Nat) (0 : Nat) =
  Value.slice Option.none (0 : Nat) (0 : Nat) ∧ True) ∧ (b_3 = b_3 ∧ now = now ∧ True) ∧ (b_4 = b_4 ∧ (0 : Int) = (0 : Int) ∧ True ∧ True ∧ (0 : Int) = (0 : Int) ∧ True ∧ True) ∧ (b_5 = b_5 ∧ IntKind.wrap IntKind.i64 (x_1.2 + (↑l : Int)) = y.2 ∧ True ∧ True ∧ IntKind.wrap IntKind.i64 (IntKind.wrap IntKind.u32 (now - n_5)) = y.3 ∧ (badP x.1 x.3 x.4 ↔ badP x.1 x.3 x.4) ∧ True) ∧ (b_6 = b_6 ∧ (↑x_1.1 : Int) = y.4 ∧ True) ∧ True) ∧ P9 y.1 y.2 y.3 y.4 y.5) ∧ (¬n_4 = (1 : Int) → ∃ (k : Blk), ∃ (G : List (Nat × Blk)), List.Perm x_1.5 ((x_2, k) :: G) ∧
  Value.oneCell' (Value.int IntKind.i64 (2 : Int)) = Bool.true ∧ ∃ (k1 : Blk), Blk.upd k (25 : Nat) (Value.int IntKind.i64 (2 : Int)) k1 ∧ Value.oneCell' (Value.int IntKind.i64 (↑x_1.1 : Int)) = Bool.true ∧ ∃ (y : AkX), n - y.1 < n - x_1.1 ∧ ((IntKind.wrap IntKind.i64 ((↑x_1.1 : Int) + (1 : Int)) = (↑y.1 : Int) ∧ ((0 : Nat) = (0 : Nat) ∧ (0 : Nat) = (0 : Nat)) ∧ ((0 : Nat) = (0 : Nat) ∧ (0 : Nat) = (0 : Nat)) ∧ ((0 : Nat) = (0 : Nat) ∧ (0 : Nat) = (0 : Nat)) ∧ ((0 : Nat) = (0 : Nat) ∧ (0 : Nat) = (0 : Nat)) ∧ ((0 : Nat) = (0 : Nat) ∧ (0 : Nat) = (0 : Nat)) ∧
  IntKind.wrap IntKind.i64 (IntKind.wrap IntKind.u32 (s.2 - n_1)) = IntKind.wrap IntKind.i64 (IntKind.wrap IntKind.u32 (s.2 - n_1)) ∧ ((0 : Nat) = (0 : Nat) ∧ (0 : Nat) = (0 : Nat)) ∧ (((0 : Nat) = (0 : Nat) ∧ (0 : Nat) = (0 : Nat)) ∧ ((0 : Nat) = (0 : Nat) ∧ (0 : Nat) = (0 : Nat)) ∧ ((0 : Nat) = (0 : Nat) ∧ (0 : Nat) = (0 : Nat)) ∧ ((0 : Nat) = (0 : Nat) ∧ (0 : Nat) = (0 : Nat)) ∧ True) ∧ IntKind.wrap IntKind.i64 (IntKind.wrap IntKind.u32 (s.2 - n_1)) = IntKind.wrap IntKind.i64 (IntKind.wrap IntKind.u32 (s.2 - n_1)) ∧ True) ∧ (x_2, k1) :: G = y.5 ∧ (b_1 = b_1 ∧
  Value.pointer (Option.some { block := b, off := (0 : Nat) }) = Value.pointer (Option.some { block := b, off := (0 : Nat) }) ∧ True) ∧ (b_2 = b_2 ∧ s.1 = s.1 ∧ Value.bool Bool.false = Value.bool Bool.false ∧ Value.bool Bool.false = Value.bool Bool.false ∧ Value.bool Bool.false = Value.bool Bool.false ∧ Value.bool Bool.false = Value.bool Bool.false ∧ s.2 = s.2 ∧ (0 : Int) = (0 : Int) ∧ (0 : Int) = (0 : Int) ∧ (0 : Int) = (0 : Int) ∧ (0 : Int) = (0 : Int) ∧ (0 : Int) = (0 : Int) ∧ (0 : Int) = (0 : Int) ∧ (0 : Int) = (0 : Int) ∧ (0 : Int) = (0 : Int) ∧ Value.slice s.3 s.4 s.5 =
  Value.slice s.3 s.4 s.5 ∧ Value.slice Option.none (0 : Nat) (0 : Nat) = Value.slice Option.none (0 : Nat) (0 : Nat) ∧ Value.slice Option.none (0 : Nat) (0 : Nat) = Value.slice Option.none (0 : Nat) (0 : Nat) ∧ Value.slice Option.none (0 : Nat) (0 : Nat) = Value.slice Option.none (0 : Nat) (0 : Nat) ∧ Value.slice Option.none (0 : Nat) (0 : Nat) = Value.slice Option.none (0 : Nat) (0 : Nat) ∧ True) ∧ (b_3 = b_3 ∧ now = now ∧ True) ∧ (b_4 = b_4 ∧ (0 : Int) = (0 : Int) ∧ True ∧ True ∧ (0 : Int) = (0 : Int) ∧ True ∧ True) ∧ (b_5 = b_5 ∧ IntKind.wrap IntKind.i64 (x_1.2 + (↑l : Int)) = y.2 ∧ True ∧
  True ∧ x_1.3 = y.3 ∧ (badP x.1 x.3 x.4 ↔ badP x.1 x.3 x.4) ∧ True) ∧ (b_6 = b_6 ∧ (↑x_1.1 : Int) = y.4 ∧ True) ∧ True) ∧ P9 y.1 y.2 y.3 y.4 y.5)) ∧ (¬n_3 = (0 : Int) → ∃ (n_4 : Int), rawCell x_1.5 x_2 (25 : Nat) (Value.int IntKind.i64 n_4) ∧ (n_4 = (1 : Int) → ∃ (o : Option Go.Addr), ∃ (l : Nat), ∃ (c : Nat), rawCell x_1.5 x_2 (18 : Nat) (Value.slice o l c) ∧ Value.oneCell' (Value.int IntKind.i64 (IntKind.wrap IntKind.i64 (x_1.2 + (↑l : Int)))) = Bool.true ∧ ∃ (n_5 : Int), rawCell x_1.5 x_2 (22 : Nat) (Value.int IntKind.u64 n_5) ∧ (n_5 = (1 : Int) → ∃ (n_6 : Int),
  rawCell x_1.5 x_2 (23 : Nat) (Value.int IntKind.u32 n_6) ∧ Value.oneCell' (Value.int IntKind.i64 (IntKind.wrap IntKind.i64 (IntKind.wrap IntKind.u32 (now - n_6)))) = Bool.true ∧ ∃ (k : Blk), ∃ (G : List (Nat × Blk)), List.Perm x_1.5 ((x_2, k) :: G) ∧ Value.oneCell' (Value.int IntKind.i64 (2 : Int)) = Bool.true ∧ ∃ (k1 : Blk), Blk.upd k (25 : Nat) (Value.int IntKind.i64 (2 : Int)) k1 ∧ Value.oneCell' (Value.int IntKind.i64 (↑x_1.1 : Int)) = Bool.true ∧ ∃ (y : AkX), n - y.1 < n - x_1.1 ∧ ((IntKind.wrap IntKind.i64 ((↑x_1.1 : Int) + (1 : Int)) = (↑y.1 : Int) ∧
  ((0 : Nat) = (0 : Nat) ∧ (0 : Nat) = (0 : Nat)) ∧ ((0 : Nat) = (0 : Nat) ∧ (0 : Nat) = (0 : Nat)) ∧ ((0 : Nat) = (0 : Nat) ∧ (0 : Nat) = (0 : Nat)) ∧ ((0 : Nat) = (0 : Nat) ∧ (0 : Nat) = (0 : Nat)) ∧ ((0 : Nat) = (0 : Nat) ∧ (0 : Nat) = (0 : Nat)) ∧ IntKind.wrap IntKind.i64 (IntKind.wrap IntKind.u32 (s.2 - n_1)) = IntKind.wrap IntKind.i64 (IntKind.wrap IntKind.u32 (s.2 - n_1)) ∧ ((0 : Nat) = (0 : Nat) ∧ (0 : Nat) = (0 : Nat)) ∧ (((0 : Nat) = (0 : Nat) ∧ (0 : Nat) = (0 : Nat)) ∧ ((0 : Nat) = (0 : Nat) ∧ (0 : Nat) = (0 : Nat)) ∧ ((0 : Nat) = (0 : Nat) ∧ (0 : Nat) = (0 : Nat)) ∧
  ((0 : Nat) = (0 : Nat) ∧ (0 : Nat) = (0 : Nat)) ∧ True) ∧ IntKind.wrap IntKind.i64 (IntKind.wrap IntKind.u32 (s.2 - n_1)) = IntKind.wrap IntKind.i64 (IntKind.wrap IntKind.u32 (s.2 - n_1)) ∧ True) ∧ (x_2, k1) :: G = y.5 ∧ (b_1 = b_1 ∧ Value.pointer (Option.some { block := b, off := (0 : Nat) }) = Value.pointer (Option.some { block := b, off := (0 : Nat) }) ∧ True) ∧ (b_2 = b_2 ∧ s.1 = s.1 ∧ Value.bool Bool.false = Value.bool Bool.false ∧ Value.bool Bool.false = Value.bool Bool.false ∧ Value.bool Bool.false = Value.bool Bool.false ∧ Value.bool Bool.false = Value.bool Bool.false ∧ s.2 = s.2 ∧
  (0 : Int) = (0 : Int) ∧ (0 : Int) = (0 : Int) ∧ (0 : Int) = (0 : Int) ∧ (0 : Int) = (0 : Int) ∧ (0 : Int) = (0 : Int) ∧ (0 : Int) = (0 : Int) ∧ (0 : Int) = (0 : Int) ∧ (0 : Int) = (0 : Int) ∧ Value.slice s.3 s.4 s.5 = Value.slice s.3 s.4 s.5 ∧ Value.slice Option.none (0 : Nat) (0 : Nat) = Value.slice Option.none (0 : Nat) (0 : Nat) ∧ Value.slice Option.none (0 : Nat) (0 : Nat) = Value.slice Option.none (0 : Nat) (0 : Nat) ∧ Value.slice Option.none (0 : Nat) (0 : Nat) = Value.slice Option.none (0 : Nat) (0 : Nat) ∧ Value.slice Option.none (0 : Nat) (0 : Nat) = Value.slice Option.none
  (0 : Nat) (0 : Nat) ∧ True) ∧ (b_3 = b_3 ∧ now = now ∧ True) ∧ (b_4 = b_4 ∧ (0 : Int) = (0 : Int) ∧ True ∧ True ∧ (0 : Int) = (0 : Int) ∧ True ∧ True) ∧ (b_5 = b_5 ∧ IntKind.wrap IntKind.i64 (x_1.2 + (↑l : Int)) = y.2 ∧ True ∧ True ∧ IntKind.wrap IntKind.i64 (IntKind.wrap IntKind.u32 (now - n_6)) = y.3 ∧ (badP x.1 x.3 x.4 ↔ badP x.1 x.3 x.4) ∧ True) ∧ (b_6 = b_6 ∧ (↑x_1.1 : Int) = y.4 ∧ True) ∧ True) ∧ P9 y.1 y.2 y.3 y.4 y.5) ∧ (¬n_5 = (1 : Int) → ∃ (k : Blk), ∃ (G : List (Nat × Blk)), List.Perm x_1.5 ((x_2, k) :: G) ∧ Value.oneCell' (Value.int IntKind.i64 (2 : Int)) = Bool.true ∧
  ∃ (k1 : Blk), Blk.upd k (25 : Nat) (Value.int IntKind.i64 (2 : Int)) k1 ∧ Value.oneCell' (Value.int IntKind.i64 (↑x_1.1 : Int)) = Bool.true ∧ ∃ (y : AkX), n - y.1 < n - x_1.1 ∧ ((IntKind.wrap IntKind.i64 ((↑x_1.1 : Int) + (1 : Int)) = (↑y.1 : Int) ∧ ((0 : Nat) = (0 : Nat) ∧ (0 : Nat) = (0 : Nat)) ∧ ((0 : Nat) = (0 : Nat) ∧ (0 : Nat) = (0 : Nat)) ∧ ((0 : Nat) = (0 : Nat) ∧ (0 : Nat) = (0 : Nat)) ∧ ((0 : Nat) = (0 : Nat) ∧ (0 : Nat) = (0 : Nat)) ∧ ((0 : Nat) = (0 : Nat) ∧ (0 : Nat) = (0 : Nat)) ∧ IntKind.wrap IntKind.i64 (IntKind.wrap IntKind.u32 (s.2 - n_1)) = IntKind.wrap IntKind.i64
  (IntKind.wrap IntKind.u32 (s.2 - n_1)) ∧ ((0 : Nat) = (0 : Nat) ∧ (0 : Nat) = (0 : Nat)) ∧ (((0 : Nat) = (0 : Nat) ∧ (0 : Nat) = (0 : Nat)) ∧ ((0 : Nat) = (0 : Nat) ∧ (0 : Nat) = (0 : Nat)) ∧ ((0 : Nat) = (0 : Nat) ∧ (0 : Nat) = (0 : Nat)) ∧ ((0 : Nat) = (0 : Nat) ∧ (0 : Nat) = (0 : Nat)) ∧ True) ∧ IntKind.wrap IntKind.i64 (IntKind.wrap IntKind.u32 (s.2 - n_1)) = IntKind.wrap IntKind.i64 (IntKind.wrap IntKind.u32 (s.2 - n_1)) ∧ True) ∧ (x_2, k1) :: G = y.5 ∧ (b_1 = b_1 ∧ Value.pointer (Option.some { block := b, off := (0 : Nat) }) =
  Value.pointer (Option.some { block := b, off := (0 : Nat) }) ∧ True) ∧ (b_2 = b_2 ∧ s.1 = s.1 ∧ Value.bool Bool.false = Value.bool Bool.false ∧ Value.bool Bool.false = Value.bool Bool.false ∧ Value.bool Bool.false = Value.bool Bool.false ∧ Value.bool Bool.false = Value.bool Bool.false ∧ s.2 = s.2 ∧ (0 : Int) = (0 : Int) ∧ (0 : Int) = (0 : Int) ∧ (0 : Int) = (0 : Int) ∧ (0 : Int) = (0 : Int) ∧ (0 : Int) = (0 : Int) ∧ (0 : Int) = (0 : Int) ∧ (0 : Int) = (0 : Int) ∧ (0 : Int) = (0 : Int) ∧ Value.slice s.3 s.4 s.5 = Value.slice s.3 s.4 s.5 ∧ Value.slice Option.none (0 : Nat) (0 : Nat) =
  Value.slice Option.none (0 : Nat) (0 : Nat) ∧ Value.slice Option.none (0 : Nat) (0 : Nat) = Value.slice Option.none (0 : Nat) (0 : Nat) ∧ Value.slice Option.none (0 : Nat) (0 : Nat) = Value.slice Option.none (0 : Nat) (0 : Nat) ∧ Value.slice Option.none (0 : Nat) (0 : Nat) = Value.slice Option.none (0 : Nat) (0 : Nat) ∧ True) ∧ (b_3 = b_3 ∧ now = now ∧ True) ∧ (b_4 = b_4 ∧ (0 : Int) = (0 : Int) ∧ True ∧ True ∧ (0 : Int) = (0 : Int) ∧ True ∧ True) ∧ (b_5 = b_5 ∧ IntKind.wrap IntKind.i64 (x_1.2 + (↑l : Int)) = y.2 ∧ True ∧ True ∧ x_1.3 = y.3 ∧ (badP x.1 x.3 x.4 ↔ badP x.1 x.3 x.4) ∧ True) ∧
  (b_6 = b_6 ∧ (↑x_1.1 : Int) = y.4 ∧ True) ∧ True) ∧ P9 y.1 y.2 y.3 y.4 y.5)) ∧ (¬n_4 = (1 : Int) → ∃ (k : Blk), ∃ (G : List (Nat × Blk)), List.Perm x_1.5 ((x_2, k) :: G) ∧ Value.oneCell' (Value.int IntKind.i64 (2 : Int)) = Bool.true ∧ ∃ (k1 : Blk), Blk.upd k (25 : Nat) (Value.int IntKind.i64 (2 : Int)) k1 ∧ Value.oneCell' (Value.int IntKind.i64 (↑x_1.1 : Int)) = Bool.true ∧ ∃ (y : AkX), n - y.1 < n - x_1.1 ∧ ((IntKind.wrap IntKind.i64 ((↑x_1.1 : Int) + (1 : Int)) = (↑y.1 : Int) ∧ ((0 : Nat) = (0 : Nat) ∧ (0 : Nat) = (0 : Nat)) ∧ ((0 : Nat) = (0 : Nat) ∧ (0 : Nat) = (0 : Nat)) ∧
  ((0 : Nat) = (0 : Nat) ∧ (0 : Nat) = (0 : Nat)) ∧ ((0 : Nat) = (0 : Nat) ∧ (0 : Nat) = (0 : Nat)) ∧ ((0 : Nat) = (0 : Nat) ∧ (0 : Nat) = (0 : Nat)) ∧ IntKind.wrap IntKind.i64 (IntKind.wrap IntKind.u32 (s.2 - n_1)) = IntKind.wrap IntKind.i64 (IntKind.wrap IntKind.u32 (s.2 - n_1)) ∧ ((0 : Nat) = (0 : Nat) ∧ (0 : Nat) = (0 : Nat)) ∧ (((0 : Nat) = (0 : Nat) ∧ (0 : Nat) = (0 : Nat)) ∧ ((0 : Nat) = (0 : Nat) ∧ (0 : Nat) = (0 : Nat)) ∧ ((0 : Nat) = (0 : Nat) ∧ (0 : Nat) = (0 : Nat)) ∧ ((0 : Nat) = (0 : Nat) ∧ (0 : Nat) = (0 : Nat)) ∧ True) ∧
  IntKind.wrap IntKind.i64 (IntKind.wrap IntKind.u32 (s.2 - n_1)) = IntKind.wrap IntKind.i64 (IntKind.wrap IntKind.u32 (s.2 - n_1)) ∧ True) ∧ (x_2, k1) :: G = y.5 ∧ (b_1 = b_1 ∧ Value.pointer (Option.some { block := b, off := (0 : Nat) }) = Value.pointer (Option.some { block := b, off := (0 : Nat) }) ∧ True) ∧ (b_2 = b_2 ∧ s.1 = s.1 ∧ Value.bool Bool.false = Value.bool Bool.false ∧ Value.bool Bool.false = Value.bool Bool.false ∧ Value.bool Bool.false = Value.bool Bool.false ∧ Value.bool Bool.false = Value.bool Bool.false ∧ s.2 = s.2 ∧ (0 : Int) = (0 : Int) ∧ (0 : Int) = (0 : Int) ∧
  (0 : Int) = (0 : Int) ∧ (0 : Int) = (0 : Int) ∧ (0 : Int) = (0 : Int) ∧ (0 : Int) = (0 : Int) ∧ (0 : Int) = (0 : Int) ∧ (0 : Int) = (0 : Int) ∧ Value.slice s.3 s.4 s.5 = Value.slice s.3 s.4 s.5 ∧ Value.slice Option.none (0 : Nat) (0 : Nat) = Value.slice Option.none (0 : Nat) (0 : Nat) ∧ Value.slice Option.none (0 : Nat) (0 : Nat) = Value.slice Option.none (0 : Nat) (0 : Nat) ∧ Value.slice Option.none (0 : Nat) (0 : Nat) = Value.slice Option.none (0 : Nat) (0 : Nat) ∧ Value.slice Option.none (0 : Nat) (0 : Nat) = Value.slice Option.none (0 : Nat) (0 : Nat) ∧ True) ∧
  (b_3 = b_3 ∧ now = now ∧ True) ∧ (b_4 = b_4 ∧ (0 : Int) = (0 : Int) ∧ True ∧ True ∧ (0 : Int) = (0 : Int) ∧ True ∧ True) ∧ (b_5 = b_5 ∧ x_1.2 = y.2 ∧ True ∧ True ∧ x_1.3 = y.3 ∧ (badP x.1 x.3 x.4 ↔ badP x.1 x.3 x.4) ∧ True) ∧ (b_6 = b_6 ∧ (↑x_1.1 : Int) = y.4 ∧ True) ∧ True) ∧ P9 y.1 y.2 y.3 y.4 y.5)))) ∧ (¬(↑x_1.1 : Int) < IntKind.wrap IntKind.i64 (IntKind.wrap IntKind.u32 (s.2 - n_1)) → ∃ (x0 : AkX), ((((0 : Int) = (↑x0.1 : Int) ∧ ((0 : Nat) = (0 : Nat) ∧ (0 : Nat) = (0 : Nat)) ∧ ((0 : Nat) = (0 : Nat) ∧ (0 : Nat) = (0 : Nat)) ∧ ((0 : Nat) = (0 : Nat) ∧ (0 : Nat) = (0 : Nat)) ∧
  ((0 : Nat) = (0 : Nat) ∧ (0 : Nat) = (0 : Nat)) ∧ ((0 : Nat) = (0 : Nat) ∧ (0 : Nat) = (0 : Nat)) ∧ IntKind.wrap IntKind.i64 (IntKind.wrap IntKind.u32 (s.2 - n_1)) = IntKind.wrap IntKind.i64 (IntKind.wrap IntKind.u32 (s.2 - n_1)) ∧ ((0 : Nat) = (0 : Nat) ∧ (0 : Nat) = (0 : Nat)) ∧ (((0 : Nat) = (0 : Nat) ∧ (0 : Nat) = (0 : Nat)) ∧ ((0 : Nat) = (0 : Nat) ∧ (0 : Nat) = (0 : Nat)) ∧ ((0 : Nat) = (0 : Nat) ∧ (0 : Nat) = (0 : Nat)) ∧ ((0 : Nat) = (0 : Nat) ∧ (0 : Nat) = (0 : Nat)) ∧ True) ∧ Value.slice s.3 s.4 s.5 = Value.slice s.3 s.4 s.5 ∧ (↑s.4 : Int) = (↑s.4 : Int) ∧ True) ∧ x_1.5 = x0.5 ∧
  (b_1 = b_1 ∧ Value.pointer (Option.some { block := b, off := (0 : Nat) }) = Value.pointer (Option.some { block := b, off := (0 : Nat) }) ∧ True) ∧ (b_2 = b_2 ∧ s.1 = s.1 ∧ Value.bool Bool.false = Value.bool Bool.false ∧ Value.bool Bool.false = Value.bool Bool.false ∧ Value.bool Bool.false = Value.bool Bool.false ∧ Value.bool Bool.false = Value.bool Bool.false ∧ s.2 = s.2 ∧ (0 : Int) = (0 : Int) ∧ (0 : Int) = (0 : Int) ∧ (0 : Int) = (0 : Int) ∧ (0 : Int) = (0 : Int) ∧ (0 : Int) = (0 : Int) ∧ (0 : Int) = (0 : Int) ∧ (0 : Int) = (0 : Int) ∧ (0 : Int) = (0 : Int) ∧
  Value.slice s.3 s.4 s.5 = Value.slice s.3 s.4 s.5 ∧ Value.slice Option.none (0 : Nat) (0 : Nat) = Value.slice Option.none (0 : Nat) (0 : Nat) ∧ Value.slice Option.none (0 : Nat) (0 : Nat) = Value.slice Option.none (0 : Nat) (0 : Nat) ∧ Value.slice Option.none (0 : Nat) (0 : Nat) = Value.slice Option.none (0 : Nat) (0 : Nat) ∧ Value.slice Option.none (0 : Nat) (0 : Nat) = Value.slice Option.none (0 : Nat) (0 : Nat) ∧ True) ∧ (b_3 = b_3 ∧ now = now ∧ True) ∧ (b_4 = b_4 ∧ (0 : Int) = (0 : Int) ∧ True ∧ True ∧ (0 : Int) = (0 : Int) ∧ True ∧ True) ∧ (b_5 = b_5 ∧ x_1.2 = x0.2 ∧
  True ∧ True ∧ x_1.3 = x0.3 ∧ (badP x.1 x.3 x.4 ↔ badP x.1 x.3 x.4) ∧ True) ∧ (b_6 = b_6 ∧ x_1.4 = x0.4 ∧ True) ∧ True) ∧ P14 x0.1 x0.2 x0.3 x0.4 x0.5) ∧ ∀ (x_2 : AkX), P14 x_2.1 x_2.2 x_2.3 x_2.4 x_2.5 → ((↑x_2.1 : Int) < (↑s.4 : Int) → rawA s.3 fun (b_7 x0 : Nat) => ((0 : Int) ≤ (↑x_2.1 : Int) ∧ (↑x_2.1 : Int) < (↑s.4 : Int)) ∧ ∃ (n : Int), rawCell x_2.5 b_7 (x0 + x_2.1 * (2 : Nat)) (Value.int IntKind.u16 n) ∧ ∃ (n_2 : Int), rawCell x_2.5 b_7 (x0 + x_2.1 * (2 : Nat) + (1 : Nat)) (Value.int IntKind.u16 n_2) ∧ ∀ (b_8 : Nat), Value.oneCell' (Value.int IntKind.u16 n) = Bool.true ∧
  Value.oneCell' (Value.int IntKind.u16 n_2) = Bool.true ∧ ∃ (x0 : Nat × AkX), (((IntKind.wrap IntKind.i64 n = (↑x0.2.1 : Int) ∧ ((0 : Nat) = (0 : Nat) ∧ (0 : Nat) = (0 : Nat)) ∧ ((0 : Nat) = (0 : Nat) ∧ (0 : Nat) = (0 : Nat)) ∧ ((0 : Nat) = (0 : Nat) ∧ (0 : Nat) = (0 : Nat)) ∧ ((0 : Nat) = (0 : Nat) ∧ (0 : Nat) = (0 : Nat)) ∧ ((0 : Nat) = (0 : Nat) ∧ (0 : Nat) = (0 : Nat)) ∧ IntKind.wrap IntKind.i64 (IntKind.wrap IntKind.u32 (s.2 - n_1)) = IntKind.wrap IntKind.i64 (IntKind.wrap IntKind.u32 (s.2 - n_1)) ∧ ((0 : Nat) = (0 : Nat) ∧ (0 : Nat) = (0 : Nat)) ∧
  (((0 : Nat) = (0 : Nat) ∧ (0 : Nat) = (0 : Nat)) ∧ ((0 : Nat) = (0 : Nat) ∧ (0 : Nat) = (0 : Nat)) ∧ ((0 : Nat) = (0 : Nat) ∧ (0 : Nat) = (0 : Nat)) ∧ ((0 : Nat) = (0 : Nat) ∧ (0 : Nat) = (0 : Nat)) ∧ True) ∧ ((0 : Nat) = (0 : Nat) ∧ (0 : Nat) = (0 : Nat)) ∧ Value.slice s.3 s.4 s.5 = Value.slice s.3 s.4 s.5 ∧ (↑s.4 : Int) = (↑s.4 : Int) ∧ (↑x_2.1 : Int) = (↑x_2.1 : Int) ∧ True) ∧ x_2.5 = x0.2.5 ∧ (b_1 = b_1 ∧ Value.pointer (Option.some { block := b, off := (0 : Nat) }) = Value.pointer (Option.some { block := b, off := (0 : Nat) }) ∧ True) ∧ (b_2 = b_2 ∧ s.1 = s.1 ∧
  Value.bool Bool.false = Value.bool Bool.false ∧ Value.bool Bool.false = Value.bool Bool.false ∧ Value.bool Bool.false = Value.bool Bool.false ∧ Value.bool Bool.false = Value.bool Bool.false ∧ s.2 = s.2 ∧ (0 : Int) = (0 : Int) ∧ (0 : Int) = (0 : Int) ∧ (0 : Int) = (0 : Int) ∧ (0 : Int) = (0 : Int) ∧ (0 : Int) = (0 : Int) ∧ (0 : Int) = (0 : Int) ∧ (0 : Int) = (0 : Int) ∧ (0 : Int) = (0 : Int) ∧ Value.slice s.3 s.4 s.5 = Value.slice s.3 s.4 s.5 ∧ Value.slice Option.none (0 : Nat) (0 : Nat) = Value.slice Option.none (0 : Nat) (0 : Nat) ∧ Value.slice Option.none (0 : Nat) (0 : Nat) =
  Value.slice Option.none (0 : Nat) (0 : Nat) ∧ Value.slice Option.none (0 : Nat) (0 : Nat) = Value.slice Option.none (0 : Nat) (0 : Nat) ∧ Value.slice Option.none (0 : Nat) (0 : Nat) = Value.slice Option.none (0 : Nat) (0 : Nat) ∧ True) ∧ (b_3 = b_3 ∧ now = now ∧ True) ∧ (b_4 = b_4 ∧ (0 : Int) = (0 : Int) ∧ True ∧ True ∧ (0 : Int) = (0 : Int) ∧ True ∧ True) ∧ (b_5 = b_5 ∧ x_2.2 = x0.2.2 ∧ True ∧ True ∧ x_2.3 = x0.2.3 ∧ (badP x.1 x.3 x.4 ↔ badP x.1 x.3 x.4) ∧ True) ∧ (b_6 = b_6 ∧ x_2.4 = x0.2.4 ∧ True) ∧ (b_8 = b_8 ∧ n = n ∧ n_2 = n_2 ∧ True) ∧ True) ∧
  x0.1 = x0.1 ∧ P17 x0.1 x0.2.1 x0.2.2 x0.2.3 x0.2.4 x0.2.5) ∧ ∀ (x_3 : Nat × AkX), x_3.1 = x0.1 ∧ P17 x_3.1 x_3.2.1 x_3.2.2 x_3.2.3 x_3.2.4 x_3.2.5 → ((↑x_3.2.1 : Int) ≤ IntKind.wrap IntKind.i64 n_2 → ∃ (o : Option Go.Addr), ∃ (l : Nat), ∃ (c : Nat), rawCell x_3.2.5 b (1 : Nat) (Value.slice o l c) ∧ rawA o fun (b_9 x0_1 : Nat) => ((0 : Int) ≤ IntKind.wrap IntKind.i64 (IntKind.wrap IntKind.i64 (IntKind.wrap IntKind.i64 (IntKind.wrap IntKind.u32 (s.2 - n_1)) + (↑x_3.2.1 : Int)) - (1 : Int)) ∧ IntKind.wrap IntKind.i64 (IntKind.wrap IntKind.i64
  (IntKind.wrap IntKind.i64 (IntKind.wrap IntKind.u32 (s.2 - n_1)) + (↑x_3.2.1 : Int)) - (1 : Int)) < (↑l : Int)) ∧ ∃ (a : Option Go.Addr), rawCell x_3.2.5 b_9 (x0_1 + Int.toNat (IntKind.wrap IntKind.i64 (IntKind.wrap IntKind.i64 (IntKind.wrap IntKind.i64 (IntKind.wrap IntKind.u32 (s.2 - n_1)) + (↑x_3.2.1 : Int)) - (1 : Int))) * (1 : Nat)) (Value.pointer a) ∧ ∃ (x_4 : Nat), (∀ (r : List (Nat × Nat × Nat)), Value.pointer (Option.some { block := x_4, off := (0 : Nat) }) = Value.pointer a) ∧ ∃ (n_3 : Int), rawCell x_3.2.5 x_4 (25 : Nat) (Value.int IntKind.i64 n_3) ∧ (n_3 = (2 : Int) →
  ∃ (y : Nat × AkX), m17 y.1 y.2.1 < m17 x_3.1 x_3.2.1 ∧ ((IntKind.wrap IntKind.i64 ((↑x_3.2.1 : Int) + (1 : Int)) = (↑y.2.1 : Int) ∧ ((0 : Nat) = (0 : Nat) ∧ (0 : Nat) = (0 : Nat)) ∧ ((0 : Nat) = (0 : Nat) ∧ (0 : Nat) = (0 : Nat)) ∧ ((0 : Nat) = (0 : Nat) ∧ (0 : Nat) = (0 : Nat)) ∧ ((0 : Nat) = (0 : Nat) ∧ (0 : Nat) = (0 : Nat)) ∧ ((0 : Nat) = (0 : Nat) ∧ (0 : Nat) = (0 : Nat)) ∧ IntKind.wrap IntKind.i64 (IntKind.wrap IntKind.u32 (s.2 - n_1)) = IntKind.wrap IntKind.i64 (IntKind.wrap IntKind.u32 (s.2 - n_1)) ∧ ((0 : Nat) = (0 : Nat) ∧ (0 : Nat) = (0 : Nat)) ∧
  (((0 : Nat) = (0 : Nat) ∧ (0 : Nat) = (0 : Nat)) ∧ ((0 : Nat) = (0 : Nat) ∧ (0 : Nat) = (0 : Nat)) ∧ ((0 : Nat) = (0 : Nat) ∧ (0 : Nat) = (0 : Nat)) ∧ ((0 : Nat) = (0 : Nat) ∧ (0 : Nat) = (0 : Nat)) ∧ True) ∧ ((0 : Nat) = (0 : Nat) ∧ (0 : Nat) = (0 : Nat)) ∧ Value.slice s.3 s.4 s.5 = Value.slice s.3 s.4 s.5 ∧ (↑s.4 : Int) = (↑s.4 : Int) ∧ (↑x_2.1 : Int) = (↑x_2.1 : Int) ∧ True) ∧ x_3.2.5 = y.2.5 ∧ (b_1 = b_1 ∧ Value.pointer (Option.some { block := b, off := (0 : Nat) }) = Value.pointer (Option.some { block := b, off := (0 : Nat) }) ∧ True) ∧ (b_2 = b_2 ∧ s.1 = s.1 ∧
  Value.bool Bool.false = Value.bool Bool.false ∧ Value.bool Bool.false = Value.bool Bool.false ∧ Value.bool Bool.false = Value.bool Bool.false ∧ Value.bool Bool.false = Value.bool Bool.false ∧ s.2 = s.2 ∧ (0 : Int) = (0 : Int) ∧ (0 : Int) = (0 : Int) ∧ (0 : Int) = (0 : Int) ∧ (0 : Int) = (0 : Int) ∧ (0 : Int) = (0 : Int) ∧ (0 : Int) = (0 : Int) ∧ (0 : Int) = (0 : Int) ∧ (0 : Int) = (0 : Int) ∧ Value.slice s.3 s.4 s.5 = Value.slice s.3 s.4 s.5 ∧ Value.slice Option.none (0 : Nat) (0 : Nat) = Value.slice Option.none (0 : Nat) (0 : Nat) ∧ Value.slice Option.none (0 : Nat) (0 : Nat) =
  Value.slice Option.none (0 : Nat) (0 : Nat) ∧ Value.slice Option.none (0 : Nat) (0 : Nat) = Value.slice Option.none (0 : Nat) (0 : Nat) ∧ Value.slice Option.none (0 : Nat) (0 : Nat) = Value.slice Option.none (0 : Nat) (0 : Nat) ∧ True) ∧ (b_3 = b_3 ∧ now = now ∧ True) ∧ (b_4 = b_4 ∧ (0 : Int) = (0 : Int) ∧ True ∧ True ∧ (0 : Int) = (0 : Int) ∧ True ∧ True) ∧ (b_5 = b_5 ∧ x_3.2.2 = y.2.2 ∧ True ∧ True ∧ x_3.2.3 = y.2.3 ∧ (badP x.1 x.3 x.4 ↔ badP x.1 x.3 x.4) ∧ True) ∧ (b_6 = b_6 ∧ x_3.2.4 = y.2.4 ∧ True) ∧ (b_8 = b_8 ∧ n = n ∧ n_2 = n_2 ∧ True) ∧ True) ∧
  y.1 = x0.1 ∧ P17 y.1 y.2.1 y.2.2 y.2.3 y.2.4 y.2.5) ∧ (¬n_3 = (2 : Int) → ∃ (n_4 : Int), rawCell x_3.2.5 x_4 (25 : Nat) (Value.int IntKind.i64 n_4) ∧ (n_4 = (0 : Int) → ∃ (o : Option Go.Addr), ∃ (l : Nat), ∃ (c : Nat), rawCell x_3.2.5 x_4 (18 : Nat) (Value.slice o l c) ∧ Value.oneCell' (Value.int IntKind.i64 (IntKind.wrap IntKind.i64 (x_3.2.2 + (↑l : Int)))) = Bool.true ∧ ∃ (n_5 : Int), rawCell x_3.2.5 x_4 (22 : Nat) (Value.int IntKind.u64 n_5) ∧ (n_5 = (1 : Int) → ∃ (n_6 : Int), rawCell x_3.2.5 x_4 (23 : Nat) (Value.int IntKind.u32 n_6) ∧ Value.oneCell' (Value.int IntKind.i64
  (IntKind.wrap IntKind.i64 (IntKind.wrap IntKind.u32 (now - n_6)))) = Bool.true ∧ ∃ (k : Blk), ∃ (G : List (Nat × Blk)), List.Perm x_3.2.5 ((x_4, k) :: G) ∧ Value.oneCell' (Value.int IntKind.i64 (2 : Int)) = Bool.true ∧ ∃ (k1 : Blk), Blk.upd k (25 : Nat) (Value.int IntKind.i64 (2 : Int)) k1 ∧ Value.oneCell' (Value.int IntKind.i64 (IntKind.wrap IntKind.i64 (IntKind.wrap IntKind.i64 (IntKind.wrap IntKind.i64 (IntKind.wrap IntKind.u32 (s.2 - n_1)) + (↑x_3.2.1 : Int)) - (1 : Int)))) = Bool.true ∧ ∃ (y : Nat × AkX), m17 y.1 y.2.1 < m17 x_3.1 x_3.2.1 ∧ ((IntKind.wrap IntKind.i64
  ((↑x_3.2.1 : Int) + (1 : Int)) = (↑y.2.1 : Int) ∧ ((0 : Nat) = (0 : Nat) ∧ (0 : Nat) = (0 : Nat)) ∧ ((0 : Nat) = (0 : Nat) ∧ (0 : Nat) = (0 : Nat)) ∧ ((0 : Nat) = (0 : Nat) ∧ (0 : Nat) = (0 : Nat)) ∧ ((0 : Nat) = (0 : Nat) ∧ (0 : Nat) = (0 : Nat)) ∧ ((0 : Nat) = (0 : Nat) ∧ (0 : Nat) = (0 : Nat)) ∧ IntKind.wrap IntKind.i64 (IntKind.wrap IntKind.u32 (s.2 - n_1)) = IntKind.wrap IntKind.i64 (IntKind.wrap IntKind.u32 (s.2 - n_1)) ∧ ((0 : Nat) = (0 : Nat) ∧ (0 : Nat) = (0 : Nat)) ∧ (((0 : Nat) = (0 : Nat) ∧ (0 : Nat) = (0 : Nat)) ∧ ((0 : Nat) = (0 : Nat) ∧ (0 : Nat) = (0 : Nat)) ∧ ((0 : Nat) =
  (0 : Nat) ∧ (0 : Nat) = (0 : Nat)) ∧ ((0 : Nat) = (0 : Nat) ∧ (0 : Nat) = (0 : Nat)) ∧ True) ∧ ((0 : Nat) = (0 : Nat) ∧ (0 : Nat) = (0 : Nat)) ∧ Value.slice s.3 s.4 s.5 = Value.slice s.3 s.4 s.5 ∧ (↑s.4 : Int) = (↑s.4 : Int) ∧ (↑x_2.1 : Int) = (↑x_2.1 : Int) ∧ True) ∧ (x_4, k1) :: G = y.2.5 ∧ (b_1 = b_1 ∧ Value.pointer (Option.some { block := b, off := (0 : Nat) }) = Value.pointer (Option.some { block := b, off := (0 : Nat) }) ∧ True) ∧ (b_2 = b_2 ∧ s.1 = s.1 ∧ Value.bool Bool.false = Value.bool Bool.false ∧ Value.bool Bool.false = Value.bool Bool.false ∧ Value.bool Bool.false = Value.bool
  Bool.false ∧ Value.bool Bool.false = Value.bool Bool.false ∧ s.2 = s.2 ∧ (0 : Int) = (0 : Int) ∧ (0 : Int) = (0 : Int) ∧ (0 : Int) = (0 : Int) ∧ (0 : Int) = (0 : Int) ∧ (0 : Int) = (0 : Int) ∧ (0 : Int) = (0 : Int) ∧ (0 : Int) = (0 : Int) ∧ (0 : Int) = (0 : Int) ∧ Value.slice s.3 s.4 s.5 = Value.slice s.3 s.4 s.5 ∧ Value.slice Option.none (0 : Nat) (0 : Nat) = Value.slice Option.none (0 : Nat) (0 : Nat) ∧ Value.slice Option.none (0 : Nat) (0 : Nat) = Value.slice Option.none (0 : Nat) (0 : Nat) ∧ Value.slice Option.none (0 : Nat) (0 : Nat) = Value.slice Option.none (0 : Nat) (0 : Nat) ∧
  Value.slice Option.none (0 : Nat) (0 : Nat) = Value.slice Option.none (0 : Nat) (0 : Nat) ∧ True) ∧ (b_3 = b_3 ∧ now = now ∧ True) ∧ (b_4 = b_4 ∧ (0 : Int) = (0 : Int) ∧ True ∧ True ∧ (0 : Int) = (0 : Int) ∧ True ∧ True) ∧ (b_5 = b_5 ∧ IntKind.wrap IntKind.i64 (x_3.2.2 + (↑l : Int)) = y.2.2 ∧ True ∧ True ∧ IntKind.wrap IntKind.i64 (IntKind.wrap IntKind.u32 (now - n_6)) = y.2.3 ∧ (badP x.1 x.3 x.4 ↔ badP x.1 x.3 x.4) ∧ True) ∧ (b_6 = b_6 ∧ IntKind.wrap IntKind.i64 (IntKind.wrap IntKind.i64 (IntKind.wrap IntKind.i64 (IntKind.wrap IntKind.u32 (s.2 - n_1)) + (↑x_3.2.1 : Int)) - (1 : Int)) =
  y.2.4 ∧ True) ∧ (b_8 = b_8 ∧ n = n ∧ n_2 = n_2 ∧ True) ∧ True) ∧ y.1 = x0.1 ∧ P17 y.1 y.2.1 y.2.2 y.2.3 y.2.4 y.2.5) ∧ (¬n_5 = (1 : Int) → ∃ (k : Blk), ∃ (G : List (Nat × Blk)), List.Perm x_3.2.5 ((x_4, k) :: G) ∧ Value.oneCell' (Value.int IntKind.i64 (2 : Int)) = Bool.true ∧ ∃ (k1 : Blk), Blk.upd k (25 : Nat) (Value.int IntKind.i64 (2 : Int)) k1 ∧ Value.oneCell' (Value.int IntKind.i64 (IntKind.wrap IntKind.i64 (IntKind.wrap IntKind.i64 (IntKind.wrap IntKind.i64 (IntKind.wrap IntKind.u32 (s.2 - n_1)) + (↑x_3.2.1 : Int)) - (1 : Int)))) = Bool.true ∧ ∃ (y : Nat × AkX),
  m17 y.1 y.2.1 < m17 x_3.1 x_3.2.1 ∧ ((IntKind.wrap IntKind.i64 ((↑x_3.2.1 : Int) + (1 : Int)) = (↑y.2.1 : Int) ∧ ((0 : Nat) = (0 : Nat) ∧ (0 : Nat) = (0 : Nat)) ∧ ((0 : Nat) = (0 : Nat) ∧ (0 : Nat) = (0 : Nat)) ∧ ((0 : Nat) = (0 : Nat) ∧ (0 : Nat) = (0 : Nat)) ∧ ((0 : Nat) = (0 : Nat) ∧ (0 : Nat) = (0 : Nat)) ∧ ((0 : Nat) = (0 : Nat) ∧ (0 : Nat) = (0 : Nat)) ∧ IntKind.wrap IntKind.i64 (IntKind.wrap IntKind.u32 (s.2 - n_1)) = IntKind.wrap IntKind.i64 (IntKind.wrap IntKind.u32 (s.2 - n_1)) ∧ ((0 : Nat) = (0 : Nat) ∧ (0 : Nat) = (0 : Nat)) ∧ (((0 : Nat) = (0 : Nat) ∧ (0 : Nat) = (0 : Nat)) ∧
  ((0 : Nat) = (0 : Nat) ∧ (0 : Nat) = (0 : Nat)) ∧ ((0 : Nat) = (0 : Nat) ∧ (0 : Nat) = (0 : Nat)) ∧ ((0 : Nat) = (0 : Nat) ∧ (0 : Nat) = (0 : Nat)) ∧ True) ∧ ((0 : Nat) = (0 : Nat) ∧ (0 : Nat) = (0 : Nat)) ∧ Value.slice s.3 s.4 s.5 = Value.slice s.3 s.4 s.5 ∧ (↑s.4 : Int) = (↑s.4 : Int) ∧ (↑x_2.1 : Int) = (↑x_2.1 : Int) ∧ True) ∧ (x_4, k1) :: G = y.2.5 ∧ (b_1 = b_1 ∧ Value.pointer (Option.some { block := b, off := (0 : Nat) }) = Value.pointer (Option.some { block := b, off := (0 : Nat) }) ∧ True) ∧ (b_2 = b_2 ∧ s.1 = s.1 ∧ Value.bool Bool.false = Value.bool Bool.false ∧
  Value.bool Bool.false = Value.bool Bool.false ∧ Value.bool Bool.false = Value.bool Bool.false ∧ Value.bool Bool.false = Value.bool Bool.false ∧ s.2 = s.2 ∧ (0 : Int) = (0 : Int) ∧ (0 : Int) = (0 : Int) ∧ (0 : Int) = (0 : Int) ∧ (0 : Int) = (0 : Int) ∧ (0 : Int) = (0 : Int) ∧ (0 : Int) = (0 : Int) ∧ (0 : Int) = (0 : Int) ∧ (0 : Int) = (0 : Int) ∧ Value.slice s.3 s.4 s.5 = Value.slice s.3 s.4 s.5 ∧ Value.slice Option.none (0 : Nat) (0 : Nat) = Value.slice Option.none (0 : Nat) (0 : Nat) ∧ Value.slice Option.none (0 : Nat) (0 : Nat) = Value.slice Option.none (0 : Nat) (0 : Nat) ∧ Value.slice
  Option.none (0 : Nat) (0 : Nat) = Value.slice Option.none (0 : Nat) (0 : Nat) ∧ Value.slice Option.none (0 : Nat) (0 : Nat) = Value.slice Option.none (0 : Nat) (0 : Nat) ∧ True) ∧ (b_3 = b_3 ∧ now = now ∧ True) ∧ (b_4 = b_4 ∧ (0 : Int) = (0 : Int) ∧ True ∧ True ∧ (0 : Int) = (0 : Int) ∧ True ∧ True) ∧ (b_5 = b_5 ∧ IntKind.wrap IntKind.i64 (x_3.2.2 + (↑l : Int)) = y.2.2 ∧ True ∧ True ∧ x_3.2.3 = y.2.3 ∧ (badP x.1 x.3 x.4 ↔ badP x.1 x.3 x.4) ∧ True) ∧ (b_6 = b_6 ∧ IntKind.wrap IntKind.i64 (IntKind.wrap IntKind.i64 (IntKind.wrap IntKind.i64 (IntKind.wrap IntKind.u32 (s.2 - n_1)) +
  (↑x_3.2.1 : Int)) - (1 : Int)) = y.2.4 ∧ True) ∧ (b_8 = b_8 ∧ n = n ∧ n_2 = n_2 ∧ True) ∧ True) ∧ y.1 = x0.1 ∧ P17 y.1 y.2.1 y.2.2 y.2.3 y.2.4 y.2.5)) ∧ (¬n_4 = (0 : Int) → ∃ (n_5 : Int), rawCell x_3.2.5 x_4 (25 : Nat) (Value.int IntKind.i64 n_5) ∧ (n_5 = (1 : Int) → ∃ (o : Option Go.Addr), ∃ (l : Nat), ∃ (c : Nat), rawCell x_3.2.5 x_4 (18 : Nat) (Value.slice o l c) ∧ Value.oneCell' (Value.int IntKind.i64 (IntKind.wrap IntKind.i64 (x_3.2.2 + (↑l : Int)))) = Bool.true ∧ ∃ (n_6 : Int), rawCell x_3.2.5 x_4 (22 : Nat) (Value.int IntKind.u64 n_6) ∧ (n_6 = (1 : Int) → ∃ (n_7 : Int),
  rawCell x_3.2.5 x_4 (23 : Nat) (Value.int IntKind.u32 n_7) ∧ Value.oneCell' (Value.int IntKind.i64 (IntKind.wrap IntKind.i64 (IntKind.wrap IntKind.u32 (now - n_7)))) = Bool.true ∧ ∃ (k : Blk), ∃ (G : List (Nat × Blk)), List.Perm x_3.2.5 ((x_4, k) :: G) ∧ Value.oneCell' (Value.int IntKind.i64 (2 : Int)) = Bool.true ∧ ∃ (k1 : Blk), Blk.upd k (25 : Nat) (Value.int IntKind.i64 (2 : Int)) k1 ∧ Value.oneCell' (Value.int IntKind.i64 (IntKind.wrap IntKind.i64 (IntKind.wrap IntKind.i64 (IntKind.wrap IntKind.i64 (IntKind.wrap IntKind.u32 (s.2 - n_1)) + (↑x_3.2.1 : Int)) - (1 : Int)))) = Bool.true ∧
  ∃ (y : Nat × AkX), m17 y.1 y.2.1 < m17 x_3.1 x_3.2.1 ∧ ((IntKind.wrap IntKind.i64 ((↑x_3.2.1 : Int) + (1 : Int)) = (↑y.2.1 : Int) ∧ ((0 : Nat) = (0 : Nat) ∧ (0 : Nat) = (0 : Nat)) ∧ ((0 : Nat) = (0 : Nat) ∧ (0 : Nat) = (0 : Nat)) ∧ ((0 : Nat) = (0 : Nat) ∧ (0 : Nat) = (0 : Nat)) ∧ ((0 : Nat) = (0 : Nat) ∧ (0 : Nat) = (0 : Nat)) ∧ ((0 : Nat) = (0 : Nat) ∧ (0 : Nat) = (0 : Nat)) ∧ IntKind.wrap IntKind.i64 (IntKind.wrap IntKind.u32 (s.2 - n_1)) = IntKind.wrap IntKind.i64 (IntKind.wrap IntKind.u32 (s.2 - n_1)) ∧ ((0 : Nat) = (0 : Nat) ∧ (0 : Nat) = (0 : Nat)) ∧ (((0 : Nat) = (0 : Nat) ∧
  (0 : Nat) = (0 : Nat)) ∧ ((0 : Nat) = (0 : Nat) ∧ (0 : Nat) = (0 : Nat)) ∧ ((0 : Nat) = (0 : Nat) ∧ (0 : Nat) = (0 : Nat)) ∧ ((0 : Nat) = (0 : Nat) ∧ (0 : Nat) = (0 : Nat)) ∧ True) ∧ ((0 : Nat) = (0 : Nat) ∧ (0 : Nat) = (0 : Nat)) ∧ Value.slice s.3 s.4 s.5 = Value.slice s.3 s.4 s.5 ∧ (↑s.4 : Int) = (↑s.4 : Int) ∧ (↑x_2.1 : Int) = (↑x_2.1 : Int) ∧ True) ∧ (x_4, k1) :: G = y.2.5 ∧ (b_1 = b_1 ∧ Value.pointer (Option.some { block := b, off := (0 : Nat) }) = Value.pointer (Option.some { block := b, off := (0 : Nat) }) ∧ True) ∧ (b_2 = b_2 ∧ s.1 = s.1 ∧ Value.bool Bool.false = Value.bool
  Bool.false ∧ Value.bool Bool.false = Value.bool Bool.false ∧ Value.bool Bool.false = Value.bool Bool.false ∧ Value.bool Bool.false = Value.bool Bool.false ∧ s.2 = s.2 ∧ (0 : Int) = (0 : Int) ∧ (0 : Int) = (0 : Int) ∧ (0 : Int) = (0 : Int) ∧ (0 : Int) = (0 : Int) ∧ (0 : Int) = (0 : Int) ∧ (0 : Int) = (0 : Int) ∧ (0 : Int) = (0 : Int) ∧ (0 : Int) = (0 : Int) ∧ Value.slice s.3 s.4 s.5 = Value.slice s.3 s.4 s.5 ∧ Value.slice Option.none (0 : Nat) (0 : Nat) = Value.slice Option.none (0 : Nat) (0 : Nat) ∧ Value.slice Option.none (0 : Nat) (0 : Nat) = Value.slice Option.none (0 : Nat) (0 : Nat) ∧
  Value.slice Option.none (0 : Nat) (0 : Nat) = Value.slice Option.none (0 : Nat) (0 : Nat) ∧ Value.slice Option.none (0 : Nat) (0 : Nat) = Value.slice Option.none (0 : Nat) (0 : Nat) ∧ True) ∧ (b_3 = b_3 ∧ now = now ∧ True) ∧ (b_4 = b_4 ∧ (0 : Int) = (0 : Int) ∧ True ∧ True ∧ (0 : Int) = (0 : Int) ∧ True ∧ True) ∧ (b_5 = b_5 ∧ IntKind.wrap IntKind.i64 (x_3.2.2 + (↑l : Int)) = y.2.2 ∧ True ∧ True ∧ IntKind.wrap IntKind.i64 (IntKind.wrap IntKind.u32 (now - n_7)) = y.2.3 ∧ (badP x.1 x.3 x.4 ↔ badP x.1 x.3 x.4) ∧ True) ∧ (b_6 = b_6 ∧ IntKind.wrap IntKind.i64 (IntKind.wrap IntKind.i64
  (IntKind.wrap IntKind.i64 (IntKind.wrap IntKind.u32 (s.2 - n_1)) + (↑x_3.2.1 : Int)) - (1 : Int)) = y.2.4 ∧ True) ∧ (b_8 = b_8 ∧ n = n ∧ n_2 = n_2 ∧ True) ∧ True) ∧ y.1 = x0.1 ∧ P17 y.1 y.2.1 y.2.2 y.2.3 y.2.4 y.2.5) ∧ (¬n_6 = (1 : Int) → ∃ (k : Blk), ∃ (G : List (Nat × Blk)), List.Perm x_3.2.5 ((x_4, k) :: G) ∧ Value.oneCell' (Value.int IntKind.i64 (2 : Int)) = Bool.true ∧ ∃ (k1 : Blk), Blk.upd k (25 : Nat) (Value.int IntKind.i64 (2 : Int)) k1 ∧ Value.oneCell' (Value.int IntKind.i64 (IntKind.wrap IntKind.i64 (IntKind.wrap IntKind.i64 (IntKind.wrap IntKind.i64 (IntKind.wrap IntKind.u32
  (s.2 - n_1)) + (↑x_3.2.1 : Int)) - (1 : Int)))) = Bool.true ∧ ∃ (y : Nat × AkX), m17 y.1 y.2.1 < m17 x_3.1 x_3.2.1 ∧ ((IntKind.wrap IntKind.i64 ((↑x_3.2.1 : Int) + (1 : Int)) = (↑y.2.1 : Int) ∧ ((0 : Nat) = (0 : Nat) ∧ (0 : Nat) = (0 : Nat)) ∧ ((0 : Nat) = (0 : Nat) ∧ (0 : Nat) = (0 : Nat)) ∧ ((0 : Nat) = (0 : Nat) ∧ (0 : Nat) = (0 : Nat)) ∧ ((0 : Nat) = (0 : Nat) ∧ (0 : Nat) = (0 : Nat)) ∧ ((0 : Nat) = (0 : Nat) ∧ (0 : Nat) = (0 : Nat)) ∧ IntKind.wrap IntKind.i64 (IntKind.wrap IntKind.u32 (s.2 - n_1)) = IntKind.wrap IntKind.i64 (IntKind.wrap IntKind.u32 (s.2 - n_1)) ∧
  ((0 : Nat) = (0 : Nat) ∧ (0 : Nat) = (0 : Nat)) ∧ (((0 : Nat) = (0 : Nat) ∧ (0 : Nat) = (0 : Nat)) ∧ ((0 : Nat) = (0 : Nat) ∧ (0 : Nat) = (0 : Nat)) ∧ ((0 : Nat) = (0 : Nat) ∧ (0 : Nat) = (0 : Nat)) ∧ ((0 : Nat) = (0 : Nat) ∧ (0 : Nat) = (0 : Nat)) ∧ True) ∧ ((0 : Nat) = (0 : Nat) ∧ (0 : Nat) = (0 : Nat)) ∧ Value.slice s.3 s.4 s.5 = Value.slice s.3 s.4 s.5 ∧ (↑s.4 : Int) = (↑s.4 : Int) ∧ (↑x_2.1 : Int) = (↑x_2.1 : Int) ∧ True) ∧ (x_4, k1) :: G = y.2.5 ∧ (b_1 = b_1 ∧ Value.pointer (Option.some { block := b, off := (0 : Nat) }) = Value.pointer (Option.some { block := b, off := (0 : Nat) }) ∧
  True) ∧ (b_2 = b_2 ∧ s.1 = s.1 ∧ Value.bool Bool.false = Value.bool Bool.false ∧ Value.bool Bool.false = Value.bool Bool.false ∧ Value.bool Bool.false = Value.bool Bool.false ∧ Value.bool Bool.false = Value.bool Bool.false ∧ s.2 = s.2 ∧ (0 : Int) = (0 : Int) ∧ (0 : Int) = (0 : Int) ∧ (0 : Int) = (0 : Int) ∧ (0 : Int) = (0 : Int) ∧ (0 : Int) = (0 : Int) ∧ (0 : Int) = (0 : Int) ∧ (0 : Int) = (0 : Int) ∧ (0 : Int) = (0 : Int) ∧ Value.slice s.3 s.4 s.5 = Value.slice s.3 s.4 s.5 ∧ Value.slice Option.none (0 : Nat) (0 : Nat) = Value.slice Option.none (0 : Nat) (0 : Nat) ∧ Value.slice Option.none
  (0 : Nat) (0 : Nat) = Value.slice Option.none (0 : Nat) (0 : Nat) ∧ Value.slice Option.none (0 : Nat) (0 : Nat) = Value.slice Option.none (0 : Nat) (0 : Nat) ∧ Value.slice Option.none (0 : Nat) (0 : Nat) = Value.slice Option.none (0 : Nat) (0 : Nat) ∧ True) ∧ (b_3 = b_3 ∧ now = now ∧ True) ∧ (b_4 = b_4 ∧ (0 : Int) = (0 : Int) ∧ True ∧ True ∧ (0 : Int) = (0 : Int) ∧ True ∧ True) ∧ (b_5 = b_5 ∧ IntKind.wrap IntKind.i64 (x_3.2.2 + (↑l : Int)) = y.2.2 ∧ True ∧ True ∧ x_3.2.3 = y.2.3 ∧ (badP x.1 x.3 x.4 ↔ badP x.1 x.3 x.4) ∧ True) ∧ (b_6 = b_6 ∧ IntKind.wrap IntKind.i64 (IntKind.wrap IntKind.i64
  (IntKind.wrap IntKind.i64 (IntKind.wrap IntKind.u32 (s.2 - n_1)) + (↑x_3.2.1 : Int)) - (1 : Int)) = y.2.4 ∧ True) ∧ (b_8 = b_8 ∧ n = n ∧ n_2 = n_2 ∧ True) ∧ True) ∧ y.1 = x0.1 ∧ P17 y.1 y.2.1 y.2.2 y.2.3 y.2.4 y.2.5)) ∧ (¬n_5 = (1 : Int) → ∃ (k : Blk), ∃ (G : List (Nat × Blk)), List.Perm x_3.2.5 ((x_4, k) :: G) ∧ Value.oneCell' (Value.int IntKind.i64 (2 : Int)) = Bool.true ∧ ∃ (k1 : Blk), Blk.upd k (25 : Nat) (Value.int IntKind.i64 (2 : Int)) k1 ∧ Value.oneCell' (Value.int IntKind.i64 (IntKind.wrap IntKind.i64 (IntKind.wrap IntKind.i64 (IntKind.wrap IntKind.i64
  (IntKind.wrap IntKind.u32 (s.2 - n_1)) + (↑x_3.2.1 : Int)) - (1 : Int)))) = Bool.true ∧ ∃ (y : Nat × AkX), m17 y.1 y.2.1 < m17 x_3.1 x_3.2.1 ∧ ((IntKind.wrap IntKind.i64 ((↑x_3.2.1 : Int) + (1 : Int)) = (↑y.2.1 : Int) ∧ ((0 : Nat) = (0 : Nat) ∧ (0 : Nat) = (0 : Nat)) ∧ ((0 : Nat) = (0 : Nat) ∧ (0 : Nat) = (0 : Nat)) ∧ ((0 : Nat) = (0 : Nat) ∧ (0 : Nat) = (0 : Nat)) ∧ ((0 : Nat) = (0 : Nat) ∧ (0 : Nat) = (0 : Nat)) ∧ ((0 : Nat) = (0 : Nat) ∧ (0 : Nat) = (0 : Nat)) ∧ IntKind.wrap IntKind.i64 (IntKind.wrap IntKind.u32 (s.2 - n_1)) = IntKind.wrap IntKind.i64 (IntKind.wrap IntKind.u32
  (s.2 - n_1)) ∧ ((0 : Nat) = (0 : Nat) ∧ (0 : Nat) = (0 : Nat)) ∧ (((0 : Nat) = (0 : Nat) ∧ (0 : Nat) = (0 : Nat)) ∧ ((0 : Nat) = (0 : Nat) ∧ (0 : Nat) = (0 : Nat)) ∧ ((0 : Nat) = (0 : Nat) ∧ (0 : Nat) = (0 : Nat)) ∧ ((0 : Nat) = (0 : Nat) ∧ (0 : Nat) = (0 : Nat)) ∧ True) ∧ ((0 : Nat) = (0 : Nat) ∧ (0 : Nat) = (0 : Nat)) ∧ Value.slice s.3 s.4 s.5 = Value.slice s.3 s.4 s.5 ∧ (↑s.4 : Int) = (↑s.4 : Int) ∧ (↑x_2.1 : Int) = (↑x_2.1 : Int) ∧ True) ∧ (x_4, k1) :: G = y.2.5 ∧ (b_1 = b_1 ∧ Value.pointer (Option.some { block := b, off := (0 : Nat) }) = Value.pointer (Option.some
  { block := b, off := (0 : Nat) }) ∧ True) ∧ (b_2 = b_2 ∧ s.1 = s.1 ∧ Value.bool Bool.false = Value.bool Bool.false ∧ Value.bool Bool.false = Value.bool Bool.false ∧ Value.bool Bool.false = Value.bool Bool.false ∧ Value.bool Bool.false = Value.bool Bool.false ∧ s.2 = s.2 ∧ (0 : Int) = (0 : Int) ∧ (0 : Int) = (0 : Int) ∧ (0 : Int) = (0 : Int) ∧ (0 : Int) = (0 : Int) ∧ (0 : Int) = (0 : Int) ∧ (0 : Int) = (0 : Int) ∧ (0 : Int) = (0 : Int) ∧ (0 : Int) = (0 : Int) ∧ Value.slice s.3 s.4 s.5 = Value.slice s.3 s.4 s.5 ∧ Value.slice Option.none (0 : Nat) (0 : Nat) = Value.slice Option.none (0 : Nat)
  (0 : Nat) ∧ Value.slice Option.none (0 : Nat) (0 : Nat) = Value.slice Option.none (0 : Nat) (0 : Nat) ∧ Value.slice Option.none (0 : Nat) (0 : Nat) = Value.slice Option.none (0 : Nat) (0 : Nat) ∧ Value.slice Option.none (0 : Nat) (0 : Nat) = Value.slice Option.none (0 : Nat) (0 : Nat) ∧ True) ∧ (b_3 = b_3 ∧ now = now ∧ True) ∧ (b_4 = b_4 ∧ (0 : Int) = (0 : Int) ∧ True ∧ True ∧ (0 : Int) = (0 : Int) ∧ True ∧ True) ∧ (b_5 = b_5 ∧ x_3.2.2 = y.2.2 ∧ True ∧ True ∧ x_3.2.3 = y.2.3 ∧ (badP x.1 x.3 x.4 ↔ badP x.1 x.3 x.4) ∧ True) ∧ (b_6 = b_6 ∧ IntKind.wrap IntKind.i64 (IntKind.wrap IntKind.i64
  (IntKind.wrap IntKind.i64 (IntKind.wrap IntKind.u32 (s.2 - n_1)) + (↑x_3.2.1 : Int)) - (1 : Int)) = y.2.4 ∧ True) ∧ (b_8 = b_8 ∧ n = n ∧ n_2 = n_2 ∧ True) ∧ True) ∧ y.1 = x0.1 ∧ P17 y.1 y.2.1 y.2.2 y.2.3 y.2.4 y.2.5)))) ∧ (¬(↑x_3.2.1 : Int) ≤ IntKind.wrap IntKind.i64 n_2 → ∃ (y : AkX), ng - y.1 < ng - x_2.1 ∧ ((IntKind.wrap IntKind.i64 ((↑x_2.1 : Int) + (1 : Int)) = (↑y.1 : Int) ∧ ((0 : Nat) = (0 : Nat) ∧ (0 : Nat) = (0 : Nat)) ∧ ((0 : Nat) = (0 : Nat) ∧ (0 : Nat) = (0 : Nat)) ∧ ((0 : Nat) = (0 : Nat) ∧ (0 : Nat) = (0 : Nat)) ∧ ((0 : Nat) = (0 : Nat) ∧ (0 : Nat) = (0 : Nat)) ∧
  ((0 : Nat) = (0 : Nat) ∧ (0 : Nat) = (0 : Nat)) ∧ IntKind.wrap IntKind.i64 (IntKind.wrap IntKind.u32 (s.2 - n_1)) = IntKind.wrap IntKind.i64 (IntKind.wrap IntKind.u32 (s.2 - n_1)) ∧ ((0 : Nat) = (0 : Nat) ∧ (0 : Nat) = (0 : Nat)) ∧ (((0 : Nat) = (0 : Nat) ∧ (0 : Nat) = (0 : Nat)) ∧ ((0 : Nat) = (0 : Nat) ∧ (0 : Nat) = (0 : Nat)) ∧ ((0 : Nat) = (0 : Nat) ∧ (0 : Nat) = (0 : Nat)) ∧ ((0 : Nat) = (0 : Nat) ∧ (0 : Nat) = (0 : Nat)) ∧ True) ∧ Value.slice s.3 s.4 s.5 = Value.slice s.3 s.4 s.5 ∧ (↑s.4 : Int) = (↑s.4 : Int) ∧ True) ∧ x_3.2.5 = y.5 ∧ (b_1 = b_1 ∧
  Value.pointer (Option.some { block := b, off := (0 : Nat) }) = Value.pointer (Option.some { block := b, off := (0 : Nat) }) ∧ True) ∧ (b_2 = b_2 ∧ s.1 = s.1 ∧ Value.bool Bool.false = Value.bool Bool.false ∧ Value.bool Bool.false = Value.bool Bool.false ∧ Value.bool Bool.false = Value.bool Bool.false ∧ Value.bool Bool.false = Value.bool Bool.false ∧ s.2 = s.2 ∧ (0 : Int) = (0 : Int) ∧ (0 : Int) = (0 : Int) ∧ (0 : Int) = (0 : Int) ∧ (0 : Int) = (0 : Int) ∧ (0 : Int) = (0 : Int) ∧ (0 : Int) = (0 : Int) ∧ (0 : Int) = (0 : Int) ∧ (0 : Int) = (0 : Int) ∧
  Value.slice s.3 s.4 s.5 = Value.slice s.3 s.4 s.5 ∧ Value.slice Option.none (0 : Nat) (0 : Nat) = Value.slice Option.none (0 : Nat) (0 : Nat) ∧ Value.slice Option.none (0 : Nat) (0 : Nat) = Value.slice Option.none (0 : Nat) (0 : Nat) ∧ Value.slice Option.none (0 : Nat) (0 : Nat) = Value.slice Option.none (0 : Nat) (0 : Nat) ∧ Value.slice Option.none (0 : Nat) (0 : Nat) = Value.slice Option.none (0 : Nat) (0 : Nat) ∧ True) ∧ (b_3 = b_3 ∧ now = now ∧ True) ∧ (b_4 = b_4 ∧ (0 : Int) = (0 : Int) ∧ True ∧ True ∧ (0 : Int) = (0 : Int) ∧ True ∧ True) ∧ (b_5 = b_5 ∧ x_3.2.2 = y.2 ∧ True ∧ True ∧
  x_3.2.3 = y.3 ∧ (badP x.1 x.3 x.4 ↔ badP x.1 x.3 x.4) ∧ True) ∧ (b_6 = b_6 ∧ x_3.2.4 = y.4 ∧ True) ∧ True) ∧ P14 y.1 y.2 y.3 y.4 y.5)) ∧ (¬(↑x_2.1 : Int) < (↑s.4 : Int) → ∃ (o : Option Go.Addr), ∃ (l : Nat), ∃ (c : Nat), rawCell x_2.5 b (1 : Nat) (Value.slice o l c) ∧ ∃ (x_3 : RSl), (∀ (r : List (Nat × Nat × Nat)), Value.slice (Option.some { block := x_3.1, off := x_3.2 }) x_3.3 x_3.4 = Value.slice o l c) ∧ ((0 : Int) ≤ Max.max x_2.4 (0 : Int) ∧ Max.max x_2.4 (0 : Int) ≤ (↑x_3.4 : Int)) ∧ ∃ (x0 : MsX), ((((0 : Int) = (↑x0.1 : Int) ∧ ((0 : Nat) = (0 : Nat) ∧ (0 : Nat) = (0 : Nat)) ∧
  ((0 : Nat) = (0 : Nat) ∧ (0 : Nat) = (0 : Nat)) ∧ ((0 : Nat) = (0 : Nat) ∧ (0 : Nat) = (0 : Nat)) ∧ ((0 : Nat) = (0 : Nat) ∧ (0 : Nat) = (0 : Nat)) ∧ ((0 : Nat) = (0 : Nat) ∧ (0 : Nat) = (0 : Nat)) ∧ IntKind.wrap IntKind.i64 (IntKind.wrap IntKind.u32 (s.2 - n_1)) = IntKind.wrap IntKind.i64 (IntKind.wrap IntKind.u32 (s.2 - n_1)) ∧ Value.slice (Option.some { block := x_3.1, off := if x_3.4 = (0 : Nat) then x_3.2 else x_3.2 }) (Int.toNat (Max.max x_2.4 (0 : Int)) - (0 : Nat)) (x_3.4 - (0 : Nat)) = Value.slice (Option.some { block := x_3.1, off := if x_3.4 = (0 : Nat) then x_3.2 else x_3.2 })
  (Int.toNat (Max.max x_2.4 (0 : Int)) - (0 : Nat)) (x_3.4 - (0 : Nat)) ∧ (↑(Int.toNat (Max.max x_2.4 (0 : Int)) - (0 : Nat)) : Int) = (↑(Int.toNat (Max.max x_2.4 (0 : Int)) - (0 : Nat)) : Int) ∧ True) ∧ x_2.5 = x0.3 ∧ (b_1 = b_1 ∧ Value.pointer (Option.some { block := b, off := (0 : Nat) }) = Value.pointer (Option.some { block := b, off := (0 : Nat) }) ∧ True) ∧ (b_2 = b_2 ∧ s.1 = s.1 ∧ Value.bool Bool.false = Value.bool Bool.false ∧ Value.bool Bool.false = Value.bool Bool.false ∧ Value.bool Bool.false = Value.bool Bool.false ∧ Value.bool Bool.false = Value.bool Bool.false ∧ s.2 = s.2 ∧
  (0 : Int) = (0 : Int) ∧ (0 : Int) = (0 : Int) ∧ (0 : Int) = (0 : Int) ∧ (0 : Int) = (0 : Int) ∧ (0 : Int) = (0 : Int) ∧ (0 : Int) = (0 : Int) ∧ (0 : Int) = (0 : Int) ∧ (0 : Int) = (0 : Int) ∧ Value.slice s.3 s.4 s.5 = Value.slice s.3 s.4 s.5 ∧ Value.slice Option.none (0 : Nat) (0 : Nat) = Value.slice Option.none (0 : Nat) (0 : Nat) ∧ Value.slice Option.none (0 : Nat) (0 : Nat) = Value.slice Option.none (0 : Nat) (0 : Nat) ∧ Value.slice Option.none (0 : Nat) (0 : Nat) = Value.slice Option.none (0 : Nat) (0 : Nat) ∧ Value.slice Option.none (0 : Nat) (0 : Nat) =
  Value.slice Option.none (0 : Nat) (0 : Nat) ∧ True) ∧ (b_3 = b_3 ∧ now = now ∧ True) ∧ (b_4 = b_4 ∧ (0 : Int) = (0 : Int) ∧ True ∧ True ∧ (0 : Int) = (0 : Int) ∧ True ∧ True) ∧ (b_5 = b_5 ∧ x_2.2 = x_2.2 ∧ True ∧ Value.bool Bool.false = Value.bool x0.2 ∧ x_2.3 = x_2.3 ∧ (badP x.1 x.3 x.4 ↔ badP x.1 x.3 x.4) ∧ True) ∧ (b_6 = b_6 ∧ x_2.4 = x_2.4 ∧ True) ∧ True) ∧ P22 x0.1 x0.2 x0.3) ∧ ∀ (x_4 : MsX), P22 x_4.1 x_4.2 x_4.3 → ((↑x_4.1 : Int) < (↑(Int.toNat (Max.max x_2.4 (0 : Int)) - (0 : Nat)) : Int) →
  ((0 : Int) ≤ (↑x_4.1 : Int) ∧ (↑x_4.1 : Int) < (↑(Int.toNat (Max.max x_2.4 (0 : Int)) - (0 : Nat)) : Int)) ∧ ∃ (a : Option Go.Addr), rawCell x_4.3 x_3.1 ((if x_3.4 = (0 : Nat) then x_3.2 else x_3.2) + x_4.1 * (1 : Nat)) (Value.pointer a) ∧ ∃ (x_5 : Nat), (∀ (r : List (Nat × Nat × Nat)), Value.pointer (Option.some { block := x_5, off := (0 : Nat) }) = Value.pointer a) ∧ ∃ (n : Int), rawCell x_4.3 x_5 (25 : Nat) (Value.int IntKind.i64 n) ∧ (n ≠ (0 : Int) → ∃ (y : MsX), m22 - y.1 < m22 - x_4.1 ∧ ((IntKind.wrap IntKind.i64 ((↑x_4.1 : Int) + (1 : Int)) = (↑y.1 : Int) ∧
  ((0 : Nat) = (0 : Nat) ∧ (0 : Nat) = (0 : Nat)) ∧ ((0 : Nat) = (0 : Nat) ∧ (0 : Nat) = (0 : Nat)) ∧ ((0 : Nat) = (0 : Nat) ∧ (0 : Nat) = (0 : Nat)) ∧ ((0 : Nat) = (0 : Nat) ∧ (0 : Nat) = (0 : Nat)) ∧ ((0 : Nat) = (0 : Nat) ∧ (0 : Nat) = (0 : Nat)) ∧ IntKind.wrap IntKind.i64 (IntKind.wrap IntKind.u32 (s.2 - n_1)) = IntKind.wrap IntKind.i64 (IntKind.wrap IntKind.u32 (s.2 - n_1)) ∧ Value.slice (Option.some { block := x_3.1, off := if x_3.4 = (0 : Nat) then x_3.2 else x_3.2 }) (Int.toNat (Max.max x_2.4 (0 : Int)) - (0 : Nat)) (x_3.4 - (0 : Nat)) = Value.slice (Option.some
  { block := x_3.1, off := if x_3.4 = (0 : Nat) then x_3.2 else x_3.2 }) (Int.toNat (Max.max x_2.4 (0 : Int)) - (0 : Nat)) (x_3.4 - (0 : Nat)) ∧ (↑(Int.toNat (Max.max x_2.4 (0 : Int)) - (0 : Nat)) : Int) = (↑(Int.toNat (Max.max x_2.4 (0 : Int)) - (0 : Nat)) : Int) ∧ True) ∧ x_4.3 = y.3 ∧ (b_1 = b_1 ∧ Value.pointer (Option.some { block := b, off := (0 : Nat) }) = Value.pointer (Option.some { block := b, off := (0 : Nat) }) ∧ True) ∧ (b_2 = b_2 ∧ s.1 = s.1 ∧ Value.bool Bool.false = Value.bool Bool.false ∧ Value.bool Bool.false = Value.bool Bool.false ∧
  Value.bool Bool.false = Value.bool Bool.false ∧ Value.bool Bool.false = Value.bool Bool.false ∧ s.2 = s.2 ∧ (0 : Int) = (0 : Int) ∧ (0 : Int) = (0 : Int) ∧ (0 : Int) = (0 : Int) ∧ (0 : Int) = (0 : Int) ∧ (0 : Int) = (0 : Int) ∧ (0 : Int) = (0 : Int) ∧ (0 : Int) = (0 : Int) ∧ (0 : Int) = (0 : Int) ∧ Value.slice s.3 s.4 s.5 = Value.slice s.3 s.4 s.5 ∧ Value.slice Option.none (0 : Nat) (0 : Nat) = Value.slice Option.none (0 : Nat) (0 : Nat) ∧ Value.slice Option.none (0 : Nat) (0 : Nat) = Value.slice Option.none (0 : Nat) (0 : Nat) ∧ Value.slice Option.none (0 : Nat) (0 : Nat) =
  Value.slice Option.none (0 : Nat) (0 : Nat) ∧ Value.slice Option.none (0 : Nat) (0 : Nat) = Value.slice Option.none (0 : Nat) (0 : Nat) ∧ True) ∧ (b_3 = b_3 ∧ now = now ∧ True) ∧ (b_4 = b_4 ∧ (0 : Int) = (0 : Int) ∧ True ∧ True ∧ (0 : Int) = (0 : Int) ∧ True ∧ True) ∧ (b_5 = b_5 ∧ x_2.2 = x_2.2 ∧ True ∧ Value.bool x_4.2 = Value.bool y.2 ∧ x_2.3 = x_2.3 ∧ (badP x.1 x.3 x.4 ↔ badP x.1 x.3 x.4) ∧ True) ∧ (b_6 = b_6 ∧ x_2.4 = x_2.4 ∧ True) ∧ True) ∧ P22 y.1 y.2 y.3) ∧ (¬n ≠ (0 : Int) → ∃ (n : Int), rawCell x_4.3 x_5 (24 : Nat) (Value.int IntKind.i64 n) ∧ ∃ (k : Blk), ∃ (G : List (Nat × Blk)),
  List.Perm x_4.3 ((x_5, k) :: G) ∧ Value.oneCell' (Value.int IntKind.i64 (IntKind.wrap IntKind.i64 (n + (1 : Int)))) = Bool.true ∧ ∃ (k1 : Blk), Blk.upd k (24 : Nat) (Value.int IntKind.i64 (IntKind.wrap IntKind.i64 (n + (1 : Int)))) k1 ∧ ∃ (n : Int), rawCell ((x_5, k1) :: G) x_5 (24 : Nat) (Value.int IntKind.i64 n) ∧ (n = (3 : Int) → ∃ (k : Blk), ∃ (G_1 : List (Nat × Blk)), List.Perm ((x_5, k1) :: G) ((x_5, k) :: G_1) ∧ Value.oneCell' (Value.int IntKind.i64 (1 : Int)) = Bool.true ∧ ∃ (k1 : Blk), Blk.upd k (25 : Nat) (Value.int IntKind.i64 (1 : Int)) k1 ∧ ∃ (y : MsX), m22 - y.1 < m22 - x_4.1 ∧
  ((IntKind.wrap IntKind.i64 ((↑x_4.1 : Int) + (1 : Int)) = (↑y.1 : Int) ∧ ((0 : Nat) = (0 : Nat) ∧ (0 : Nat) = (0 : Nat)) ∧ ((0 : Nat) = (0 : Nat) ∧ (0 : Nat) = (0 : Nat)) ∧ ((0 : Nat) = (0 : Nat) ∧ (0 : Nat) = (0 : Nat)) ∧ ((0 : Nat) = (0 : Nat) ∧ (0 : Nat) = (0 : Nat)) ∧ ((0 : Nat) = (0 : Nat) ∧ (0 : Nat) = (0 : Nat)) ∧ IntKind.wrap IntKind.i64 (IntKind.wrap IntKind.u32 (s.2 - n_1)) = IntKind.wrap IntKind.i64 (IntKind.wrap IntKind.u32 (s.2 - n_1)) ∧ Value.slice (Option.some { block := x_3.1, off := if x_3.4 = (0 : Nat) then x_3.2 else x_3.2 }) (Int.toNat (Max.max x_2.4 (0 : Int)) -
  (0 : Nat)) (x_3.4 - (0 : Nat)) = Value.slice (Option.some { block := x_3.1, off := if x_3.4 = (0 : Nat) then x_3.2 else x_3.2 }) (Int.toNat (Max.max x_2.4 (0 : Int)) - (0 : Nat)) (x_3.4 - (0 : Nat)) ∧ (↑(Int.toNat (Max.max x_2.4 (0 : Int)) - (0 : Nat)) : Int) = (↑(Int.toNat (Max.max x_2.4 (0 : Int)) - (0 : Nat)) : Int) ∧ True) ∧ (x_5, k1) :: G_1 = y.3 ∧ (b_1 = b_1 ∧ Value.pointer (Option.some { block := b, off := (0 : Nat) }) = Value.pointer (Option.some { block := b, off := (0 : Nat) }) ∧ True) ∧ (b_2 = b_2 ∧ s.1 = s.1 ∧ Value.bool Bool.false = Value.bool Bool.false ∧
  Value.bool Bool.false = Value.bool Bool.false ∧ Value.bool Bool.false = Value.bool Bool.false ∧ Value.bool Bool.false = Value.bool Bool.false ∧ s.2 = s.2 ∧ (0 : Int) = (0 : Int) ∧ (0 : Int) = (0 : Int) ∧ (0 : Int) = (0 : Int) ∧ (0 : Int) = (0 : Int) ∧ (0 : Int) = (0 : Int) ∧ (0 : Int) = (0 : Int) ∧ (0 : Int) = (0 : Int) ∧ (0 : Int) = (0 : Int) ∧ Value.slice s.3 s.4 s.5 = Value.slice s.3 s.4 s.5 ∧ Value.slice Option.none (0 : Nat) (0 : Nat) = Value.slice Option.none (0 : Nat) (0 : Nat) ∧ Value.slice Option.none (0 : Nat) (0 : Nat) = Value.slice Option.none (0 : Nat) (0 : Nat) ∧ Value.slice
  Option.none (0 : Nat) (0 : Nat) = Value.slice Option.none (0 : Nat) (0 : Nat) ∧ Value.slice Option.none (0 : Nat) (0 : Nat) = Value.slice Option.none (0 : Nat) (0 : Nat) ∧ True) ∧ (b_3 = b_3 ∧ now = now ∧ True) ∧ (b_4 = b_4 ∧ (0 : Int) = (0 : Int) ∧ True ∧ True ∧ (0 : Int) = (0 : Int) ∧ True ∧ True) ∧ (b_5 = b_5 ∧ x_2.2 = x_2.2 ∧ True ∧ Value.bool Bool.true = Value.bool y.2 ∧ x_2.3 = x_2.3 ∧ (badP x.1 x.3 x.4 ↔ badP x.1 x.3 x.4) ∧ True) ∧ (b_6 = b_6 ∧ x_2.4 = x_2.4 ∧ True) ∧ True) ∧ P22 y.1 y.2 y.3) ∧ (¬n = (3 : Int) → ∃ (y : MsX), m22 - y.1 < m22 - x_4.1 ∧
  ((IntKind.wrap IntKind.i64 ((↑x_4.1 : Int) + (1 : Int)) = (↑y.1 : Int) ∧ ((0 : Nat) = (0 : Nat) ∧ (0 : Nat) = (0 : Nat)) ∧ ((0 : Nat) = (0 : Nat) ∧ (0 : Nat) = (0 : Nat)) ∧ ((0 : Nat) = (0 : Nat) ∧ (0 : Nat) = (0 : Nat)) ∧ ((0 : Nat) = (0 : Nat) ∧ (0 : Nat) = (0 : Nat)) ∧ ((0 : Nat) = (0 : Nat) ∧ (0 : Nat) = (0 : Nat)) ∧ IntKind.wrap IntKind.i64 (IntKind.wrap IntKind.u32 (s.2 - n_1)) = IntKind.wrap IntKind.i64 (IntKind.wrap IntKind.u32 (s.2 - n_1)) ∧ Value.slice (Option.some { block := x_3.1, off := if x_3.4 = (0 : Nat) then x_3.2 else x_3.2 })
  (Int.toNat (Max.max x_2.4 (0 : Int)) - (0 : Nat)) (x_3.4 - (0 : Nat)) = Value.slice (Option.some { block := x_3.1, off := if x_3.4 = (0 : Nat) then x_3.2 else x_3.2 }) (Int.toNat (Max.max x_2.4 (0 : Int)) - (0 : Nat)) (x_3.4 - (0 : Nat)) ∧ (↑(Int.toNat (Max.max x_2.4 (0 : Int)) - (0 : Nat)) : Int) = (↑(Int.toNat (Max.max x_2.4 (0 : Int)) - (0 : Nat)) : Int) ∧ True) ∧ (x_5, k1) :: G = y.3 ∧ (b_1 = b_1 ∧ Value.pointer (Option.some { block := b, off := (0 : Nat) }) = Value.pointer (Option.some { block := b, off := (0 : Nat) }) ∧ True) ∧ (b_2 = b_2 ∧ s.1 = s.1 ∧
  Value.bool Bool.false = Value.bool Bool.false ∧ Value.bool Bool.false = Value.bool Bool.false ∧ Value.bool Bool.false = Value.bool Bool.false ∧ Value.bool Bool.false = Value.bool Bool.false ∧ s.2 = s.2 ∧ (0 : Int) = (0 : Int) ∧ (0 : Int) = (0 : Int) ∧ (0 : Int) = (0 : Int) ∧ (0 : Int) = (0 : Int) ∧ (0 : Int) = (0 : Int) ∧ (0 : Int) = (0 : Int) ∧ (0 : Int) = (0 : Int) ∧ (0 : Int) = (0 : Int) ∧ Value.slice s.3 s.4 s.5 = Value.slice s.3 s.4 s.5 ∧ Value.slice Option.none (0 : Nat) (0 : Nat) = Value.slice Option.none (0 : Nat) (0 : Nat) ∧ Value.slice Option.none (0 : Nat) (0 : Nat) =
  Value.slice Option.none (0 : Nat) (0 : Nat) ∧ Value.slice Option.none (0 : Nat) (0 : Nat) = Value.slice Option.none (0 : Nat) (0 : Nat) ∧ Value.slice Option.none (0 : Nat) (0 : Nat) = Value.slice Option.none (0 : Nat) (0 : Nat) ∧ True) ∧ (b_3 = b_3 ∧ now = now ∧ True) ∧ (b_4 = b_4 ∧ (0 : Int) = (0 : Int) ∧ True ∧ True ∧ (0 : Int) = (0 : Int) ∧ True ∧ True) ∧ (b_5 = b_5 ∧ x_2.2 = x_2.2 ∧ True ∧ Value.bool x_4.2 = Value.bool y.2 ∧ x_2.3 = x_2.3 ∧ (badP x.1 x.3 x.4 ↔ badP x.1 x.3 x.4) ∧ True) ∧ (b_6 = b_6 ∧ x_2.4 = x_2.4 ∧ True) ∧ True) ∧ P22 y.1 y.2 y.3))) ∧
  (¬(↑x_4.1 : Int) < (↑(Int.toNat (Max.max x_2.4 (0 : Int)) - (0 : Nat)) : Int) → ∃ (k : Blk), ∃ (G : List (Nat × Blk)), List.Perm x_4.3 ((b, k) :: G) ∧ Value.oneCell' (Value.int IntKind.u32 s.2) = Bool.true ∧ ∃ (k1 : Blk), Blk.upd k (0 : Nat) (Value.int IntKind.u32 s.2) k1 ∧ ∃ (o : Option Go.Addr), ∃ (l : Nat), ∃ (c : Nat), rawCell ((b, k1) :: G) b (1 : Nat) (Value.slice o l c) ∧ ∃ (x_5 : RSl), (∀ (r : List (Nat × Nat × Nat)), Value.slice (Option.some { block := x_5.1, off := x_5.2 }) x_5.3 x_5.4 = Value.slice o l c) ∧
  ((0 : Int) ≤ IntKind.wrap IntKind.i64 (IntKind.wrap IntKind.u32 (s.2 - n_1)) ∧ IntKind.wrap IntKind.i64 (IntKind.wrap IntKind.u32 (s.2 - n_1)) ≤ (↑x_5.3 : Int)) ∧ ∀ (b_7 : Nat), ∃ (xs : List Go.Value), rawTab ((b, k1) :: G) x_5.1 (if x_5.4 = Int.toNat (IntKind.wrap IntKind.i64 (IntKind.wrap IntKind.u32 (s.2 - n_1))) then x_5.2 else x_5.2 + Int.toNat (IntKind.wrap IntKind.i64 (IntKind.wrap IntKind.u32 (s.2 - n_1))) * (1 : Nat)) (x_5.3 - Int.toNat (IntKind.wrap IntKind.i64 (IntKind.wrap IntKind.u32 (s.2 - n_1)))) [Col.raws xs] ∧ ((0 : Nat) ≤ (0 : Nat) ∧ (0 : Nat) ≤ (0 : Nat)) ∧
  (0 : Nat) ≤ (0 : Nat) ∧ ((0 : Nat) + (x_5.3 - Int.toNat (IntKind.wrap IntKind.i64 (IntKind.wrap IntKind.u32 (s.2 - n_1))))) * (8 : Nat) ≤ (140737488355328 : Nat) ∧ ∀ (b_8 base cap' : Nat), (0 : Nat) + (x_5.3 - Int.toNat (IntKind.wrap IntKind.i64 (IntKind.wrap IntKind.u32 (s.2 - n_1)))) ≤ cap' → ((0 : Nat) + (x_5.3 - Int.toNat (IntKind.wrap IntKind.i64 (IntKind.wrap IntKind.u32 (s.2 - n_1)))) ≤ (0 : Nat) → cap' = (0 : Nat)) → ∀ (sp : List Go.Value), List.length sp = cap' - ((0 : Nat) + (x_5.3 - Int.toNat (IntKind.wrap IntKind.i64 (IntKind.wrap IntKind.u32 (s.2 - n_1))))) →
  SV.val (Value.pointer (Option.some { block := b, off := (0 : Nat) })) = SV.val (Value.pointer (Option.some { block := b, off := (0 : Nat) })) ∧ ∃ (k : Blk), ∃ (G_1 : List (Nat × Blk)), List.Perm ((b, k1) :: G) ((b, k) :: G_1) ∧ ∃ (k1 : Blk), Blk.upd k (1 : Nat) (Value.slice (Option.some { block := b_8, off := base * (1 : Nat) }) ((0 : Nat) + (x_5.3 - Int.toNat (IntKind.wrap IntKind.i64 (IntKind.wrap IntKind.u32 (s.2 - n_1))))) cap') k1 ∧ Value.oneCell' (Value.int IntKind.i64 x_2.2) = Bool.true ∧ Value.oneCell' (Value.bool x_4.2) = Bool.true ∧ Value.oneCell' (Value.int IntKind.i64 x_2.3) =
  Bool.true ∧ R (Value.agg #[Value.int IntKind.i64 x_2.2, Value.bool (pbool ((0 : Int) < IntKind.wrap IntKind.i64 (IntKind.wrap IntKind.u32 (s.2 - n_1)))), Value.bool x_4.2, Value.int IntKind.i64 x_2.3, Value.bool (pbool (badP x.1 x.3 x.4))]) ((b, k1) :: (G_1 ++ [(b_1, Blk.cells [Value.pointer (Option.some { block := b, off := (0 : Nat) })] (49 : Nat)), (b_2, Blk.cells [Value.int IntKind.u8 s.1, Value.bool Bool.false, Value.bool Bool.false, Value.bool Bool.false, Value.bool Bool.false, Value.int IntKind.u32 s.2, Value.int IntKind.u16 (0 : Int), Value.int IntKind.u32 (0 : Int),
  Value.int IntKind.u32 (0 : Int), Value.int IntKind.u32 (0 : Int), Value.int IntKind.u32 (0 : Int), Value.int IntKind.u32 (0 : Int), Value.int IntKind.u16 (0 : Int), Value.int IntKind.u16 (0 : Int), Value.slice s.3 s.4 s.5, Value.slice Option.none (0 : Nat) (0 : Nat), Value.slice Option.none (0 : Nat) (0 : Nat), Value.slice Option.none (0 : Nat) (0 : Nat), Value.slice Option.none (0 : Nat) (0 : Nat)] (43 : Nat)), (b_3, Blk.cells [Value.int IntKind.u32 now] (31 : Nat)), (b_4, Blk.cells [Value.int IntKind.i64 x_2.2, Value.bool (pbool ((0 : Int) < IntKind.wrap IntKind.i64
  (IntKind.wrap IntKind.u32 (s.2 - n_1)))), Value.bool x_4.2, Value.int IntKind.i64 x_2.3, Value.bool (pbool (badP x.1 x.3 x.4))] (57 : Nat)), (b_5, Blk.cells [Value.int IntKind.i64 x_2.2, Value.bool (pbool ((0 : Int) < IntKind.wrap IntKind.i64 (IntKind.wrap IntKind.u32 (s.2 - n_1)))), Value.bool x_4.2, Value.int IntKind.i64 x_2.3, Value.bool (pbool (badP x.1 x.3 x.4))] (57 : Nat)), (b_6, Blk.cells [Value.int IntKind.i64 x_2.4] (3 : Nat)), (b_8, Blk.tab (136 : Nat) base cap' [Col.raws (List.take (0 : Nat) [] ++ xs ++ sp)])])))))) from by
  subst hn hng e9 e14 e17 em17 e22 em22 eR
  simp only [eq_self, true_and, and_true, false_and, and_false, or_false, false_or, and_self, Nat.zero_add, Nat.add_zero, Nat.sub_zero, Nat.zero_mul, Nat.mul_one, Int.toNat_natCast, cond_true, cond_false, forall_const, implies_true, Nat.beq_refl, ne_eq, not_false_eq_true, not_true_eq_false, Classical.not_not, List.cons.injEq, List.append_nil, List.nil_append, Go.Value.int.injEq, Go.Value.bool.injEq, Go.Value.slice.injEq, Nat.le_refl, Nat.zero_le, Go.Sx.one_int, Go.Sx.one_bool, Go.Sx.one_slice, Go.Sx.one_ptr, Go.Sx.one_map, Int.cast_ofNat_Int, reduceCtorEq, Nat.reduceLeDiff, Nat.reduceMul, Nat.reduceAdd, Nat.reduceSub, Nat.reduceEqDiff, Int.reduceLE, Int.reduceLT, Int.reduceEq, Int.reduceAdd, Int.reduceSub, Int.reduceNeg, Int.reduceMul, Nat.reduceBEq]
  have hFl : FlAt f b L := ⟨pv, gm, hJ.fl⟩
  refine fun b1 b2 b3 b4 b5 => ⟨⟨f, b, s, gs⟩, ⟨rfl, hFl, hJ.gap, hgl⟩, fun hbad => ?_, fun hbad => ?_⟩
  · refine ⟨?_, ?_, ?_⟩
    · rw [ackF, if_pos hbad]; simp [AO.val, hbad, pbool]
    · rw [ackF, if_pos hbad]; exact hFl.more _
    · exact hJ.gap.mem fun q hq => List.mem_append_left _ hq
  have hbad : ¬ badP f s gs := hbad
  obtain ⟨nb1, nb2, nb3⟩ := not_bad hbad hl hr
  have hglen : s.gl = gs.length := hJ.gap.1
  subst hpv
  have hst : ∀ l, (ackS now f.ps l).ps.length = f.ps.length := ackS_len now f.ps
  have hix := idx_lt (N := f.ps.length) nb2 nb3
  refine ⟨f.mark, rc (flv_mem hJ.fl) rfl, fun b6 => ⟨⟨0, 0, -1, -1, L⟩, ⟨⟨rfl, rfl, ⟨rfl, rfl⟩, rfl⟩, Nat.zero_le _, ⟨rfl, rfl, rfl⟩, hJ⟩, fun x hx => ⟨fun hlt => ?_, fun hge => ?_⟩⟩⟩
  · obtain ⟨xi, xb, xr, xt, xL⟩ := x
    obtain ⟨hi, ⟨h1, h2, h3⟩, hj⟩ := hx
    simp only at hi h1 h2 h3 hj hlt ⊢
    subst h1 h2 h3
    rw [nb1] at hlt
    have hlt' : xi < ackN f s := by omega
    refine arr_step hj now (k := xi) (by rw [hst]; omega) (fun x1 x2 x3 L' => ∃ y : AkX, ackN f s - y.i < ackN f s - xi ∧ (IntKind.wrap .i64 ((xi : Int) + 1) = (y.i : Int) ∧ L' = y.L ∧ (x1 = y.bytes ∧ x2 = y.rtt) ∧ x3 = y.top) ∧ y.i ≤ ackN f s ∧ AkI f s gs now b (.slice (some ⟨rs.b, rs.x, none⟩) rs.n rs.c) gm (List.range y.i) y.bytes y.rtt y.top y.L) fun L' h' => ?_
    refine ⟨⟨xi + 1, _, _, _, L'⟩, by show ackN f s - (xi + 1) < _; omega, ⟨ix_succ (n := ackN f s) hlt' (by omega), rfl, ⟨rfl, rfl⟩, rfl⟩, hlt', ⟨?_, ?_, ?_⟩, ?_⟩
    · rw [List.range_succ, ackS_snoc]
    · rw [List.range_succ, ackS_snoc]
    · rw [List.range_succ, ackS_snoc]
    · rw [List.range_succ, ackS_snoc]; exact h'
  obtain ⟨xi, xb, xr, xt, xL⟩ := x
  obtain ⟨hi, hI⟩ := hx
  simp only at hi hI hge ⊢
  rw [nb1] at hge
  have hxi : xi = ackN f s := by omega
  subst hxi
  refine ⟨⟨0, xb, xr, xt, xL⟩, ⟨⟨rfl, rfl, ⟨rfl, rfl⟩, rfl⟩, Nat.zero_le _, by simpa [idxs] using hI⟩, fun x hx => ⟨fun hlt => ?_, fun hge => ?_⟩⟩
  · obtain ⟨j, yb, yr, yt, yL⟩ := x
    obtain ⟨hj1, hI2⟩ := hx
    simp only at hj1 hI2 hlt ⊢
    have hjl : j < gs.length := by omega
    obtain ⟨g, hg⟩ : ∃ g, gs[j]? = some g := ⟨gs[j], by simp [hjl]⟩
    obtain ⟨gb, gx, e, k1, k2⟩ := hI2.2.gap.2 j g hg
    have hgm := List.mem_of_getElem? hg
    obtain ⟨r1, r2⟩ := hr g hgm
    obtain ⟨r3, r4, r5⟩ := nb3 g hgm
    have w1 : IntKind.wrap .i64 g.1 = (g.1.toNat : Int) := by rw [IntKind.wrap_i64]; omega
    have w2 : IntKind.wrap .i64 g.2 = (g.2.toNat : Int) := by rw [IntKind.wrap_i64]; omega
    rw [e]
    refine ⟨⟨by omega, by omega⟩, _, k1, _, k2, (j, ⟨g.1.toNat, yb, yr, yt, yL⟩), ⟨⟨w1, rfl, ⟨rfl, rfl⟩, rfl⟩, g, hg, ⟨Nat.le_refl _, by show g.1.toNat ≤ g.2.toNat + 1; omega⟩, by simpa [gapPart] using hI2⟩, fun z hz => ?_⟩
    obtain ⟨zj, zi, zb, zr, zt, zL⟩ := z
    obtain ⟨rfl, g', hg', hgi, ⟨h1, h2, h3⟩, hjz⟩ := hz
    simp only at hg' hgi h1 h2 h3 hjz ⊢
    rw [hg] at hg'
    cases hg'
    subst h1 h2 h3
    refine ⟨fun hle => ?_, fun hgt => ?_⟩
    · rw [w2] at hle
      have hidx : IntKind.wrap .i64 (IntKind.wrap .i64 (IntKind.wrap .i64 (IntKind.wrap .u32 (s.tsn - f.mark)) + (zi : Int)) - 1) = ((ackN f s + zi - 1 : Nat) : Int) := by
        rw [nb1]
        exact idx_wrap (by omega) (by omega)
      simp only [hidx, Int.toNat_natCast]
      refine arr_step hjz now (k := ackN f s + zi - 1) (by rw [hst]; omega) (fun x1 x2 x3 L' => ∃ y : Nat × AkX, ((gs[y.1]?.map fun g => g.2.toNat).getD 0) + 1 - y.2.i < ((gs[zj]?.map fun g => g.2.toNat).getD 0) + 1 - zi ∧
        (IntKind.wrap .i64 ((zi : Int) + 1) = (y.2.i : Int) ∧ L' = y.2.L ∧ (x1 = y.2.bytes ∧ x2 = y.2.rtt) ∧ x3 = y.2.top) ∧ y.1 = zj ∧ ∃ g, gs[y.1]? = some g ∧ (g.1.toNat ≤ y.2.i ∧ y.2.i ≤ g.2.toNat + 1) ∧
        AkI f s gs now b (.slice (some ⟨rs.b, rs.x, none⟩) rs.n rs.c) gm (idxs (ackN f s) (gs.take y.1) ++ gapPart (ackN f s) g y.2.i) y.2.bytes y.2.rtt y.2.top y.2.L) fun L' h' => ?_
      refine ⟨(zj, ⟨zi + 1, _, _, _, L'⟩), ?_, ⟨ix_succ (n := 100000) (by omega) (by omega), rfl, ⟨rfl, rfl⟩, rfl⟩, rfl, g, hg, ⟨by show _ ≤ zi + 1; omega, by show zi + 1 ≤ _; omega⟩, ⟨?_, ?_, ?_⟩, ?_⟩
      · simp only [hg, Option.map_some, Option.getD_some]; omega
      · rw [gapPart_succ _ _ hgi.1, ← List.append_assoc, ackS_snoc]
      · rw [gapPart_succ _ _ hgi.1, ← List.append_assoc, ackS_snoc]
      · rw [gapPart_succ _ _ hgi.1, ← List.append_assoc, ackS_snoc]
      · rw [gapPart_succ _ _ hgi.1, ← List.append_assoc, ackS_snoc]; exact h'
    · rw [w2] at hgt
      have hzi : zi = g.2.toNat + 1 := by omega
      subst hzi
      rw [gapPart_all ⟨r1.1, r4⟩] at *
      have hidx : idxs (ackN f s) (gs.take (zj + 1)) = idxs (ackN f s) (gs.take zj) ++ gapIdx (ackN f s) g := by
        unfold idxs
        rw [List.take_add_one, hg]
        simp [List.flatMap_append]
      refine ⟨⟨zj + 1, _, _, _, zL⟩, by show gs.length - (zj + 1) < _; omega, ⟨ix_succ (n := gs.length) hjl hgl, rfl, ⟨rfl, rfl⟩, rfl⟩, hjl, ⟨?_, ?_, ?_⟩, ?_⟩
      · rw [hidx]
      · rw [hidx]
      · rw [hidx]
      · rw [hidx]; exact hjz
  obtain ⟨j, yb, yr, yt, yL⟩ := x
  obtain ⟨hj1, ⟨h1, h2, h3⟩, hjy⟩ := hx
  simp only at hj1 h1 h2 h3 hjy hge ⊢
  have hjj : j = gs.length := by omega
  subst hjj
  rw [List.take_length] at h1 h2 h3 hjy
  subst h1 h2 h3
  have htop : (ackS now f.ps (idxs (ackN f s) gs)).top < (f.ps.length : Int) := ackS_top hix
  have hF : ackF f s gs now = ackG f s gs now := by unfold ackF; rw [if_neg hbad]
  refine ⟨_, _, _, rc (flv_mem hjy.fl) rfl, rs, ⟨rfl, rfl, rfl⟩, ⟨by omega, by omega⟩, ⟨0, false, yL⟩, ⟨⟨rfl, rfl, rfl⟩, Nat.zero_le _, rfl, hjy⟩, fun z hz => ⟨fun hlt => ?_, fun hge => ?_⟩⟩
  · obtain ⟨zk, zl, zL⟩ := z
    obtain ⟨hz1, hz2, hz3⟩ := hz
    simp only at hz1 hz2 hz3 hlt ⊢
    subst hz2
    have hzk : zk < (max (ackS now f.ps (idxs (ackN f s) gs)).top 0).toNat := by omega
    obtain ⟨o, c, sb, sx, pb, q1, q2, q3, q4⟩ := mis_step hz3 (by rw [hst]; omega) (fun lost L' => ∃ y : MsX, (max (ackS now f.ps (idxs (ackN f s) gs)).top 0).toNat - y.i < (max (ackS now f.ps (idxs (ackN f s) gs)).top 0).toNat - zk ∧ (IntKind.wrap .i64 ((zk : Int) + 1) = (y.i : Int) ∧ L' = y.L ∧ lost = y.lost) ∧
      y.i ≤ (max (ackS now f.ps (idxs (ackN f s) gs)).top 0).toNat ∧ y.lost = (misS (ackS now f.ps (idxs (ackN f s) gs)).ps y.i).2 ∧ AJ f.mark b (.slice (some ⟨rs.b, rs.x, none⟩) rs.n rs.c) gm gs s (misS (ackS now f.ps (idxs (ackN f s) gs)).ps y.i).1 y.L)
      fun L' h' => ⟨⟨zk + 1, _, L'⟩, by show _ - (zk + 1) < _; omega, ⟨ix_succ (n := (max (ackS now f.ps (idxs (ackN f s) gs)).top 0).toNat) hzk (by omega), rfl, rfl⟩, hzk, rfl, h'⟩
    subst q2
    obtain ⟨e1, -, -⟩ := slice_eq q1
    simp only [Addr.mk.injEq, and_true] at e1
    obtain ⟨e2, e3⟩ := e1
    rw [← e2, ← e3] at q3
    simp only [ite_self]
    exact ⟨⟨by omega, by omega⟩, _, q3, pb, rfl, q4⟩
  · obtain ⟨zk, zl, zL⟩ := z
    obtain ⟨hz1, hz2, hz3⟩ := hz
    simp only at hz1 hz2 hz3 hge ⊢
    have hzk : zk = (max (ackS now f.ps (idxs (ackN f s) gs)).top 0).toNat := by omega
    have hml : (misS (ackS now f.ps (idxs (ackN f s) gs)).ps zk).1.length = f.ps.length := (misS_len _ _).trans (hst _)
    obtain ⟨G, xs, p1, p2, pg, p3, p4⟩ := fl_last (tsn := s.tsn) (n := ackN f s) hz3 (by omega) (by omega)
    refine ⟨_, G, p1, _, upd_cells (by simp), _, _, _, rc (t := 134) (List.mem_cons_self ..) rfl, rs, ⟨rfl, rfl, rfl⟩, ?_⟩
    simp only [nb1, Int.toNat_natCast]
    refine ⟨⟨by omega, by omega⟩, xs, p3 _, by omega, fun b7 base cap' c1 c2 sp c3 => ⟨_, G, List.Perm.refl _, _, upd_cells (by simp), ?_, ?_, pg.mem fun q hq => List.mem_cons_of_mem _ (List.mem_append_left _ hq)⟩⟩
    · rw [hF]
      have e1 : pbool ((0 : Int) < (ackN f s : Int)) = decide (0 < ackN f s) := by simp [pbool]
      have e2 : pbool (badP f s gs) = false := by simp [pbool, hbad]
      simp only [AO.val, ackG, hz2, hzk, e1, e2]
    · rw [hF]
      have := p4 b7 base cap' sp c1 c3
      rw [hzk] at this
      exact fl_junk this)
theorem akN_goal (b : Nat) (f : Fl) (s : Sk) (gs : List (Int × Int)) (now : Int) (L : Blks) (gm : Nat) (hps : f.ps = []) (hgl : gs.length < 1000000) (hr : gapsR gs) (hJ : AJ f.mark b (.slice none 0 0) gm gs s f.ps L) (R : Value → Blks → Prop) (eR : R = AkR f s gs now b) : akNGoal b s now L R :=
  Eq.mpr (by kernel_rfl) (show
  ∀ (b_1 b_2 b_3 b_4 b_5 : Nat), Value.oneCell' (Value.int IntKind.i64 (0 : Int)) = Bool.true ∧ Value.oneCell' (Value.int IntKind.i64 (-1 : Int)) = Bool.true ∧ ∃ (x : BdY), BdPre x [Value.pointer (Option.some { block := b, off := (0 : Nat) }), Value.agg #[Value.int IntKind.u8 s.1, Value.bool Bool.false, Value.bool Bool.false, Value.bool Bool.false, Value.bool Bool.false, Value.int IntKind.u32 s.2, Value.int IntKind.u16 (0 : Int), Value.int IntKind.u32 (0 : Int), Value.int IntKind.u32 (0 : Int), Value.int IntKind.u32 (0 : Int),
  Value.int IntKind.u32 (0 : Int), Value.int IntKind.u32 (0 : Int), Value.int IntKind.u16 (0 : Int), Value.int IntKind.u16 (0 : Int), Value.slice s.3 s.4 s.5, Value.slice Option.none (0 : Nat) (0 : Nat), Value.slice Option.none (0 : Nat) (0 : Nat), Value.slice Option.none (0 : Nat) (0 : Nat), Value.slice Option.none (0 : Nat) (0 : Nat)]] L ∧ (badP x.1 x.3 x.4 → Value.oneCell' (Value.int IntKind.i64 (0 : Int)) = Bool.true ∧ Value.oneCell' (Value.int IntKind.i64 (-1 : Int)) = Bool.true ∧ R (Value.agg
  #[Value.int IntKind.i64 (0 : Int), Value.bool Bool.false, Value.bool Bool.false, Value.int IntKind.i64 (-1 : Int), Value.bool (pbool (badP x.1 x.3 x.4))]) (L ++ [(b_1, Blk.cells [Value.pointer (Option.some { block := b, off := (0 : Nat) })] (49 : Nat)), (b_2, Blk.cells [Value.int IntKind.u8 s.1, Value.bool Bool.false, Value.bool Bool.false, Value.bool Bool.false, Value.bool Bool.false, Value.int IntKind.u32 s.2, Value.int IntKind.u16 (0 : Int), Value.int IntKind.u32 (0 : Int), Value.int IntKind.u32 (0 : Int), Value.int IntKind.u32 (0 : Int),
  Value.int IntKind.u32 (0 : Int), Value.int IntKind.u32 (0 : Int), Value.int IntKind.u16 (0 : Int), Value.int IntKind.u16 (0 : Int), Value.slice s.3 s.4 s.5, Value.slice Option.none (0 : Nat) (0 : Nat), Value.slice Option.none (0 : Nat) (0 : Nat), Value.slice Option.none (0 : Nat) (0 : Nat), Value.slice Option.none (0 : Nat) (0 : Nat)] (43 : Nat)), (b_3, Blk.cells [Value.int IntKind.u32 now] (31 : Nat)), (b_4, Blk.cells [Value.int IntKind.i64 (0 : Int), Value.bool Bool.false, Value.bool Bool.false, Value.int IntKind.i64 (-1 : Int), Value.bool (pbool (badP x.1 x.3 x.4))] (57 : Nat)), (b_5,
  Blk.cells [Value.int IntKind.i64 (0 : Int), Value.bool Bool.false, Value.bool Bool.false, Value.int IntKind.i64 (-1 : Int), Value.bool (pbool (badP x.1 x.3 x.4))] (57 : Nat))])) ∧ (¬badP x.1 x.3 x.4 → ∃ (n : Int), rawCell L b (0 : Nat) (Value.int IntKind.u32 n) ∧ ∀ (b_6 : Nat), Value.oneCell' (Value.int IntKind.i64 (-1 : Int)) = Bool.true ∧ ∃ (x0 : Unit), ((((0 : Int) = (0 : Int) ∧ ((0 : Nat) = (0 : Nat) ∧ (0 : Nat) = (0 : Nat)) ∧ ((0 : Nat) = (0 : Nat) ∧ (0 : Nat) = (0 : Nat)) ∧ ((0 : Nat) = (0 : Nat) ∧ (0 : Nat) = (0 : Nat)) ∧ ((0 : Nat) = (0 : Nat) ∧ (0 : Nat) = (0 : Nat)) ∧
  ((0 : Nat) = (0 : Nat) ∧ (0 : Nat) = (0 : Nat)) ∧ IntKind.wrap IntKind.i64 (IntKind.wrap IntKind.u32 (s.2 - n)) = IntKind.wrap IntKind.i64 (IntKind.wrap IntKind.u32 (s.2 - n)) ∧ ((0 : Nat) = (0 : Nat) ∧ (0 : Nat) = (0 : Nat)) ∧ (((0 : Nat) = (0 : Nat) ∧ (0 : Nat) = (0 : Nat)) ∧ ((0 : Nat) = (0 : Nat) ∧ (0 : Nat) = (0 : Nat)) ∧ ((0 : Nat) = (0 : Nat) ∧ (0 : Nat) = (0 : Nat)) ∧ ((0 : Nat) = (0 : Nat) ∧ (0 : Nat) = (0 : Nat)) ∧ True) ∧ IntKind.wrap IntKind.i64 (IntKind.wrap IntKind.u32 (s.2 - n)) = IntKind.wrap IntKind.i64 (IntKind.wrap IntKind.u32 (s.2 - n)) ∧ True) ∧ L = L ∧
  (b_1 = b_1 ∧ Value.pointer (Option.some { block := b, off := (0 : Nat) }) = Value.pointer (Option.some { block := b, off := (0 : Nat) }) ∧ True) ∧ (b_2 = b_2 ∧ s.1 = s.1 ∧ Value.bool Bool.false = Value.bool Bool.false ∧ Value.bool Bool.false = Value.bool Bool.false ∧ Value.bool Bool.false = Value.bool Bool.false ∧ Value.bool Bool.false = Value.bool Bool.false ∧ s.2 = s.2 ∧ (0 : Int) = (0 : Int) ∧ (0 : Int) = (0 : Int) ∧ (0 : Int) = (0 : Int) ∧ (0 : Int) = (0 : Int) ∧ (0 : Int) = (0 : Int) ∧ (0 : Int) = (0 : Int) ∧ (0 : Int) = (0 : Int) ∧ (0 : Int) = (0 : Int) ∧
  Value.slice s.3 s.4 s.5 = Value.slice s.3 s.4 s.5 ∧ Value.slice Option.none (0 : Nat) (0 : Nat) = Value.slice Option.none (0 : Nat) (0 : Nat) ∧ Value.slice Option.none (0 : Nat) (0 : Nat) = Value.slice Option.none (0 : Nat) (0 : Nat) ∧ Value.slice Option.none (0 : Nat) (0 : Nat) = Value.slice Option.none (0 : Nat) (0 : Nat) ∧ Value.slice Option.none (0 : Nat) (0 : Nat) = Value.slice Option.none (0 : Nat) (0 : Nat) ∧ True) ∧ (b_3 = b_3 ∧ now = now ∧ True) ∧ (b_4 = b_4 ∧ (0 : Int) = (0 : Int) ∧ True ∧ True ∧ (0 : Int) = (0 : Int) ∧ True ∧ True) ∧ (b_5 = b_5 ∧ (0 : Int) = (0 : Int) ∧
  True ∧ True ∧ (-1 : Int) = (-1 : Int) ∧ (badP x.1 x.3 x.4 ↔ badP x.1 x.3 x.4) ∧ True) ∧ (b_6 = b_6 ∧ (-1 : Int) = (-1 : Int) ∧ True) ∧ True) ∧ x0 = ()) ∧ ∀ (x_1 : Unit), x_1 = () → ¬(0 : Int) < IntKind.wrap IntKind.i64 (IntKind.wrap IntKind.u32 (s.2 - n)) ∧ ∃ (x0 : Unit), ((((0 : Int) = (0 : Int) ∧ ((0 : Nat) = (0 : Nat) ∧ (0 : Nat) = (0 : Nat)) ∧ ((0 : Nat) = (0 : Nat) ∧ (0 : Nat) = (0 : Nat)) ∧ ((0 : Nat) = (0 : Nat) ∧ (0 : Nat) = (0 : Nat)) ∧ ((0 : Nat) = (0 : Nat) ∧ (0 : Nat) = (0 : Nat)) ∧ ((0 : Nat) = (0 : Nat) ∧ (0 : Nat) = (0 : Nat)) ∧
  IntKind.wrap IntKind.i64 (IntKind.wrap IntKind.u32 (s.2 - n)) = IntKind.wrap IntKind.i64 (IntKind.wrap IntKind.u32 (s.2 - n)) ∧ ((0 : Nat) = (0 : Nat) ∧ (0 : Nat) = (0 : Nat)) ∧ (((0 : Nat) = (0 : Nat) ∧ (0 : Nat) = (0 : Nat)) ∧ ((0 : Nat) = (0 : Nat) ∧ (0 : Nat) = (0 : Nat)) ∧ ((0 : Nat) = (0 : Nat) ∧ (0 : Nat) = (0 : Nat)) ∧ ((0 : Nat) = (0 : Nat) ∧ (0 : Nat) = (0 : Nat)) ∧ True) ∧ Value.slice s.3 s.4 s.5 = Value.slice s.3 s.4 s.5 ∧ (↑s.4 : Int) = (↑s.4 : Int) ∧ True) ∧ L = L ∧
  (b_1 = b_1 ∧ Value.pointer (Option.some { block := b, off := (0 : Nat) }) = Value.pointer (Option.some { block := b, off := (0 : Nat) }) ∧ True) ∧ (b_2 = b_2 ∧ s.1 = s.1 ∧ Value.bool Bool.false = Value.bool Bool.false ∧ Value.bool Bool.false = Value.bool Bool.false ∧ Value.bool Bool.false = Value.bool Bool.false ∧ Value.bool Bool.false = Value.bool Bool.false ∧ s.2 = s.2 ∧ (0 : Int) = (0 : Int) ∧ (0 : Int) = (0 : Int) ∧ (0 : Int) = (0 : Int) ∧ (0 : Int) = (0 : Int) ∧ (0 : Int) = (0 : Int) ∧ (0 : Int) = (0 : Int) ∧ (0 : Int) = (0 : Int) ∧ (0 : Int) = (0 : Int) ∧
  Value.slice s.3 s.4 s.5 = Value.slice s.3 s.4 s.5 ∧ Value.slice Option.none (0 : Nat) (0 : Nat) = Value.slice Option.none (0 : Nat) (0 : Nat) ∧ Value.slice Option.none (0 : Nat) (0 : Nat) = Value.slice Option.none (0 : Nat) (0 : Nat) ∧ Value.slice Option.none (0 : Nat) (0 : Nat) = Value.slice Option.none (0 : Nat) (0 : Nat) ∧ Value.slice Option.none (0 : Nat) (0 : Nat) = Value.slice Option.none (0 : Nat) (0 : Nat) ∧ True) ∧ (b_3 = b_3 ∧ now = now ∧ True) ∧ (b_4 = b_4 ∧ (0 : Int) = (0 : Int) ∧ True ∧ True ∧ (0 : Int) = (0 : Int) ∧ True ∧ True) ∧ (b_5 = b_5 ∧ (0 : Int) = (0 : Int) ∧
  True ∧ True ∧ (-1 : Int) = (-1 : Int) ∧ (badP x.1 x.3 x.4 ↔ badP x.1 x.3 x.4) ∧ True) ∧ (b_6 = b_6 ∧ (-1 : Int) = (-1 : Int) ∧ True) ∧ True) ∧ x0 = ()) ∧ ∀ (x_2 : Unit), x_2 = () → ¬(0 : Int) < (↑s.4 : Int) ∧ ∃ (o : Option Go.Addr), ∃ (l : Nat), ∃ (c : Nat), rawCell L b (1 : Nat) (Value.slice o l c) ∧ ∃ (x_3 : Unit), (∀ (r : List (Nat × Nat × Nat)), Value.slice Option.none (0 : Nat) (0 : Nat) = Value.slice o l c) ∧ ((0 : Int) ≤ Max.max (-1 : Int) (0 : Int) ∧ Max.max (-1 : Int) (0 : Int) ≤ (↑(0 : Nat) : Int)) ∧ ∃ (x0 : Unit), ((((0 : Int) = (0 : Int) ∧
  ((0 : Nat) = (0 : Nat) ∧ (0 : Nat) = (0 : Nat)) ∧ ((0 : Nat) = (0 : Nat) ∧ (0 : Nat) = (0 : Nat)) ∧ ((0 : Nat) = (0 : Nat) ∧ (0 : Nat) = (0 : Nat)) ∧ ((0 : Nat) = (0 : Nat) ∧ (0 : Nat) = (0 : Nat)) ∧ ((0 : Nat) = (0 : Nat) ∧ (0 : Nat) = (0 : Nat)) ∧ IntKind.wrap IntKind.i64 (IntKind.wrap IntKind.u32 (s.2 - n)) = IntKind.wrap IntKind.i64 (IntKind.wrap IntKind.u32 (s.2 - n)) ∧ Value.slice Option.none (Int.toNat (Max.max (-1 : Int) (0 : Int)) - (0 : Nat)) ((0 : Nat) - (0 : Nat)) = Value.slice Option.none (Int.toNat (Max.max (-1 : Int) (0 : Int)) - (0 : Nat)) ((0 : Nat) - (0 : Nat)) ∧
  (↑(Int.toNat (Max.max (-1 : Int) (0 : Int)) - (0 : Nat)) : Int) = (↑(Int.toNat (Max.max (-1 : Int) (0 : Int)) - (0 : Nat)) : Int) ∧ True) ∧ L = L ∧ (b_1 = b_1 ∧ Value.pointer (Option.some { block := b, off := (0 : Nat) }) = Value.pointer (Option.some { block := b, off := (0 : Nat) }) ∧ True) ∧ (b_2 = b_2 ∧ s.1 = s.1 ∧ Value.bool Bool.false = Value.bool Bool.false ∧ Value.bool Bool.false = Value.bool Bool.false ∧ Value.bool Bool.false = Value.bool Bool.false ∧ Value.bool Bool.false = Value.bool Bool.false ∧ s.2 = s.2 ∧ (0 : Int) = (0 : Int) ∧ (0 : Int) = (0 : Int) ∧ (0 : Int) = (0 : Int) ∧
  (0 : Int) = (0 : Int) ∧ (0 : Int) = (0 : Int) ∧ (0 : Int) = (0 : Int) ∧ (0 : Int) = (0 : Int) ∧ (0 : Int) = (0 : Int) ∧ Value.slice s.3 s.4 s.5 = Value.slice s.3 s.4 s.5 ∧ Value.slice Option.none (0 : Nat) (0 : Nat) = Value.slice Option.none (0 : Nat) (0 : Nat) ∧ Value.slice Option.none (0 : Nat) (0 : Nat) = Value.slice Option.none (0 : Nat) (0 : Nat) ∧ Value.slice Option.none (0 : Nat) (0 : Nat) = Value.slice Option.none (0 : Nat) (0 : Nat) ∧ Value.slice Option.none (0 : Nat) (0 : Nat) = Value.slice Option.none (0 : Nat) (0 : Nat) ∧ True) ∧ (b_3 = b_3 ∧ now = now ∧ True) ∧
  (b_4 = b_4 ∧ (0 : Int) = (0 : Int) ∧ True ∧ True ∧ (0 : Int) = (0 : Int) ∧ True ∧ True) ∧ (b_5 = b_5 ∧ (0 : Int) = (0 : Int) ∧ True ∧ True ∧ (-1 : Int) = (-1 : Int) ∧ (badP x.1 x.3 x.4 ↔ badP x.1 x.3 x.4) ∧ True) ∧ (b_6 = b_6 ∧ (-1 : Int) = (-1 : Int) ∧ True) ∧ True) ∧ x0 = ()) ∧ ∀ (x_4 : Unit), x_4 = () → ¬(0 : Int) < (↑(Int.toNat (Max.max (-1 : Int) (0 : Int)) - (0 : Nat)) : Int) ∧ ∃ (k : Blk), ∃ (G : List (Nat × Blk)), List.Perm L ((b, k) :: G) ∧ Value.oneCell' (Value.int IntKind.u32 s.2) = Bool.true ∧ ∃ (k1 : Blk), Blk.upd k (0 : Nat) (Value.int IntKind.u32 s.2) k1 ∧
  ∃ (o : Option Go.Addr), ∃ (l : Nat), ∃ (c : Nat), rawCell ((b, k1) :: G) b (1 : Nat) (Value.slice o l c) ∧ ∃ (x_5 : Unit), (∀ (r : List (Nat × Nat × Nat)), Value.slice Option.none (0 : Nat) (0 : Nat) = Value.slice o l c) ∧ ((0 : Int) ≤ IntKind.wrap IntKind.i64 (IntKind.wrap IntKind.u32 (s.2 - n)) ∧ IntKind.wrap IntKind.i64 (IntKind.wrap IntKind.u32 (s.2 - n)) ≤ (↑(0 : Nat) : Int)) ∧ SV.val (Value.pointer (Option.some { block := b, off := (0 : Nat) })) = SV.val (Value.pointer (Option.some { block := b, off := (0 : Nat) })) ∧ ∃ (k : Blk), ∃ (G_1 : List (Nat × Blk)),
  List.Perm ((b, k1) :: G) ((b, k) :: G_1) ∧ Value.oneCell' (Value.slice Option.none (0 : Nat) (0 : Nat)) = Bool.true ∧ ∃ (k1 : Blk), Blk.upd k (1 : Nat) (Value.slice Option.none (0 : Nat) (0 : Nat)) k1 ∧ Value.oneCell' (Value.int IntKind.i64 (0 : Int)) = Bool.true ∧ Value.oneCell' (Value.int IntKind.i64 (-1 : Int)) = Bool.true ∧ R (Value.agg #[Value.int IntKind.i64 (0 : Int), Value.bool (pbool ((0 : Int) < IntKind.wrap IntKind.i64 (IntKind.wrap IntKind.u32 (s.2 - n)))), Value.bool Bool.false, Value.int IntKind.i64 (-1 : Int), Value.bool (pbool (badP x.1 x.3 x.4))]) ((b, k1) :: (G_1 ++ [(b_1,
  Blk.cells [Value.pointer (Option.some { block := b, off := (0 : Nat) })] (49 : Nat)), (b_2, Blk.cells [Value.int IntKind.u8 s.1, Value.bool Bool.false, Value.bool Bool.false, Value.bool Bool.false, Value.bool Bool.false, Value.int IntKind.u32 s.2, Value.int IntKind.u16 (0 : Int), Value.int IntKind.u32 (0 : Int), Value.int IntKind.u32 (0 : Int), Value.int IntKind.u32 (0 : Int), Value.int IntKind.u32 (0 : Int), Value.int IntKind.u32 (0 : Int), Value.int IntKind.u16 (0 : Int), Value.int IntKind.u16 (0 : Int), Value.slice s.3 s.4 s.5, Value.slice Option.none (0 : Nat) (0 : Nat),
  Value.slice Option.none (0 : Nat) (0 : Nat), Value.slice Option.none (0 : Nat) (0 : Nat), Value.slice Option.none (0 : Nat) (0 : Nat)] (43 : Nat)), (b_3, Blk.cells [Value.int IntKind.u32 now] (31 : Nat)), (b_4, Blk.cells [Value.int IntKind.i64 (0 : Int), Value.bool (pbool ((0 : Int) < IntKind.wrap IntKind.i64 (IntKind.wrap IntKind.u32 (s.2 - n)))), Value.bool Bool.false, Value.int IntKind.i64 (-1 : Int), Value.bool (pbool (badP x.1 x.3 x.4))] (57 : Nat)), (b_5, Blk.cells [Value.int IntKind.i64 (0 : Int), Value.bool (pbool ((0 : Int) < IntKind.wrap IntKind.i64
  (IntKind.wrap IntKind.u32 (s.2 - n)))), Value.bool Bool.false, Value.int IntKind.i64 (-1 : Int), Value.bool (pbool (badP x.1 x.3 x.4))] (57 : Nat)), (b_6, Blk.cells [Value.int IntKind.i64 (-1 : Int)] (3 : Nat))]))) from by
  subst eR
  have hmx : Max.max (-1 : Int) 0 = 0 := rfl
  simp only [eq_self, true_and, and_true, false_and, and_false, or_false, false_or, and_self, Nat.zero_add, Nat.add_zero, Nat.sub_zero, Nat.zero_mul, Nat.mul_one, Int.toNat_natCast, cond_true, cond_false, forall_const, implies_true, Nat.beq_refl, ne_eq, not_false_eq_true, not_true_eq_false, Classical.not_not, List.cons.injEq, List.append_nil, List.nil_append, Go.Value.int.injEq, Go.Value.bool.injEq, Go.Value.slice.injEq, Nat.le_refl, Nat.zero_le, Go.Sx.one_int, Go.Sx.one_bool, Go.Sx.one_slice, Go.Sx.one_ptr, Go.Sx.one_map, Int.cast_ofNat_Int, reduceCtorEq, Nat.reduceLeDiff, Nat.reduceMul, Nat.reduceAdd, Nat.reduceSub, Nat.reduceEqDiff, Int.reduceLE, Int.reduceLT, Int.reduceEq, Int.reduceAdd, Int.reduceSub, Int.reduceNeg, Int.reduceMul, Nat.reduceBEq, hmx, Int.toNat_zero, Int.natCast_zero]
  have hFl : FlAt f b L := ⟨_, gm, hJ.fl⟩
  refine fun b1 b2 b3 b4 b5 => ⟨⟨f, b, s, gs⟩, ⟨rfl, hFl, hJ.gap, hgl⟩, fun hbad => ?_, fun hbad => ?_⟩
  · refine ⟨?_, ?_, ?_⟩
    · rw [ackF, if_pos hbad]; simp [AO.val, hbad, pbool]
    · rw [ackF, if_pos hbad]; exact hFl.more _
    · exact hJ.gap.mem fun q hq => List.mem_append_left _ hq
  have hbad : ¬ badP f s gs := hbad
  obtain ⟨nb1, nb2, nb3⟩ := not_bad hbad (by rw [hps]; simp) hr
  have hglen : s.gl = gs.length := hJ.gap.1
  rw [hps] at nb2 nb3
  simp only [List.length_nil, Nat.le_zero] at nb2
  have hgs : gs = [] := by
    cases gs with
    | nil => rfl
    | cons g r =>
      have := nb3 g (by simp)
      simp only [List.length_nil] at this
      omega
  have hsl : s.gl = 0 := by rw [hglen, hgs]; rfl
  have hF : ackF f s gs now = ackG f s gs now := by unfold ackF; rw [if_neg hbad]
  have hG : ackG f s gs now = ⟨0, false, false, -1, false, ⟨s.tsn, []⟩⟩ := by
    unfold ackG
    rw [nb2, hgs, hps]
    simp [idxs, ackS, misS, hmx]
  obtain ⟨Lf, Lg, p1, ⟨Lp, p2, p3⟩, p4⟩ := id hJ
  simp only at p2 p3
  have hp : L.Perm ((b, .cells [.int .u32 f.mark, .slice none 0 0, .map (some gm)] 134) :: (Lp ++ Lg)) := p1.trans (by simpa using p2.append_right Lg)
  rw [nb2] at nb1
  refine ⟨f.mark, rc (flv_mem hJ.fl) rfl, fun b6 => ⟨(), by rw [nb1]; decide, (), by rw [hsl]; decide, _, _, _, rc (flv_mem hJ.fl) rfl, (), ⟨rfl, rfl, rfl⟩, (), _, _, hp, _, upd_cells (by simp), _, _, _, rc (t := 134) (List.mem_cons_self ..) rfl, (), ⟨rfl, rfl, rfl⟩, by rw [nb1]; decide, _, _, List.Perm.refl _, _, upd_cells (by simp), ?_, ?_, p4.mem fun q hq => List.mem_cons_of_mem _ (List.mem_append_left _ (List.mem_append_right _ hq))⟩⟩
  · rw [hF, hG, nb1]
    have e2 : pbool (badP f s gs) = false := by simp [pbool, hbad]
    simp [AO.val, pbool, hbad]
  · rw [hF, hG]
    exact FlAt.more ⟨_, gm, Lp ++ Lg, List.Perm.refl _, .inl ⟨rfl, rfl⟩⟩ _)

/-! The contract. -/
structure AkY where
  f : Fl
  b : Nat
  s : Sk
  gs : List (Int × Int)
  now : Int
def AkPre (x : AkY) (vs : List Value) (L : Blks) : Prop := vs = [.pointer (some ⟨x.b, 0, none⟩), x.s.val, .int .u32 x.now] ∧ (x.f.ps.length < 1000000 ∧ x.gs.length < 1000000 ∧ gapsR x.gs) ∧ ∃ Lf Lg, L.Perm (Lf ++ Lg) ∧ FlAt x.f x.b Lf ∧ GapsAt x.gs x.s Lg
def AkPost (x : AkY) (a : AO) (L' : Blks) : Prop := a = ackF x.f x.s x.gs x.now ∧ FlAt a.f x.b L' ∧ GapsAt x.gs x.s L'
noncomputable def ackT : Trans := absT (chunkR (X := AkY) (A := AO) (fun a => .agg [.val (.int .i64 a.bytes), .val (.bool a.on), .val (.bool a.lost), .val (.int .i64 a.rtt), .val (.bool a.bad)]) AkPre AkPost)
theorem bad_sound : ∀ p ∈ [(56, badT)], SoundT Go.Proofs.Try.prog p.1 p.2 := by
  intro p hp
  cases List.mem_singleton.1 hp
  exact badT_sound
theorem enters24 : Enters Go.Proofs.Try.prog 24 := ⟨Go.Proofs.Try.f24, Go.Proofs.Try.func24, by kernel_rfl, by kernel_rfl⟩
theorem ackT_sound : SoundT Go.Proofs.Try.prog 24 ackT := absT_sound (chunkR_sound (val := AO.val) enters24 (fun a ρ => by simp [den, denL, AO.val]) (fun a => by simp) fun x vs L ⟨h1, ⟨h2, h3, h4⟩, Lf, Lg, h5, ⟨pv, gm, h6⟩, h7⟩ => by
  subst h1
  have hJ : AJ x.f.mark x.b pv gm x.gs x.s x.f.ps L := ⟨Lf, Lg, h5, h6, h7⟩
  have ha : StdL [.chunk L] [.val (.pointer (some ⟨x.b, 0, none⟩)), x.s.sv, .val (.int .u32 x.now)] [.pointer (some ⟨x.b, 0, none⟩), x.s.val, .int .u32 x.now] := fun r => by simp [denL, den, Sk.sv, Sk.val]
  have fin : Triple Go.Proofs.Try.prog 24 [.pointer (some ⟨x.b, 0, none⟩), x.s.val, .int .u32 x.now] L (AkR x.f x.s x.gs x.now x.b) := by
    obtain ⟨Lp, p2, p3⟩ := id h6
    rcases p3 with ⟨e1, e2⟩ | ⟨y, ⟨a1, a2, a3, a4⟩, a5, a6⟩
    · subst e2
      exact triple_of_run (run_with bad_sound _ _ _ _ _) ha (fun r => by simp [owned, Ent.blocks]) (by simp) (akN_goal x.b x.f x.s x.gs x.now L gm e1 h3 h4 hJ _ rfl)
    · exact triple_of_run (run_with bad_sound _ _ _ _ _) ha (fun r => by simp [owned, Ent.blocks]) (by simp) (ak_goal x.b x.f x.s x.gs x.now L 6 _ _ gm ⟨y.b, y.base + y.o, x.f.ps.length, y.cap⟩ rfl rfl rfl a1 h2 h3 h4 pv a5 hJ _ _ _ _ _ _ _ rfl rfl rfl rfl rfl rfl rfl)
  exact fin.mono (List.Perm.refl _) fun v L' h => ⟨_, h.1, rfl, h.2⟩)
end Go.Proofs.Ythkcfocoekonjaa
