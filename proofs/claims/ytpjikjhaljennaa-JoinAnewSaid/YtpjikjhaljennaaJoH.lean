/- Joiners: slices of pieces; all pieces of a message (its run). -/
import Derived.Test.YtpjikjhaljennaaJoG
set_option maxRecDepth 100000
set_option linter.unusedVariables false
set_option linter.unusedSimpArgs false
namespace Go.Proofs.Ytpjikjhaljennaa
open Go Go.Sx
attribute [local irreducible] Go.Sx.xrun

/-- A slice of pieces that grows: rows of cells. -/
def intV : Value → Int
  | .int _ n => n
  | _ => 0
def boolV : Value → Bool
  | .bool b => b
  | _ => false
def iC (j : Nat) (rows : List (List Value)) : List Int := rows.map fun r => intV (r.getD j .nilIface)
def bC (j : Nat) (rows : List (List Value)) : List Bool := rows.map fun r => boolV (r.getD j .nilIface)
def vC (j : Nat) (rows : List (List Value)) : List Value := rows.map fun r => r.getD j .nilIface
structure ChW where
  b : Nat
  base : Nat
  cap : Nat
  rows : List (List Value)
def Ann.chC (r : List (List Value)) : List Col := [.ints .u8 (iC 0 r), .bools (bC 1 r), .bools (bC 2 r), .bools (bC 3 r), .bools (bC 4 r), .ints .u32 (iC 5 r), .ints .u16 (iC 6 r), .ints .u32 (iC 7 r), .ints .u32 (iC 8 r), .ints .u32 (iC 9 r), .ints .u32 (iC 10 r), .ints .u32 (iC 11 r), .ints .u16 (iC 12 r), .ints .u16 (iC 13 r), .raws (vC 14 r), .raws (vC 15 r), .raws (vC 16 r), .raws (vC 17 r), .raws (vC 18 r)]
def Ann.chB (x : ChW) : SBlk := .tab 36 x.base x.cap (Ann.chC x.rows)
structure AlX where
  k : Nat
  i : Int
  n : Nat
  kb : Nat
  x : ChW
def Ann.alJ (i : Bool) (mq mw mn : Nat) (s : JS) : SBlk := .cells 6 [.val (.bool i), .mp 1, .val (.map (some mq)), .val (.map (some mw)), .val (.map (some mn)), .val (.slice s.o s.l s.c)] 97
def Ann.alH (i : Bool) (b mp mq mw mn bi : Nat) (fp fi : Value → Option Value) (s : JS) (G : Blks) : List Ent :=
  [.own b (Ann.alJ i mq mw mn s), .own mp (.map kSh fp none), .own bi (.map (.one (.int .u32)) fi none), .chunk G]
noncomputable def Ann.al (H : List Ent) (k : Ky) (P1 P2 : AlX → Prop) : FnAnn := ⟨[(17, .to Unit fun _ => .mp 2), (20, .to (Pc × JS) fun p => .agg (p.1.svs p.2))],
  [(4, ⟨AlX, [(fun σ y => ⟨σ.n, (3, .ptr 4 0 0) :: (5, .val (.slice none 0 0)) :: (6, .val (.int .u32 y.i)) :: keepE σ.env [0], Ann.app' H [.own y.kb (Ann.kB k)]⟩, fun _ y => P1 y),
    (fun σ y => ⟨σ.n, (3, .ptr 4 0 0) :: (5, .slc 5 0 y.n y.x.cap) :: (6, .val (.int .u32 y.i)) :: keepE σ.env [0], Ann.app' H [.own y.kb (Ann.kB k), .own y.x.b (Ann.chB y.x)]⟩, fun _ y => P2 y)], fun y => y.k⟩)]⟩
noncomputable def alGoal (i : Bool) (b mp mq mw mn bi : Nat) (fp fi : Value → Option Value) (s : JS) (k : Ky) (G : Blks) (P1 P2 : AlX → Prop) (R : Value → Blks → Prop) : Prop :=
  xrun Go.Proofs.Try.prog [] [(47, Ann.al (Ann.alH i b mp mq mw mn bi fp fi s G) k P1 P2)] [] 9 [] 47 [.ptr 0 0 0, .agg [.val (.int .u16 k.1), .val (.bool k.2.1), .val (.int .u32 k.2.2)]]
    (Ann.alH i b mp mq mw mn bi fp fi s G) fun t h => R (den (locs h) t) (owned (locs h) h)
def Ann.rnJ (i : Bool) (mp mw mn : Nat) (s : JS) : SBlk := .cells 6 [.val (.bool i), .val (.map (some mp)), .mp 1, .val (.map (some mw)), .val (.map (some mn)), .val (.slice s.o s.l s.c)] 97
def Ann.rnH (i : Bool) (b mp mq mw mn : Nat) (fq : Value → Option Value) (s : JS) (G : Blks) : List Ent :=
  [.own b (Ann.rnJ i mp mw mn s), .own mq (.map (.one (.int .u32)) fq none), .chunk G]
def Ann.pc : Cast := .to (Pc × JS) fun p => .agg (p.1.svs p.2)
structure RnX where
  k : Nat
  t : Int
  n : Nat
  p : Pc
  s : JS
  x : ChW
noncomputable def Ann.rn (H : List Ent) (P0 P1 P2 : RnX → Prop) : FnAnn := ⟨[(17, Ann.pc), (28, Ann.pc), (43, Ann.pc), (54, Ann.pc), (73, Ann.pc), (85, Ann.pc)],
  [(2, ⟨RnX, [(fun σ y => ⟨σ.n, (5, .val (.int .u32 y.t)) :: keepE σ.env [0], H⟩, fun _ y => P0 y)], fun y => y.k⟩),
   (8, ⟨RnX, [(fun σ y => ⟨σ.n, (8, .slc 3 0 1 1) :: (5, .val (.int .u32 y.t)) :: keepE σ.env [0], Ann.app' H [.own y.x.b (.cells 19 (y.p.svs y.s) 36)]⟩, fun _ y => P1 y),
    (fun σ y => ⟨σ.n, (8, .slc 3 0 y.n y.x.cap) :: (5, .val (.int .u32 y.t)) :: keepE σ.env [0], Ann.app' H [.own y.x.b (Ann.chB y.x)]⟩, fun _ y => P2 y)], fun y => y.k⟩)]⟩
noncomputable def rnGoal (i : Bool) (b mp mq mw mn : Nat) (fq : Value → Option Value) (s : JS) (t : Int) (G : Blks) (P0 P1 P2 : RnX → Prop) (R : Value → Blks → Prop) : Prop :=
  xrun Go.Proofs.Try.prog [(83, fitsT)] [(46, Ann.rn (Ann.rnH i b mp mq mw mn fq s G) P0 P1 P2)] [] 9 [] 46 [.ptr 0 0 0, .val (.int .u32 t)]
    (Ann.rnH i b mp mq mw mn fq s G) fun t h => R (den (locs h) t) (owned (locs h) h)
open Classical
def spR (m : Nat) (s1 : List Int) (s2 : List Bool) (s3 : List Bool) (s4 : List Bool) (s5 : List Bool) (s6 : List Int) (s7 : List Int) (s8 : List Int) (s9 : List Int) (s10 : List Int) (s11 : List Int) (s12 : List Int) (s13 : List Int) (s14 : List Int) (s15 : List Value) (s16 : List Value) (s17 : List Value) (s18 : List Value) (s19 : List Value) : List (List Value) := (List.range m).map fun i => [.int .u8 (s1.getD i 0), .bool (s2.getD i false), .bool (s3.getD i false), .bool (s4.getD i false), .bool (s5.getD i false), .int .u32 (s6.getD i 0), .int .u16 (s7.getD i 0), .int .u32 (s8.getD i 0), .int .u32 (s9.getD i 0), .int .u32 (s10.getD i 0), .int .u32 (s11.getD i 0), .int .u32 (s12.getD i 0), .int .u16 (s13.getD i 0), .int .u16 (s14.getD i 0), s15.getD i .nilIface, s16.getD i .nilIface, s17.getD i .nilIface, s18.getD i .nilIface, s19.getD i .nilIface]
theorem range_getD {α : Type} {l : List α} {m : Nat} {d : α} (h : l.length = m) : (List.range m).map (fun i => l.getD i d) = l := by
  apply List.ext_getElem?
  intro i
  subst h
  by_cases hi : i < l.length
  · rw [List.getElem?_map, List.getElem?_range hi, List.getElem?_eq_getElem hi]
    simp [List.getD_eq_getElem?_getD, List.getElem?_eq_getElem hi]
  · rw [List.getElem?_eq_none (by simpa using hi), List.getElem?_eq_none (by simpa using hi)]
theorem sp_cols {m : Nat} {s1 : List Int} {s2 : List Bool} {s3 : List Bool} {s4 : List Bool} {s5 : List Bool} {s6 : List Int} {s7 : List Int} {s8 : List Int} {s9 : List Int} {s10 : List Int} {s11 : List Int} {s12 : List Int} {s13 : List Int} {s14 : List Int} {s15 : List Value} {s16 : List Value} {s17 : List Value} {s18 : List Value} {s19 : List Value} (e1 : s1.length = m) (e2 : s2.length = m) (e3 : s3.length = m) (e4 : s4.length = m) (e5 : s5.length = m) (e6 : s6.length = m) (e7 : s7.length = m) (e8 : s8.length = m) (e9 : s9.length = m) (e10 : s10.length = m) (e11 : s11.length = m) (e12 : s12.length = m) (e13 : s13.length = m) (e14 : s14.length = m) (e15 : s15.length = m) (e16 : s16.length = m) (e17 : s17.length = m) (e18 : s18.length = m) (e19 : s19.length = m) : iC 0 (spR m s1 s2 s3 s4 s5 s6 s7 s8 s9 s10 s11 s12 s13 s14 s15 s16 s17 s18 s19) = s1 ∧ bC 1 (spR m s1 s2 s3 s4 s5 s6 s7 s8 s9 s10 s11 s12 s13 s14 s15 s16 s17 s18 s19) = s2 ∧ bC 2 (spR m s1 s2 s3 s4 s5 s6 s7 s8 s9 s10 s11 s12 s13 s14 s15 s16 s17 s18 s19) = s3 ∧ bC 3 (spR m s1 s2 s3 s4 s5 s6 s7 s8 s9 s10 s11 s12 s13 s14 s15 s16 s17 s18 s19) = s4 ∧ bC 4 (spR m s1 s2 s3 s4 s5 s6 s7 s8 s9 s10 s11 s12 s13 s14 s15 s16 s17 s18 s19) = s5 ∧ iC 5 (spR m s1 s2 s3 s4 s5 s6 s7 s8 s9 s10 s11 s12 s13 s14 s15 s16 s17 s18 s19) = s6 ∧ iC 6 (spR m s1 s2 s3 s4 s5 s6 s7 s8 s9 s10 s11 s12 s13 s14 s15 s16 s17 s18 s19) = s7 ∧ iC 7 (spR m s1 s2 s3 s4 s5 s6 s7 s8 s9 s10 s11 s12 s13 s14 s15 s16 s17 s18 s19) = s8 ∧ iC 8 (spR m s1 s2 s3 s4 s5 s6 s7 s8 s9 s10 s11 s12 s13 s14 s15 s16 s17 s18 s19) = s9 ∧ iC 9 (spR m s1 s2 s3 s4 s5 s6 s7 s8 s9 s10 s11 s12 s13 s14 s15 s16 s17 s18 s19) = s10 ∧ iC 10 (spR m s1 s2 s3 s4 s5 s6 s7 s8 s9 s10 s11 s12 s13 s14 s15 s16 s17 s18 s19) = s11 ∧ iC 11 (spR m s1 s2 s3 s4 s5 s6 s7 s8 s9 s10 s11 s12 s13 s14 s15 s16 s17 s18 s19) = s12 ∧ iC 12 (spR m s1 s2 s3 s4 s5 s6 s7 s8 s9 s10 s11 s12 s13 s14 s15 s16 s17 s18 s19) = s13 ∧ iC 13 (spR m s1 s2 s3 s4 s5 s6 s7 s8 s9 s10 s11 s12 s13 s14 s15 s16 s17 s18 s19) = s14 ∧ vC 14 (spR m s1 s2 s3 s4 s5 s6 s7 s8 s9 s10 s11 s12 s13 s14 s15 s16 s17 s18 s19) = s15 ∧ vC 15 (spR m s1 s2 s3 s4 s5 s6 s7 s8 s9 s10 s11 s12 s13 s14 s15 s16 s17 s18 s19) = s16 ∧ vC 16 (spR m s1 s2 s3 s4 s5 s6 s7 s8 s9 s10 s11 s12 s13 s14 s15 s16 s17 s18 s19) = s17 ∧ vC 17 (spR m s1 s2 s3 s4 s5 s6 s7 s8 s9 s10 s11 s12 s13 s14 s15 s16 s17 s18 s19) = s18 ∧ vC 18 (spR m s1 s2 s3 s4 s5 s6 s7 s8 s9 s10 s11 s12 s13 s14 s15 s16 s17 s18 s19) = s19 :=
  ⟨(List.map_map ..).trans (range_getD e1), (List.map_map ..).trans (range_getD e2), (List.map_map ..).trans (range_getD e3), (List.map_map ..).trans (range_getD e4), (List.map_map ..).trans (range_getD e5), (List.map_map ..).trans (range_getD e6), (List.map_map ..).trans (range_getD e7), (List.map_map ..).trans (range_getD e8), (List.map_map ..).trans (range_getD e9), (List.map_map ..).trans (range_getD e10), (List.map_map ..).trans (range_getD e11), (List.map_map ..).trans (range_getD e12), (List.map_map ..).trans (range_getD e13), (List.map_map ..).trans (range_getD e14), (List.map_map ..).trans (range_getD e15), (List.map_map ..).trans (range_getD e16), (List.map_map ..).trans (range_getD e17), (List.map_map ..).trans (range_getD e18), (List.map_map ..).trans (range_getD e19)⟩
theorem app_i {j n : Nat} {a c : List (List Value)} {r : List Value} {s : List Int} {v : Int} (h : iC j c = s) (hv : intV (r.getD j .nilIface) = v) : (iC j a).take n ++ [v] ++ s = iC j (a.take n ++ [r] ++ c) := by
  subst h hv
  simp [iC, List.map_take]
theorem one_i {j : Nat} {c : List (List Value)} {r : List Value} {s : List Int} {v : Int} (h : iC j c = s) (hv : intV (r.getD j .nilIface) = v) : v :: s = iC j (r :: c) := by
  subst h hv
  rfl
theorem two_i {j : Nat} {c : List (List Value)} {r r2 : List Value} {s : List Int} {v v2 : Int} (h : iC j c = s) (hv : intV (r.getD j .nilIface) = v) (hv2 : intV (r2.getD j .nilIface) = v2) : v :: v2 :: s = iC j (r :: r2 :: c) := by
  subst h hv hv2
  rfl
theorem app_b {j n : Nat} {a c : List (List Value)} {r : List Value} {s : List Bool} {v : Bool} (h : bC j c = s) (hv : boolV (r.getD j .nilIface) = v) : (bC j a).take n ++ [v] ++ s = bC j (a.take n ++ [r] ++ c) := by
  subst h hv
  simp [bC, List.map_take]
theorem one_b {j : Nat} {c : List (List Value)} {r : List Value} {s : List Bool} {v : Bool} (h : bC j c = s) (hv : boolV (r.getD j .nilIface) = v) : v :: s = bC j (r :: c) := by
  subst h hv
  rfl
theorem two_b {j : Nat} {c : List (List Value)} {r r2 : List Value} {s : List Bool} {v v2 : Bool} (h : bC j c = s) (hv : boolV (r.getD j .nilIface) = v) (hv2 : boolV (r2.getD j .nilIface) = v2) : v :: v2 :: s = bC j (r :: r2 :: c) := by
  subst h hv hv2
  rfl
theorem app_v {j n : Nat} {a c : List (List Value)} {r : List Value} {s : List Value} {v : Value} (h : vC j c = s) (hv : (r.getD j .nilIface) = v) : (vC j a).take n ++ [v] ++ s = vC j (a.take n ++ [r] ++ c) := by
  subst h hv
  simp [vC, List.map_take]
theorem one_v {j : Nat} {c : List (List Value)} {r : List Value} {s : List Value} {v : Value} (h : vC j c = s) (hv : (r.getD j .nilIface) = v) : v :: s = vC j (r :: c) := by
  subst h hv
  rfl
theorem two_v {j : Nat} {c : List (List Value)} {r r2 : List Value} {s : List Value} {v v2 : Value} (h : vC j c = s) (hv : (r.getD j .nilIface) = v) (hv2 : (r2.getD j .nilIface) = v2) : v :: v2 :: s = vC j (r :: r2 :: c) := by
  subst h hv hv2
  rfl
theorem cols_eq {c1 c6 c7 c8 c9 c10 c11 c12 c13 c14 : List Int} {c2 c3 c4 c5 : List Bool} {c15 c16 c17 c18 c19 : List Value} {r : List (List Value)} (q1 : c1 = iC 0 r) (q2 : c2 = bC 1 r) (q3 : c3 = bC 2 r) (q4 : c4 = bC 3 r) (q5 : c5 = bC 4 r) (q6 : c6 = iC 5 r) (q7 : c7 = iC 6 r) (q8 : c8 = iC 7 r) (q9 : c9 = iC 8 r) (q10 : c10 = iC 9 r) (q11 : c11 = iC 10 r) (q12 : c12 = iC 11 r) (q13 : c13 = iC 12 r) (q14 : c14 = iC 13 r) (q15 : c15 = vC 14 r) (q16 : c16 = vC 15 r) (q17 : c17 = vC 16 r) (q18 : c18 = vC 17 r) (q19 : c19 = vC 18 r) : [Col.ints .u8 c1, Col.bools c2, Col.bools c3, Col.bools c4, Col.bools c5, Col.ints .u32 c6, Col.ints .u16 c7, Col.ints .u32 c8, Col.ints .u32 c9, Col.ints .u32 c10, Col.ints .u32 c11, Col.ints .u32 c12, Col.ints .u16 c13, Col.ints .u16 c14, Col.raws c15, Col.raws c16, Col.raws c17, Col.raws c18, Col.raws c19] = Ann.chC r := by
  subst q1 q2 q3 q4 q5 q6 q7 q8 q9 q10 q11 q12 q13 q14 q15 q16 q17 q18 q19
  rfl
def FactJ (G : Blks) (p : Pc) (s : JS) : Prop := Bts G s.o s.l p.bs ∧ s.l ≤ s.c ∧ 0 < s.l ∧ s.l ≤ 100000
def RowsOk (G : Blks) (cap : Nat) (rows : List (List Value)) (cs : List Pc) : Prop := rows.length = cap ∧ cs.length ≤ cap ∧ ∀ (i : Nat) (p : Pc), cs[i]? = some p → ∃ s : JS, rows[i]? = some (p.cells s) ∧ FactJ G p s
theorem spR_len (m : Nat) (s1 : List Int) (s2 : List Bool) (s3 : List Bool) (s4 : List Bool) (s5 : List Bool) (s6 : List Int) (s7 : List Int) (s8 : List Int) (s9 : List Int) (s10 : List Int) (s11 : List Int) (s12 : List Int) (s13 : List Int) (s14 : List Int) (s15 : List Value) (s16 : List Value) (s17 : List Value) (s18 : List Value) (s19 : List Value) : (spR m s1 s2 s3 s4 s5 s6 s7 s8 s9 s10 s11 s12 s13 s14 s15 s16 s17 s18 s19).length = m := by unfold spR; simp
theorem rows_app {G : Blks} {cap cap' n : Nat} {rows SP : List (List Value)} {cs : List Pc} (h : RowsOk G cap rows cs) (hn : n = cs.length) {p : Pc} {s : JS} (hf : FactJ G p s) (hc : n + 1 ≤ cap') (hs : SP.length = cap' - (n + 1)) : RowsOk G cap' (rows.take n ++ [p.cells s] ++ SP) (cs ++ [p]) := by
  obtain ⟨h1, h2, h3⟩ := h
  have hl : (rows.take n).length = n := by rw [List.length_take]; omega
  refine ⟨by simp only [List.length_append, hl, List.length_singleton, hs]; omega, by rw [List.length_append, ← hn]; exact hc, fun i p' hp => ?_⟩
  by_cases hi : i < n
  · rw [List.getElem?_append_left (by omega)] at hp
    obtain ⟨s', k1, k2⟩ := h3 i p' hp
    refine ⟨s', ?_, k2⟩
    rw [List.append_assoc, List.getElem?_append_left (by omega), List.getElem?_take_of_lt hi]
    exact k1
  · have hi' : i = n := by
      have := (List.getElem?_eq_some_iff.1 hp).1
      rw [List.length_append, List.length_singleton] at this
      omega
    subst hi'
    rw [List.getElem?_append_right (by omega), hn, Nat.sub_self] at hp
    obtain rfl := Option.some.inj hp
    refine ⟨s, ?_, hf⟩
    rw [List.append_assoc, List.getElem?_append_right (by omega), hl, Nat.sub_self]
    rfl
theorem rows_one {G : Blks} {cap' : Nat} {SP : List (List Value)} {p : Pc} {s : JS} (hf : FactJ G p s) (hc : 1 ≤ cap') (hs : SP.length = cap' - 1) : RowsOk G cap' (p.cells s :: SP) [p] := by
  have := rows_app (cap := 0) (n := 0) (rows := []) (cs := []) (SP := SP) (cap' := cap') (G := G) ⟨rfl, Nat.le_refl _, fun i p h => by simp at h⟩ rfl hf hc hs
  simpa using this
theorem rows_two {G : Blks} {cap' : Nat} {SP : List (List Value)} {p p2 : Pc} {s s2 : JS} (hf : FactJ G p s) (hf2 : FactJ G p2 s2) (hc : 2 ≤ cap') (hs : SP.length = cap' - 2) : RowsOk G cap' (p.cells s :: p2.cells s2 :: SP) [p, p2] := by
  have := rows_app (SP := SP) (cap' := cap') (n := 1) (rows_one (SP := []) (cap' := 1) hf (Nat.le_refl _) rfl) rfl hf2 hc hs
  simpa using this
theorem col_i {rows : List (List Value)} {j i : Nat} {r : List Value} (h : rows[i]? = some r) : (iC j rows).getD i 0 = intV (r.getD j .nilIface) := by unfold iC; rw [List.getD_eq_getElem?_getD, List.getElem?_map, h]; rfl
theorem col_b {rows : List (List Value)} {j i : Nat} {r : List Value} (h : rows[i]? = some r) : (bC j rows).getD i false = boolV (r.getD j .nilIface) := by unfold bC; rw [List.getD_eq_getElem?_getD, List.getElem?_map, h]; rfl
theorem col_v {rows : List (List Value)} {j i : Nat} {r : List Value} (h : rows[i]? = some r) : (vC j rows).getD i .nilIface = r.getD j .nilIface := by unfold vC; rw [List.getD_eq_getElem?_getD, List.getElem?_map, h]; rfl
theorem rows_cs {G M : Blks} {cap base b : Nat} {rows : List (List Value)} {C : List Col} {cs : List Pc} (h : RowsOk G cap rows cs) (hC : C = Ann.chC rows) (hs : SeenIn G M) (hm : (b, Blk.tab 36 base cap C) ∈ M) : CsAt M b (base * 19) cs := fun i p hp => by
  subst hC
  obtain ⟨s, h1, h2, h3⟩ := h.2.2 i p hp
  have hi : i < cap := by
    have := (List.getElem?_eq_some_iff.1 hp).1
    have := h.2.1
    omega
  refine ⟨s, fun j v hv => ?_, h2.seen hs, h3⟩
  have key : ∃ c, (Ann.chC rows)[j]? = some c ∧ c.get i = v := by
    match j, hv with
    | 0, hv => exact ⟨_, rfl, (congrArg (Value.int .u8) (col_i h1)).trans (Option.some.inj hv)⟩
    | 1, hv => exact ⟨_, rfl, (congrArg Value.bool (col_b h1)).trans (Option.some.inj hv)⟩
    | 2, hv => exact ⟨_, rfl, (congrArg Value.bool (col_b h1)).trans (Option.some.inj hv)⟩
    | 3, hv => exact ⟨_, rfl, (congrArg Value.bool (col_b h1)).trans (Option.some.inj hv)⟩
    | 4, hv => exact ⟨_, rfl, (congrArg Value.bool (col_b h1)).trans (Option.some.inj hv)⟩
    | 5, hv => exact ⟨_, rfl, (congrArg (Value.int .u32) (col_i h1)).trans (Option.some.inj hv)⟩
    | 6, hv => exact ⟨_, rfl, (congrArg (Value.int .u16) (col_i h1)).trans (Option.some.inj hv)⟩
    | 7, hv => exact ⟨_, rfl, (congrArg (Value.int .u32) (col_i h1)).trans (Option.some.inj hv)⟩
    | 8, hv => exact ⟨_, rfl, (congrArg (Value.int .u32) (col_i h1)).trans (Option.some.inj hv)⟩
    | 9, hv => exact ⟨_, rfl, (congrArg (Value.int .u32) (col_i h1)).trans (Option.some.inj hv)⟩
    | 10, hv => exact ⟨_, rfl, (congrArg (Value.int .u32) (col_i h1)).trans (Option.some.inj hv)⟩
    | 11, hv => exact ⟨_, rfl, (congrArg (Value.int .u32) (col_i h1)).trans (Option.some.inj hv)⟩
    | 12, hv => exact ⟨_, rfl, (congrArg (Value.int .u16) (col_i h1)).trans (Option.some.inj hv)⟩
    | 13, hv => exact ⟨_, rfl, (congrArg (Value.int .u16) (col_i h1)).trans (Option.some.inj hv)⟩
    | 14, hv => exact ⟨_, rfl, ((col_v h1)).trans (Option.some.inj hv)⟩
    | 15, hv => exact ⟨_, rfl, ((col_v h1)).trans (Option.some.inj hv)⟩
    | 16, hv => exact ⟨_, rfl, ((col_v h1)).trans (Option.some.inj hv)⟩
    | 17, hv => exact ⟨_, rfl, ((col_v h1)).trans (Option.some.inj hv)⟩
    | 18, hv => exact ⟨_, rfl, ((col_v h1)).trans (Option.some.inj hv)⟩
    | _ + 19, hv => simp [Pc.cells] at hv
  obtain ⟨c, k1, k2⟩ := key
  exact ⟨_, hm, i, j, c, by show _ = (base + i) * 19 + j; rw [Nat.add_mul], hi, k1, k2.symm⟩
theorem cell_cs {p : Pc} {s : JS} {b : Nat} {t : TypeId} {G M : Blks} (hb : Bts G s.o s.l p.bs ∧ s.l ≤ s.c ∧ 0 < s.l ∧ s.l ≤ 100000) (hs : SeenIn G M) (hm : (b, Blk.cells (p.cells s) t) ∈ M) : CsAt M b 0 [p] := fun i p' hp => by
  have hi : i = 0 := by
    have := (List.getElem?_eq_some_iff.1 hp).1
    rw [List.length_singleton] at this
    omega
  subst hi
  obtain rfl := Option.some.inj hp
  exact ⟨s, fun j v hv => ⟨_, hm, by show (p.cells s)[0 + 0 * 19 + j]? = some v; rw [show 0 + 0 * 19 + j = j by omega]; exact hv⟩, hb.1.seen hs, hb.2⟩
theorem AllS.inv {ps : List Pc} {n : Nat} {i : Int} {out : List Pc} {r : Option (List Pc)} (h : AllS ps n i out r) :
    ((∀ c ∈ ps, c.fr ≠ i) ∧ r = none) ∨ (∃ c, c ∈ ps ∧ c.fr = i ∧ c.en = true ∧ r = some (out ++ [c])) ∨ ∃ k c, n = k + 1 ∧ c ∈ ps ∧ c.fr = i ∧ c.en = false ∧ AllS ps k (IntKind.wrap .u32 (i + 1)) (out ++ [c]) r := by
  cases h with
  | no hn => exact .inl ⟨hn, rfl⟩
  | en hc hi he => exact .inr (.inl ⟨_, hc, hi, he, rfl⟩)
  | st hc hi he h => exact .inr (.inr ⟨_, _, rfl, hc, hi, he, h⟩)
theorem BackS.inv {ps : List Pc} {n : Nat} {t : Int} {r : Option Int} (h : BackS ps n t r) :
    (∃ p, p ∈ ps ∧ p.tsn = t ∧ p.bg = true ∧ r = some t) ∨ (∃ p, p ∈ ps ∧ p.tsn = t ∧ p.bg = false ∧ (∀ c ∈ ps, c.tsn = IntKind.wrap .u32 (t - 1) → c.en = true ∨ ¬ fitsF c p) ∧ r = none) ∨
    ∃ k p c, n = k + 1 ∧ p ∈ ps ∧ p.tsn = t ∧ p.bg = false ∧ c ∈ ps ∧ c.tsn = IntKind.wrap .u32 (t - 1) ∧ c.en = false ∧ fitsF c p ∧ BackS ps k (IntKind.wrap .u32 (t - 1)) r := by
  cases h with
  | bg hp ht hb => exact .inl ⟨_, hp, ht, hb, rfl⟩
  | no hp ht hb hn => exact .inr (.inl ⟨_, hp, ht, hb, hn, rfl⟩)
  | st hp ht hb hc hct he hf h => exact .inr (.inr ⟨_, _, _, rfl, hp, ht, hb, hc, hct, he, hf, h⟩)
theorem FwdS.inv {ps : List Pc} {p0 : Pc} {n : Nat} {t : Int} {out : List Pc} {p : Pc} {r : Option (List Pc)} (h : FwdS ps p0 n t out p r) :
    (p.en = true ∧ r = some (out ++ [p])) ∨ (p.en = false ∧ (∀ c ∈ ps, c.tsn = IntKind.wrap .u32 (t + 1) → c.bg = true ∨ ¬ fitsF c p0) ∧ r = none) ∨
    ∃ k c, n = k + 1 ∧ p.en = false ∧ c ∈ ps ∧ c.tsn = IntKind.wrap .u32 (t + 1) ∧ c.bg = false ∧ fitsF c p0 ∧ FwdS ps p0 k (IntKind.wrap .u32 (t + 1)) (out ++ [p]) c r := by
  cases h with
  | en he => exact .inl ⟨he, rfl⟩
  | no he hn => exact .inr (.inl ⟨he, hn, rfl⟩)
  | st he hc hct hb hf h => exact .inr (.inr ⟨_, _, rfl, he, hc, hct, hb, hf, h⟩)
/-- What a map of pieces shows. -/
theorem pcs_get {key : Pc → Value} {G : Blks} {ps : List Pc} {f : Value → Option Value} (h : SM key (Pure (PcAt G)) ps f []) {p : Pc} (hp : p ∈ ps) : ∃ s : JS, f (key p) = some (.agg (p.cells s).toArray) ∧ (Bts G s.o s.l p.bs ∧ s.l ≤ s.c ∧ 0 < s.l ∧ s.l ≤ 100000) := by
  obtain ⟨v, L1, L2, h1, -, s, rfl, h2⟩ := SM.get h hp
  exact ⟨s, h1, h2⟩
def alP1 (ps : List Pc) (r : Option (List Pc)) (y : AlX) : Prop := AllS ps y.k y.i [] r ∧ y.k < 1000000
def alP2 (G0 : Blks) (ps : List Pc) (r : Option (List Pc)) (y : AlX) : Prop := ∃ out, AllS ps y.k y.i out r ∧ RowsOk G0 y.x.cap y.x.rows out ∧ y.n = out.length ∧ out.length + y.k < 1000000
set_option maxHeartbeats 1000000 in
theorem al_goal (i : Bool) (b mp mq mw mn bi : Nat) (fp fi : Value → Option Value) (s : JS) (k : Ky) (G : Blks) (P1 P2 : AlX → Prop) (R : Value → Blks → Prop) {G0 : Blks} {ps : List Pc} {r : Option (List Pc)} {n0 : Nat} (hS : AllS ps n0 0 [] r) (hn0 : n0 < 1000000)
    (hp : fp (kK k) = some (.map (some bi))) (hi : SM (fun p : Pc => kT p.fr) (Pure (PcAt G0)) ps fi []) (e1 : P1 = alP1 ps r) (e2 : P2 = alP2 G0 ps r)
    (hR0 : r = none → ∀ N : Blks, R (.slice none 0 0) ((b, .cells [.bool i, .map (some mp), .map (some mq), .map (some mw), .map (some mn), .slice s.o s.l s.c] 97) :: (mp, .map kSh fp none) :: (bi, .map (.one (.int .u32)) fi none) :: (G ++ N)))
    (hR1 : ∀ cs (b1 base cap n : Nat) (rows : List (List Value)) (C : List Col) (N : Blks), r = some cs → n = cs.length → C = Ann.chC rows → RowsOk G0 cap rows cs → (b1, Blk.tab 36 base cap C) ∈ N → R (.slice (some ⟨b1, base * 19, none⟩) n cap) ((b, .cells [.bool i, .map (some mp), .map (some mq), .map (some mw), .map (some mn), .slice s.o s.l s.c] 97) :: (mp, .map kSh fp none) :: (bi, .map (.one (.int .u32)) fi none) :: (G ++ N))) :
    alGoal i b mp mq mw mn bi fp fi s k G P1 P2 R :=
  Eq.mpr (by kernel_rfl) (show
  ∀ (b_1 : Nat), ∃ (x0 : AlX), (((((0 : Nat) = (0 : Nat) ∧ (0 : Nat) = (0 : Nat)) ∧ Value.slice Option.none (0 : Nat) (0 : Nat) = Value.slice Option.none (0 : Nat) (0 : Nat) ∧ (0 : Int) = x0.2 ∧ ((0 : Nat) = (0 : Nat) ∧ (0 : Nat) = (0 : Nat)) ∧ True) ∧ (b = b ∧ Value.bool i = Value.bool i ∧ True ∧ Value.map (Option.some mq) = Value.map (Option.some mq) ∧ Value.map (Option.some mw) = Value.map (Option.some mw) ∧ Value.map (Option.some mn) = Value.map (Option.some mn) ∧ Value.slice s.1 s.2 s.3 = Value.slice s.1 s.2 s.3 ∧ True) ∧ (mp = mp ∧ kSh = kSh ∧ fp = fp ∧ (Option.none : Option (Go.Value × Int)) = Option.none) ∧
  (bi = bi ∧ KShape.one (KS.int IntKind.u32) = KShape.one (KS.int IntKind.u32) ∧ fi = fi ∧ (Option.none : Option (Go.Value × Int)) = Option.none) ∧ G = G ∧ (b_1 = x0.4 ∧ k.1 = k.1 ∧ Value.bool k.2.1 = Value.bool k.2.1 ∧ k.2.2 = k.2.2 ∧ True) ∧ True) ∧ P1 x0 ∨ ((((0 : Nat) = (0 : Nat) ∧ (0 : Nat) = (0 : Nat)) ∧ False ∧ (0 : Int) = x0.2 ∧ ((0 : Nat) = (0 : Nat) ∧ (0 : Nat) = (0 : Nat)) ∧ True) ∧ (b = b ∧ Value.bool i = Value.bool i ∧ True ∧ Value.map (Option.some mq) = Value.map (Option.some mq) ∧ Value.map (Option.some mw) = Value.map (Option.some mw) ∧
  Value.map (Option.some mn) = Value.map (Option.some mn) ∧ Value.slice s.1 s.2 s.3 = Value.slice s.1 s.2 s.3 ∧ True) ∧ (mp = mp ∧ kSh = kSh ∧ fp = fp ∧ (Option.none : Option (Go.Value × Int)) = Option.none) ∧ (bi = bi ∧ KShape.one (KS.int IntKind.u32) = KShape.one (KS.int IntKind.u32) ∧ fi = fi ∧ (Option.none : Option (Go.Value × Int)) = Option.none) ∧ G = G ∧ (b_1 = x0.4 ∧ k.1 = k.1 ∧ Value.bool k.2.1 = Value.bool k.2.1 ∧ k.2.2 = k.2.2 ∧ True) ∧ False ∧ True) ∧ P2 x0) ∧ (∀ (x : AlX), P1 x → ∃ (x_1 : Unit), (∀ (r : List (Nat × Nat × Nat)), Value.map (Option.some bi) =
  Option.getD (fp (Value.agg #[Value.int IntKind.u16 k.1, Value.bool k.2.1, Value.int IntKind.u32 k.2.2])) (Value.map Option.none)) ∧ ∃ (x_2 : Pc × JS), (∀ (r : List (Nat × Nat × Nat)), Value.agg #[Value.int IntKind.u8 x_2.1.1, Value.bool x_2.1.2, Value.bool x_2.1.3, Value.bool x_2.1.4, Value.bool Bool.false, Value.int IntKind.u32 x_2.1.5, Value.int IntKind.u16 x_2.1.6, Value.int IntKind.u32 x_2.1.7, Value.int IntKind.u32 x_2.1.8, Value.int IntKind.u32 x_2.1.9, Value.int IntKind.u32 (0 : Int), Value.int IntKind.u32 (0 : Int), Value.int IntKind.u16 (0 : Int), Value.int IntKind.u16 (0 : Int),
  Value.slice Option.none (0 : Nat) (0 : Nat), Value.slice Option.none (0 : Nat) (0 : Nat), Value.slice Option.none (0 : Nat) (0 : Nat), Value.slice Option.none (0 : Nat) (0 : Nat), Value.slice x_2.2.1 x_2.2.2 x_2.2.3] = Option.getD (fi (Value.int IntKind.u32 x.2)) (Value.agg #[Value.int IntKind.u8 (0 : Int), Value.bool Bool.false, Value.bool Bool.false, Value.bool Bool.false, Value.bool Bool.false, Value.int IntKind.u32 (0 : Int), Value.int IntKind.u16 (0 : Int), Value.int IntKind.u32 (0 : Int), Value.int IntKind.u32 (0 : Int),
  Value.int IntKind.u32 (0 : Int), Value.int IntKind.u32 (0 : Int), Value.int IntKind.u32 (0 : Int), Value.int IntKind.u16 (0 : Int), Value.int IntKind.u16 (0 : Int), Value.slice Option.none (0 : Nat) (0 : Nat), Value.slice Option.none (0 : Nat) (0 : Nat), Value.slice Option.none (0 : Nat) (0 : Nat), Value.slice Option.none (0 : Nat) (0 : Nat), Value.slice Option.none (0 : Nat) (0 : Nat)])) ∧ ∀ (b_2 : Nat), SV.tup [SV.val (Option.getD (fi (Value.int IntKind.u32 x.2)) (Value.agg
  #[Value.int IntKind.u8 (0 : Int), Value.bool Bool.false, Value.bool Bool.false, Value.bool Bool.false, Value.bool Bool.false, Value.int IntKind.u32 (0 : Int), Value.int IntKind.u16 (0 : Int), Value.int IntKind.u32 (0 : Int), Value.int IntKind.u32 (0 : Int), Value.int IntKind.u32 (0 : Int), Value.int IntKind.u32 (0 : Int), Value.int IntKind.u32 (0 : Int), Value.int IntKind.u16 (0 : Int), Value.int IntKind.u16 (0 : Int), Value.slice Option.none (0 : Nat) (0 : Nat), Value.slice Option.none (0 : Nat) (0 : Nat),
  Value.slice Option.none (0 : Nat) (0 : Nat), Value.slice Option.none (0 : Nat) (0 : Nat), Value.slice Option.none (0 : Nat) (0 : Nat)])), SV.prop (Option.rec Bool.false (fun (val : Go.Value) => Bool.true) (fi (Value.int IntKind.u32 x.2)) = Bool.true)] = SV.tup [SV.val (Option.getD (fi (Value.int IntKind.u32 x.2)) (Value.agg #[Value.int IntKind.u8 (0 : Int), Value.bool Bool.false, Value.bool Bool.false, Value.bool Bool.false, Value.bool Bool.false, Value.int IntKind.u32 (0 : Int), Value.int IntKind.u16 (0 : Int), Value.int IntKind.u32 (0 : Int), Value.int IntKind.u32 (0 : Int),
  Value.int IntKind.u32 (0 : Int), Value.int IntKind.u32 (0 : Int), Value.int IntKind.u32 (0 : Int), Value.int IntKind.u16 (0 : Int), Value.int IntKind.u16 (0 : Int), Value.slice Option.none (0 : Nat) (0 : Nat), Value.slice Option.none (0 : Nat) (0 : Nat), Value.slice Option.none (0 : Nat) (0 : Nat), Value.slice Option.none (0 : Nat) (0 : Nat), Value.slice Option.none (0 : Nat) (0 : Nat)])), SV.prop (Option.rec Bool.false (fun (val : Go.Value) => Bool.true) (fi (Value.int IntKind.u32 x.2)) = Bool.true)] ∧
  SV.val (Option.getD (fp (Value.agg #[Value.int IntKind.u16 k.1, Value.bool k.2.1, Value.int IntKind.u32 k.2.2])) (Value.map Option.none)) = SV.val (Option.getD (fp (Value.agg #[Value.int IntKind.u16 k.1, Value.bool k.2.1, Value.int IntKind.u32 k.2.2])) (Value.map Option.none)) ∧ SV.agg [SV.val (Value.int IntKind.u16 k.1), SV.val (Value.bool k.2.1), SV.val (Value.int IntKind.u32 k.2.2)] = SV.agg [SV.val (Value.int IntKind.u16 k.1), SV.val (Value.bool k.2.1), SV.val (Value.int IntKind.u32 k.2.2)] ∧ SV.mp (1 : Nat) = SV.mp (1 : Nat) ∧ Value.oneCell' (Value.int IntKind.u8 x_2.1.1) = Bool.true ∧
  Value.oneCell' (Value.bool x_2.1.2) = Bool.true ∧ Value.oneCell' (Value.bool x_2.1.3) = Bool.true ∧ Value.oneCell' (Value.bool x_2.1.4) = Bool.true ∧ Value.oneCell' (Value.bool Bool.false) = Bool.true ∧ Value.oneCell' (Value.int IntKind.u32 x_2.1.5) = Bool.true ∧ Value.oneCell' (Value.int IntKind.u16 x_2.1.6) = Bool.true ∧ Value.oneCell' (Value.int IntKind.u32 x_2.1.7) = Bool.true ∧ Value.oneCell' (Value.int IntKind.u32 x_2.1.8) = Bool.true ∧ Value.oneCell' (Value.int IntKind.u32 x_2.1.9) = Bool.true ∧ Value.oneCell' (Value.int IntKind.u32 (0 : Int)) = Bool.true ∧
  Value.oneCell' (Value.int IntKind.u32 (0 : Int)) = Bool.true ∧ Value.oneCell' (Value.int IntKind.u16 (0 : Int)) = Bool.true ∧ Value.oneCell' (Value.int IntKind.u16 (0 : Int)) = Bool.true ∧ Value.oneCell' (Value.slice Option.none (0 : Nat) (0 : Nat)) = Bool.true ∧ Value.oneCell' (Value.slice Option.none (0 : Nat) (0 : Nat)) = Bool.true ∧ Value.oneCell' (Value.slice Option.none (0 : Nat) (0 : Nat)) = Bool.true ∧ Value.oneCell' (Value.slice Option.none (0 : Nat) (0 : Nat)) = Bool.true ∧ (¬Option.rec Bool.false (fun (val : Go.Value) => Bool.true) (fi (Value.int IntKind.u32 x.2)) = Bool.true →
  R (Value.slice Option.none (0 : Nat) (0 : Nat)) ((b, Blk.cells [Value.bool i, Value.map (Option.some mp), Value.map (Option.some mq), Value.map (Option.some mw), Value.map (Option.some mn), Value.slice s.1 s.2 s.3] (97 : Go.TypeId)) :: (mp, Blk.map kSh fp Option.none) :: (bi, Blk.map (KShape.one (KS.int IntKind.u32)) fi Option.none) :: (G ++ [(x.4, Blk.cells [Value.int IntKind.u16 k.1, Value.bool k.2.1, Value.int IntKind.u32 k.2.2] (100 : Go.TypeId)), (b_2, Blk.cells [Value.int IntKind.u8 x_2.1.1, Value.bool x_2.1.2, Value.bool x_2.1.3, Value.bool x_2.1.4,
  Value.bool Bool.false, Value.int IntKind.u32 x_2.1.5, Value.int IntKind.u16 x_2.1.6, Value.int IntKind.u32 x_2.1.7, Value.int IntKind.u32 x_2.1.8, Value.int IntKind.u32 x_2.1.9, Value.int IntKind.u32 (0 : Int), Value.int IntKind.u32 (0 : Int), Value.int IntKind.u16 (0 : Int), Value.int IntKind.u16 (0 : Int), Value.slice Option.none (0 : Nat) (0 : Nat), Value.slice Option.none (0 : Nat) (0 : Nat), Value.slice Option.none (0 : Nat) (0 : Nat), Value.slice Option.none (0 : Nat) (0 : Nat), Value.slice x_2.2.1 x_2.2.2 x_2.2.3] (36 : Nat))]))) ∧
  (¬¬Option.rec Bool.false (fun (val : Go.Value) => Bool.true) (fi (Value.int IntKind.u32 x.2)) = Bool.true → ∀ (b_3 : Nat), Value.oneCell' (Value.int IntKind.u8 x_2.1.1) = Bool.true ∧ Value.oneCell' (Value.bool x_2.1.2) = Bool.true ∧ Value.oneCell' (Value.bool x_2.1.3) = Bool.true ∧ Value.oneCell' (Value.bool x_2.1.4) = Bool.true ∧ Value.oneCell' (Value.bool Bool.false) = Bool.true ∧ Value.oneCell' (Value.int IntKind.u32 x_2.1.5) = Bool.true ∧ Value.oneCell' (Value.int IntKind.u16 x_2.1.6) = Bool.true ∧ Value.oneCell' (Value.int IntKind.u32 x_2.1.7) = Bool.true ∧
  Value.oneCell' (Value.int IntKind.u32 x_2.1.8) = Bool.true ∧ Value.oneCell' (Value.int IntKind.u32 x_2.1.9) = Bool.true ∧ Value.oneCell' (Value.int IntKind.u32 (0 : Int)) = Bool.true ∧ Value.oneCell' (Value.int IntKind.u32 (0 : Int)) = Bool.true ∧ Value.oneCell' (Value.int IntKind.u16 (0 : Int)) = Bool.true ∧ Value.oneCell' (Value.int IntKind.u16 (0 : Int)) = Bool.true ∧ Value.oneCell' (Value.slice Option.none (0 : Nat) (0 : Nat)) = Bool.true ∧ Value.oneCell' (Value.slice Option.none (0 : Nat) (0 : Nat)) = Bool.true ∧ Value.oneCell' (Value.slice Option.none (0 : Nat) (0 : Nat)) = Bool.true ∧
  Value.oneCell' (Value.slice Option.none (0 : Nat) (0 : Nat)) = Bool.true ∧ (160 : Nat) ≤ (140737488355328 : Nat) ∧ ∀ (b_4 cap' : Nat), (1 : Nat) ≤ cap' → ∀ (sp : List Int), List.length sp = cap' - (1 : Nat) → ∀ (sp_1 : List Bool), List.length sp_1 = cap' - (1 : Nat) → ∀ (sp_2 : List Bool), List.length sp_2 = cap' - (1 : Nat) → ∀ (sp_3 : List Bool), List.length sp_3 = cap' - (1 : Nat) → ∀ (sp_4 : List Bool), List.length sp_4 = cap' - (1 : Nat) → ∀ (sp_5 : List Int), List.length sp_5 = cap' - (1 : Nat) → ∀ (sp_6 : List Int), List.length sp_6 = cap' - (1 : Nat) → ∀ (sp_7 : List Int),
  List.length sp_7 = cap' - (1 : Nat) → ∀ (sp_8 : List Int), List.length sp_8 = cap' - (1 : Nat) → ∀ (sp_9 : List Int), List.length sp_9 = cap' - (1 : Nat) → ∀ (sp_10 : List Int), List.length sp_10 = cap' - (1 : Nat) → ∀ (sp_11 : List Int), List.length sp_11 = cap' - (1 : Nat) → ∀ (sp_12 : List Int), List.length sp_12 = cap' - (1 : Nat) → ∀ (sp_13 : List Int), List.length sp_13 = cap' - (1 : Nat) → ∀ (sp_14 : List Go.Value), List.length sp_14 = cap' - (1 : Nat) → ∀ (sp_15 : List Go.Value), List.length sp_15 = cap' - (1 : Nat) → ∀ (sp_16 : List Go.Value), List.length sp_16 = cap' - (1 : Nat) →
  ∀ (sp_17 : List Go.Value), List.length sp_17 = cap' - (1 : Nat) → ∀ (sp_18 : List Go.Value), List.length sp_18 = cap' - (1 : Nat) → (x_2.1.3 = Bool.true → R (Value.slice (Option.some { block := b_4, off := (0 : Nat) * (19 : Nat) }) (1 : Nat) cap') ((b, Blk.cells [Value.bool i, Value.map (Option.some mp), Value.map (Option.some mq), Value.map (Option.some mw), Value.map (Option.some mn), Value.slice s.1 s.2 s.3] (97 : Go.TypeId)) :: (mp, Blk.map kSh fp Option.none) :: (bi, Blk.map (KShape.one (KS.int IntKind.u32)) fi Option.none) :: (G ++ [(x.4, Blk.cells [Value.int IntKind.u16 k.1,
  Value.bool k.2.1, Value.int IntKind.u32 k.2.2] (100 : Go.TypeId)), (b_2, Blk.cells [Value.int IntKind.u8 x_2.1.1, Value.bool x_2.1.2, Value.bool x_2.1.3, Value.bool x_2.1.4, Value.bool Bool.false, Value.int IntKind.u32 x_2.1.5, Value.int IntKind.u16 x_2.1.6, Value.int IntKind.u32 x_2.1.7, Value.int IntKind.u32 x_2.1.8, Value.int IntKind.u32 x_2.1.9, Value.int IntKind.u32 (0 : Int), Value.int IntKind.u32 (0 : Int), Value.int IntKind.u16 (0 : Int), Value.int IntKind.u16 (0 : Int), Value.slice Option.none (0 : Nat) (0 : Nat), Value.slice Option.none (0 : Nat) (0 : Nat), Value.slice Option.none
  (0 : Nat) (0 : Nat), Value.slice Option.none (0 : Nat) (0 : Nat), Value.slice x_2.2.1 x_2.2.2 x_2.2.3] (36 : Nat)), (b_3, Blk.cells [Value.int IntKind.u8 x_2.1.1, Value.bool x_2.1.2, Value.bool x_2.1.3, Value.bool x_2.1.4, Value.bool Bool.false, Value.int IntKind.u32 x_2.1.5, Value.int IntKind.u16 x_2.1.6, Value.int IntKind.u32 x_2.1.7, Value.int IntKind.u32 x_2.1.8, Value.int IntKind.u32 x_2.1.9, Value.int IntKind.u32 (0 : Int), Value.int IntKind.u32 (0 : Int), Value.int IntKind.u16 (0 : Int), Value.int IntKind.u16 (0 : Int), Value.slice Option.none (0 : Nat) (0 : Nat), Value.slice
  Option.none (0 : Nat) (0 : Nat), Value.slice Option.none (0 : Nat) (0 : Nat), Value.slice Option.none (0 : Nat) (0 : Nat), Value.slice x_2.2.1 x_2.2.2 x_2.2.3] (36 : Nat)), (b_4, Blk.tab (36 : Nat) (0 : Nat) cap' [Col.ints IntKind.u8 (x_2.1.1 :: sp), Col.bools (x_2.1.2 :: sp_1), Col.bools (x_2.1.3 :: sp_2), Col.bools (x_2.1.4 :: sp_3), Col.bools (Bool.false :: sp_4), Col.ints IntKind.u32 (x_2.1.5 :: sp_5), Col.ints IntKind.u16 (x_2.1.6 :: sp_6), Col.ints IntKind.u32 (x_2.1.7 :: sp_7), Col.ints IntKind.u32 (x_2.1.8 :: sp_8), Col.ints IntKind.u32 (x_2.1.9 :: sp_9), Col.ints IntKind.u32 ((0 :
  Int) :: sp_10), Col.ints IntKind.u32 ((0 : Int) :: sp_11), Col.ints IntKind.u16 ((0 : Int) :: sp_12), Col.ints IntKind.u16 ((0 : Int) :: sp_13), Col.raws (Value.slice Option.none (0 : Nat) (0 : Nat) :: sp_14), Col.raws (Value.slice Option.none (0 : Nat) (0 : Nat) :: sp_15), Col.raws (Value.slice Option.none (0 : Nat) (0 : Nat) :: sp_16), Col.raws (Value.slice Option.none (0 : Nat) (0 : Nat) :: sp_17), Col.raws (Value.slice x_2.2.1 x_2.2.2 x_2.2.3 :: sp_18)])]))) ∧ (¬x_2.1.3 = Bool.true → ∃ (y : AlX), y.1 < x.1 ∧ (((((0 : Nat) = (0 : Nat) ∧ (0 : Nat) = (0 : Nat)) ∧ Value.slice (Option.some {
  block := b_4, off := (0 : Nat) * (19 : Nat) }) (1 : Nat) cap' = Value.slice Option.none (0 : Nat) (0 : Nat) ∧ IntKind.wrap IntKind.u32 (x.2 + (1 : Int)) = y.2 ∧ ((0 : Nat) = (0 : Nat) ∧ (0 : Nat) = (0 : Nat)) ∧ True) ∧ (b = b ∧ Value.bool i = Value.bool i ∧ True ∧ Value.map (Option.some mq) = Value.map (Option.some mq) ∧ Value.map (Option.some mw) = Value.map (Option.some mw) ∧ Value.map (Option.some mn) = Value.map (Option.some mn) ∧ Value.slice s.1 s.2 s.3 = Value.slice s.1 s.2 s.3 ∧ True) ∧ (mp = mp ∧ kSh = kSh ∧ fp = fp ∧ (Option.none : Option (Go.Value × Int)) = Option.none) ∧ (bi = bi ∧ KShape.one (KS.int
  IntKind.u32) = KShape.one (KS.int IntKind.u32) ∧ fi = fi ∧ (Option.none : Option (Go.Value × Int)) = Option.none) ∧ G = G ∧ (x.4 = y.4 ∧ k.1 = k.1 ∧ Value.bool k.2.1 = Value.bool k.2.1 ∧ k.2.2 = k.2.2 ∧ True) ∧ True) ∧ P1 y ∨ ((((0 : Nat) = (0 : Nat) ∧ (0 : Nat) = (0 : Nat)) ∧ ((0 : Nat) = (0 : Nat) ∧ (1 : Nat) = y.3 ∧ cap' = y.5.3) ∧ IntKind.wrap IntKind.u32 (x.2 + (1 : Int)) = y.2 ∧ ((0 : Nat) = (0 : Nat) ∧ (0 : Nat) = (0 : Nat)) ∧ True) ∧ (b = b ∧ Value.bool i = Value.bool i ∧ True ∧ Value.map (Option.some mq) = Value.map (Option.some mq) ∧ Value.map (Option.some mw) = Value.map (Option.some mw) ∧ Value.map
  (Option.some mn) = Value.map (Option.some mn) ∧ Value.slice s.1 s.2 s.3 = Value.slice s.1 s.2 s.3 ∧ True) ∧ (mp = mp ∧ kSh = kSh ∧ fp = fp ∧ (Option.none : Option (Go.Value × Int)) = Option.none) ∧ (bi = bi ∧ KShape.one (KS.int IntKind.u32) = KShape.one (KS.int IntKind.u32) ∧ fi = fi ∧ (Option.none : Option (Go.Value × Int)) = Option.none) ∧ G = G ∧ (x.4 = y.4 ∧ k.1 = k.1 ∧ Value.bool k.2.1 = Value.bool k.2.1 ∧ k.2.2 = k.2.2 ∧ True) ∧ (b_4 = y.5.1 ∧ (0 : Nat) = y.5.2 ∧ cap' = y.5.3 ∧ x_2.1.1 :: sp = iC (0 : Nat) y.5.4 ∧ x_2.1.2 :: sp_1 = bC (1 : Nat) y.5.4 ∧ x_2.1.3 :: sp_2 = bC (2 : Nat) y.5.4 ∧ x_2.1.4 :: sp_3 = bC (3 : Nat) y.5.4 ∧
  Bool.false :: sp_4 = bC (4 : Nat) y.5.4 ∧ x_2.1.5 :: sp_5 = iC (5 : Nat) y.5.4 ∧ x_2.1.6 :: sp_6 = iC (6 : Nat) y.5.4 ∧ x_2.1.7 :: sp_7 = iC (7 : Nat) y.5.4 ∧ x_2.1.8 :: sp_8 = iC (8 : Nat) y.5.4 ∧ x_2.1.9 :: sp_9 = iC (9 : Nat) y.5.4 ∧ (0 : Int) :: sp_10 = iC (10 : Nat) y.5.4 ∧ (0 : Int) :: sp_11 = iC (11 : Nat) y.5.4 ∧ (0 : Int) :: sp_12 = iC (12 : Nat) y.5.4 ∧ (0 : Int) :: sp_13 = iC (13 : Nat) y.5.4 ∧ Value.slice Option.none (0 : Nat) (0 : Nat) :: sp_14 = vC (14 : Nat) y.5.4 ∧ Value.slice Option.none (0 : Nat) (0 : Nat) :: sp_15 = vC (15 : Nat) y.5.4 ∧ Value.slice Option.none (0 : Nat)
  (0 : Nat) :: sp_16 = vC (16 : Nat) y.5.4 ∧ Value.slice Option.none (0 : Nat) (0 : Nat) :: sp_17 = vC (17 : Nat) y.5.4 ∧ Value.slice x_2.2.1 x_2.2.2 x_2.2.3 :: sp_18 = vC (18 : Nat) y.5.4 ∧ True) ∧ True) ∧ P2 y)))) ∧ ∀ (x : AlX), P2 x → ∃ (x_1 : Unit), (∀ (r : List (Nat × Nat × Nat)), Value.map (Option.some bi) = Option.getD (fp (Value.agg #[Value.int IntKind.u16 k.1, Value.bool k.2.1, Value.int IntKind.u32 k.2.2])) (Value.map Option.none)) ∧ ∃ (x_2 : Pc × JS), (∀ (r : List (Nat × Nat × Nat)), Value.agg
  #[Value.int IntKind.u8 x_2.1.1, Value.bool x_2.1.2, Value.bool x_2.1.3, Value.bool x_2.1.4, Value.bool Bool.false, Value.int IntKind.u32 x_2.1.5, Value.int IntKind.u16 x_2.1.6, Value.int IntKind.u32 x_2.1.7, Value.int IntKind.u32 x_2.1.8, Value.int IntKind.u32 x_2.1.9, Value.int IntKind.u32 (0 : Int), Value.int IntKind.u32 (0 : Int), Value.int IntKind.u16 (0 : Int), Value.int IntKind.u16 (0 : Int), Value.slice Option.none (0 : Nat) (0 : Nat), Value.slice Option.none (0 : Nat) (0 : Nat), Value.slice Option.none (0 : Nat) (0 : Nat),
  Value.slice Option.none (0 : Nat) (0 : Nat), Value.slice x_2.2.1 x_2.2.2 x_2.2.3] = Option.getD (fi (Value.int IntKind.u32 x.2)) (Value.agg #[Value.int IntKind.u8 (0 : Int), Value.bool Bool.false, Value.bool Bool.false, Value.bool Bool.false, Value.bool Bool.false, Value.int IntKind.u32 (0 : Int), Value.int IntKind.u16 (0 : Int), Value.int IntKind.u32 (0 : Int), Value.int IntKind.u32 (0 : Int), Value.int IntKind.u32 (0 : Int), Value.int IntKind.u32 (0 : Int), Value.int IntKind.u32 (0 : Int), Value.int IntKind.u16 (0 : Int),
  Value.int IntKind.u16 (0 : Int), Value.slice Option.none (0 : Nat) (0 : Nat), Value.slice Option.none (0 : Nat) (0 : Nat), Value.slice Option.none (0 : Nat) (0 : Nat), Value.slice Option.none (0 : Nat) (0 : Nat), Value.slice Option.none (0 : Nat) (0 : Nat)])) ∧ ∀ (b_2 : Nat), SV.tup [SV.val (Option.getD (fi (Value.int IntKind.u32 x.2)) (Value.agg #[Value.int IntKind.u8 (0 : Int), Value.bool Bool.false, Value.bool Bool.false, Value.bool Bool.false, Value.bool Bool.false,
  Value.int IntKind.u32 (0 : Int), Value.int IntKind.u16 (0 : Int), Value.int IntKind.u32 (0 : Int), Value.int IntKind.u32 (0 : Int), Value.int IntKind.u32 (0 : Int), Value.int IntKind.u32 (0 : Int), Value.int IntKind.u32 (0 : Int), Value.int IntKind.u16 (0 : Int), Value.int IntKind.u16 (0 : Int), Value.slice Option.none (0 : Nat) (0 : Nat), Value.slice Option.none (0 : Nat) (0 : Nat), Value.slice Option.none (0 : Nat) (0 : Nat), Value.slice Option.none (0 : Nat) (0 : Nat), Value.slice Option.none (0 : Nat) (0 : Nat)])),
  SV.prop (Option.rec Bool.false (fun (val : Go.Value) => Bool.true) (fi (Value.int IntKind.u32 x.2)) = Bool.true)] = SV.tup [SV.val (Option.getD (fi (Value.int IntKind.u32 x.2)) (Value.agg #[Value.int IntKind.u8 (0 : Int), Value.bool Bool.false, Value.bool Bool.false, Value.bool Bool.false, Value.bool Bool.false, Value.int IntKind.u32 (0 : Int), Value.int IntKind.u16 (0 : Int), Value.int IntKind.u32 (0 : Int), Value.int IntKind.u32 (0 : Int), Value.int IntKind.u32 (0 : Int), Value.int IntKind.u32 (0 : Int), Value.int IntKind.u32 (0 : Int), Value.int IntKind.u16 (0 : Int),
  Value.int IntKind.u16 (0 : Int), Value.slice Option.none (0 : Nat) (0 : Nat), Value.slice Option.none (0 : Nat) (0 : Nat), Value.slice Option.none (0 : Nat) (0 : Nat), Value.slice Option.none (0 : Nat) (0 : Nat), Value.slice Option.none (0 : Nat) (0 : Nat)])), SV.prop (Option.rec Bool.false (fun (val : Go.Value) => Bool.true) (fi (Value.int IntKind.u32 x.2)) = Bool.true)] ∧ SV.val (Option.getD (fp (Value.agg #[Value.int IntKind.u16 k.1, Value.bool k.2.1, Value.int IntKind.u32 k.2.2])) (Value.map Option.none)) =
  SV.val (Option.getD (fp (Value.agg #[Value.int IntKind.u16 k.1, Value.bool k.2.1, Value.int IntKind.u32 k.2.2])) (Value.map Option.none)) ∧ SV.agg [SV.val (Value.int IntKind.u16 k.1), SV.val (Value.bool k.2.1), SV.val (Value.int IntKind.u32 k.2.2)] = SV.agg [SV.val (Value.int IntKind.u16 k.1), SV.val (Value.bool k.2.1), SV.val (Value.int IntKind.u32 k.2.2)] ∧ SV.mp (1 : Nat) = SV.mp (1 : Nat) ∧ Value.oneCell' (Value.int IntKind.u8 x_2.1.1) = Bool.true ∧ Value.oneCell' (Value.bool x_2.1.2) = Bool.true ∧ Value.oneCell' (Value.bool x_2.1.3) = Bool.true ∧
  Value.oneCell' (Value.bool x_2.1.4) = Bool.true ∧ Value.oneCell' (Value.bool Bool.false) = Bool.true ∧ Value.oneCell' (Value.int IntKind.u32 x_2.1.5) = Bool.true ∧ Value.oneCell' (Value.int IntKind.u16 x_2.1.6) = Bool.true ∧ Value.oneCell' (Value.int IntKind.u32 x_2.1.7) = Bool.true ∧ Value.oneCell' (Value.int IntKind.u32 x_2.1.8) = Bool.true ∧ Value.oneCell' (Value.int IntKind.u32 x_2.1.9) = Bool.true ∧ Value.oneCell' (Value.int IntKind.u32 (0 : Int)) = Bool.true ∧ Value.oneCell' (Value.int IntKind.u32 (0 : Int)) = Bool.true ∧ Value.oneCell' (Value.int IntKind.u16 (0 : Int)) = Bool.true ∧
  Value.oneCell' (Value.int IntKind.u16 (0 : Int)) = Bool.true ∧ Value.oneCell' (Value.slice Option.none (0 : Nat) (0 : Nat)) = Bool.true ∧ Value.oneCell' (Value.slice Option.none (0 : Nat) (0 : Nat)) = Bool.true ∧ Value.oneCell' (Value.slice Option.none (0 : Nat) (0 : Nat)) = Bool.true ∧ Value.oneCell' (Value.slice Option.none (0 : Nat) (0 : Nat)) = Bool.true ∧ (¬Option.rec Bool.false (fun (val : Go.Value) => Bool.true) (fi (Value.int IntKind.u32 x.2)) = Bool.true → R (Value.slice Option.none (0 : Nat) (0 : Nat)) ((b, Blk.cells
  [Value.bool i, Value.map (Option.some mp), Value.map (Option.some mq), Value.map (Option.some mw), Value.map (Option.some mn), Value.slice s.1 s.2 s.3] (97 : Go.TypeId)) :: (mp, Blk.map kSh fp Option.none) :: (bi, Blk.map (KShape.one (KS.int IntKind.u32)) fi Option.none) :: (G ++ [(x.4, Blk.cells [Value.int IntKind.u16 k.1, Value.bool k.2.1, Value.int IntKind.u32 k.2.2] (100 : Go.TypeId)), (x.5.1, Blk.tab (36 : Go.TypeId) x.5.2 x.5.3 [Col.ints IntKind.u8 (iC (0 : Nat) x.5.4), Col.bools (bC (1 : Nat) x.5.4), Col.bools (bC (2 : Nat) x.5.4), Col.bools (bC (3 : Nat) x.5.4),
  Col.bools (bC (4 : Nat) x.5.4), Col.ints IntKind.u32 (iC (5 : Nat) x.5.4), Col.ints IntKind.u16 (iC (6 : Nat) x.5.4), Col.ints IntKind.u32 (iC (7 : Nat) x.5.4), Col.ints IntKind.u32 (iC (8 : Nat) x.5.4), Col.ints IntKind.u32 (iC (9 : Nat) x.5.4), Col.ints IntKind.u32 (iC (10 : Nat) x.5.4), Col.ints IntKind.u32 (iC (11 : Nat) x.5.4), Col.ints IntKind.u16 (iC (12 : Nat) x.5.4), Col.ints IntKind.u16 (iC (13 : Nat) x.5.4), Col.raws (vC (14 : Nat) x.5.4), Col.raws (vC (15 : Nat) x.5.4), Col.raws (vC (16 : Nat) x.5.4), Col.raws (vC (17 : Nat) x.5.4), Col.raws (vC (18 : Nat) x.5.4)]), (b_2,
  Blk.cells [Value.int IntKind.u8 x_2.1.1, Value.bool x_2.1.2, Value.bool x_2.1.3, Value.bool x_2.1.4, Value.bool Bool.false, Value.int IntKind.u32 x_2.1.5, Value.int IntKind.u16 x_2.1.6, Value.int IntKind.u32 x_2.1.7, Value.int IntKind.u32 x_2.1.8, Value.int IntKind.u32 x_2.1.9, Value.int IntKind.u32 (0 : Int), Value.int IntKind.u32 (0 : Int), Value.int IntKind.u16 (0 : Int), Value.int IntKind.u16 (0 : Int), Value.slice Option.none (0 : Nat) (0 : Nat), Value.slice Option.none (0 : Nat) (0 : Nat), Value.slice Option.none (0 : Nat) (0 : Nat), Value.slice Option.none (0 : Nat) (0 : Nat),
  Value.slice x_2.2.1 x_2.2.2 x_2.2.3] (36 : Nat))]))) ∧ (¬¬Option.rec Bool.false (fun (val : Go.Value) => Bool.true) (fi (Value.int IntKind.u32 x.2)) = Bool.true → ∀ (b_3 : Nat), Value.oneCell' (Value.int IntKind.u8 x_2.1.1) = Bool.true ∧ Value.oneCell' (Value.bool x_2.1.2) = Bool.true ∧ Value.oneCell' (Value.bool x_2.1.3) = Bool.true ∧ Value.oneCell' (Value.bool x_2.1.4) = Bool.true ∧ Value.oneCell' (Value.bool Bool.false) = Bool.true ∧ Value.oneCell' (Value.int IntKind.u32 x_2.1.5) = Bool.true ∧ Value.oneCell' (Value.int IntKind.u16 x_2.1.6) = Bool.true ∧
  Value.oneCell' (Value.int IntKind.u32 x_2.1.7) = Bool.true ∧ Value.oneCell' (Value.int IntKind.u32 x_2.1.8) = Bool.true ∧ Value.oneCell' (Value.int IntKind.u32 x_2.1.9) = Bool.true ∧ Value.oneCell' (Value.int IntKind.u32 (0 : Int)) = Bool.true ∧ Value.oneCell' (Value.int IntKind.u32 (0 : Int)) = Bool.true ∧ Value.oneCell' (Value.int IntKind.u16 (0 : Int)) = Bool.true ∧ Value.oneCell' (Value.int IntKind.u16 (0 : Int)) = Bool.true ∧ Value.oneCell' (Value.slice Option.none (0 : Nat) (0 : Nat)) = Bool.true ∧ Value.oneCell' (Value.slice Option.none (0 : Nat) (0 : Nat)) = Bool.true ∧
  Value.oneCell' (Value.slice Option.none (0 : Nat) (0 : Nat)) = Bool.true ∧ Value.oneCell' (Value.slice Option.none (0 : Nat) (0 : Nat)) = Bool.true ∧ (x.3 ≤ x.5.3 ∧ (0 : Nat) + x.5.3 ≤ x.5.3) ∧ (0 : Nat) + x.3 ≤ x.5.3 ∧ (x.3 + (1 : Nat)) * (160 : Nat) ≤ (140737488355328 : Nat) ∧ ∀ (b_4 base cap' : Nat), x.3 + (1 : Nat) ≤ cap' → (x.3 + (1 : Nat) ≤ x.5.3 → cap' = x.5.3) → ∀ (sp : List Int), List.length sp = cap' - (x.3 + (1 : Nat)) → ∀ (sp_1 : List Bool), List.length sp_1 = cap' - (x.3 + (1 : Nat)) → ∀ (sp_2 : List Bool), List.length sp_2 = cap' - (x.3 + (1 : Nat)) → ∀ (sp_3 : List Bool),
  List.length sp_3 = cap' - (x.3 + (1 : Nat)) → ∀ (sp_4 : List Bool), List.length sp_4 = cap' - (x.3 + (1 : Nat)) → ∀ (sp_5 : List Int), List.length sp_5 = cap' - (x.3 + (1 : Nat)) → ∀ (sp_6 : List Int), List.length sp_6 = cap' - (x.3 + (1 : Nat)) → ∀ (sp_7 : List Int), List.length sp_7 = cap' - (x.3 + (1 : Nat)) → ∀ (sp_8 : List Int), List.length sp_8 = cap' - (x.3 + (1 : Nat)) → ∀ (sp_9 : List Int), List.length sp_9 = cap' - (x.3 + (1 : Nat)) → ∀ (sp_10 : List Int), List.length sp_10 = cap' - (x.3 + (1 : Nat)) → ∀ (sp_11 : List Int), List.length sp_11 = cap' - (x.3 + (1 : Nat)) →
  ∀ (sp_12 : List Int), List.length sp_12 = cap' - (x.3 + (1 : Nat)) → ∀ (sp_13 : List Int), List.length sp_13 = cap' - (x.3 + (1 : Nat)) → ∀ (sp_14 : List Go.Value), List.length sp_14 = cap' - (x.3 + (1 : Nat)) → ∀ (sp_15 : List Go.Value), List.length sp_15 = cap' - (x.3 + (1 : Nat)) → ∀ (sp_16 : List Go.Value), List.length sp_16 = cap' - (x.3 + (1 : Nat)) → ∀ (sp_17 : List Go.Value), List.length sp_17 = cap' - (x.3 + (1 : Nat)) → ∀ (sp_18 : List Go.Value), List.length sp_18 = cap' - (x.3 + (1 : Nat)) → (x_2.1.3 = Bool.true → R (Value.slice (Option.some { block := b_4, off := base * (19 : Nat) }) (x.3 + (1 : Nat)) cap') ((b, Blk.cells [Value.bool i, Value.map (Option.some mp), Value.map (Option.some mq), Value.map (Option.some mw), Value.map (Option.some mn), Value.slice s.1 s.2 s.3] (97 : Go.TypeId)) :: (mp, Blk.map kSh fp Option.none) :: (bi, Blk.map (KShape.one (KS.int IntKind.u32)) fi Option.none) :: (G ++ [(x.4, Blk.cells [Value.int IntKind.u16 k.1, Value.bool k.2.1, Value.int IntKind.u32 k.2.2] (100 : Go.TypeId)), (b_2, Blk.cells [Value.int IntKind.u8 x_2.1.1, Value.bool x_2.1.2, Value.bool x_2.1.3, Value.bool x_2.1.4, Value.bool Bool.false, Value.int IntKind.u32
  x_2.1.5, Value.int IntKind.u16 x_2.1.6, Value.int IntKind.u32 x_2.1.7, Value.int IntKind.u32 x_2.1.8, Value.int IntKind.u32 x_2.1.9, Value.int IntKind.u32 (0 : Int), Value.int IntKind.u32 (0 : Int), Value.int IntKind.u16 (0 : Int), Value.int IntKind.u16 (0 : Int), Value.slice Option.none (0 : Nat) (0 : Nat), Value.slice Option.none (0 : Nat) (0 : Nat), Value.slice Option.none (0 : Nat) (0 : Nat), Value.slice Option.none (0 : Nat) (0 : Nat), Value.slice x_2.2.1 x_2.2.2 x_2.2.3] (36 : Nat)), (b_3, Blk.cells [Value.int IntKind.u8 x_2.1.1, Value.bool x_2.1.2, Value.bool x_2.1.3, Value.bool
  x_2.1.4, Value.bool Bool.false, Value.int IntKind.u32 x_2.1.5, Value.int IntKind.u16 x_2.1.6, Value.int IntKind.u32 x_2.1.7, Value.int IntKind.u32 x_2.1.8, Value.int IntKind.u32 x_2.1.9, Value.int IntKind.u32 (0 : Int), Value.int IntKind.u32 (0 : Int), Value.int IntKind.u16 (0 : Int), Value.int IntKind.u16 (0 : Int), Value.slice Option.none (0 : Nat) (0 : Nat), Value.slice Option.none (0 : Nat) (0 : Nat), Value.slice Option.none (0 : Nat) (0 : Nat), Value.slice Option.none (0 : Nat) (0 : Nat), Value.slice x_2.2.1 x_2.2.2 x_2.2.3] (36 : Nat)), (b_4, Blk.tab (36 : Nat) base cap' [Col.ints
  IntKind.u8 (List.take x.3 (iC (0 : Nat) x.5.4) ++ [x_2.1.1] ++ sp), Col.bools (List.take x.3 (bC (1 : Nat) x.5.4) ++ [x_2.1.2] ++ sp_1), Col.bools (List.take x.3 (bC (2 : Nat) x.5.4) ++ [x_2.1.3] ++ sp_2), Col.bools (List.take x.3 (bC (3 : Nat) x.5.4) ++ [x_2.1.4] ++ sp_3), Col.bools (List.take x.3 (bC (4 : Nat) x.5.4) ++ [Bool.false] ++ sp_4), Col.ints IntKind.u32 (List.take x.3 (iC (5 : Nat) x.5.4) ++ [x_2.1.5] ++ sp_5), Col.ints IntKind.u16 (List.take x.3 (iC (6 : Nat) x.5.4) ++ [x_2.1.6] ++ sp_6), Col.ints IntKind.u32 (List.take x.3 (iC (7 : Nat) x.5.4) ++ [x_2.1.7] ++ sp_7), Col.ints
  IntKind.u32 (List.take x.3 (iC (8 : Nat) x.5.4) ++ [x_2.1.8] ++ sp_8), Col.ints IntKind.u32 (List.take x.3 (iC (9 : Nat) x.5.4) ++ [x_2.1.9] ++ sp_9), Col.ints IntKind.u32 (List.take x.3 (iC (10 : Nat) x.5.4) ++ [(0 : Int)] ++ sp_10), Col.ints IntKind.u32 (List.take x.3 (iC (11 : Nat) x.5.4) ++ [(0 : Int)] ++ sp_11), Col.ints IntKind.u16 (List.take x.3 (iC (12 : Nat) x.5.4) ++ [(0 : Int)] ++ sp_12), Col.ints IntKind.u16 (List.take x.3 (iC (13 : Nat) x.5.4) ++ [(0 : Int)] ++ sp_13), Col.raws (List.take x.3 (vC (14 : Nat) x.5.4) ++ [Value.slice Option.none (0 : Nat) (0 : Nat)] ++ sp_14),
  Col.raws (List.take x.3 (vC (15 : Nat) x.5.4) ++ [Value.slice Option.none (0 : Nat) (0 : Nat)] ++ sp_15), Col.raws (List.take x.3 (vC (16 : Nat) x.5.4) ++ [Value.slice Option.none (0 : Nat) (0 : Nat)] ++ sp_16), Col.raws (List.take x.3 (vC (17 : Nat) x.5.4) ++ [Value.slice Option.none (0 : Nat) (0 : Nat)] ++ sp_17), Col.raws (List.take x.3 (vC (18 : Nat) x.5.4) ++ [Value.slice x_2.2.1 x_2.2.2 x_2.2.3] ++ sp_18)])]))) ∧ (¬x_2.1.3 = Bool.true → ∃ (y : AlX), y.1 < x.1 ∧ (((((0 : Nat) = (0 : Nat) ∧ (0 : Nat) = (0 : Nat)) ∧ Value.slice (Option.some { block := b_4, off := base * (19 : Nat) })
  (x.3 + (1 : Nat)) cap' = Value.slice Option.none (0 : Nat) (0 : Nat) ∧ IntKind.wrap IntKind.u32 (x.2 + (1 : Int)) = y.2 ∧ ((0 : Nat) = (0 : Nat) ∧ (0 : Nat) = (0 : Nat)) ∧ True) ∧ (b = b ∧ Value.bool i = Value.bool i ∧ True ∧ Value.map (Option.some mq) = Value.map (Option.some mq) ∧ Value.map (Option.some mw) = Value.map (Option.some mw) ∧ Value.map (Option.some mn) = Value.map (Option.some mn) ∧ Value.slice s.1 s.2 s.3 = Value.slice s.1 s.2 s.3 ∧ True) ∧ (mp = mp ∧ kSh = kSh ∧ fp = fp ∧ (Option.none : Option (Go.Value × Int)) = Option.none) ∧ (bi = bi ∧ KShape.one (KS.int IntKind.u32) = KShape.one (KS.int
  IntKind.u32) ∧ fi = fi ∧ (Option.none : Option (Go.Value × Int)) = Option.none) ∧ G = G ∧ (x.4 = y.4 ∧ k.1 = k.1 ∧ Value.bool k.2.1 = Value.bool k.2.1 ∧ k.2.2 = k.2.2 ∧ True) ∧ True) ∧ P1 y ∨ ((((0 : Nat) = (0 : Nat) ∧ (0 : Nat) = (0 : Nat)) ∧ ((0 : Nat) = (0 : Nat) ∧ x.3 + (1 : Nat) = y.3 ∧ cap' = y.5.3) ∧ IntKind.wrap IntKind.u32 (x.2 + (1 : Int)) = y.2 ∧ ((0 : Nat) = (0 : Nat) ∧ (0 : Nat) = (0 : Nat)) ∧ True) ∧ (b = b ∧ Value.bool i = Value.bool i ∧ True ∧ Value.map (Option.some mq) = Value.map (Option.some mq) ∧ Value.map (Option.some mw) = Value.map (Option.some mw) ∧ Value.map (Option.some mn) = Value.map
  (Option.some mn) ∧ Value.slice s.1 s.2 s.3 = Value.slice s.1 s.2 s.3 ∧ True) ∧ (mp = mp ∧ kSh = kSh ∧ fp = fp ∧ (Option.none : Option (Go.Value × Int)) = Option.none) ∧ (bi = bi ∧ KShape.one (KS.int IntKind.u32) = KShape.one (KS.int IntKind.u32) ∧ fi = fi ∧ (Option.none : Option (Go.Value × Int)) = Option.none) ∧ G = G ∧ (x.4 = y.4 ∧ k.1 = k.1 ∧ Value.bool k.2.1 = Value.bool k.2.1 ∧ k.2.2 = k.2.2 ∧ True) ∧ (b_4 = y.5.1 ∧ base = y.5.2 ∧ cap' = y.5.3 ∧ List.take x.3 (iC (0 : Nat) x.5.4) ++ [x_2.1.1] ++ sp = iC (0 : Nat) y.5.4 ∧ List.take x.3 (bC (1 : Nat) x.5.4) ++ [x_2.1.2] ++ sp_1 = bC (1 : Nat) y.5.4 ∧ List.take x.3 (bC (2 : Nat) x.5.4) ++
  [x_2.1.3] ++ sp_2 = bC (2 : Nat) y.5.4 ∧ List.take x.3 (bC (3 : Nat) x.5.4) ++ [x_2.1.4] ++ sp_3 = bC (3 : Nat) y.5.4 ∧ List.take x.3 (bC (4 : Nat) x.5.4) ++ [Bool.false] ++ sp_4 = bC (4 : Nat) y.5.4 ∧ List.take x.3 (iC (5 : Nat) x.5.4) ++ [x_2.1.5] ++ sp_5 = iC (5 : Nat) y.5.4 ∧ List.take x.3 (iC (6 : Nat) x.5.4) ++ [x_2.1.6] ++ sp_6 = iC (6 : Nat) y.5.4 ∧ List.take x.3 (iC (7 : Nat) x.5.4) ++ [x_2.1.7] ++ sp_7 = iC (7 : Nat) y.5.4 ∧ List.take x.3 (iC (8 : Nat) x.5.4) ++ [x_2.1.8] ++ sp_8 = iC (8 : Nat) y.5.4 ∧ List.take x.3 (iC (9 : Nat) x.5.4) ++ [x_2.1.9] ++ sp_9 = iC (9 : Nat) y.5.4 ∧
  List.take x.3 (iC (10 : Nat) x.5.4) ++ [(0 : Int)] ++ sp_10 = iC (10 : Nat) y.5.4 ∧ List.take x.3 (iC (11 : Nat) x.5.4) ++ [(0 : Int)] ++ sp_11 = iC (11 : Nat) y.5.4 ∧ List.take x.3 (iC (12 : Nat) x.5.4) ++ [(0 : Int)] ++ sp_12 = iC (12 : Nat) y.5.4 ∧ List.take x.3 (iC (13 : Nat) x.5.4) ++ [(0 : Int)] ++ sp_13 = iC (13 : Nat) y.5.4 ∧ List.take x.3 (vC (14 : Nat) x.5.4) ++ [Value.slice Option.none (0 : Nat) (0 : Nat)] ++ sp_14 = vC (14 : Nat) y.5.4 ∧ List.take x.3 (vC (15 : Nat) x.5.4) ++ [Value.slice Option.none (0 : Nat) (0 : Nat)] ++ sp_15 = vC (15 : Nat) y.5.4 ∧ List.take x.3 (vC (16 :
  Nat) x.5.4) ++ [Value.slice Option.none (0 : Nat) (0 : Nat)] ++ sp_16 = vC (16 : Nat) y.5.4 ∧ List.take x.3 (vC (17 : Nat) x.5.4) ++ [Value.slice Option.none (0 : Nat) (0 : Nat)] ++ sp_17 = vC (17 : Nat) y.5.4 ∧ List.take x.3 (vC (18 : Nat) x.5.4) ++ [Value.slice x_2.2.1 x_2.2.2 x_2.2.3] ++ sp_18 = vC (18 : Nat) y.5.4 ∧ True) ∧ True) ∧ P2 y))) from by
  have hk : Value.map (some bi) = (fp (Value.agg #[Value.int IntKind.u16 k.1, Value.bool k.2.1, Value.int IntKind.u32 k.2.2])).getD (Value.map none) := by
    rw [show Value.agg #[Value.int IntKind.u16 k.1, Value.bool k.2.1, Value.int IntKind.u32 k.2.2] = kK k from rfl, hp]
    rfl
  simp only [eq_self, true_and, and_true, false_and, and_false, or_false, false_or, and_self, Nat.zero_add, Nat.add_zero, Nat.sub_zero, Nat.zero_mul, Nat.mul_one, Int.toNat_natCast, cond_true, cond_false, forall_const, implies_true, Nat.beq_refl, ne_eq, not_false_eq_true, not_true_eq_false, Classical.not_not, List.cons.injEq, List.append_nil, List.nil_append, Go.Value.int.injEq, Go.Value.bool.injEq, Go.Value.slice.injEq, Nat.le_refl, Nat.zero_le, Go.Sx.one_int, Go.Sx.one_bool, Go.Sx.one_slice, Go.Sx.one_ptr, Go.Sx.one_map, Int.cast_ofNat_Int, reduceCtorEq, Nat.reduceLeDiff, Nat.reduceMul, Nat.reduceAdd, Nat.reduceSub, Nat.reduceEqDiff, Int.reduceLE, Int.reduceLT, Int.reduceEq, Int.reduceAdd, Int.reduceSub, Int.reduceNeg, Int.reduceMul, Nat.reduceBEq]
  refine fun b1 => ⟨⟨n0, 0, 0, b1, ⟨0, 0, 0, []⟩⟩, ⟨⟨rfl, rfl⟩, by rw [e1]; exact ⟨hS, hn0⟩⟩, fun y hP => ?_, fun y hP => ?_⟩
  · rw [e1] at hP
    rw [e2]
    obtain ⟨hS, hlt⟩ := hP
    refine ⟨(), hk, ?_⟩
    rcases hS.inv with ⟨hno, hr⟩ | ⟨c, hc, hci, hen, hr⟩ | ⟨k', c, hk', hc, hci, hen, hS⟩
    · have hnone : fi (Value.int IntKind.u32 y.i) = none := SM.none hi (k := kT y.i) fun a ha e => hno a ha (kT_inj e)
      rw [hnone]
      exact ⟨(Pc.zero, ⟨none, 0, 0⟩), rfl, fun b2 => ⟨fun _ => hR0 hr _, fun h => by cases h⟩⟩
    · obtain ⟨s0, hv, hbs⟩ := pcs_get hi hc
      rw [hci] at hv
      have hv : fi (Value.int IntKind.u32 y.i) = some (.agg (c.cells s0).toArray) := hv
      rw [hv]
      refine ⟨(c, s0), rfl, fun b2 => ⟨fun h => absurd rfl h, fun _ b3 b4 cap' hc' s1 e1 s2 e2 s3 e3 s4 e4 s5 e5 s6 e6 s7 e7 s8 e8 s9 e9 s10 e10 s11 e11 s12 e12 s13 e13 s14 e14 s15 e15 s16 e16 s17 e17 s18 e18 s19 e19 => ⟨fun _ => ?_, fun h => absurd hen h⟩⟩⟩
      obtain ⟨h1, h2, h3, h4, h5, h6, h7, h8, h9, h10, h11, h12, h13, h14, h15, h16, h17, h18, h19⟩ := sp_cols e1 e2 e3 e4 e5 e6 e7 e8 e9 e10 e11 e12 e13 e14 e15 e16 e17 e18 e19
      exact hR1 _ b4 0 cap' 1 (c.cells s0 :: (spR (cap' - 1) s1 s2 s3 s4 s5 s6 s7 s8 s9 s10 s11 s12 s13 s14 s15 s16 s17 s18 s19)) _ _ hr rfl (cols_eq (one_i h1 rfl) (one_b h2 rfl) (one_b h3 rfl) (one_b h4 rfl) (one_b h5 rfl) (one_i h6 rfl) (one_i h7 rfl) (one_i h8 rfl) (one_i h9 rfl) (one_i h10 rfl) (one_i h11 rfl) (one_i h12 rfl) (one_i h13 rfl) (one_i h14 rfl) (one_v h15 rfl) (one_v h16 rfl) (one_v h17 rfl) (one_v h18 rfl) (one_v h19 rfl)) (rows_one hbs hc' (spR_len ..)) (by repeat (first | exact List.Mem.head _ | apply List.Mem.tail))
    · obtain ⟨s0, hv, hbs⟩ := pcs_get hi hc
      rw [hci] at hv
      have hv : fi (Value.int IntKind.u32 y.i) = some (.agg (c.cells s0).toArray) := hv
      rw [hv]
      refine ⟨(c, s0), rfl, fun b2 => ⟨fun h => absurd rfl h, fun _ b3 b4 cap' hc' s1 e1 s2 e2 s3 e3 s4 e4 s5 e5 s6 e6 s7 e7 s8 e8 s9 e9 s10 e10 s11 e11 s12 e12 s13 e13 s14 e14 s15 e15 s16 e16 s17 e17 s18 e18 s19 e19 => ⟨fun h => absurd (h.symm.trans hen) (by decide), fun _ => ?_⟩⟩⟩
      obtain ⟨h1, h2, h3, h4, h5, h6, h7, h8, h9, h10, h11, h12, h13, h14, h15, h16, h17, h18, h19⟩ := sp_cols e1 e2 e3 e4 e5 e6 e7 e8 e9 e10 e11 e12 e13 e14 e15 e16 e17 e18 e19
      exact ⟨⟨k', _, 1, _, ⟨b4, 0, cap', c.cells s0 :: (spR (cap' - 1) s1 s2 s3 s4 s5 s6 s7 s8 s9 s10 s11 s12 s13 s14 s15 s16 s17 s18 s19)⟩⟩, by show k' < y.k; omega, ⟨⟨⟨rfl, rfl⟩, rfl⟩, rfl, rfl, rfl, rfl, one_i h1 rfl, one_b h2 rfl, one_b h3 rfl, one_b h4 rfl, one_b h5 rfl, one_i h6 rfl, one_i h7 rfl, one_i h8 rfl, one_i h9 rfl, one_i h10 rfl, one_i h11 rfl, one_i h12 rfl, one_i h13 rfl, one_i h14 rfl, one_v h15 rfl, one_v h16 rfl, one_v h17 rfl, one_v h18 rfl, one_v h19 rfl⟩, _, hS, rows_one hbs hc' (spR_len ..), rfl, by show 1 + k' < _; omega⟩
  · rw [e2] at hP ⊢
    obtain ⟨out, hS, hx, hn, hlt⟩ := hP
    have hx2 := hx.2.1
    refine ⟨(), hk, ?_⟩
    rcases hS.inv with ⟨hno, hr⟩ | ⟨c, hc, hci, hen, hr⟩ | ⟨k', c, hk', hc, hci, hen, hS⟩
    · have hnone : fi (Value.int IntKind.u32 y.i) = none := SM.none hi (k := kT y.i) fun a ha e => hno a ha (kT_inj e)
      rw [hnone]
      exact ⟨(Pc.zero, ⟨none, 0, 0⟩), rfl, fun b2 => ⟨fun _ => hR0 hr _, fun h => by cases h⟩⟩
    · obtain ⟨s0, hv, hbs⟩ := pcs_get hi hc
      rw [hci] at hv
      have hv : fi (Value.int IntKind.u32 y.i) = some (.agg (c.cells s0).toArray) := hv
      rw [hv]
      refine ⟨(c, s0), rfl, fun b2 => ⟨fun h => absurd rfl h, fun _ b3 => ⟨by omega, by omega, by omega, fun b4 base cap' hc' hc2 s1 e1 s2 e2 s3 e3 s4 e4 s5 e5 s6 e6 s7 e7 s8 e8 s9 e9 s10 e10 s11 e11 s12 e12 s13 e13 s14 e14 s15 e15 s16 e16 s17 e17 s18 e18 s19 e19 => ⟨fun _ => ?_, fun h => absurd hen h⟩⟩⟩⟩
      obtain ⟨h1, h2, h3, h4, h5, h6, h7, h8, h9, h10, h11, h12, h13, h14, h15, h16, h17, h18, h19⟩ := sp_cols e1 e2 e3 e4 e5 e6 e7 e8 e9 e10 e11 e12 e13 e14 e15 e16 e17 e18 e19
      exact hR1 _ b4 base cap' (y.n + 1) (y.x.rows.take y.n ++ [c.cells s0] ++ (spR (cap' - (y.n + 1)) s1 s2 s3 s4 s5 s6 s7 s8 s9 s10 s11 s12 s13 s14 s15 s16 s17 s18 s19)) _ _ hr (by rw [List.length_append, ← hn]; rfl) (cols_eq (app_i h1 rfl) (app_b h2 rfl) (app_b h3 rfl) (app_b h4 rfl) (app_b h5 rfl) (app_i h6 rfl) (app_i h7 rfl) (app_i h8 rfl) (app_i h9 rfl) (app_i h10 rfl) (app_i h11 rfl) (app_i h12 rfl) (app_i h13 rfl) (app_i h14 rfl) (app_v h15 rfl) (app_v h16 rfl) (app_v h17 rfl) (app_v h18 rfl) (app_v h19 rfl)) (rows_app hx hn hbs hc' (spR_len ..)) (by repeat (first | exact List.Mem.head _ | apply List.Mem.tail))
    · obtain ⟨s0, hv, hbs⟩ := pcs_get hi hc
      rw [hci] at hv
      have hv : fi (Value.int IntKind.u32 y.i) = some (.agg (c.cells s0).toArray) := hv
      rw [hv]
      refine ⟨(c, s0), rfl, fun b2 => ⟨fun h => absurd rfl h, fun _ b3 => ⟨by omega, by omega, by omega, fun b4 base cap' hc' hc2 s1 e1 s2 e2 s3 e3 s4 e4 s5 e5 s6 e6 s7 e7 s8 e8 s9 e9 s10 e10 s11 e11 s12 e12 s13 e13 s14 e14 s15 e15 s16 e16 s17 e17 s18 e18 s19 e19 => ⟨fun h => absurd (h.symm.trans hen) (by decide), fun _ => ?_⟩⟩⟩⟩
      obtain ⟨h1, h2, h3, h4, h5, h6, h7, h8, h9, h10, h11, h12, h13, h14, h15, h16, h17, h18, h19⟩ := sp_cols e1 e2 e3 e4 e5 e6 e7 e8 e9 e10 e11 e12 e13 e14 e15 e16 e17 e18 e19
      exact ⟨⟨k', _, y.n + 1, _, ⟨b4, base, cap', y.x.rows.take y.n ++ [c.cells s0] ++ (spR (cap' - (y.n + 1)) s1 s2 s3 s4 s5 s6 s7 s8 s9 s10 s11 s12 s13 s14 s15 s16 s17 s18 s19)⟩⟩, by show k' < y.k; omega, ⟨⟨⟨rfl, rfl⟩, rfl⟩, rfl, rfl, rfl, rfl, app_i h1 rfl, app_b h2 rfl, app_b h3 rfl, app_b h4 rfl, app_b h5 rfl, app_i h6 rfl, app_i h7 rfl, app_i h8 rfl, app_i h9 rfl, app_i h10 rfl, app_i h11 rfl, app_i h12 rfl, app_i h13 rfl, app_i h14 rfl, app_v h15 rfl, app_v h16 rfl, app_v h17 rfl, app_v h18 rfl, app_v h19 rfl⟩, _, hS, rows_app hx hn hbs hc' (spR_len ..), by show y.n + 1 = _; rw [List.length_append, ← hn]; rfl, by rw [List.length_append]; show out.length + 1 + k' < _; omega⟩)
end Go.Proofs.Ytpjikjhaljennaa
