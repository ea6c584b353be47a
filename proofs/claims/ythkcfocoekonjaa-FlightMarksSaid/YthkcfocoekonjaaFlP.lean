/- Flights: what a Sack does, and one piece that has arrived. -/
import Derived.Test.YthkcfocoekonjaaFlA
set_option maxRecDepth 100000
set_option linter.unusedVariables false
set_option linter.unusedSimpArgs false
namespace Go.Proofs.Ythkcfocoekonjaa
open Go Go.Sx
attribute [local irreducible] Go.Sx.xrun

/-! What a Sack does, in plain words. -/
structure AS where
  ps : List Pc
  bytes : Int
  rtt : Int
  top : Int
def arr1 (now : Int) (s : AS) (k : Nat) : AS :=
  match s.ps[k]? with
  | none => s
  | some p => if p.how = 2 then s else if p.how = 0 ∨ p.how = 1 then ⟨s.ps.set k { p with how := 2 }, IntKind.wrap .i64 (s.bytes + p.len), if p.sent = 1 then IntKind.wrap .i64 (IntKind.wrap .u32 (now - p.at_)) else s.rtt, k⟩
      else ⟨s.ps.set k { p with how := 2 }, s.bytes, s.rtt, k⟩
def mis1 (s : List Pc × Bool) (k : Nat) : List Pc × Bool :=
  match s.1[k]? with
  | none => s
  | some p => if p.how = 0 then (if IntKind.wrap .i64 (p.missed + 1) = 3 then (s.1.set k { p with missed := IntKind.wrap .i64 (p.missed + 1), how := 1 }, true) else (s.1.set k { p with missed := IntKind.wrap .i64 (p.missed + 1) }, s.2)) else s
def gapIdx (n : Nat) (g : Int × Int) : List Nat := (List.range (g.2 + 1 - g.1).toNat).map fun d => n + g.1.toNat + d - 1
def idxs (n : Nat) (gs : List (Int × Int)) : List Nat := List.range n ++ gs.flatMap (gapIdx n)
def ackS (now : Int) (ps : List Pc) (l : List Nat) : AS := l.foldl (arr1 now) ⟨ps, 0, -1, -1⟩
def misS (ps : List Pc) (m : Nat) : List Pc × Bool := (List.range m).foldl mis1 (ps, false)
structure AO where
  bytes : Int
  on : Bool
  lost : Bool
  rtt : Int
  bad : Bool
  f : Fl
def ackN (f : Fl) (s : Sk) : Nat := (IntKind.wrap .i64 (IntKind.wrap .u32 (s.tsn - f.mark))).toNat
def ackG (f : Fl) (s : Sk) (gs : List (Int × Int)) (now : Int) : AO :=
  let st := ackS now f.ps (idxs (ackN f s) gs)
  let mi := misS st.ps (max st.top 0).toNat
  ⟨st.bytes, decide (0 < ackN f s), mi.2, st.rtt, false, ⟨s.tsn, mi.1.drop (ackN f s)⟩⟩
noncomputable def ackF (f : Fl) (s : Sk) (gs : List (Int × Int)) (now : Int) : AO := @ite AO (badP f s gs) (Classical.propDecidable _) ⟨0, false, false, -1, true, f⟩ (ackG f s gs now)
theorem arr1_len (now : Int) (s : AS) (k : Nat) : (arr1 now s k).ps.length = s.ps.length := by
  unfold arr1
  split
  · rfl
  · split
    · rfl
    · split <;> simp
theorem foldl_len (now : Int) : ∀ (l : List Nat) (s : AS), (l.foldl (arr1 now) s).ps.length = s.ps.length
  | [], s => rfl
  | k :: r, s => by rw [List.foldl_cons, foldl_len now r, arr1_len]
theorem mis1_len (s : List Pc × Bool) (k : Nat) : (mis1 s k).1.length = s.1.length := by
  unfold mis1
  split
  · rfl
  · split
    · split <;> simp
    · rfl
theorem misS_len (l : List Nat) : ∀ s : List Pc × Bool, (l.foldl mis1 s).1.length = s.1.length := by
  induction l with
  | nil => intro s; rfl
  | cons k r ih => intro s; rw [List.foldl_cons, ih, mis1_len]

/-! One piece is written. -/
theorem zip_split {ps : List Pc} {vs : List Value} (hl : vs.length = ps.length) {i : Nat} {p : Pc} (hp : ps[i]? = some p) : ∃ A B VA v VB, ps = A ++ p :: B ∧ vs = VA ++ v :: VB ∧ A.length = i ∧ VA.length = i ∧ vs[i]? = some v := by
  have hi := (List.getElem?_eq_some_iff.1 hp).1
  have hpe := (List.getElem?_eq_some_iff.1 hp).2
  refine ⟨ps.take i, ps.drop (i + 1), vs.take i, vs[i], vs.drop (i + 1), ?_, ?_, by simp; omega, by simp; omega, by simp [hl, hi]⟩
  · rw [← hpe]
    conv => lhs; rw [← List.take_append_drop i ps, List.drop_eq_getElem_cons hi]
  · conv => lhs; rw [← List.take_append_drop i vs, List.drop_eq_getElem_cons (show i < vs.length by omega)]
theorem flv_store {f : Fl} {b : Nat} {pv : Value} {gm : Nat} {L : Blks} (h : FlV f b pv gm L) {i : Nat} {p : Pc} (hp : f.ps[i]? = some p) :
    ∃ o c sb sx pb l G, pv = .slice o f.ps.length c ∧ o = some ⟨sb, sx, none⟩ ∧ rawCell L sb (sx + i) (.pointer (some ⟨pb, 0, none⟩)) ∧ p.ok l ∧ L.Perm ((pb, .cells l 139) :: G) ∧
      ∀ l' p', p'.ok l' → FlV { f with ps := f.ps.set i p' } b pv gm ((pb, .cells l' 139) :: G) := by
  obtain ⟨Lp, h1, h2⟩ := h
  have hlt := (List.getElem?_eq_some_iff.1 hp).1
  rcases h2 with ⟨e, -⟩ | ⟨x, ⟨a1, a2, a3, a4⟩, rfl, a5⟩
  · rw [e] at hp; simp at hp
  · have hvl : ((x.ps.drop x.o).take f.ps.length).length = f.ps.length := by rw [List.length_take, List.length_drop]; omega
    obtain ⟨A, B, VA, v, VB, e1, e2, e3, e4, e5⟩ := zip_split hvl hp
    have hv : v = x.ps.getD (x.o + i) .nilIface := by
      rw [List.getElem?_take_of_lt hlt, List.getElem?_drop] at e5
      rw [List.getD_eq_getElem?_getD, e5]; rfl
    have hz : f.ps.zip ((x.ps.drop x.o).take f.ps.length) = A.zip VA ++ (p, v) :: B.zip VB := by
      rw [e2]
      conv => lhs; rw [e1]
      rw [List.zip_append (by omega), List.zip_cons_cons]
    rw [hz] at a4
    obtain ⟨L1, L2, k1, ⟨pb, l, L3, k2, k3, k4⟩, k5⟩ := a4.mid
    simp only at k2 k3 k4
    refine ⟨_, _, x.b, x.base + x.o, pb, l, (b, .cells [.int .u32 f.mark, x.val f.ps.length, .map (some gm)] 134) :: (x.b, .tab 136 x.base x.N [.raws x.ps]) :: (L3 ++ L2), rfl, rfl, ?_, k3, ?_, fun l' p' hok => ?_⟩
    · refine rawCell_tab1 (t := 136) (base := x.base) (N := x.N) (c := .raws x.ps) (i := x.o + i) (h1.mem_iff.2 (List.mem_cons_of_mem _ (a5.mem_iff.2 (by simp)))) (by omega) (by omega) (by rw [← k2, hv]; rfl)
    · refine perm_of_sums fun g => ?_
      have q1 := perm_sum h1 g
      have q2 := perm_sum a5 g
      have q3 := perm_sum k1 g
      have q4 := perm_sum k4 g
      simp only [List.map_append, List.map_cons, List.map_nil, List.sum_append, List.sum_cons, List.sum_nil, List.append_assoc, List.cons_append, List.nil_append] at *
      omega
    · refine ⟨(x.b, .tab 136 x.base x.N [.raws x.ps]) :: ((pb, .cells l' 139) :: (L3 ++ L2)), ?_, .inr ⟨{ x with G := (pb, .cells l' 139) :: (L3 ++ L2) }, ⟨?_, a2, a3, ?_⟩, ?_, List.Perm.refl _⟩⟩
      · refine perm_of_sums fun g => ?_
        simp only [List.map_append, List.map_cons, List.map_nil, List.sum_append, List.sum_cons, List.sum_nil, List.append_assoc, List.cons_append, List.nil_append] at *
        omega
      · simpa using a1
      · have hset : f.ps.set i p' = A ++ p' :: B := by rw [e1, ← e3]; simp
        show SepL _ ((f.ps.set i p').zip ((x.ps.drop x.o).take (f.ps.set i p').length)) _
        rw [List.length_set, e2, hset, List.zip_append (by omega), List.zip_cons_cons]
        have hm : PcAt p' v ((pb, .cells l' 139) :: L3) := ⟨pb, l', L3, k2, hok, List.Perm.refl _⟩
        have := SepL.mid_mk (R := fun (q : Pc × Value) L => PcAt q.1 q.2 L) (A := A.zip VA) (B := B.zip VB) (a := (p', v)) hm k5
        simpa using this
      · simp [PX.val]
theorem ok_how {p : Pc} {l : List Value} (h : p.ok l) (n : Int) : Pc.ok { p with how := n } (l.set 25 (.int .i64 n)) := by
  obtain ⟨h1, h2, h3, h4, h5, h6⟩ := h
  refine ⟨by simpa using h1, ?_, ?_, ?_, ?_, ?_⟩
  · rw [List.getElem?_set_ne (by omega)]; exact h2
  · rw [List.getElem?_set_ne (by omega)]; exact h3
  · rw [List.getElem?_set_ne (by omega)]; exact h4
  · rw [List.getElem?_set_ne (by omega)]; exact h5
  · rw [List.getElem?_set_self (by omega)]
theorem ok_missed {p : Pc} {l : List Value} (h : p.ok l) (n : Int) : Pc.ok { p with missed := n } (l.set 24 (.int .i64 n)) := by
  obtain ⟨h1, h2, h3, h4, h5, h6⟩ := h
  refine ⟨by simpa using h1, ?_, ?_, ?_, ?_, ?_⟩
  · rw [List.getElem?_set_ne (by omega)]; exact h2
  · rw [List.getElem?_set_ne (by omega)]; exact h3
  · rw [List.getElem?_set_ne (by omega)]; exact h4
  · rw [List.getElem?_set_self (by omega)]
  · rw [List.getElem?_set_ne (by omega)]; exact h6

/-! The state within a Sack's run: the flight, and beside it what the Sack's gaps lie in. -/
def AJ (mark : Int) (b : Nat) (pv : Value) (gm : Nat) (gs : List (Int × Int)) (s : Sk) (ps : List Pc) (L : Blks) : Prop := ∃ Lf Lg, L.Perm (Lf ++ Lg) ∧ FlV ⟨mark, ps⟩ b pv gm Lf ∧ GapsAt gs s Lg
theorem AJ.fl {mark : Int} {b : Nat} {pv : Value} {gm : Nat} {gs : List (Int × Int)} {s : Sk} {ps : List Pc} {L : Blks} (h : AJ mark b pv gm gs s ps L) : FlV ⟨mark, ps⟩ b pv gm L := by
  obtain ⟨Lf, Lg, h1, h2, h3⟩ := h
  obtain ⟨Lp, k1, k2⟩ := h2.more Lg
  exact ⟨Lp, h1.trans k1, k2⟩
theorem AJ.gap {mark : Int} {b : Nat} {pv : Value} {gm : Nat} {gs : List (Int × Int)} {s : Sk} {ps : List Pc} {L : Blks} (h : AJ mark b pv gm gs s ps L) : GapsAt gs s L := by
  obtain ⟨Lf, Lg, h1, h2, h3, h4⟩ := h
  refine ⟨h3, fun i g hg => ?_⟩
  obtain ⟨gb, gx, e, ⟨k1, q1, q2⟩, k2, q3, q4⟩ := h4 i g hg
  exact ⟨gb, gx, e, ⟨k1, h1.mem_iff.2 (by simp [q1]), q2⟩, k2, h1.mem_iff.2 (by simp [q3]), q4⟩
theorem AJ.store {mark : Int} {b : Nat} {pv : Value} {gm : Nat} {gs : List (Int × Int)} {s : Sk} {ps : List Pc} {L : Blks} (h : AJ mark b pv gm gs s ps L) {i : Nat} {p : Pc} (hp : ps[i]? = some p) :
    ∃ o c sb sx pb l G, pv = .slice o ps.length c ∧ o = some ⟨sb, sx, none⟩ ∧ rawCell L sb (sx + i) (.pointer (some ⟨pb, 0, none⟩)) ∧ p.ok l ∧ L.Perm ((pb, .cells l 139) :: G) ∧
      ∀ l' p', p'.ok l' → AJ mark b pv gm gs s (ps.set i p') ((pb, .cells l' 139) :: G) := by
  obtain ⟨Lf, Lg, h1, h2, h3⟩ := h
  obtain ⟨o, c, sb, sx, pb, l, G, e1, e2, e3, e4, e5, e6⟩ := flv_store h2 hp
  refine ⟨o, c, sb, sx, pb, l, G ++ Lg, e1, e2, ?_, e4, ?_, fun l' p' hok => ⟨(pb, .cells l' 139) :: G, Lg, by simp, e6 l' p' hok, h3⟩⟩
  · obtain ⟨k, q1, q2⟩ := e3
    exact ⟨k, h1.mem_iff.2 (by simp [q1]), q2⟩
  · exact h1.trans (by simpa using e5.append_right Lg)
theorem upd_how {l : List Value} {p : Pc} (h : p.ok l) (n : Int) : Blk.upd (.cells l 139) 25 (.int .i64 n) (.cells (l.set 25 (.int .i64 n)) 139) := upd_cells (by have := h.1; omega)
theorem upd_missed {l : List Value} {p : Pc} (h : p.ok l) (n : Int) : Blk.upd (.cells l 139) 24 (.int .i64 n) (.cells (l.set 24 (.int .i64 n)) 139) := upd_cells (by have := h.1; omega)

theorem arr1_a {now : Int} {s : AS} {k : Nat} {p : Pc} (hp : s.ps[k]? = some p) (h2 : ¬ p.how = 2) (ho : p.how = 0 ∨ p.how = 1) (h1 : p.sent = 1) : arr1 now s k = ⟨s.ps.set k { p with how := 2 }, IntKind.wrap .i64 (s.bytes + p.len), IntKind.wrap .i64 (IntKind.wrap .u32 (now - p.at_)), k⟩ := by
  unfold arr1
  simp only [hp]
  rw [if_neg h2, if_pos ho, if_pos h1]
theorem arr1_b {now : Int} {s : AS} {k : Nat} {p : Pc} (hp : s.ps[k]? = some p) (h2 : ¬ p.how = 2) (ho : p.how = 0 ∨ p.how = 1) (h1 : ¬ p.sent = 1) : arr1 now s k = ⟨s.ps.set k { p with how := 2 }, IntKind.wrap .i64 (s.bytes + p.len), s.rtt, k⟩ := by
  unfold arr1
  simp only [hp]
  rw [if_neg h2, if_pos ho, if_neg h1]
theorem arr1_c {now : Int} {s : AS} {k : Nat} {p : Pc} (hp : s.ps[k]? = some p) (h2 : ¬ p.how = 2) (ho : ¬ (p.how = 0 ∨ p.how = 1)) : arr1 now s k = ⟨s.ps.set k { p with how := 2 }, s.bytes, s.rtt, k⟩ := by
  unfold arr1
  simp only [hp]
  rw [if_neg h2, if_neg ho]
/-- One piece has arrived. -/
theorem arr_step {mark : Int} {b : Nat} {pv : Value} {gm : Nat} {gs : List (Int × Int)} {s : Sk} {st : AS} {L : Blks} (h : AJ mark b pv gm gs s st.ps L) (now : Int) {k : Nat} (hk : k < st.ps.length) (K : Int → Int → Int → Blks → Prop)
    (hK : ∀ L', AJ mark b pv gm gs s (arr1 now st k).ps L' → K (arr1 now st k).bytes (arr1 now st k).rtt (arr1 now st k).top L') :
    ∃ (o : Option Addr) (l c : Nat), rawCell L b 1 (.slice o l c) ∧ rawA o fun b' x0 => (0 ≤ (k : Int) ∧ (k : Int) < (l : Int)) ∧ ∃ a : Option Addr, rawCell L b' (x0 + k) (.pointer a) ∧ ∃ pb : Nat, Value.pointer (some ⟨pb, 0, none⟩) = .pointer a ∧
      ∃ n2 : Int, rawCell L pb 25 (.int .i64 n2) ∧ (n2 = 2 → K st.bytes st.rtt st.top L) ∧ (¬ n2 = 2 → ∃ n3 : Int, rawCell L pb 25 (.int .i64 n3) ∧
        (n3 = 0 → ∃ (o : Option Addr) (l c : Nat), rawCell L pb 18 (.slice o l c) ∧ ∃ n4 : Int, rawCell L pb 22 (.int .u64 n4) ∧
          (n4 = 1 → ∃ n5 : Int, rawCell L pb 23 (.int .u32 n5) ∧ ∃ (k' : Blk) (G : Blks), L.Perm ((pb, k') :: G) ∧ ∃ k1, k'.upd 25 (.int .i64 2) k1 ∧ K (IntKind.wrap .i64 (st.bytes + l)) (IntKind.wrap .i64 (IntKind.wrap .u32 (now - n5))) k ((pb, k1) :: G)) ∧
          (¬ n4 = 1 → ∃ (k' : Blk) (G : Blks), L.Perm ((pb, k') :: G) ∧ ∃ k1, k'.upd 25 (.int .i64 2) k1 ∧ K (IntKind.wrap .i64 (st.bytes + l)) st.rtt k ((pb, k1) :: G))) ∧
        (¬ n3 = 0 → ∃ n4 : Int, rawCell L pb 25 (.int .i64 n4) ∧
          (n4 = 1 → ∃ (o : Option Addr) (l c : Nat), rawCell L pb 18 (.slice o l c) ∧ ∃ n5 : Int, rawCell L pb 22 (.int .u64 n5) ∧
            (n5 = 1 → ∃ n6 : Int, rawCell L pb 23 (.int .u32 n6) ∧ ∃ (k' : Blk) (G : Blks), L.Perm ((pb, k') :: G) ∧ ∃ k1, k'.upd 25 (.int .i64 2) k1 ∧ K (IntKind.wrap .i64 (st.bytes + l)) (IntKind.wrap .i64 (IntKind.wrap .u32 (now - n6))) k ((pb, k1) :: G)) ∧
            (¬ n5 = 1 → ∃ (k' : Blk) (G : Blks), L.Perm ((pb, k') :: G) ∧ ∃ k1, k'.upd 25 (.int .i64 2) k1 ∧ K (IntKind.wrap .i64 (st.bytes + l)) st.rtt k ((pb, k1) :: G))) ∧
          (¬ n4 = 1 → ∃ (k' : Blk) (G : Blks), L.Perm ((pb, k') :: G) ∧ ∃ k1, k'.upd 25 (.int .i64 2) k1 ∧ K st.bytes st.rtt k ((pb, k1) :: G)))) := by
  obtain ⟨p, hp⟩ : ∃ p, st.ps[k]? = some p := ⟨st.ps[k], by simp [hk]⟩
  obtain ⟨o, c, sb, sx, pb, l, G, rfl, rfl, e3, e4, e5, e6⟩ := h.store hp
  have hm : (pb, Blk.cells l 139) ∈ L := e5.mem_iff.2 (by simp)
  obtain ⟨g1, ⟨bo, bc, g2⟩, g3, g4, g5, g6⟩ := id e4
  have hset := e6 _ _ (ok_how e4 2)
  refine ⟨_, st.ps.length, c, rc (flv_mem h.fl) rfl, ⟨by omega, by omega⟩, _, e3, pb, rfl, p.how, rc hm g6, fun q => ?_, fun q => ⟨p.how, rc hm g6, fun q0 => ⟨bo, p.len, bc, rc hm g2, p.sent, rc hm g3, fun q1 => ⟨p.at_, rc hm g4, _, G, e5, _, upd_how e4 2, ?_⟩, fun q1 => ⟨_, G, e5, _, upd_how e4 2, ?_⟩⟩,
    fun q0 => ⟨p.how, rc hm g6, fun q2 => ⟨bo, p.len, bc, rc hm g2, p.sent, rc hm g3, fun q1 => ⟨p.at_, rc hm g4, _, G, e5, _, upd_how e4 2, ?_⟩, fun q1 => ⟨_, G, e5, _, upd_how e4 2, ?_⟩⟩, fun q2 => ⟨_, G, e5, _, upd_how e4 2, ?_⟩⟩⟩⟩
  · have e : arr1 now st k = st := by simp [arr1, hp, q]
    have := hK L
    rw [e] at this
    exact this h
  · have := hK ((pb, .cells (l.set 25 (.int .i64 2)) 139) :: G)
    rw [arr1_a hp q (.inl q0) q1] at this
    exact this hset
  · have := hK ((pb, .cells (l.set 25 (.int .i64 2)) 139) :: G)
    rw [arr1_b hp q (.inl q0) q1] at this
    exact this hset
  · have := hK ((pb, .cells (l.set 25 (.int .i64 2)) 139) :: G)
    rw [arr1_a hp q (.inr q2) q1] at this
    exact this hset
  · have := hK ((pb, .cells (l.set 25 (.int .i64 2)) 139) :: G)
    rw [arr1_b hp q (.inr q2) q1] at this
    exact this hset
  · have := hK ((pb, .cells (l.set 25 (.int .i64 2)) 139) :: G)
    rw [arr1_c hp q (fun h => h.elim q0 q2)] at this
    exact this hset
end Go.Proofs.Ythkcfocoekonjaa
