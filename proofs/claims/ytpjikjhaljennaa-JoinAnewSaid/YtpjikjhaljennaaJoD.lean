/- Joiners: on with a stream (its runs). -/
import Derived.Test.YtpjikjhaljennaaJoC
set_option maxRecDepth 100000
set_option linter.unusedVariables false
set_option linter.unusedSimpArgs false
namespace Go.Proofs.Ytpjikjhaljennaa
open Go Go.Sx
attribute [local irreducible] Go.Sx.xrun

structure OnX where
  k : Nat
  x : MW
  n : Nat
  fw : Value → Option Value
  fn : Value → Option Value
def Ann.onJ (i : Bool) (mp mq : Nat) (s : SV) : SBlk := .cells 6 [.val (.bool i), .val (.map (some mp)), .val (.map (some mq)), .mp 1, .mp 2, s] 97
def Ann.mwB (x : MW) : SBlk := .tab 38 x.base x.N [.ints .u16 x.c1, .bools x.c2, .ints .u32 x.c3, .ints .u32 x.c4, .raws x.c5]
noncomputable def Ann.on (i : Bool) (b mp mq mw mn : Nat) (G : Blks) (x : MW) (P : OnX → Prop) : FnAnn := ⟨[(13, .to Int fun n => .val (.int .u32 n)), (22, .to (Mg × JS) fun p => .agg (p.1.svs p.2))],
  [(0, ⟨OnX, [(fun σ y => ⟨σ.n, keepE σ.env [0, 1], [.own b (Ann.onJ i mp mq (.slc 5 y.x.o y.n y.x.cap)), .own mw (.map kSh y.fw none), .own mn (.map (.one (.int .u16)) y.fn none), .chunk G, .gone (x.b, x.base, 5), .own y.x.b (Ann.mwB y.x)]⟩, fun _ y => P y)], fun y => y.k⟩)]⟩
noncomputable def onGoal (i : Bool) (b mp mq mw mn : Nat) (fw fn : Value → Option Value) (x : MW) (n : Nat) (s : Int) (G : Blks) (P : OnX → Prop) (R : Value → Blks → Prop) : Prop :=
  xrun Go.Proofs.Try.prog [(42, midT)] [(82, Ann.on i b mp mq mw mn G x P)] [] 9 [] 82 [.ptr 0 0 0, .val (.int .u16 s)]
    [.own b (Ann.onJ i mp mq (.slc 4 x.o n x.cap)), .own mw (.map kSh fw none), .own mn (.map (.one (.int .u16)) fn none), .chunk G, .own x.b (Ann.mwB x)] fun t h => R (den (locs h) t) (owned (locs h) h)
noncomputable def Ann.onN (i : Bool) (b mp mq mw mn : Nat) (G : Blks) (P0 P : OnX → Prop) : FnAnn := ⟨[(13, .to Int fun n => .val (.int .u32 n)), (22, .to (Mg × JS) fun p => .agg (p.1.svs p.2))],
  [(0, ⟨OnX, [(fun σ y => ⟨σ.n, keepE σ.env [0, 1], [.own b (Ann.onJ i mp mq (.val (.slice none 0 0))), .own mw (.map kSh y.fw none), .own mn (.map (.one (.int .u16)) y.fn none), .chunk G]⟩, fun _ y => P0 y),
    (fun σ y => ⟨σ.n, keepE σ.env [0, 1], [.own b (Ann.onJ i mp mq (.slc 4 y.x.o y.n y.x.cap)), .own mw (.map kSh y.fw none), .own mn (.map (.one (.int .u16)) y.fn none), .chunk G, .own y.x.b (Ann.mwB y.x)]⟩, fun _ y => P y)], fun y => y.k⟩)]⟩
noncomputable def onNGoal (i : Bool) (b mp mq mw mn : Nat) (fw fn : Value → Option Value) (s : Int) (G : Blks) (P0 P : OnX → Prop) (R : Value → Blks → Prop) : Prop :=
  xrun Go.Proofs.Try.prog [(42, midT)] [(82, Ann.onN i b mp mq mw mn G P0 P)] [] 9 [] 82 [.ptr 0 0 0, .val (.int .u16 s)]
    [.own b (Ann.onJ i mp mq (.val (.slice none 0 0))), .own mw (.map kSh fw none), .own mn (.map (.one (.int .u16)) fn none), .chunk G] fun t h => R (den (locs h) t) (owned (locs h) h)
open Classical
theorem app_getD {α : Type} {c sp : List α} {o n i : Nat} {v d : α} (h : o + n ≤ c.length) : ((c.drop o).take n ++ [v] ++ sp).getD i d = if i < n then c.getD (o + i) d else if i = n then v else sp.getD (i - n - 1) d := by
  have hl : ((c.drop o).take n).length = n := by rw [List.length_take, List.length_drop]; omega
  rw [List.append_assoc, List.getD_eq_getElem?_getD]
  by_cases h1 : i < n
  · rw [if_pos h1, List.getElem?_append_left (by omega), List.getElem?_take_of_lt h1, List.getElem?_drop, List.getD_eq_getElem?_getD]
  · rw [if_neg h1, List.getElem?_append_right (by omega), hl]
    by_cases h2 : i = n
    · subst h2
      rw [if_pos rfl, Nat.sub_self]
      rfl
    · rw [if_neg h2, List.getElem?_append_right (by simp; omega), List.getD_eq_getElem?_getD]
      rfl
theorem app_len {α : Type} {c sp : List α} {o n cap : Nat} {v : α} (h : o + n ≤ c.length) (hc : n + 1 ≤ cap) (hs : sp.length = cap - (n + 1)) : ((c.drop o).take n ++ [v] ++ sp).length = cap := by
  simp only [List.length_append, List.length_take, List.length_drop, List.length_singleton, hs]
  omega
theorem mw_app {x : MW} {G : Blks} {ms : List Mg} (h : x.ok G ms) {n : Nat} (hn : n = ms.length) {m : Mg} {s : JS} (hb : Bts G s.o s.l m.bs) (hsc : s.l ≤ s.c) {b base cap : Nat} (hc : n + 1 ≤ cap) {s1 s3 s4 : List Int} {s2 : List Bool} {s5 : List Value}
    (e1 : s1.length = cap - (n + 1)) (e2 : s2.length = cap - (n + 1)) (e3 : s3.length = cap - (n + 1)) (e4 : s4.length = cap - (n + 1)) (e5 : s5.length = cap - (n + 1)) :
    ({ b := b, base := base, o := 0, N := cap, cap := cap, c1 := List.take n (List.drop x.o x.c1) ++ [m.st] ++ s1, c2 := List.take n (List.drop x.o x.c2) ++ [m.lo] ++ s2, c3 := List.take n (List.drop x.o x.c3) ++ [m.mid] ++ s3, c4 := List.take n (List.drop x.o x.c4) ++ [m.pp] ++ s4, c5 := List.take n (List.drop x.o x.c5) ++ [.slice s.o s.l s.c] ++ s5 } : MW).ok G (ms ++ [m]) := by
  subst hn
  obtain ⟨⟨l1, l2, l3, l4, l5⟩, h2, h3, h4⟩ := h
  refine ⟨⟨app_len (by omega) hc e1, app_len (by omega) hc e2, app_len (by omega) hc e3, app_len (by omega) hc e4, app_len (by omega) hc e5⟩, by simpa using hc, by show 0 + cap ≤ cap; omega, fun i m' hm => ?_⟩
  have hi : i < ms.length + 1 := by simpa using (List.getElem?_eq_some_iff.1 hm).1
  show MW.row _ G (0 + i) m'
  rw [Nat.zero_add]
  unfold MW.row
  simp only [app_getD (show x.o + ms.length ≤ x.c1.length by omega), app_getD (show x.o + ms.length ≤ x.c2.length by omega), app_getD (show x.o + ms.length ≤ x.c3.length by omega), app_getD (show x.o + ms.length ≤ x.c4.length by omega), app_getD (show x.o + ms.length ≤ x.c5.length by omega)]
  by_cases h5 : i < ms.length
  · simp only [if_pos h5]
    rw [List.getElem?_append_left h5] at hm
    exact h4 i m' hm
  · have h6 : i = ms.length := by omega
    subst h6
    simp at hm
    subst hm
    simp only [if_neg h5, if_true]
    exact ⟨trivial, trivial, trivial, trivial, s, rfl, hb, hsc⟩
theorem mw_one {G : Blks} {m : Mg} {s : JS} (hb : Bts G s.o s.l m.bs) (hsc : s.l ≤ s.c) {b base cap : Nat} (hc : 1 ≤ cap) {s1 s3 s4 : List Int} {s2 : List Bool} {s5 : List Value}
    (e1 : s1.length = cap - 1) (e2 : s2.length = cap - 1) (e3 : s3.length = cap - 1) (e4 : s4.length = cap - 1) (e5 : s5.length = cap - 1) :
    ({ b := b, base := base, o := 0, N := cap, cap := cap, c1 := m.st :: s1, c2 := m.lo :: s2, c3 := m.mid :: s3, c4 := m.pp :: s4, c5 := .slice s.o s.l s.c :: s5 } : MW).ok G [m] := by
  have l (n : Nat) (h : n = cap - 1) : n + 1 = cap := by omega
  refine ⟨⟨l _ e1, l _ e2, l _ e3, l _ e4, l _ e5⟩, hc, by show 0 + cap ≤ cap; omega, fun i m' hm => ?_⟩
  have hi : i < 1 := by simpa using (List.getElem?_eq_some_iff.1 hm).1
  obtain rfl : i = 0 := by omega
  simp at hm
  subst hm
  exact ⟨rfl, rfl, rfl, rfl, s, rfl, hb, hsc⟩
theorem wait_del {G : Blks} {w : List Mg} {fw : Value → Option Value} (h : WaitAt G w fw) (k : Value) : WaitAt G (w.filter fun x => decide (kK x.key ≠ k)) (delM fw k) := by
  obtain ⟨L2, G', -, h2⟩ := SM.del h k
  exact SM.pureL h2 []
theorem wait_get {G : Blks} {w : List Mg} {fw : Value → Option Value} (h : WaitAt G w fw) {m : Mg} (hm : m ∈ w) : ∃ s : JS, fw (kK m.key) = some (.agg (m.cells s).toArray) ∧ Bts G s.o s.l m.bs ∧ s.l ≤ s.c := by
  obtain ⟨v, L1, L2, h1, -, s, rfl, h2, h3⟩ := SM.get h hm
  exact ⟨s, h1, h2, h3⟩
theorem next_upd {f : Int → Int} {fn : Value → Option Value} (h : NextAt f fn) (s v : Int) : NextAt (updN f s v) (updM fn (kSt s) (.int .u32 v)) := by
  refine ⟨fun k hk => ?_, fun s' => ?_⟩
  · by_cases e : k = kSt s
    · exact ⟨s, e⟩
    · rw [jupd_ne _ _ e] at hk
      exact h.1 k hk
  · unfold updN
    by_cases e : s' = s
    · subst e
      rw [jupd_same, if_pos rfl]
      rfl
    · rw [jupd_ne _ _ fun h => e (kSt_inj h), if_neg e]
      exact h.2 s'
theorem updN_twice (f : Int → Int) (s a b : Int) : updN (updN f s a) s b = updN f s b := by
  funext x
  unfold updN
  split <;> rfl
theorem updN_self (f : Int → Int) (s a : Int) : updN f s a s = a := if_pos rfl
theorem updN_id (f : Int → Int) (s : Int) : updN f s (f s) = f := by
  funext x
  unfold updN
  split
  · rename_i e; rw [e]
  · rfl
def onP (i : Bool) (s : Int) (G : Blks) (next : Int → Int) (w' : List Mg) (n' : Int) (r' : List Mg) (y : OnX) : Prop :=
  ∃ w nn r, OnS i s y.k w nn r w' n' r' ∧ WaitAt G w y.fw ∧ NextAt (updN next s nn) y.fn ∧ y.x.ok G r ∧ y.n = r.length ∧ r.length + w.length ≤ 1000000000
def onP0 (i : Bool) (s : Int) (G : Blks) (next : Int → Int) (w' : List Mg) (n' : Int) (r' : List Mg) (y : OnX) : Prop :=
  ∃ w nn, OnS i s y.k w nn [] w' n' r' ∧ WaitAt G w y.fw ∧ NextAt (updN next s nn) y.fn ∧ w.length ≤ 1000000000
theorem OnS.inv {i : Bool} {s : Int} {k : Nat} {w : List Mg} {n : Int} {r w' : List Mg} {n' : Int} {r' : List Mg} (h : OnS i s k w n r w' n' r') :
    ((∀ m ∈ w, m.key ≠ (s, false, n)) ∧ w = w' ∧ n = n' ∧ r = r') ∨ ∃ k' m, k = k' + 1 ∧ m ∈ w ∧ m.key = (s, false, n) ∧ OnS i s k' (w.filter fun x => decide (kK x.key ≠ kK (s, false, n))) (midF i (IntKind.wrap .u32 (n + 1))) (r ++ [m]) w' n' r' := by
  cases h with
  | stop hn => exact .inl ⟨hn, rfl, rfl, rfl⟩
  | step hm hk h => exact .inr ⟨_, _, rfl, hm, hk, h⟩
theorem filt_lt {w : List Mg} {m : Mg} (hm : m ∈ w) : (w.filter fun x => decide (kK x.key ≠ kK m.key)).length < w.length := by
  rw [List.length_filter_lt_length_iff_exists]
  exact ⟨m, hm, by simp⟩
theorem on_goal (i : Bool) (b mp mq mw mn : Nat) (fw fn : Value → Option Value) (x : MW) (n : Nat) (s : Int) (G G0 : Blks) (P : OnX → Prop) (R : Value → Blks → Prop) {k : Nat} {w w' : List Mg} {next : Int → Int} {n' : Int} {r r' : List Mg} (hS : OnS i s k w (next s) r w' n' r')
    (hW : WaitAt G0 w fw) (hN : NextAt next fn) (hX : x.ok G0 r) (hn : n = r.length) (hb : r.length + w.length ≤ 1000000000) (eP : P = onP i s G0 next w' n' r')
    (hR : ∀ fw' fn' rv Lr b1 b2 t1 t2, WaitAt G0 w' fw' → NextAt (updN next s n') fn' → ReadyAt G0 r' rv Lr → R (.tuple #[]) ((b, .cells [.bool i, .map (some mp), .map (some mq), .map (some mw), .map (some mn), rv] 97) :: (mw, .map kSh fw' none) :: (mn, .map (.one (.int .u16)) fn' none) :: (G ++ (Lr ++ [(b1, t1), (b2, t2)])))) :
    onGoal i b mp mq mw mn fw fn x n s G P R :=
  Eq.mpr (by kernel_rfl) (show
  ∃ (x0 : OnX), (((((0 : Nat) = (0 : Nat) ∧ (0 : Nat) = (0 : Nat)) ∧ s = s ∧ True) ∧ (b = b ∧ Value.bool i = Value.bool i ∧ Value.map (Option.some mp) = Value.map (Option.some mp) ∧ Value.map (Option.some mq) = Value.map (Option.some mq) ∧ True ∧ True ∧ (x.3 = x0.2.3 ∧ n = x0.3 ∧ x.5 = x0.2.5) ∧ True) ∧ (mw = mw ∧ kSh = kSh ∧ fw = x0.4 ∧ (Option.none : Option (Go.Value × Int)) = Option.none) ∧ (mn = mn ∧ KShape.one (KS.int IntKind.u16) = KShape.one (KS.int IntKind.u16) ∧ fn = x0.5 ∧ (Option.none : Option (Go.Value × Int)) = Option.none) ∧ G = G ∧ (x.1, x.2, (5 : Nat)) = (x.1, x.2, (5 : Nat)) ∧
  (x.1 = x0.2.1 ∧ x.2 = x0.2.2 ∧ x.4 = x0.2.4 ∧ x.6 = x0.2.6 ∧ x.7 = x0.2.7 ∧ x.8 = x0.2.8 ∧ x.9 = x0.2.9 ∧ x.10 = x0.2.10 ∧ True) ∧ True) ∧ P x0) ∧ ∀ (x_1 : OnX), P x_1 → ∃ (x_2 : Int), (∀ (r : List (Nat × Nat × Nat)), Value.int IntKind.u32 x_2 = Option.getD (x_1.5 (Value.int IntKind.u16 s)) (Value.int IntKind.u32 (0 : Int))) ∧ ∀ (b_1 : Nat), Value.oneCell' (Value.int IntKind.u16 s) = Bool.true ∧ Value.oneCell' (Value.int IntKind.u32 x_2) = Bool.true ∧ ∃ (x_3 : Mg × JS), (∀ (r : List (Nat × Nat × Nat)), Value.agg
  #[Value.int IntKind.u16 x_3.1.1, Value.bool x_3.1.2, Value.int IntKind.u32 x_3.1.3, Value.int IntKind.u32 x_3.1.4, Value.slice x_3.2.1 x_3.2.2 x_3.2.3] = Option.getD (x_1.4 (Value.agg #[Value.int IntKind.u16 s, Value.bool Bool.false, Value.int IntKind.u32 x_2])) (Value.agg #[Value.int IntKind.u16 (0 : Int), Value.bool Bool.false, Value.int IntKind.u32 (0 : Int), Value.int IntKind.u32 (0 : Int), Value.slice Option.none (0 : Nat) (0 : Nat)])) ∧ ∀ (b_2 : Nat), SV.tup [SV.val (Option.getD (x_1.4 (Value.agg #[Value.int IntKind.u16 s, Value.bool Bool.false, Value.int IntKind.u32 x_2])) (Value.agg
  #[Value.int IntKind.u16 (0 : Int), Value.bool Bool.false, Value.int IntKind.u32 (0 : Int), Value.int IntKind.u32 (0 : Int), Value.slice Option.none (0 : Nat) (0 : Nat)])), SV.prop (Option.rec Bool.false (fun (val : Go.Value) => Bool.true) (x_1.4 (Value.agg #[Value.int IntKind.u16 s, Value.bool Bool.false, Value.int IntKind.u32 x_2])) = Bool.true)] = SV.tup [SV.val (Option.getD (x_1.4 (Value.agg #[Value.int IntKind.u16 s, Value.bool Bool.false, Value.int IntKind.u32 x_2])) (Value.agg
  #[Value.int IntKind.u16 (0 : Int), Value.bool Bool.false, Value.int IntKind.u32 (0 : Int), Value.int IntKind.u32 (0 : Int), Value.slice Option.none (0 : Nat) (0 : Nat)])), SV.prop (Option.rec Bool.false (fun (val : Go.Value) => Bool.true) (x_1.4 (Value.agg #[Value.int IntKind.u16 s, Value.bool Bool.false, Value.int IntKind.u32 x_2])) = Bool.true)] ∧ SV.agg [SV.val (Value.int IntKind.u16 s), SV.ff, SV.val (Value.int IntKind.u32 x_2)] = SV.agg [SV.val (Value.int IntKind.u16 s), SV.ff, SV.val (Value.int IntKind.u32 x_2)] ∧ SV.mp (1 : Nat) = SV.mp (1 : Nat) ∧
  Value.oneCell' (Value.int IntKind.u16 x_3.1.1) = Bool.true ∧ Value.oneCell' (Value.bool x_3.1.2) = Bool.true ∧ Value.oneCell' (Value.int IntKind.u32 x_3.1.3) = Bool.true ∧ Value.oneCell' (Value.int IntKind.u32 x_3.1.4) = Bool.true ∧ (¬Option.rec Bool.false (fun (val : Go.Value) => Bool.true) (x_1.4 (Value.agg #[Value.int IntKind.u16 s, Value.bool Bool.false, Value.int IntKind.u32 x_2])) = Bool.true → R (Value.tuple #[]) ((b, Blk.cells [Value.bool i, Value.map (Option.some mp), Value.map (Option.some mq), Value.map (Option.some mw), Value.map (Option.some mn),
  Value.slice (Option.some { block := x_1.2.1, off := (x_1.2.2 + x_1.2.3) * (5 : Nat) }) x_1.3 x_1.2.5] (97 : Go.TypeId)) :: (mw, Blk.map kSh x_1.4 Option.none) :: (mn, Blk.map (KShape.one (KS.int IntKind.u16)) x_1.5 Option.none) :: (G ++ [(x_1.2.1, Blk.tab (38 : Go.TypeId) x_1.2.2 x_1.2.4 [Col.ints IntKind.u16 x_1.2.6, Col.bools x_1.2.7, Col.ints IntKind.u32 x_1.2.8, Col.ints IntKind.u32 x_1.2.9, Col.raws x_1.2.10]), (b_1, Blk.cells [Value.int IntKind.u16 s, Value.bool Bool.false, Value.int IntKind.u32 x_2] (100 : Nat)), (b_2, Blk.cells
  [Value.int IntKind.u16 x_3.1.1, Value.bool x_3.1.2, Value.int IntKind.u32 x_3.1.3, Value.int IntKind.u32 x_3.1.4, Value.slice x_3.2.1 x_3.2.2 x_3.2.3] (38 : Nat))]))) ∧ (¬¬Option.rec Bool.false (fun (val : Go.Value) => Bool.true) (x_1.4 (Value.agg #[Value.int IntKind.u16 s, Value.bool Bool.false, Value.int IntKind.u32 x_2])) = Bool.true → ∀ (b_3 : Nat), SV.slc (5 : Nat) x_1.2.3 x_1.3 x_1.2.5 = SV.slc (5 : Nat) x_1.2.3 x_1.3 x_1.2.5 ∧ Value.oneCell' (Value.int IntKind.u16 x_3.1.1) = Bool.true ∧ Value.oneCell' (Value.bool x_3.1.2) = Bool.true ∧
  Value.oneCell' (Value.int IntKind.u32 x_3.1.3) = Bool.true ∧ Value.oneCell' (Value.int IntKind.u32 x_3.1.4) = Bool.true ∧ (x_1.3 ≤ x_1.2.5 ∧ x_1.2.3 + x_1.2.5 ≤ x_1.2.4) ∧ x_1.2.3 + x_1.3 ≤ x_1.2.4 ∧ (x_1.3 + (1 : Nat)) * (40 : Nat) ≤ (140737488355328 : Nat) ∧ ∀ (b_4 base cap' : Nat), x_1.3 + (1 : Nat) ≤ cap' → (x_1.3 + (1 : Nat) ≤ x_1.2.5 → cap' = x_1.2.5) → ∀ (sp : List Int), List.length sp = cap' - (x_1.3 + (1 : Nat)) → ∀ (sp_1 : List Bool), List.length sp_1 = cap' - (x_1.3 + (1 : Nat)) → ∀ (sp_2 : List Int), List.length sp_2 = cap' - (x_1.3 + (1 : Nat)) → ∀ (sp_3 : List Int),
  List.length sp_3 = cap' - (x_1.3 + (1 : Nat)) → ∀ (sp_4 : List Go.Value), List.length sp_4 = cap' - (x_1.3 + (1 : Nat)) → SV.mp (2 : Nat) = SV.mp (2 : Nat) ∧ ∃ (y : OnX), y.1 < x_1.1 ∧ ((((0 : Nat) = (0 : Nat) ∧ (0 : Nat) = (0 : Nat)) ∧ s = s ∧ True) ∧ (b = b ∧ Value.bool i = Value.bool i ∧ Value.map (Option.some mp) = Value.map (Option.some mp) ∧ Value.map (Option.some mq) = Value.map (Option.some mq) ∧ True ∧ True ∧ ((0 : Nat) = y.2.3 ∧ x_1.3 + (1 : Nat) = y.3 ∧ cap' = y.2.5) ∧ True) ∧ (mw = mw ∧ kSh = kSh ∧ delM x_1.4 (Value.agg #[Value.int IntKind.u16 s, Value.bool Bool.false,
  Value.int IntKind.u32 x_2]) = y.4 ∧ (Option.none : Option (Go.Value × Int)) = Option.none) ∧ (mn = mn ∧ KShape.one (KS.int IntKind.u16) = KShape.one (KS.int IntKind.u16) ∧ updM x_1.5 (Value.int IntKind.u16 s) (Value.int IntKind.u32 (midF i (IntKind.wrap IntKind.u32 (x_2 + (1 : Int))))) = y.5 ∧ (Option.none : Option (Go.Value × Int)) = Option.none) ∧ G = G ∧ (x.1, x.2, (5 : Nat)) = (x.1, x.2, (5 : Nat)) ∧ (b_4 = y.2.1 ∧ base = y.2.2 ∧ cap' = y.2.4 ∧ List.take x_1.3 (List.drop x_1.2.3 x_1.2.6) ++ [x_3.1.1] ++ sp = y.2.6 ∧ List.take x_1.3 (List.drop x_1.2.3 x_1.2.7) ++ [x_3.1.2] ++ sp_1 = y.2.7 ∧
  List.take x_1.3 (List.drop x_1.2.3 x_1.2.8) ++ [x_3.1.3] ++ sp_2 = y.2.8 ∧ List.take x_1.3 (List.drop x_1.2.3 x_1.2.9) ++ [x_3.1.4] ++ sp_3 = y.2.9 ∧ List.take x_1.3 (List.drop x_1.2.3 x_1.2.10) ++ [Value.slice x_3.2.1 x_3.2.2 x_3.2.3] ++ sp_4 = y.2.10 ∧ True) ∧ True) ∧ P y) from by
  simp only [eq_self, true_and, and_true, false_and, and_false, or_false, false_or, and_self, Nat.zero_add, Nat.add_zero, Nat.sub_zero, Nat.zero_mul, Nat.mul_one, Int.toNat_natCast, cond_true, cond_false, forall_const, implies_true, Nat.beq_refl, ne_eq, not_false_eq_true, not_true_eq_false, Classical.not_not, List.cons.injEq, List.append_nil, List.nil_append, Go.Value.int.injEq, Go.Value.bool.injEq, Go.Value.slice.injEq, Nat.le_refl, Nat.zero_le, Go.Sx.one_int, Go.Sx.one_bool, Go.Sx.one_slice, Go.Sx.one_ptr, Go.Sx.one_map, Int.cast_ofNat_Int, reduceCtorEq, Nat.reduceLeDiff, Nat.reduceMul, Nat.reduceAdd, Nat.reduceSub, Nat.reduceEqDiff, Int.reduceLE, Int.reduceLT, Int.reduceEq, Int.reduceAdd, Int.reduceSub, Int.reduceNeg, Int.reduceMul, Nat.reduceBEq]
  refine ⟨⟨k, x, n, fw, fn⟩, ⟨⟨⟨rfl, rfl, rfl⟩, rfl, rfl, rfl, rfl, rfl, rfl, rfl, rfl, rfl, rfl⟩, by rw [eP]; exact ⟨w, next s, r, hS, hW, by rw [updN_id]; exact hN, hX, hn, hb⟩⟩, fun y hP => ?_⟩
  rw [eP] at hP ⊢
  obtain ⟨w, nn, r, hS, hW, hN, hX, hn, hb⟩ := hP
  have hnx : Value.int IntKind.u32 nn = (y.fn (Value.int IntKind.u16 s)).getD (Value.int IntKind.u32 0) := by
    have := hN.2 s
    rw [updN_self] at this
    exact this.symm
  refine ⟨nn, hnx, fun b1 => ?_⟩
  rcases hS.inv with ⟨hno, rfl, rfl, rfl⟩ | ⟨k', m, hk, hm, hke, hS⟩
  ·
    have hnone : y.fw (Value.agg #[Value.int IntKind.u16 s, Value.bool false, Value.int IntKind.u32 nn]) = none := SM.none hW (k := kK (s, false, nn)) fun a ha e => hno a ha (kK_inj e)
    rw [hnone]
    refine ⟨(Mg.zero, ⟨none, 0, 0⟩), rfl, fun b2 => ⟨fun _ => ?_, fun h => by cases h⟩⟩
    rw [hn]
    exact hR y.fw y.fn _ _ b1 b2 _ _ hW hN (.inr ⟨y.x, hX, rfl, rfl⟩)
  ·
    obtain ⟨s0, hv, hbt, hsc⟩ := wait_get hW hm
    rw [hke] at hv
    have hv : y.fw (Value.agg #[Value.int IntKind.u16 s, Value.bool false, Value.int IntKind.u32 nn]) = some (Value.agg (m.cells s0).toArray) := hv
    rw [hv]
    refine ⟨(m, s0), rfl, fun b2 => ⟨fun h => absurd rfl h, fun _ => ?_⟩⟩
    have hlt := filt_lt hm
    rw [hke] at hlt
    obtain ⟨⟨q1, q2, q3, q4, q5⟩, q6, q7, q8⟩ := hX
    have hX : y.x.ok G0 r := ⟨⟨q1, q2, q3, q4, q5⟩, q6, q7, q8⟩
    refine ⟨⟨by omega, q7⟩, by omega, by omega, fun b' base cap' hc hc2 s1 e1 s2 e2 s3 e3 s4 e4 s5 e5 => ⟨⟨k', ⟨b', base, 0, cap', cap', _, _, _, _, _⟩, y.n + 1, _, _⟩, by show k' < y.k; omega, ⟨⟨rfl, rfl, rfl⟩, rfl, rfl, rfl, rfl, rfl, rfl, rfl, rfl, rfl, rfl⟩, ?_⟩⟩
    refine ⟨_, _, _, hS, wait_del hW _, ?_, mw_app hX hn hbt hsc hc e1 e2 e3 e4 e5, by show y.n + 1 = _; rw [hn, List.length_append]; rfl, by rw [List.length_append]; show r.length + 1 + _ ≤ _; omega⟩
    have := next_upd hN s (midF i (IntKind.wrap .u32 (nn + 1)))
    rw [updN_twice] at this
    exact this
  )
theorem onN_goal (i : Bool) (b mp mq mw mn : Nat) (fw fn : Value → Option Value) (s : Int) (G G0 : Blks) (P0 P : OnX → Prop) (R : Value → Blks → Prop) {k : Nat} {w w' : List Mg} {next : Int → Int} {n' : Int} {r' : List Mg} (hS : OnS i s k w (next s) [] w' n' r')
    (hW : WaitAt G0 w fw) (hN : NextAt next fn) (hb : w.length ≤ 1000000000) (eP0 : P0 = onP0 i s G0 next w' n' r') (eP : P = onP i s G0 next w' n' r')
    (hR : ∀ fw' fn' rv Lr b1 b2 t1 t2, WaitAt G0 w' fw' → NextAt (updN next s n') fn' → ReadyAt G0 r' rv Lr → R (.tuple #[]) ((b, .cells [.bool i, .map (some mp), .map (some mq), .map (some mw), .map (some mn), rv] 97) :: (mw, .map kSh fw' none) :: (mn, .map (.one (.int .u16)) fn' none) :: (G ++ (Lr ++ [(b1, t1), (b2, t2)])))) :
    onNGoal i b mp mq mw mn fw fn s G P0 P R :=
  Eq.mpr (by kernel_rfl) (show
  ∃ (x0 : OnX), (((((0 : Nat) = (0 : Nat) ∧ (0 : Nat) = (0 : Nat)) ∧ s = s ∧ True) ∧ (b = b ∧ Value.bool i = Value.bool i ∧ Value.map (Option.some mp) = Value.map (Option.some mp) ∧ Value.map (Option.some mq) = Value.map (Option.some mq) ∧ True ∧ True ∧ Value.slice Option.none (0 : Nat) (0 : Nat) = Value.slice Option.none (0 : Nat) (0 : Nat) ∧ True) ∧ (mw = mw ∧ kSh = kSh ∧ fw = x0.4 ∧ (Option.none : Option (Go.Value × Int)) = Option.none) ∧ (mn = mn ∧ KShape.one (KS.int IntKind.u16) = KShape.one (KS.int IntKind.u16) ∧ fn = x0.5 ∧ (Option.none : Option (Go.Value × Int)) = Option.none) ∧ G = G ∧ True) ∧ P0 x0 ∨
  ((((0 : Nat) = (0 : Nat) ∧ (0 : Nat) = (0 : Nat)) ∧ s = s ∧ True) ∧ (b = b ∧ Value.bool i = Value.bool i ∧ Value.map (Option.some mp) = Value.map (Option.some mp) ∧ Value.map (Option.some mq) = Value.map (Option.some mq) ∧ True ∧ True ∧ False ∧ True) ∧ (mw = mw ∧ kSh = kSh ∧ fw = x0.4 ∧ (Option.none : Option (Go.Value × Int)) = Option.none) ∧ (mn = mn ∧ KShape.one (KS.int IntKind.u16) = KShape.one (KS.int IntKind.u16) ∧ fn = x0.5 ∧ (Option.none : Option (Go.Value × Int)) = Option.none) ∧ G = G ∧ False ∧ True) ∧ P x0) ∧ (∀ (x : OnX), P0 x → ∃ (x_1 : Int),
  (∀ (r : List (Nat × Nat × Nat)), Value.int IntKind.u32 x_1 = Option.getD (x.5 (Value.int IntKind.u16 s)) (Value.int IntKind.u32 (0 : Int))) ∧ ∀ (b_1 : Nat), Value.oneCell' (Value.int IntKind.u16 s) = Bool.true ∧ Value.oneCell' (Value.int IntKind.u32 x_1) = Bool.true ∧ ∃ (x_2 : Mg × JS), (∀ (r : List (Nat × Nat × Nat)), Value.agg #[Value.int IntKind.u16 x_2.1.1, Value.bool x_2.1.2, Value.int IntKind.u32 x_2.1.3, Value.int IntKind.u32 x_2.1.4, Value.slice x_2.2.1 x_2.2.2 x_2.2.3] = Option.getD (x.4 (Value.agg #[Value.int IntKind.u16 s, Value.bool Bool.false, Value.int IntKind.u32 x_1]))
  (Value.agg #[Value.int IntKind.u16 (0 : Int), Value.bool Bool.false, Value.int IntKind.u32 (0 : Int), Value.int IntKind.u32 (0 : Int), Value.slice Option.none (0 : Nat) (0 : Nat)])) ∧ ∀ (b_2 : Nat), SV.tup [SV.val (Option.getD (x.4 (Value.agg #[Value.int IntKind.u16 s, Value.bool Bool.false, Value.int IntKind.u32 x_1])) (Value.agg #[Value.int IntKind.u16 (0 : Int), Value.bool Bool.false, Value.int IntKind.u32 (0 : Int), Value.int IntKind.u32 (0 : Int), Value.slice Option.none (0 : Nat) (0 : Nat)])), SV.prop (Option.rec Bool.false (fun (val : Go.Value) => Bool.true)
  (x.4 (Value.agg #[Value.int IntKind.u16 s, Value.bool Bool.false, Value.int IntKind.u32 x_1])) = Bool.true)] = SV.tup [SV.val (Option.getD (x.4 (Value.agg #[Value.int IntKind.u16 s, Value.bool Bool.false, Value.int IntKind.u32 x_1])) (Value.agg #[Value.int IntKind.u16 (0 : Int), Value.bool Bool.false, Value.int IntKind.u32 (0 : Int), Value.int IntKind.u32 (0 : Int), Value.slice Option.none (0 : Nat) (0 : Nat)])), SV.prop (Option.rec Bool.false (fun (val : Go.Value) => Bool.true) (x.4 (Value.agg #[Value.int IntKind.u16 s, Value.bool Bool.false, Value.int IntKind.u32 x_1])) = Bool.true)] ∧
  SV.agg [SV.val (Value.int IntKind.u16 s), SV.ff, SV.val (Value.int IntKind.u32 x_1)] = SV.agg [SV.val (Value.int IntKind.u16 s), SV.ff, SV.val (Value.int IntKind.u32 x_1)] ∧ SV.mp (1 : Nat) = SV.mp (1 : Nat) ∧ Value.oneCell' (Value.int IntKind.u16 x_2.1.1) = Bool.true ∧ Value.oneCell' (Value.bool x_2.1.2) = Bool.true ∧ Value.oneCell' (Value.int IntKind.u32 x_2.1.3) = Bool.true ∧ Value.oneCell' (Value.int IntKind.u32 x_2.1.4) = Bool.true ∧ (¬Option.rec Bool.false (fun (val : Go.Value) => Bool.true)
  (x.4 (Value.agg #[Value.int IntKind.u16 s, Value.bool Bool.false, Value.int IntKind.u32 x_1])) = Bool.true → R (Value.tuple #[]) ((b, Blk.cells [Value.bool i, Value.map (Option.some mp), Value.map (Option.some mq), Value.map (Option.some mw), Value.map (Option.some mn), Value.slice Option.none (0 : Nat) (0 : Nat)] (97 : Go.TypeId)) :: (mw, Blk.map kSh x.4 Option.none) :: (mn, Blk.map (KShape.one (KS.int IntKind.u16)) x.5 Option.none) :: (G ++ [(b_1, Blk.cells [Value.int IntKind.u16 s, Value.bool Bool.false, Value.int IntKind.u32 x_1] (100 : Nat)), (b_2, Blk.cells
  [Value.int IntKind.u16 x_2.1.1, Value.bool x_2.1.2, Value.int IntKind.u32 x_2.1.3, Value.int IntKind.u32 x_2.1.4, Value.slice x_2.2.1 x_2.2.2 x_2.2.3] (38 : Nat))]))) ∧ (¬¬Option.rec Bool.false (fun (val : Go.Value) => Bool.true) (x.4 (Value.agg #[Value.int IntKind.u16 s, Value.bool Bool.false, Value.int IntKind.u32 x_1])) = Bool.true → ∀ (b_3 : Nat), SV.val (Value.slice Option.none (0 : Nat) (0 : Nat)) = SV.val (Value.slice Option.none (0 : Nat) (0 : Nat)) ∧ Value.oneCell' (Value.int IntKind.u16 x_2.1.1) = Bool.true ∧ Value.oneCell' (Value.bool x_2.1.2) = Bool.true ∧
  Value.oneCell' (Value.int IntKind.u32 x_2.1.3) = Bool.true ∧ Value.oneCell' (Value.int IntKind.u32 x_2.1.4) = Bool.true ∧ (40 : Nat) ≤ (140737488355328 : Nat) ∧ ∀ (b_4 cap' : Nat), (1 : Nat) ≤ cap' → ∀ (sp : List Int), List.length sp = cap' - (1 : Nat) → ∀ (sp_1 : List Bool), List.length sp_1 = cap' - (1 : Nat) → ∀ (sp_2 : List Int), List.length sp_2 = cap' - (1 : Nat) → ∀ (sp_3 : List Int), List.length sp_3 = cap' - (1 : Nat) → ∀ (sp_4 : List Go.Value), List.length sp_4 = cap' - (1 : Nat) → SV.mp (2 : Nat) = SV.mp (2 : Nat) ∧ ∃ (y : OnX), y.1 < x.1 ∧
  (((((0 : Nat) = (0 : Nat) ∧ (0 : Nat) = (0 : Nat)) ∧ s = s ∧ True) ∧ (b = b ∧ Value.bool i = Value.bool i ∧ Value.map (Option.some mp) = Value.map (Option.some mp) ∧ Value.map (Option.some mq) = Value.map (Option.some mq) ∧ True ∧ True ∧ Value.slice (Option.some { block := b_4, off := (0 : Nat) * (5 : Nat) }) (1 : Nat) cap' = Value.slice Option.none (0 : Nat) (0 : Nat) ∧ True) ∧ (mw = mw ∧ kSh = kSh ∧ delM x.4 (Value.agg #[Value.int IntKind.u16 s, Value.bool Bool.false, Value.int IntKind.u32 x_1]) = y.4 ∧ (Option.none : Option (Go.Value × Int)) = Option.none) ∧ (mn = mn ∧
  KShape.one (KS.int IntKind.u16) = KShape.one (KS.int IntKind.u16) ∧ updM x.5 (Value.int IntKind.u16 s) (Value.int IntKind.u32 (midF i (IntKind.wrap IntKind.u32 (x_1 + (1 : Int))))) = y.5 ∧ (Option.none : Option (Go.Value × Int)) = Option.none) ∧ G = G ∧ True) ∧ P0 y ∨ ((((0 : Nat) = (0 : Nat) ∧ (0 : Nat) = (0 : Nat)) ∧ s = s ∧ True) ∧ (b = b ∧ Value.bool i = Value.bool i ∧ Value.map (Option.some mp) = Value.map (Option.some mp) ∧ Value.map (Option.some mq) = Value.map (Option.some mq) ∧ True ∧ True ∧ ((0 : Nat) = y.2.3 ∧ (1 : Nat) = y.3 ∧ cap' = y.2.5) ∧ True) ∧ (mw = mw ∧ kSh = kSh ∧ delM x.4 (Value.agg
  #[Value.int IntKind.u16 s, Value.bool Bool.false, Value.int IntKind.u32 x_1]) = y.4 ∧ (Option.none : Option (Go.Value × Int)) = Option.none) ∧ (mn = mn ∧ KShape.one (KS.int IntKind.u16) = KShape.one (KS.int IntKind.u16) ∧ updM x.5 (Value.int IntKind.u16 s) (Value.int IntKind.u32 (midF i (IntKind.wrap IntKind.u32 (x_1 + (1 : Int))))) = y.5 ∧ (Option.none : Option (Go.Value × Int)) = Option.none) ∧ G = G ∧ (b_4 = y.2.1 ∧ (0 : Nat) = y.2.2 ∧ cap' = y.2.4 ∧ x_2.1.1 :: sp = y.2.6 ∧ x_2.1.2 :: sp_1 = y.2.7 ∧ x_2.1.3 :: sp_2 = y.2.8 ∧ x_2.1.4 :: sp_3 = y.2.9 ∧ Value.slice x_2.2.1 x_2.2.2 x_2.2.3 :: sp_4 = y.2.10 ∧ True) ∧ True) ∧ P y))) ∧ ∀ (x : OnX),
  P x → ∃ (x_1 : Int), (∀ (r : List (Nat × Nat × Nat)), Value.int IntKind.u32 x_1 = Option.getD (x.5 (Value.int IntKind.u16 s)) (Value.int IntKind.u32 (0 : Int))) ∧ ∀ (b_1 : Nat), Value.oneCell' (Value.int IntKind.u16 s) = Bool.true ∧ Value.oneCell' (Value.int IntKind.u32 x_1) = Bool.true ∧ ∃ (x_2 : Mg × JS), (∀ (r : List (Nat × Nat × Nat)), Value.agg #[Value.int IntKind.u16 x_2.1.1, Value.bool x_2.1.2, Value.int IntKind.u32 x_2.1.3, Value.int IntKind.u32 x_2.1.4, Value.slice x_2.2.1 x_2.2.2 x_2.2.3] =
  Option.getD (x.4 (Value.agg #[Value.int IntKind.u16 s, Value.bool Bool.false, Value.int IntKind.u32 x_1])) (Value.agg #[Value.int IntKind.u16 (0 : Int), Value.bool Bool.false, Value.int IntKind.u32 (0 : Int), Value.int IntKind.u32 (0 : Int), Value.slice Option.none (0 : Nat) (0 : Nat)])) ∧ ∀ (b_2 : Nat), SV.tup [SV.val (Option.getD (x.4 (Value.agg #[Value.int IntKind.u16 s, Value.bool Bool.false, Value.int IntKind.u32 x_1])) (Value.agg #[Value.int IntKind.u16 (0 : Int), Value.bool Bool.false, Value.int IntKind.u32 (0 : Int), Value.int IntKind.u32 (0 : Int),
  Value.slice Option.none (0 : Nat) (0 : Nat)])), SV.prop (Option.rec Bool.false (fun (val : Go.Value) => Bool.true) (x.4 (Value.agg #[Value.int IntKind.u16 s, Value.bool Bool.false, Value.int IntKind.u32 x_1])) = Bool.true)] = SV.tup [SV.val (Option.getD (x.4 (Value.agg #[Value.int IntKind.u16 s, Value.bool Bool.false, Value.int IntKind.u32 x_1])) (Value.agg #[Value.int IntKind.u16 (0 : Int), Value.bool Bool.false, Value.int IntKind.u32 (0 : Int), Value.int IntKind.u32 (0 : Int), Value.slice Option.none (0 : Nat) (0 : Nat)])), SV.prop (Option.rec Bool.false (fun (val : Go.Value) => Bool.true)
  (x.4 (Value.agg #[Value.int IntKind.u16 s, Value.bool Bool.false, Value.int IntKind.u32 x_1])) = Bool.true)] ∧ SV.agg [SV.val (Value.int IntKind.u16 s), SV.ff, SV.val (Value.int IntKind.u32 x_1)] = SV.agg [SV.val (Value.int IntKind.u16 s), SV.ff, SV.val (Value.int IntKind.u32 x_1)] ∧ SV.mp (1 : Nat) = SV.mp (1 : Nat) ∧ Value.oneCell' (Value.int IntKind.u16 x_2.1.1) = Bool.true ∧ Value.oneCell' (Value.bool x_2.1.2) = Bool.true ∧ Value.oneCell' (Value.int IntKind.u32 x_2.1.3) = Bool.true ∧ Value.oneCell' (Value.int IntKind.u32 x_2.1.4) = Bool.true ∧
  (¬Option.rec Bool.false (fun (val : Go.Value) => Bool.true) (x.4 (Value.agg #[Value.int IntKind.u16 s, Value.bool Bool.false, Value.int IntKind.u32 x_1])) = Bool.true → R (Value.tuple #[]) ((b, Blk.cells [Value.bool i, Value.map (Option.some mp), Value.map (Option.some mq), Value.map (Option.some mw), Value.map (Option.some mn), Value.slice (Option.some { block := x.2.1, off := (x.2.2 + x.2.3) * (5 : Nat) }) x.3 x.2.5] (97 : Go.TypeId)) :: (mw, Blk.map kSh x.4 Option.none) :: (mn, Blk.map (KShape.one (KS.int IntKind.u16)) x.5 Option.none) :: (G ++ [(x.2.1,
  Blk.tab (38 : Go.TypeId) x.2.2 x.2.4 [Col.ints IntKind.u16 x.2.6, Col.bools x.2.7, Col.ints IntKind.u32 x.2.8, Col.ints IntKind.u32 x.2.9, Col.raws x.2.10]), (b_1, Blk.cells [Value.int IntKind.u16 s, Value.bool Bool.false, Value.int IntKind.u32 x_1] (100 : Nat)), (b_2, Blk.cells [Value.int IntKind.u16 x_2.1.1, Value.bool x_2.1.2, Value.int IntKind.u32 x_2.1.3, Value.int IntKind.u32 x_2.1.4, Value.slice x_2.2.1 x_2.2.2 x_2.2.3] (38 : Nat))]))) ∧ (¬¬Option.rec Bool.false (fun (val : Go.Value) => Bool.true)
  (x.4 (Value.agg #[Value.int IntKind.u16 s, Value.bool Bool.false, Value.int IntKind.u32 x_1])) = Bool.true → ∀ (b_3 : Nat), SV.slc (4 : Nat) x.2.3 x.3 x.2.5 = SV.slc (4 : Nat) x.2.3 x.3 x.2.5 ∧ Value.oneCell' (Value.int IntKind.u16 x_2.1.1) = Bool.true ∧ Value.oneCell' (Value.bool x_2.1.2) = Bool.true ∧ Value.oneCell' (Value.int IntKind.u32 x_2.1.3) = Bool.true ∧ Value.oneCell' (Value.int IntKind.u32 x_2.1.4) = Bool.true ∧ (x.3 ≤ x.2.5 ∧ x.2.3 + x.2.5 ≤ x.2.4) ∧ x.2.3 + x.3 ≤ x.2.4 ∧ (x.3 + (1 : Nat)) * (40 : Nat) ≤ (140737488355328 : Nat) ∧ ∀ (b_4 base cap' : Nat), x.3 + (1 : Nat) ≤ cap' →
  (x.3 + (1 : Nat) ≤ x.2.5 → cap' = x.2.5) → ∀ (sp : List Int), List.length sp = cap' - (x.3 + (1 : Nat)) → ∀ (sp_1 : List Bool), List.length sp_1 = cap' - (x.3 + (1 : Nat)) → ∀ (sp_2 : List Int), List.length sp_2 = cap' - (x.3 + (1 : Nat)) → ∀ (sp_3 : List Int), List.length sp_3 = cap' - (x.3 + (1 : Nat)) → ∀ (sp_4 : List Go.Value), List.length sp_4 = cap' - (x.3 + (1 : Nat)) → SV.mp (2 : Nat) = SV.mp (2 : Nat) ∧ ∃ (y : OnX), y.1 < x.1 ∧ (((((0 : Nat) = (0 : Nat) ∧ (0 : Nat) = (0 : Nat)) ∧ s = s ∧ True) ∧ (b = b ∧ Value.bool i = Value.bool i ∧
  Value.map (Option.some mp) = Value.map (Option.some mp) ∧ Value.map (Option.some mq) = Value.map (Option.some mq) ∧ True ∧ True ∧ Value.slice (Option.some { block := b_4, off := base * (5 : Nat) }) (x.3 + (1 : Nat)) cap' = Value.slice Option.none (0 : Nat) (0 : Nat) ∧ True) ∧ (mw = mw ∧ kSh = kSh ∧ delM x.4 (Value.agg #[Value.int IntKind.u16 s, Value.bool Bool.false, Value.int IntKind.u32 x_1]) = y.4 ∧ (Option.none : Option (Go.Value × Int)) = Option.none) ∧ (mn = mn ∧ KShape.one (KS.int IntKind.u16) = KShape.one (KS.int IntKind.u16) ∧ updM x.5 (Value.int IntKind.u16 s) (Value.int IntKind.u32 (midF i
  (IntKind.wrap IntKind.u32 (x_1 + (1 : Int))))) = y.5 ∧ (Option.none : Option (Go.Value × Int)) = Option.none) ∧ G = G ∧ True) ∧ P0 y ∨ ((((0 : Nat) = (0 : Nat) ∧ (0 : Nat) = (0 : Nat)) ∧ s = s ∧ True) ∧ (b = b ∧ Value.bool i = Value.bool i ∧ Value.map (Option.some mp) = Value.map (Option.some mp) ∧ Value.map (Option.some mq) = Value.map (Option.some mq) ∧ True ∧ True ∧ ((0 : Nat) = y.2.3 ∧ x.3 + (1 : Nat) = y.3 ∧ cap' = y.2.5) ∧ True) ∧ (mw = mw ∧ kSh = kSh ∧ delM x.4 (Value.agg #[Value.int IntKind.u16 s, Value.bool Bool.false, Value.int IntKind.u32 x_1]) = y.4 ∧ (Option.none : Option (Go.Value × Int)) = Option.none) ∧ (mn = mn ∧
  KShape.one (KS.int IntKind.u16) = KShape.one (KS.int IntKind.u16) ∧ updM x.5 (Value.int IntKind.u16 s) (Value.int IntKind.u32 (midF i (IntKind.wrap IntKind.u32 (x_1 + (1 : Int))))) = y.5 ∧ (Option.none : Option (Go.Value × Int)) = Option.none) ∧ G = G ∧ (b_4 = y.2.1 ∧ base = y.2.2 ∧ cap' = y.2.4 ∧ List.take x.3 (List.drop x.2.3 x.2.6) ++ [x_2.1.1] ++ sp = y.2.6 ∧ List.take x.3 (List.drop x.2.3 x.2.7) ++ [x_2.1.2] ++ sp_1 = y.2.7 ∧ List.take x.3 (List.drop x.2.3 x.2.8) ++ [x_2.1.3] ++ sp_2 = y.2.8 ∧ List.take x.3 (List.drop x.2.3 x.2.9) ++ [x_2.1.4] ++ sp_3 = y.2.9 ∧ List.take x.3 (List.drop x.2.3 x.2.10) ++
  [Value.slice x_2.2.1 x_2.2.2 x_2.2.3] ++ sp_4 = y.2.10 ∧ True) ∧ True) ∧ P y)) from by
  simp only [eq_self, true_and, and_true, false_and, and_false, or_false, false_or, and_self, Nat.zero_add, Nat.add_zero, Nat.sub_zero, Nat.zero_mul, Nat.mul_one, Int.toNat_natCast, cond_true, cond_false, forall_const, implies_true, Nat.beq_refl, ne_eq, not_false_eq_true, not_true_eq_false, Classical.not_not, List.cons.injEq, List.append_nil, List.nil_append, Go.Value.int.injEq, Go.Value.bool.injEq, Go.Value.slice.injEq, Nat.le_refl, Nat.zero_le, Go.Sx.one_int, Go.Sx.one_bool, Go.Sx.one_slice, Go.Sx.one_ptr, Go.Sx.one_map, Int.cast_ofNat_Int, reduceCtorEq, Nat.reduceLeDiff, Nat.reduceMul, Nat.reduceAdd, Nat.reduceSub, Nat.reduceEqDiff, Int.reduceLE, Int.reduceLT, Int.reduceEq, Int.reduceAdd, Int.reduceSub, Int.reduceNeg, Int.reduceMul, Nat.reduceBEq]
  refine ⟨⟨k, ⟨0, 0, 0, 0, 0, [], [], [], [], []⟩, 0, fw, fn⟩, ⟨⟨rfl, rfl⟩, by rw [eP0]; exact ⟨w, next s, hS, hW, by rw [updN_id]; exact hN, hb⟩⟩, fun y hP => ?_, fun y hP => ?_⟩
  · rw [eP0] at hP
    rw [eP]
    obtain ⟨w, nn, hS, hW, hN, hb⟩ := hP
    have hnx : Value.int IntKind.u32 nn = (y.fn (Value.int IntKind.u16 s)).getD (Value.int IntKind.u32 0) := by
      have := hN.2 s
      rw [updN_self] at this
      exact this.symm
    refine ⟨nn, hnx, fun b1 => ?_⟩
    rcases hS.inv with ⟨hno, rfl, rfl, rfl⟩ | ⟨k', m, hk, hm, hke, hS⟩
    ·
      have hnone : y.fw (Value.agg #[Value.int IntKind.u16 s, Value.bool false, Value.int IntKind.u32 nn]) = none := SM.none hW (k := kK (s, false, nn)) fun a ha e => hno a ha (kK_inj e)
      rw [hnone]
      refine ⟨(Mg.zero, ⟨none, 0, 0⟩), rfl, fun b2 => ⟨fun _ => ?_, fun h => by cases h⟩⟩
      exact hR y.fw y.fn _ [] b1 b2 _ _ hW hN (.inl ⟨rfl, rfl, rfl⟩)
    ·
      obtain ⟨s0, hv, hbt, hsc⟩ := wait_get hW hm
      rw [hke] at hv
      have hv : y.fw (Value.agg #[Value.int IntKind.u16 s, Value.bool false, Value.int IntKind.u32 nn]) = some (Value.agg (m.cells s0).toArray) := hv
      rw [hv]
      refine ⟨(m, s0), rfl, fun b2 => ⟨fun h => absurd rfl h, fun _ => ?_⟩⟩
      have hlt := filt_lt hm
      rw [hke] at hlt
      refine fun b' cap' hc s1 e1 s2 e2 s3 e3 s4 e4 s5 e5 => ⟨⟨k', ⟨b', 0, 0, cap', cap', _, _, _, _, _⟩, 1, _, _⟩, by show k' < y.k; omega, ⟨⟨rfl, rfl, rfl⟩, rfl, rfl, rfl, rfl, rfl, rfl, rfl, rfl, rfl, rfl⟩, ?_⟩
      refine ⟨_, _, _, hS, wait_del hW _, ?_, mw_one hbt hsc hc e1 e2 e3 e4 e5, rfl, by show 1 + _ ≤ _; omega⟩
      have := next_upd hN s (midF i (IntKind.wrap .u32 (nn + 1)))
      rw [updN_twice] at this
      exact this
  · rw [eP] at hP ⊢
    obtain ⟨w, nn, r, hS, hW, hN, hX, hn, hb⟩ := hP
    have hnx : Value.int IntKind.u32 nn = (y.fn (Value.int IntKind.u16 s)).getD (Value.int IntKind.u32 0) := by
      have := hN.2 s
      rw [updN_self] at this
      exact this.symm
    refine ⟨nn, hnx, fun b1 => ?_⟩
    rcases hS.inv with ⟨hno, rfl, rfl, rfl⟩ | ⟨k', m, hk, hm, hke, hS⟩
    ·
      have hnone : y.fw (Value.agg #[Value.int IntKind.u16 s, Value.bool false, Value.int IntKind.u32 nn]) = none := SM.none hW (k := kK (s, false, nn)) fun a ha e => hno a ha (kK_inj e)
      rw [hnone]
      refine ⟨(Mg.zero, ⟨none, 0, 0⟩), rfl, fun b2 => ⟨fun _ => ?_, fun h => by cases h⟩⟩
      rw [hn]
      exact hR y.fw y.fn _ _ b1 b2 _ _ hW hN (.inr ⟨y.x, hX, rfl, rfl⟩)
    ·
      obtain ⟨s0, hv, hbt, hsc⟩ := wait_get hW hm
      rw [hke] at hv
      have hv : y.fw (Value.agg #[Value.int IntKind.u16 s, Value.bool false, Value.int IntKind.u32 nn]) = some (Value.agg (m.cells s0).toArray) := hv
      rw [hv]
      refine ⟨(m, s0), rfl, fun b2 => ⟨fun h => absurd rfl h, fun _ => ?_⟩⟩
      have hlt := filt_lt hm
      rw [hke] at hlt
      obtain ⟨⟨q1, q2, q3, q4, q5⟩, q6, q7, q8⟩ := hX
      have hX : y.x.ok G0 r := ⟨⟨q1, q2, q3, q4, q5⟩, q6, q7, q8⟩
      refine ⟨⟨by omega, q7⟩, by omega, by omega, fun b' base cap' hc hc2 s1 e1 s2 e2 s3 e3 s4 e4 s5 e5 => ⟨⟨k', ⟨b', base, 0, cap', cap', _, _, _, _, _⟩, y.n + 1, _, _⟩, by show k' < y.k; omega, ⟨⟨rfl, rfl, rfl⟩, rfl, rfl, rfl, rfl, rfl, rfl, rfl, rfl, rfl, rfl⟩, ?_⟩⟩
      refine ⟨_, _, _, hS, wait_del hW _, ?_, mw_app hX hn hbt hsc hc e1 e2 e3 e4 e5, by show y.n + 1 = _; rw [hn, List.length_append]; rfl, by rw [List.length_append]; show r.length + 1 + _ ≤ _; omega⟩
      have := next_upd hN s (midF i (IntKind.wrap .u32 (nn + 1)))
      rw [updN_twice] at this
      exact this
    )
end Go.Proofs.Ytpjikjhaljennaa
