/- Reset of a queue; slices.Contains of numbers. -/
import Derived.Test.YthkcfocoekonjaaSxRw
import Derived.Test.YthkcfocoekonjaaScE
set_option maxRecDepth 100000
set_option linter.unusedVariables false
set_option linter.unusedSimpArgs false
namespace Go.Proofs.Ythkcfocoekonjaa
open Go Go.Sx
attribute [local irreducible] Go.Sx.xrun

open Classical
/-! slices.Contains of numbers. -/
structure IxX where
  i : Nat
noncomputable def Ann.ix (P1 : Nat → Prop) (n : Nat) : FnAnn := ⟨[], [(2, ⟨IxX, [(fun σ y => ⟨σ.n, (8, .val (.int .i64 y.i)) :: keepE σ.env [0, 1, 7], σ.heap⟩, fun _ y => P1 y.i)], fun y => n - y.i⟩)]⟩
noncomputable def hasGoal (b base o N len cap : Nat) (xs : List Int) (v : Int) (P1 : Nat → Prop) (R : Prop → Prop) : Prop :=
  xrun Go.Proofs.Try.prog [] [(81, Ann.ix P1 len)] [] 9 [] 60 [.slc 0 o len cap, .val (.int .u16 v)] [.own b (.tab 27 base N [.ints .u16 xs])] fun s h => bOf s R ∧ owned (locs h) h = [(b, .tab 27 base N [.ints .u16 xs])]

noncomputable def hasT : Trans := fun args h K => match args with
  | [.slc m o len cap, .val (.int .u16 v)] => (match entAt h m with
    | some (.own b (.tab 27 base N [.ints .u16 xs])) => (o + len ≤ N ∧ len < 1000000) ∧ K (.prop (v ∈ (xs.drop o).take len)) h
    | _ => False)
  | _ => False

/-! Reset. -/
def Ann.setMI : List Ent → List MapEntry → List Nat → List Ent
  | [], _, _ => []
  | .own b (.obj (.map _ c)) :: r, es, se => .own b (.obj (.map ⟨es⟩ c)) :: Ann.setMI r es se
  | .own b (.obj (.mapIter m s _ l)) :: r, es, se => .own b (.obj (.mapIter m s ⟨se⟩ l)) :: Ann.setMI r es se
  | x :: r, es, se => x :: Ann.setMI r es se
structure MiX where
  es : List MapEntry
  se : List Nat
noncomputable def Ann.rs (I : List MapEntry → List MapEntry → List Nat → Prop) : FnAnn := ⟨[(13, .to (Int × Bool) fun p => .agg [.val (.int .u16 p.1), .val (.bool p.2)])], [(1, ⟨MiX, [(fun σ y => ⟨σ.n, keepE σ.env [0, 1, 9], Ann.setMI σ.heap y.es y.se⟩, fun x0 y => I x0.es y.es y.se)], fun y => unseen y.es y.se⟩)]⟩
noncomputable def rsGoal (b mi mn : Nat) (inter held : Bool) (tv : Sl) (fn : Value → Option Value) (all : Int) (w : Win) (n : Nat) (G : Blks) (I : List MapEntry → List MapEntry → List Nat → Prop) (R : Value → Blks → Prop) : Prop :=
  xrun Go.Proofs.Try.prog [(60, hasT)] [(25, Ann.rs I)] [([], (17, false))] 9 [] 25
    [.ptr 0 0 0, .slc 2 w.o n w.cap]
    [.own b (.cells 6 [.val (.bool inter), .val (.map (some mi)), .val (.slice tv.o tv.l tv.c), .val (.bool held), .mp 1, .val (.int .i64 all)] 123), .own mn (.map (.many [.int .u16, .bool]) fn none), .own w.b (.tab 27 w.base w.N [.ints .u16 w.zs]), .chunk G] fun s h => R (den (locs h) s) (owned (locs h) h)
noncomputable def rzGoal (b mi mn : Nat) (inter held : Bool) (tv : Sl) (fn : Value → Option Value) (all : Int) (G : Blks) (I : List MapEntry → List MapEntry → List Nat → Prop) (R : Value → Blks → Prop) : Prop :=
  xrun Go.Proofs.Try.prog [(60, hasT)] [(25, Ann.rs I)] [([], (17, true))] 9 [] 25
    [.ptr 0 0 0, .val (.slice none 0 0)]
    [.own b (.cells 6 [.val (.bool inter), .val (.map (some mi)), .val (.slice tv.o tv.l tv.c), .val (.bool held), .mp 1, .val (.int .i64 all)] 123), .own mn (.map (.many [.int .u16, .bool]) fn none), .chunk G] fun s h => R (den (locs h) s) (owned (locs h) h)

theorem has_goal (b base o N len cap : Nat) (xs : List Int) (v : Int) (P1 : Nat → Prop) (R : Prop → Prop) (hN : o + len ≤ N) (hl : len < 1000000) (hx : xs.length = N)
    (e1 : P1 = fun i => i ≤ len ∧ ∀ j, j < i → xs.getD (o + j) 0 ≠ v) (hR : ∀ p : Prop, (p ↔ v ∈ (xs.drop o).take len) → R p) : hasGoal b base o N len cap xs v P1 R :=
  Eq.mpr (by kernel_rfl) (show
  ∃ (x0 : IxX), ((((0 : Int) = (↑x0.1 : Int) ∧ (o = o ∧ len = len ∧ cap = cap) ∧ v = v ∧ (↑len : Int) = (↑len : Int) ∧ True) ∧ (b = b ∧ base = base ∧ N = N ∧ xs = xs ∧ True) ∧ True) ∧ P1 x0.1) ∧ ∀ (x : IxX), P1 x.1 → ((↑x.1 : Int) < (↑len : Int) → ((0 : Int) ≤ (↑x.1 : Int) ∧ (↑x.1 : Int) < (↑len : Int)) ∧ o + x.1 < N ∧ (v = List.getD xs (o + x.1) (0 : Int) → R ((0 : Int) ≤ (↑x.1 : Int)) ∧ [(b, Blk.tab (27 : Go.TypeId) base N [Col.ints IntKind.u16 xs])] = [(b, Blk.tab (27 : Go.TypeId) base N [Col.ints IntKind.u16 xs])]) ∧ (¬v = List.getD xs (o + x.1) (0 : Int) → ∃ (y : IxX),
  len - y.1 < len - x.1 ∧ ((IntKind.wrap IntKind.i64 ((↑x.1 : Int) + (1 : Int)) = (↑y.1 : Int) ∧ (o = o ∧ len = len ∧ cap = cap) ∧ v = v ∧ (↑len : Int) = (↑len : Int) ∧ True) ∧ (b = b ∧ base = base ∧ N = N ∧ xs = xs ∧ True) ∧ True) ∧ P1 y.1)) ∧ (¬(↑x.1 : Int) < (↑len : Int) → R ((0 : Int) ≤ (-1 : Int)) ∧ [(b, Blk.tab (27 : Go.TypeId) base N [Col.ints IntKind.u16 xs])] = [(b, Blk.tab (27 : Go.TypeId) base N [Col.ints IntKind.u16 xs])]) from by
  subst e1
  simp only [eq_self, true_and, and_true, false_and, and_false, or_false, false_or, and_self, Nat.zero_add, Nat.add_zero, Nat.sub_zero, Nat.zero_mul, Nat.mul_one, Int.toNat_natCast, cond_true, cond_false, forall_const, implies_true, Nat.beq_refl, ne_eq, not_false_eq_true, not_true_eq_false, Classical.not_not, List.cons.injEq, List.append_nil, List.nil_append, Go.Value.int.injEq, Go.Value.bool.injEq, Go.Value.slice.injEq, Nat.le_refl, Nat.zero_le, Go.Sx.one_int, Go.Sx.one_bool, Go.Sx.one_slice, Go.Sx.one_ptr, Go.Sx.one_map, Int.cast_ofNat_Int, reduceCtorEq, Nat.reduceLeDiff, Nat.reduceMul, Nat.reduceAdd, Nat.reduceSub, Nat.reduceEqDiff, Int.reduceLE, Int.reduceLT, Int.reduceEq, Int.reduceAdd, Int.reduceSub, Int.reduceNeg, Int.reduceMul, Nat.reduceBEq]
  have hget : ∀ j, j < len → ((xs.drop o).take len)[j]? = some (xs.getD (o + j) 0) := fun j hj => by
    rw [List.getElem?_take_of_lt hj, List.getElem?_drop, List.getD_eq_getElem?_getD, List.getElem?_eq_getElem (show o + j < xs.length by omega)]; rfl
  refine ⟨⟨0⟩, ⟨rfl, by show 0 ≤ len; omega, fun j hj => absurd hj (by show ¬ j < 0; omega)⟩, fun x ⟨h1, h2⟩ => ⟨fun hlt => ⟨⟨by omega, by omega⟩, by omega, fun he => hR _ ?_, fun hne => ⟨⟨x.1 + 1⟩, by show len - (x.1 + 1) < len - x.1; omega, ix_succ (by omega) hl, by show x.1 + 1 ≤ len; omega, fun j hj => ?_⟩⟩, fun hge => hR _ ?_⟩⟩
  · refine ⟨fun _ => ?_, fun _ => by omega⟩
    rw [he]
    exact List.mem_of_getElem? (hget x.1 (by omega))
  · by_cases hjx : j = x.1
    · subst hjx; exact fun e => hne e.symm
    · exact h2 j (by have : j < x.1 + 1 := hj; omega)
  · refine ⟨fun h => h.elim, fun h => ?_⟩
    obtain ⟨j, hj⟩ := List.getElem?_of_mem h
    have hjl : j < len := by
      have := (List.getElem?_eq_some_iff.1 hj).1
      rw [List.length_take] at this
      omega
    rw [hget j hjl] at hj
    exact absurd (Option.some.inj hj) (h2 j (by omega)))
theorem enters60 : Enters Go.Proofs.Try.prog 60 := ⟨Go.Proofs.Try.f60, Go.Proofs.Try.func60, by kernel_rfl, by kernel_rfl⟩
theorem hasT_sound : SoundT Go.Proofs.Try.prog 60 hasT := by
  intro F h w args vs K c ha hx
  refine ⟨enters60, ?_⟩
  unfold hasT at hx
  split at hx
  · rename_i m o len cap v
    split at hx
    · rename_i b base N xs he
      obtain ⟨⟨h1, h2⟩, hK⟩ := hx
      obtain ⟨⟨ob, hob, hk⟩, hloc⟩ := c.blk he rfl
      obtain ⟨arr, lo, hi, -, g1, -, -⟩ := hk []
      have hxl : xs.length = N := (g1 (.ints .u16 xs) (by simp)).1
      have hvs : vs = [.slice (some ⟨b, (base + o) * 1, none⟩) len cap, .int .u16 v] := by
        have := ha []
        simp only [denL, den, hloc []] at this
        rw [← this]
        simp [SBlk.base, SBlk.wd]
      subst hvs
      have ht := triple_of_runK (R := fun r L' => r = .bool (decide (v ∈ (xs.drop o).take len)) ∧ L' = [(b, .tab 27 base N [.ints .u16 xs])]) (h := [.own b (.tab 27 base N [.ints .u16 xs])]) (args := [.slc 0 o len cap, .val (.int .u16 v)]) (vs := [.slice (some ⟨b, (base + o) * 1, none⟩) len cap, .int .u16 v])
        (L := [(b, .tab 27 base N [.ints .u16 xs])]) (run_with no_contracts _ _ _ _ _) (fun r => rfl) (fun r => rfl) (by simp) (has_goal b base o N len cap xs v _ (fun p => p ↔ v ∈ (xs.drop o).take len) h1 h2 hxl rfl fun p hp => hp)
        fun s h' ⟨k1, k2⟩ => by
          obtain ⟨p, k3, k4⟩ := bOf_spec k1 (locs h')
          refine ⟨?_, k2⟩
          rw [k4]
          congr 1
          exact decide_eq_decide.2 k3
      refine frame_many (G := []) c [(m, .own b (.tab 27 base N [.ints .u16 xs]))] (by simp [he]) (by simp) (L := [(b, .tab 27 base N [.ints .u16 xs])]) (List.Perm.refl _)
        ht fun v' L' hr => ?_
      obtain ⟨rfl, rfl⟩ := hr
      refine ⟨.prop (v ∈ (xs.drop o).take len), [(m, .own b (.tab 27 base N [.ints .u16 xs]))], [], [], ?_, rfl, ?_, fun r => ?_, by simp, by simp, fun r => by rw [den]; congr 1; exact decide_eq_decide.2 Iff.rfl⟩
      · rw [put_self _ _ (by simp [he]), List.append_nil]; exact hK
      · intro q hq
        simp at hq
        subst hq
        exact ⟨_, he, rfl⟩
      · simp only [blksOf, Ent.blocks, owned, List.nil_append, List.append_nil]
        exact List.Perm.refl _
    · exact hx.elim
  · exact hx.elim
theorem has_sound : ∀ p ∈ [(60, hasT)], SoundT Go.Proofs.Try.prog p.1 p.2 := by
  intro p hp
  cases List.mem_singleton.1 hp
  exact hasT_sound

/-! Reset. -/
theorem keyN {k : Value} (h : (KShape.many [.int .u16, .bool]).is k) : ∃ p : Int × Bool, Value.agg #[.int .u16 p.1, .bool p.2] = k := by
  cases k <;> simp only [KShape.is] at h
  rename_i cs
  obtain ⟨l⟩ := cs
  match l, h with
  | [.int k' a, .bool c], h =>
    obtain ⟨h1, -⟩ := h
    simp only [KS.is] at h1
    subst h1
    exact ⟨(a, c), rfl⟩
theorem rs_goal (b mi mn : Nat) (inter held : Bool) (tv : Sl) (fn : Value → Option Value) (all : Int) (w : Win) (n : Nat) (G : Blks) (I : List MapEntry → List MapEntry → List Nat → Prop) (R : Value → Blks → Prop) (hn : 0 < n) (hw : w.o + n ≤ w.N ∧ n < 1000000)
    (bad : Value → Prop) (hb : bad = fun k => ∃ s : Int × Bool, k = kN s ∧ s.1 ∈ (w.zs.drop w.o).take n) (hI : I = RangeI bad)
    (hR : ∀ (es : List MapEntry) (clock bi : Nat) (o : Obj), GoodMap (.many [.int .u16, .bool]) ⟨es⟩ clock → (getM es = fun k => if bad k then none else fn k) →
      R (.tuple #[]) ((b, .cells [.bool inter, .map (some mi), .slice tv.o tv.l tv.c, .bool held, .map (some mn), .int .i64 all] 123) :: (mn, .obj (.map ⟨es⟩ clock)) :: (w.b, .tab 27 w.base w.N [.ints .u16 w.zs]) :: (G ++ [(bi, Blk.obj o)]))) :
    rsGoal b mi mn inter held tv fn all w n G I R :=
  Eq.mpr (by kernel_rfl) (show
  ∀ (es : List Go.MapEntry) (clock : Nat), GoodMap (KShape.many [KS.int IntKind.u16, KS.bool]) { toList := es } clock → fn = getM es → ∀ (bi : Nat), ∃ (x0 : MiX), (((((0 : Nat) = (0 : Nat) ∧ (0 : Nat) = (0 : Nat)) ∧ (w.3 = w.3 ∧ n = n ∧ w.5 = w.5) ∧ ((0 : Nat) = (0 : Nat) ∧ (0 : Nat) = (0 : Nat)) ∧ True) ∧ (b = b ∧ Value.bool inter = Value.bool inter ∧ Value.map (Option.some mi) = Value.map (Option.some mi) ∧ Value.slice tv.1 tv.2 tv.3 = Value.slice tv.1 tv.2 tv.3 ∧ Value.bool held = Value.bool held ∧ True ∧ all = all ∧ True) ∧
  (mn = mn ∧ Go.Obj.map { toList := es } clock = Go.Obj.map { toList := x0.1 } clock) ∧ (w.1 = w.1 ∧ w.2 = w.2 ∧ w.4 = w.4 ∧ w.6 = w.6 ∧ True) ∧ G = G ∧ (bi = bi ∧ Go.Obj.mapIter (Option.some mn) clock #[] clock = Go.Obj.mapIter (Option.some mn) clock { toList := x0.2 } clock) ∧ True) ∧ I x0.1 x0.1 x0.2) ∧ ∀ (x : MiX), I x0.1 x.1 x.2 → mn = mn ∧ (x.2 = [] ∨ x.1 = [] ∨ ∃ (e : Go.MapEntry), e ∈ x.1 ∧ e.3 < clock) ∧ ((∀ (e : Go.MapEntry), e ∈ x.1 → e.3 < clock → e.3 ∈ x.2) → R (Value.tuple #[]) ((b, Blk.cells
  [Value.bool inter, Value.map (Option.some mi), Value.slice tv.1 tv.2 tv.3, Value.bool held, Value.map (Option.some mn), Value.int IntKind.i64 all] (123 : Go.TypeId)) :: (mn, Blk.obj (Go.Obj.map { toList := x.1 } clock)) :: (w.1, Blk.tab (27 : Go.TypeId) w.2 w.4 [Col.ints IntKind.u16 w.6]) :: (G ++ [(bi, Blk.obj (Go.Obj.mapIter (Option.some mn) clock { toList := x.2 } clock))]))) ∧ ∀ (e : Go.MapEntry), e ∈ x.1 → ¬e.3 ∈ x.2 → mn = mn ∧ clock = clock ∧ List.Nodup (List.map (fun (x : Go.MapEntry) => x.3) x.1) ∧ ∃ (e_1 : Go.MapEntry), e_1 ∈ x.1 ∧ List.getLast? (x.2 ++ [e.3]) = Option.some e_1.3 ∧
  ∃ (x_1 : Int × Bool), (∀ (r : List (Nat × Nat × Nat)), Value.agg #[Value.int IntKind.u16 x_1.1, Value.bool x_1.2] = e_1.1) ∧ ∀ (b_1 : Nat), Value.oneCell' (Value.int IntKind.u16 x_1.1) = Bool.true ∧ Value.oneCell' (Value.bool x_1.2) = Bool.true ∧ ¬(↑n : Int) = (0 : Int) ∧ (w.3 + n ≤ w.4 ∧ n < (1000000 : Nat)) ∧ (x_1.1 ∈ List.take n (List.drop w.3 w.6) → (∀ (e : Go.MapEntry), e ∈ x.1 → KShape.is (KShape.many [KS.int IntKind.u16, KS.bool]) e.1) ∧ List.Nodup (List.map (fun (x : Go.MapEntry) => x.1) x.1) ∧ ∃ (y : MiX), unseen y.1 y.2 < unseen x.1 x.2 ∧
  ((((0 : Nat) = (0 : Nat) ∧ (0 : Nat) = (0 : Nat)) ∧ (w.3 = w.3 ∧ n = n ∧ w.5 = w.5) ∧ ((0 : Nat) = (0 : Nat) ∧ (0 : Nat) = (0 : Nat)) ∧ True) ∧ (b = b ∧ Value.bool inter = Value.bool inter ∧ Value.map (Option.some mi) = Value.map (Option.some mi) ∧ Value.slice tv.1 tv.2 tv.3 = Value.slice tv.1 tv.2 tv.3 ∧ Value.bool held = Value.bool held ∧ True ∧ all = all ∧ True) ∧ (mn = mn ∧ Go.Obj.map { toList := List.filter (fun (e : Go.MapEntry) => Decidable.decide (e.1 ≠ Value.agg #[Value.int IntKind.u16 x_1.1, Value.bool x_1.2])) x.1 } clock = Go.Obj.map { toList := y.1 } clock) ∧
  (w.1 = w.1 ∧ w.2 = w.2 ∧ w.4 = w.4 ∧ w.6 = w.6 ∧ True) ∧ G = G ∧ (bi = bi ∧ Go.Obj.mapIter (Option.some mn) clock { toList := x.2 ++ [e.3] } clock = Go.Obj.mapIter (Option.some mn) clock { toList := y.2 } clock) ∧ True) ∧ I x0.1 y.1 y.2) ∧ (¬x_1.1 ∈ List.take n (List.drop w.3 w.6) → ∃ (y : MiX), unseen y.1 y.2 < unseen x.1 x.2 ∧ ((((0 : Nat) = (0 : Nat) ∧ (0 : Nat) = (0 : Nat)) ∧ (w.3 = w.3 ∧ n = n ∧ w.5 = w.5) ∧ ((0 : Nat) = (0 : Nat) ∧ (0 : Nat) = (0 : Nat)) ∧ True) ∧ (b = b ∧ Value.bool inter = Value.bool inter ∧ Value.map (Option.some mi) = Value.map (Option.some mi) ∧
  Value.slice tv.1 tv.2 tv.3 = Value.slice tv.1 tv.2 tv.3 ∧ Value.bool held = Value.bool held ∧ True ∧ all = all ∧ True) ∧ (mn = mn ∧ Go.Obj.map { toList := x.1 } clock = Go.Obj.map { toList := y.1 } clock) ∧ (w.1 = w.1 ∧ w.2 = w.2 ∧ w.4 = w.4 ∧ w.6 = w.6 ∧ True) ∧ G = G ∧ (bi = bi ∧ Go.Obj.mapIter (Option.some mn) clock { toList := x.2 ++ [e.3] } clock = Go.Obj.mapIter (Option.some mn) clock { toList := y.2 } clock) ∧ True) ∧ I x0.1 y.1 y.2) from by
  subst hI
  simp only [eq_self, true_and, and_true, false_and, and_false, or_false, false_or, and_self, Nat.zero_add, Nat.add_zero, Nat.sub_zero, Nat.zero_mul, Nat.mul_one, Int.toNat_natCast, cond_true, cond_false, forall_const, implies_true, Nat.beq_refl, ne_eq, not_false_eq_true, not_true_eq_false, Classical.not_not, List.cons.injEq, List.append_nil, List.nil_append, Go.Value.int.injEq, Go.Value.bool.injEq, Go.Value.slice.injEq, Nat.le_refl, Nat.zero_le, Go.Sx.one_int, Go.Sx.one_bool, Go.Sx.one_slice, Go.Sx.one_ptr, Go.Sx.one_map, Int.cast_ofNat_Int, reduceCtorEq, Nat.reduceLeDiff, Nat.reduceMul, Nat.reduceAdd, Nat.reduceSub, Nat.reduceEqDiff, Int.reduceLE, Int.reduceLT, Int.reduceEq, Int.reduceAdd, Int.reduceSub, Int.reduceNeg, Int.reduceMul, Nat.reduceBEq]
  intro es clock hg hfn bi
  subst hfn
  refine ⟨⟨es, []⟩, ⟨⟨rfl, rfl⟩, RangeI.start bad es⟩, fun x i => ⟨i.safe hg, fun hd => hR _ clock bi _ (i.sound hg) (i.done hg hd), fun e he hs => ⟨(i.sound hg).born, e, he, by simp, ?_⟩⟩⟩
  obtain ⟨p, hp⟩ := keyN ((i.sound hg).keys e he)
  have hbad : bad e.key ↔ p.1 ∈ (w.zs.drop w.o).take n := by
    rw [hb]
    refine ⟨fun ⟨s, h1, h2⟩ => ?_, fun h => ⟨p, hp.symm, h⟩⟩
    have : s = p := kN_inj (by rw [← h1, ← hp]; rfl)
    rw [← this]; exact h2
  refine ⟨p, hp, by omega, hw, fun hin => ⟨(i.sound hg).keys, (i.sound hg).nodup, ⟨x.1.filter fun x => decide (x.key ≠ e.key), x.2 ++ [e.born]⟩, unseen_lt (List.filter_sublist) he hs, ⟨?_, rfl⟩, i.del hg he (hbad.2 hin)⟩, fun hin => ⟨⟨x.1, x.2 ++ [e.born]⟩, unseen_lt (List.Sublist.refl _) he hs, ⟨rfl, rfl⟩, i.keep hg he fun h => hin (hbad.1 h)⟩⟩
  rw [hp])
theorem rz_goal (b mi mn : Nat) (inter held : Bool) (tv : Sl) (fn : Value → Option Value) (all : Int) (G : Blks) (I : List MapEntry → List MapEntry → List Nat → Prop) (R : Value → Blks → Prop)
    (hI : I = RangeI fun _ => True)
    (hR : ∀ (es : List MapEntry) (clock bi : Nat) (o : Obj), GoodMap (.many [.int .u16, .bool]) ⟨es⟩ clock → (getM es = fun k => none) →
      R (.tuple #[]) ((b, .cells [.bool inter, .map (some mi), .slice tv.o tv.l tv.c, .bool held, .map (some mn), .int .i64 all] 123) :: (mn, .obj (.map ⟨es⟩ clock)) :: (G ++ [(bi, Blk.obj o)]))) :
    rzGoal b mi mn inter held tv fn all G I R :=
  Eq.mpr (by kernel_rfl) (show
  ∀ (es : List Go.MapEntry) (clock : Nat), GoodMap (KShape.many [KS.int IntKind.u16, KS.bool]) { toList := es } clock → fn = getM es → ∀ (bi : Nat), ∃ (x0 : MiX), (((((0 : Nat) = (0 : Nat) ∧ (0 : Nat) = (0 : Nat)) ∧ Value.slice Option.none (0 : Nat) (0 : Nat) = Value.slice Option.none (0 : Nat) (0 : Nat) ∧ ((0 : Nat) = (0 : Nat) ∧ (0 : Nat) = (0 : Nat)) ∧ True) ∧ (b = b ∧ Value.bool inter = Value.bool inter ∧ Value.map (Option.some mi) = Value.map (Option.some mi) ∧ Value.slice tv.1 tv.2 tv.3 = Value.slice tv.1 tv.2 tv.3 ∧ Value.bool held = Value.bool held ∧ True ∧ all = all ∧ True) ∧
  (mn = mn ∧ Go.Obj.map { toList := es } clock = Go.Obj.map { toList := x0.1 } clock) ∧ G = G ∧ (bi = bi ∧ Go.Obj.mapIter (Option.some mn) clock #[] clock = Go.Obj.mapIter (Option.some mn) clock { toList := x0.2 } clock) ∧ True) ∧ I x0.1 x0.1 x0.2) ∧ ∀ (x : MiX), I x0.1 x.1 x.2 → mn = mn ∧ (x.2 = [] ∨ x.1 = [] ∨ ∃ (e : Go.MapEntry), e ∈ x.1 ∧ e.3 < clock) ∧ ((∀ (e : Go.MapEntry), e ∈ x.1 → e.3 < clock → e.3 ∈ x.2) → R (Value.tuple #[]) ((b, Blk.cells
  [Value.bool inter, Value.map (Option.some mi), Value.slice tv.1 tv.2 tv.3, Value.bool held, Value.map (Option.some mn), Value.int IntKind.i64 all] (123 : Go.TypeId)) :: (mn, Blk.obj (Go.Obj.map { toList := x.1 } clock)) :: (G ++ [(bi, Blk.obj (Go.Obj.mapIter (Option.some mn) clock { toList := x.2 } clock))]))) ∧ ∀ (e : Go.MapEntry), e ∈ x.1 → ¬e.3 ∈ x.2 → mn = mn ∧ clock = clock ∧ List.Nodup (List.map (fun (x : Go.MapEntry) => x.3) x.1) ∧ ∃ (e_1 : Go.MapEntry), e_1 ∈ x.1 ∧ List.getLast? (x.2 ++ [e.3]) = Option.some e_1.3 ∧ ∃ (x_1 : Int × Bool),
  (∀ (r : List (Nat × Nat × Nat)), Value.agg #[Value.int IntKind.u16 x_1.1, Value.bool x_1.2] = e_1.1) ∧ ∀ (b_1 : Nat), Value.oneCell' (Value.int IntKind.u16 x_1.1) = Bool.true ∧ Value.oneCell' (Value.bool x_1.2) = Bool.true ∧ (↑(0 : Nat) : Int) = (0 : Int) ∧ (∀ (e : Go.MapEntry), e ∈ x.1 → KShape.is (KShape.many [KS.int IntKind.u16, KS.bool]) e.1) ∧ List.Nodup (List.map (fun (x : Go.MapEntry) => x.1) x.1) ∧ ∃ (y : MiX), unseen y.1 y.2 < unseen x.1 x.2 ∧ ((((0 : Nat) = (0 : Nat) ∧ (0 : Nat) = (0 : Nat)) ∧
  Value.slice Option.none (0 : Nat) (0 : Nat) = Value.slice Option.none (0 : Nat) (0 : Nat) ∧ ((0 : Nat) = (0 : Nat) ∧ (0 : Nat) = (0 : Nat)) ∧ True) ∧ (b = b ∧ Value.bool inter = Value.bool inter ∧ Value.map (Option.some mi) = Value.map (Option.some mi) ∧ Value.slice tv.1 tv.2 tv.3 = Value.slice tv.1 tv.2 tv.3 ∧ Value.bool held = Value.bool held ∧ True ∧ all = all ∧ True) ∧ (mn = mn ∧ Go.Obj.map { toList := List.filter (fun (e : Go.MapEntry) => Decidable.decide (e.1 ≠ Value.agg #[Value.int IntKind.u16 x_1.1, Value.bool x_1.2])) x.1 } clock = Go.Obj.map { toList := y.1 } clock) ∧ G = G ∧
  (bi = bi ∧ Go.Obj.mapIter (Option.some mn) clock { toList := x.2 ++ [e.3] } clock = Go.Obj.mapIter (Option.some mn) clock { toList := y.2 } clock) ∧ True) ∧ I x0.1 y.1 y.2 from by
  subst hI
  simp only [eq_self, true_and, and_true, false_and, and_false, or_false, false_or, and_self, Nat.zero_add, Nat.add_zero, Nat.sub_zero, Nat.zero_mul, Nat.mul_one, Int.toNat_natCast, cond_true, cond_false, forall_const, implies_true, Nat.beq_refl, ne_eq, not_false_eq_true, not_true_eq_false, Classical.not_not, List.cons.injEq, List.append_nil, List.nil_append, Go.Value.int.injEq, Go.Value.bool.injEq, Go.Value.slice.injEq, Nat.le_refl, Nat.zero_le, Go.Sx.one_int, Go.Sx.one_bool, Go.Sx.one_slice, Go.Sx.one_ptr, Go.Sx.one_map, Int.cast_ofNat_Int, reduceCtorEq, Nat.reduceLeDiff, Nat.reduceMul, Nat.reduceAdd, Nat.reduceSub, Nat.reduceEqDiff, Int.reduceLE, Int.reduceLT, Int.reduceEq, Int.reduceAdd, Int.reduceSub, Int.reduceNeg, Int.reduceMul, Nat.reduceBEq]
  intro es clock hg hfn bi
  subst hfn
  refine ⟨⟨es, []⟩, ⟨⟨rfl, rfl⟩, RangeI.start _ es⟩, fun x i => ⟨i.safe hg, fun hd => hR _ clock bi _ (i.sound hg) ((i.done hg hd).trans (by funext k; simp)), fun e he hs => ⟨(i.sound hg).born, e, he, by simp, ?_⟩⟩⟩
  obtain ⟨p, hp⟩ := keyN ((i.sound hg).keys e he)
  refine ⟨p, hp, (i.sound hg).keys, (i.sound hg).nodup, ⟨x.1.filter fun x => decide (x.key ≠ e.key), x.2 ++ [e.born]⟩, unseen_lt (List.filter_sublist) he hs, ⟨?_, rfl⟩, i.del hg he trivial⟩
  rw [hp])
def rsF (nums : Int × Bool → Option Int) (l : List Int) : Int × Bool → Option Int := fun k => if l = [] ∨ k.1 ∈ l then none else nums k
theorem nums_rs {nums : Int × Bool → Option Int} {m m' : Value → Option Value} (h : NumsAt nums m) {l : List Int} {bad : Value → Prop} (hb : ∀ s, bad (kN s) ↔ (l = [] ∨ s.1 ∈ l)) (hm : m' = fun k => if bad k then none else m k) : NumsAt (rsF nums l) m' := by
  subst hm
  refine ⟨fun k hk => ?_, fun s => ?_⟩
  · by_cases hbk : bad k
    · simp [hbk] at hk
    · simp only [if_neg hbk] at hk
      exact h.1 k hk
  · show (if bad (kN s) then none else m (kN s)) = (rsF nums l s).map _
    unfold rsF
    by_cases hbk : bad (kN s)
    · rw [if_pos hbk, if_pos ((hb s).1 hbk)]; rfl
    · rw [if_neg hbk, if_neg (fun h => hbk ((hb s).2 h)), h.2]
structure RsX where
  q : SQ
  b : Nat
  l : List Int
  v : Value
def RsPre (x : RsX) (vs : List Value) (L : Blks) : Prop := vs = [.pointer (some ⟨x.b, 0, none⟩), x.v] ∧ x.l.length < 1000000 ∧ ((x.l = [] ∧ x.v = .slice none 0 0 ∧ SQAt x.q x.b L) ∨ (x.l ≠ [] ∧ ∃ La Lb, L.Perm (La ++ Lb) ∧ SQAt x.q x.b La ∧ ∃ Lc, Sees Lb Lc ∧ WinAt 27 .u16 x.l x.v Lc))
def RsPost (x : RsX) (_ : Unit) (L' : Blks) : Prop := SQAt { x.q with nums := rsF x.q.nums x.l } x.b L'
noncomputable def resnT : Trans := absT (chunkR (X := RsX) (A := Unit) (fun _ => .tup []) RsPre RsPost)
theorem enters25 : Enters Go.Proofs.Try.prog 25 := ⟨Go.Proofs.Try.f25, Go.Proofs.Try.func25, by kernel_rfl, by kernel_rfl⟩
theorem owns_mid {w : World} {A B C : Blks} {p : Nat × Blk} (h : Owns w (A ++ p :: B)) : Owns w (p :: (A ++ B)) := h.perm List.perm_middle
def RzR (q : SQ) (b mi mn : Nat) (s : Sl) (G : Blks) (v : Value) (L' : Blks) : Prop := v = .tuple #[] ∧ ∃ (es : List MapEntry) (clock bi : Nat) (o : Obj), GoodMap (.many [.int .u16, .bool]) ⟨es⟩ clock ∧ (getM es = fun k => none) ∧
  L' = (b, .cells [.bool q.inter, .map (some mi), .slice s.o s.l s.c, .bool q.held, .map (some mn), .int .i64 q.all] 123) :: (mn, .obj (.map ⟨es⟩ clock)) :: (G ++ [(bi, Blk.obj o)])
def RsR (q : SQ) (b mi mn : Nat) (s : Sl) (y : Win) (n : Nat) (fn : Value → Option Value) (G : Blks) (v : Value) (L' : Blks) : Prop := v = .tuple #[] ∧ ∃ (es : List MapEntry) (clock bi : Nat) (o : Obj), GoodMap (.many [.int .u16, .bool]) ⟨es⟩ clock ∧
  (getM es = fun k => if (∃ s : Int × Bool, k = kN s ∧ s.1 ∈ (y.zs.drop y.o).take n) then none else fn k) ∧
  L' = (b, .cells [.bool q.inter, .map (some mi), .slice s.o s.l s.c, .bool q.held, .map (some mn), .int .i64 q.all] 123) :: (mn, .obj (.map ⟨es⟩ clock)) :: (y.b, .tab 27 y.base y.N [.ints .u16 y.zs]) :: (G ++ [(bi, Blk.obj o)])
theorem resnT_sound : SoundT Go.Proofs.Try.prog 25 resnT := absT_sound (chunkR_sound (val := fun _ => .tuple #[]) enters25 (fun a ρ => rfl) (fun a => by simp) fun x vs L ⟨h1, hl, h2⟩ => by
  subst h1
  rcases h2 with ⟨h2, h3, h4⟩ | ⟨h2, La, Lb, h3, h4, Lc, hsee, y, y1, y2, y3⟩
  · rw [h3]
    obtain ⟨mi, mn, tv, fi, fn, Lt, Li, hp, k1, k2, k3⟩ := h4
    obtain ⟨s, rfl, -⟩ := winNil_sl k1
    refine Triple.weak (Triple.mono (triple_of_run (R := RzR x.q x.b mi mn s ((mi, .map (.one (.int .u16)) fi none) :: (Lt ++ Li))) (h := [.own x.b (.cells 6 [.val (.bool x.q.inter), .val (.map (some mi)), .val (.slice s.o s.l s.c), .val (.bool x.q.held), .mp 1, .val (.int .i64 x.q.all)] 123), .own mn (.map (.many [.int .u16, .bool]) fn none), .chunk ((mi, .map (.one (.int .u16)) fi none) :: (Lt ++ Li))])
      (args := [.ptr 0 0 0, .val (.slice none 0 0)]) (L := (x.b, .cells [.bool x.q.inter, .map (some mi), .slice s.o s.l s.c, .bool x.q.held, .map (some mn), .int .i64 x.q.all] 123) :: (mn, .map (.many [.int .u16, .bool]) fn none) :: ((mi, .map (.one (.int .u16)) fi none) :: (Lt ++ Li)))
      (run_with has_sound _ _ _ _ _) (fun r => rfl) (fun r => by simp [owned, Ent.blocks, SBlk.den, denL, den, locAt, locs, Ent.loc]) (by simp) (rz_goal x.b mi mn x.q.inter x.q.held s fn x.q.all _ _ _ rfl fun es clock bi o g1 g2 => ⟨rfl, es, clock, bi, o, g1, g2, rfl⟩)) ?_ fun v L' h => h) ?_
    · refine hp.trans ?_
      refine List.Perm.cons _ (List.Perm.swap _ _ _)
    · rintro v L' ⟨rfl, es, clock, bi, o, g1, g2, rfl⟩
      refine ⟨(mn, .map (.many [.int .u16, .bool]) (getM es) none) :: (x.b, .cells [.bool x.q.inter, .map (some mi), .slice s.o s.l s.c, .bool x.q.held, .map (some mn), .int .i64 x.q.all] 123) :: (((mi, .map (.one (.int .u16)) fi none) :: (Lt ++ Li)) ++ [(bi, Blk.obj o)]), ⟨(), rfl, ?_⟩, fun F w ho => (ho.perm (List.Perm.swap _ _ _)).close g1⟩
      refine ⟨mi, mn, _, fi, getM es, Lt, Li ++ [(bi, Blk.obj o)], ?_, k1, k2.more _, nums_rs k3 (bad := fun _ => True) (fun s => by simp [h2]) (by rw [g2]; simp)⟩
      refine perm_of_sums fun f => ?_
      simp only [List.map_append, List.map_cons, List.map_nil, List.sum_append, List.sum_cons, List.sum_nil, List.append_assoc, List.cons_append, List.nil_append] at *
      omega
  · obtain ⟨mi, mn, tv, fi, fn, Lt, Li, hp, k1, k2, k3⟩ := h4
    obtain ⟨s, rfl, -⟩ := winNil_sl k1
    have hy := y1
    obtain ⟨w1, w2, w3, w4⟩ := hy
    have hpos : 0 < x.l.length := List.length_pos_iff.2 h2
    rw [y2]
    refine Triple.see (L := La ++ Lc) ?_ ((Sees.perm h3).trans (hsee.left La))
    refine Triple.weak (Triple.mono (triple_of_run (R := RsR x.q x.b mi mn s y x.l.length fn ((mi, .map (.one (.int .u16)) fi none) :: (Lt ++ (Li ++ y.G)))) (h := [.own x.b (.cells 6 [.val (.bool x.q.inter), .val (.map (some mi)), .val (.slice s.o s.l s.c), .val (.bool x.q.held), .mp 1, .val (.int .i64 x.q.all)] 123), .own mn (.map (.many [.int .u16, .bool]) fn none), .own y.b (.tab 27 y.base y.N [.ints .u16 y.zs]), .chunk ((mi, .map (.one (.int .u16)) fi none) :: (Lt ++ (Li ++ y.G)))])
      (args := [.ptr 0 0 0, .slc 2 y.o x.l.length y.cap]) (L := (x.b, .cells [.bool x.q.inter, .map (some mi), .slice s.o s.l s.c, .bool x.q.held, .map (some mn), .int .i64 x.q.all] 123) :: (mn, .map (.many [.int .u16, .bool]) fn none) :: (y.b, .tab 27 y.base y.N [.ints .u16 y.zs]) :: ((mi, .map (.one (.int .u16)) fi none) :: (Lt ++ (Li ++ y.G))))
      (run_with has_sound _ _ _ _ _) (fun r => rfl) (fun r => by simp [owned, Ent.blocks, SBlk.den, denL, den, locAt, locs, Ent.loc]) (by simp) (rs_goal x.b mi mn x.q.inter x.q.held s fn x.q.all y x.l.length _ _ _ hpos ⟨by omega, hl⟩ _ rfl rfl fun es clock bi o g1 g2 => ⟨rfl, es, clock, bi, o, g1, g2, rfl⟩)) ?_ fun v L' h => h) ?_
    · refine perm_of_sums fun f => ?_
      have e1 := perm_sum hp f
      have e2 := perm_sum y3 f
      simp only [List.map_append, List.map_cons, List.map_nil, List.sum_append, List.sum_cons, List.sum_nil, List.append_assoc, List.cons_append, List.nil_append] at *
      omega
    · rintro v L' ⟨rfl, es, clock, bi, o, g1, g2, rfl⟩
      refine ⟨(mn, .map (.many [.int .u16, .bool]) (getM es) none) :: (x.b, .cells [.bool x.q.inter, .map (some mi), .slice s.o s.l s.c, .bool x.q.held, .map (some mn), .int .i64 x.q.all] 123) :: (y.b, .tab 27 y.base y.N [.ints .u16 y.zs]) :: (((mi, .map (.one (.int .u16)) fi none) :: (Lt ++ (Li ++ y.G))) ++ [(bi, Blk.obj o)]), ⟨(), rfl, ?_⟩, fun F w ho => (ho.perm (List.Perm.swap _ _ _)).close g1⟩
      rw [w4] at g2
      refine ⟨mi, mn, _, fi, getM es, Lt, Li ++ ((y.b, .tab 27 y.base y.N [.ints .u16 y.zs]) :: (y.G ++ [(bi, Blk.obj o)])), ?_, k1, k2.more _, nums_rs k3 (l := x.l) (bad := fun k => ∃ s : Int × Bool, k = kN s ∧ s.1 ∈ x.l) (fun s => ?_) g2⟩
      · refine perm_of_sums fun f => ?_
        simp only [List.map_append, List.map_cons, List.map_nil, List.sum_append, List.sum_cons, List.sum_nil, List.append_assoc, List.cons_append, List.nil_append] at *
        omega
      · refine ⟨fun ⟨s', e1, e2⟩ => .inr (by rw [kN_inj e1]; exact e2), fun h => ?_⟩
        rcases h with h | h
        · exact absurd h h2
        · exact ⟨s, rfl, h⟩)
end Go.Proofs.Ythkcfocoekonjaa
