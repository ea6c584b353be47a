/- Readers of bytes. -/
import Derived.Test.YtpjikjhaljennaaCkC
set_option maxRecDepth 100000
set_option linter.unusedVariables false
set_option linter.unusedSimpArgs false
namespace Go.Proofs.Ytpjikjhaljennaa
open Go Go.Sx
attribute [local irreducible] Go.Sx.xrun

structure NrX where
  i : Nat
  z : Int
noncomputable def Ann.nr (k : Nat) (P : Nat → Int → Prop) : FnAnn := ⟨[],
  [(3, ⟨NrX, [(fun σ y => ⟨σ.n, (12, .val (.int .i64 y.i)) :: (5, .val (.int .u32 y.z)) :: keepE σ.env [10, 11], σ.heap⟩, fun _ y => P y.i y.z)], fun y => k - y.i⟩)]⟩
noncomputable def nrGoal (rb bb base N o l cap k : Nat) (ys : List Int) (P : Nat → Int → Prop) (R : Value → Blks → Prop) : Prop :=
  xrun Go.Proofs.Try.prog [(44, clone1T)] [(93, Ann.nr k P)] [] 9 [] 93 [.ptr 0 0 0, .val (.int .i64 k)] [.own rb (.cells 2 [.slc 1 o l cap, .ff] 177), .own bb (.tab 5 base N [.ints .u8 ys])] fun s h => R (den (locs h) s) (owned (locs h) h)
noncomputable def nwGoal (o : Option Addr) (l c : Nat) (L : Blks) (R : Value → Blks → Prop) : Prop :=
  xrun Go.Proofs.Try.prog [(44, clone1T)] [] [] 9 [] 69 [.sl o l c] [.chunk L] fun s h => R (den (locs h) s) (owned (locs h) h)
/-- A number of bytes. -/
def numF (bs : List Int) : Int := bs.foldl (fun v b => v * 256 + b) 0
theorem numF_snoc (bs : List Int) (b : Int) : numF (bs ++ [b]) = numF bs * 256 + b := by unfold numF; rw [List.foldl_append]; rfl
theorem numF_lt {bs : List Int} (ho : Octets bs) : ∀ i, i ≤ bs.length → 0 ≤ numF (bs.take i) ∧ numF (bs.take i) < 256 ^ i
  | 0, _ => ⟨by simp [numF], by simp [numF]⟩
  | i + 1, hi => by
    obtain ⟨h1, h2⟩ := numF_lt ho i (by omega)
    obtain ⟨b, hb, e⟩ := octet_get ho i
    rw [take_succ_getD (by omega), numF_snoc, e, Int.pow_succ]
    constructor <;> omega
theorem num_step {v b : Int} (h1 : 0 ≤ v ∧ v < 16777216) (h2 : 0 ≤ b ∧ b < 256) : ior .u32 (IntKind.wrap .u32 (v * 2 ^ 8)) (IntKind.wrap .u32 b) = v * 256 + b := by
  obtain ⟨n, rfl⟩ : ∃ n : Nat, v = n := ⟨v.toNat, by omega⟩
  obtain ⟨m, rfl⟩ : ∃ m : Nat, b = m := ⟨b.toNat, by omega⟩
  have e1 : IntKind.wrap .u32 ((n : Int) * 2 ^ 8) = ((2 ^ 8 * n : Nat) : Int) := by rw [wrap_u32a]; omega
  have e2 : IntKind.wrap .u32 (m : Int) = (m : Int) := by rw [wrap_u32a]; omega
  rw [e1, e2, ior_add 8 n m (by omega) (by omega)]
  omega
def nrP (bs : List Int) (i : Nat) (z : Int) : Prop := i ≤ bs.length ∧ z = numF (bs.take i)
theorem nr_step {bs : List Int} (ho : Octets bs) (h4 : bs.length ≤ 4) {i : Nat} {z : Int} (h : nrP bs i z) (hi : i < bs.length) : nrP bs (i + 1) (ior .u32 (IntKind.wrap .u32 (z * 2 ^ 8)) (IntKind.wrap .u32 (bs.getD i 0))) := by
  obtain ⟨h1, rfl⟩ := h
  have hl : (bs.take i).length = i := by rw [List.length_take]; omega
  obtain ⟨g1, g2⟩ := numF_lt ho i (by omega)
  have g3 : numF (bs.take i) < 16777216 := by
    have : (256 : Int) ^ i ≤ 16777216 := by
      match i, (show i < 4 by omega) with
      | 0, _ => decide
      | 1, _ => decide
      | 2, _ => decide
      | 3, _ => decide
    omega
  obtain ⟨b, hb, e⟩ := octet_get ho i
  refine ⟨hi, ?_⟩
  rw [num_step ⟨g1, g3⟩ ⟨by omega, by omega⟩, take_succ_getD hi, numF_snoc]
theorem nr_goal (rb bb base N o l cap k : Nat) (ys : List Int) (P : Nat → Int → Prop) (R : Value → Blks → Prop) (hk : 1 ≤ k ∧ k ≤ 4) (h1 : k ≤ l) (h2 : k < cap) (h3 : l ≤ cap) (h4 : o + cap ≤ N) (hy : ys.length = N) (ho : Octets ((ys.drop o).take k)) (eP : P = nrP ((ys.drop o).take k))
    (hR : ∀ G, R (.int .u32 (numF ((ys.drop o).take k))) ((rb, .cells [.slice (some ⟨bb, base + (o + k), none⟩) (l - k) (cap - k), .bool false] 177) :: (bb, .tab 5 base N [.ints .u8 ys]) :: G)) : nrGoal rb bb base N o l cap k ys P R :=
  Eq.mpr (by kernel_rfl) (show
  ((↑k : Int) < (0 : Int) → Value.oneCell' (Value.slice Option.none (0 : Nat) (0 : Nat)) = Bool.true ∧ ∃ (x0 : NrX), ((((0 : Int) = (↑x0.1 : Int) ∧ (0 : Int) = x0.2 ∧ Value.slice Option.none (0 : Nat) (0 : Nat) = Value.slice Option.none (0 : Nat) (0 : Nat) ∧ (↑(0 : Nat) : Int) = (↑(0 : Nat) : Int) ∧ True) ∧ (rb = rb ∧ Value.slice Option.none (0 : Nat) (0 : Nat) = Value.slice Option.none (0 : Nat) (0 : Nat) ∧ True ∧ True) ∧ (bb = bb ∧ base = base ∧ N = N ∧ ys = ys ∧ True) ∧ True) ∧ P x0.1 x0.2) ∧ ∀ (x : NrX), P x.1 x.2 → ((↑x.1 : Int) < (↑(0 : Nat) : Int) → False) ∧
  (¬(↑x.1 : Int) < (↑(0 : Nat) : Int) → R (Value.int IntKind.u32 x.2) [(rb, Blk.cells [Value.slice Option.none (0 : Nat) (0 : Nat), Value.bool Bool.true] (177 : Go.TypeId)), (bb, Blk.tab (5 : Go.TypeId) base N [Col.ints IntKind.u8 ys])])) ∧ (¬(↑k : Int) < (0 : Int) → ((↑l : Int) < (↑k : Int) → Value.oneCell' (Value.slice Option.none (0 : Nat) (0 : Nat)) = Bool.true ∧ ∃ (x0 : NrX), ((((0 : Int) = (↑x0.1 : Int) ∧ (0 : Int) = x0.2 ∧ Value.slice Option.none (0 : Nat) (0 : Nat) = Value.slice Option.none (0 : Nat) (0 : Nat) ∧ (↑(0 : Nat) : Int) = (↑(0 : Nat) : Int) ∧ True) ∧
  (rb = rb ∧ Value.slice Option.none (0 : Nat) (0 : Nat) = Value.slice Option.none (0 : Nat) (0 : Nat) ∧ True ∧ True) ∧ (bb = bb ∧ base = base ∧ N = N ∧ ys = ys ∧ True) ∧ True) ∧ P x0.1 x0.2) ∧ ∀ (x : NrX), P x.1 x.2 → ((↑x.1 : Int) < (↑(0 : Nat) : Int) → False) ∧ (¬(↑x.1 : Int) < (↑(0 : Nat) : Int) → R (Value.int IntKind.u32 x.2) [(rb, Blk.cells [Value.slice Option.none (0 : Nat) (0 : Nat), Value.bool Bool.true] (177 : Go.TypeId)), (bb, Blk.tab (5 : Go.TypeId) base N [Col.ints IntKind.u8 ys])])) ∧ (¬(↑l : Int) < (↑k : Int) → ((0 : Int) ≤ (↑k : Int) ∧ (↑k : Int) ≤ (↑cap : Int)) ∧ ∃ (x : Bv),
  BvPre1 x [Value.slice (Option.some { block := bb, off := (base + o) * (1 : Nat) }) k cap] [(rb, Blk.cells [Value.slice (Option.some { block := bb, off := (base + o) * (1 : Nat) }) l cap, Value.bool Bool.false] (177 : Go.TypeId)), (bb, Blk.tab (5 : Go.TypeId) base N [Col.ints IntKind.u8 ys])] ∧ ∀ (b base_1 cap_1 : Nat) (xs : List Int), List.length xs = cap_1 → List.length x.4 ≤ cap_1 → List.take (List.length x.4) xs = x.4 → ((0 : Int) ≤ (↑k : Int) ∧ (↑k : Int) ≤ (↑l : Int)) ∧ ∃ (x0 : NrX), ((((0 : Int) = (↑x0.1 : Int) ∧
  (0 : Int) = x0.2 ∧ ((0 : Nat) = (0 : Nat) ∧ List.length x.4 = List.length x.4 ∧ cap_1 = cap_1) ∧ (↑(List.length x.4) : Int) = (↑(List.length x.4) : Int) ∧ True) ∧ (rb = rb ∧ (((if cap = k then o else o + k) = if cap = k then o else o + k) ∧ l - k = l - k ∧ cap - k = cap - k) ∧ True ∧ True) ∧ (bb = bb ∧ base = base ∧ N = N ∧ ys = ys ∧ True) ∧ (b = b ∧ base_1 = base_1 ∧ cap_1 = cap_1 ∧ xs = xs ∧ True) ∧ True) ∧ P x0.1 x0.2) ∧ ∀ (x_1 : NrX), P x_1.1 x_1.2 → ((↑x_1.1 : Int) < (↑(List.length x.4) : Int) → ((0 : Int) ≤ (↑x_1.1 : Int) ∧ (↑x_1.1 : Int) < (↑(List.length x.4) : Int)) ∧
  (0 : Nat) + x_1.1 < cap_1 ∧ (0 : Int) ≤ (8 : Int) ∧ ∃ (y : NrX), k - y.1 < k - x_1.1 ∧ ((IntKind.wrap IntKind.i64 ((↑x_1.1 : Int) + (1 : Int)) = (↑y.1 : Int) ∧ ior IntKind.u32 (IntKind.wrap IntKind.u32 (x_1.2 * (2 : Int) ^ Min.min (Int.toNat (8 : Int)) (IntKind.bits IntKind.u32))) (IntKind.wrap IntKind.u32 (List.getD xs ((0 : Nat) + x_1.1) (0 : Int))) = y.2 ∧ ((0 : Nat) = (0 : Nat) ∧ List.length x.4 = List.length x.4 ∧ cap_1 = cap_1) ∧ (↑(List.length x.4) : Int) = (↑(List.length x.4) : Int) ∧ True) ∧
  (rb = rb ∧ (((if cap = k then o else o + k) = if cap = k then o else o + k) ∧ l - k = l - k ∧ cap - k = cap - k) ∧ True ∧ True) ∧ (bb = bb ∧ base = base ∧ N = N ∧ ys = ys ∧ True) ∧ (b = b ∧ base_1 = base_1 ∧ cap_1 = cap_1 ∧ xs = xs ∧ True) ∧ True) ∧ P y.1 y.2) ∧ (¬(↑x_1.1 : Int) < (↑(List.length x.4) : Int) → R (Value.int IntKind.u32 x_1.2) [(rb, Blk.cells [Value.slice (Option.some { block := bb, off := (base + if cap = k then o else o + k) * (1 : Nat) }) (l - k) (cap - k), Value.bool Bool.false] (177 : Go.TypeId)), (bb, Blk.tab (5 : Go.TypeId) base N [Col.ints IntKind.u8 ys]),
  (b, Blk.tab (5 : Go.TypeId) base_1 cap_1 [Col.ints IntKind.u8 xs])]))) from by
  subst eP
  simp only [eq_self, true_and, and_true, false_and, and_false, or_false, false_or, and_self, Nat.zero_add, Nat.add_zero, Nat.sub_zero, Nat.zero_mul, Nat.mul_one, Int.toNat_natCast, cond_true, cond_false, forall_const, implies_true, Nat.beq_refl, ne_eq, not_false_eq_true, not_true_eq_false, Classical.not_not, List.cons.injEq, List.append_nil, List.nil_append, Go.Value.int.injEq, Go.Value.bool.injEq, Go.Value.slice.injEq, Nat.le_refl, Nat.zero_le, Go.Sx.one_int, Go.Sx.one_bool, Go.Sx.one_slice, Go.Sx.one_ptr, Go.Sx.one_map, Int.cast_ofNat_Int, reduceCtorEq, Nat.reduceLeDiff, Nat.reduceMul, Nat.reduceAdd, Nat.reduceSub, Nat.reduceEqDiff, Int.reduceLE, Int.reduceLT, Int.reduceEq, Int.reduceAdd, Int.reduceSub, Int.reduceNeg, Int.reduceMul, Nat.reduceBEq]
  have hl : ((ys.drop o).take k).length = k := by simp; omega
  have hne : ¬ cap = k := by omega
  simp only [hne, if_false]
  refine ⟨fun h => absurd h (by omega), fun _ => ⟨fun h => absurd h (by omega), fun _ => ⟨⟨by omega, by omega⟩, ⟨some ⟨bb, base + o, none⟩, k, cap, (ys.drop o).take k⟩, ⟨⟨rfl, ⟨hl, fun _ => ⟨bb, base + o, rfl, fun i hi => ?_⟩⟩, by show k < _; omega⟩, by simp⟩, ?_⟩⟩⟩
  · have hi : i < k := hi
    refine rawCell_tab1 (t := 5) (base := base) (N := N) (i := o + i) (c := .ints .u8 ys) (by simp) (by omega) (by omega) ?_
    simp only [Col.get]
    rw [List.getD_eq_getElem?_getD, List.getD_eq_getElem?_getD, List.getElem?_take_of_lt hi, List.getElem?_drop]
  · simp only [hl]
    intro b base1 cap1 xs g1 g2 g3
    refine ⟨⟨by omega, by omega⟩, ⟨0, 0⟩, ⟨⟨rfl, rfl⟩, Nat.zero_le _, rfl⟩, fun y hy => ⟨fun hi => ?_, fun hi => ?_⟩⟩
    · have hi2 : y.i < k := by omega
      have hx : xs.getD y.i 0 = ((ys.drop o).take k).getD y.i 0 := by rw [← g3, List.getD_eq_getElem?_getD, List.getD_eq_getElem?_getD, List.getElem?_take_of_lt hi2]
      refine ⟨⟨by omega, hi⟩, by omega, ⟨y.i + 1, _⟩, by show k - (y.i + 1) < k - y.i; omega, ⟨ix_w (by omega), rfl⟩, ?_⟩
      rw [hx]
      exact nr_step ho (by omega) hy (by omega)
    · have hy2 := hy.2
      have hi2 : y.i = k := by have := hy.1; omega
      rw [hi2, List.take_of_length_le (by omega)] at hy2
      rw [hy2]
      exact hR _)
theorem enters93 : Enters Go.Proofs.Try.prog 93 := ⟨Go.Proofs.Try.f93, Go.Proofs.Try.func93, by kernel_rfl, by kernel_rfl⟩
theorem nr_sound : ∀ p ∈ [((44 : Nat), clone1T)], SoundT Go.Proofs.Try.prog p.1 p.2 := by
  intro p hp
  simp at hp
  subst hp
  exact clone1T_sound
/-- A number that a reader reads. -/
noncomputable def numT : Trans := fun args h K => match args with
  | [.ptr n 0 0, .val (.int .i64 k)] => (match entAt h n with
    | some (.own rb (.cells 2 [.slc m o l cap, .ff] 177)) => (match entAt h m with
      | some (.own bb (.tab 5 base N [.ints .u8 ys])) => ((1 ≤ k ∧ k ≤ 4) ∧ k.toNat ≤ l ∧ k.toNat < cap ∧ l ≤ cap ∧ o + cap ≤ N ∧ Octets ((ys.drop o).take k.toNat)) ∧
          setK h n (.own rb (.cells 2 [.slc m (o + k.toNat) (l - k.toNat) (cap - k.toNat), .ff] 177)) fun h1 => K (.val (.int .u32 (numF ((ys.drop o).take k.toNat)))) h1
      | _ => False)
    | _ => False)
  | _ => False
def NrR (rb bb base N o l cap k : Nat) (ys : List Int) (v : Value) (L' : Blks) : Prop := v = .int .u32 (numF ((ys.drop o).take k)) ∧ ∃ G, L' = (rb, .cells [.slice (some ⟨bb, base + (o + k), none⟩) (l - k) (cap - k), .bool false] 177) :: (bb, .tab 5 base N [.ints .u8 ys]) :: G
theorem numT_sound : SoundT Go.Proofs.Try.prog 93 numT := by
  intro F h w args vs K c ha hx
  refine ⟨enters93, ?_⟩
  unfold numT at hx
  split at hx
  · rename_i n kk
    split at hx
    · rename_i rb m o l cap hen
      split at hx
      · rename_i bb base N ys hem
        obtain ⟨⟨⟨q0, q1⟩, q2, q3, q4, q5, q6⟩, hK⟩ := hx
        obtain ⟨k, rfl⟩ : ∃ k : Nat, kk = k := ⟨kk.toNat, by omega⟩
        simp only [Int.toNat_natCast] at q2 q3 q6 hK
        have hne : n ≠ m := by rintro rfl; rw [hen] at hem; simp at hem
        obtain ⟨⟨ob, hob, hk⟩, hloc⟩ := c.blk hen rfl
        obtain ⟨⟨ob2, hob2, hk2⟩, hloc2⟩ := c.blk hem rfl
        obtain ⟨arr, lo, hi, -, g1, -, -⟩ := hk2 []
        have hyl : ys.length = N := (g1 (.ints .u8 ys) (by simp)).1
        have hvs : vs = [.pointer (some ⟨rb, 0, none⟩), .int .i64 k] := by
          have := ha []
          simp only [denL, den, hloc []] at this
          rw [← this]
          simp [SBlk.base, SBlk.wd]
        subst hvs
        have ht := triple_of_run (R := NrR rb bb base N o l cap k ys) (h := [.own rb (.cells 2 [.slc 1 o l cap, .ff] 177), .own bb (.tab 5 base N [.ints .u8 ys])]) (args := [.ptr 0 0 0, .val (.int .i64 k)])
          (vs := [.pointer (some ⟨rb, 0, none⟩), .int .i64 k]) (L := [(rb, .cells [.slice (some ⟨bb, base + o, none⟩) l cap, .bool false] 177), (bb, .tab 5 base N [.ints .u8 ys])]) (run_with nr_sound _ _ _ _ _) (fun r => rfl) (fun r => by simp [owned, Ent.blocks, SBlk.den, denL, den, locs, Ent.loc, SBlk.base, SBlk.wd, locAt]) (by simp)
          (nr_goal rb bb base N o l cap k ys _ _ ⟨by omega, by omega⟩ q2 q3 q4 q5 hyl q6 rfl fun G => ⟨rfl, G, rfl⟩)
        refine frame_many (G := []) c [(n, .own rb (.cells 2 [.slc m o l cap, .ff] 177)), (m, .own bb (.tab 5 base N [.ints .u8 ys]))] (by simp [hen, hem]) (by simp [hne]) (L := [(rb, .cells [.slice (some ⟨bb, base + o, none⟩) l cap, .bool false] 177), (bb, .tab 5 base N [.ints .u8 ys])]) ?_ ht fun v L' hr => ?_
        · have hat := hloc2 []
          rw [List.append_nil] at hat
          simp [blksOf, Ent.blocks, SBlk.den, denL, den, hat, SBlk.base, SBlk.wd]
        · obtain ⟨rfl, G, rfl⟩ := hr
          have hK1 := setK_spec hK
          refine ⟨.val (.int .u32 (numF ((ys.drop o).take k))), [(n, .own rb (.cells 2 [.slc m (o + k) (l - k) (cap - k), .ff] 177)), (m, .own bb (.tab 5 base N [.ints .u8 ys]))], [], G, ?_, rfl, ?_, fun r => ?_, by simp, by simp, fun r => rfl⟩
          · rw [List.append_nil]
            have e : putAt h [(n, .own rb (.cells 2 [.slc m (o + k) (l - k) (cap - k), .ff] 177)), (m, .own bb (.tab 5 base N [.ints .u8 ys]))] = putAt h [(n, .own rb (.cells 2 [.slc m (o + k) (l - k) (cap - k), .ff] 177))] := by
              refine put_self [(m, .own bb (.tab 5 base N [.ints .u8 ys]))] (h.set n _) fun q hq => ?_
              simp at hq
              subst hq
              show entAt (h.set n _) m = _
              rw [entAt_set_ne _ hne, hem]
            rw [e]
            exact hK1
          · intro q hq
            simp at hq
            rcases hq with rfl | rfl
            · exact ⟨_, hen, rfl⟩
            · exact ⟨_, hem, rfl⟩
          · have hat := hloc2 r
            simp only [locs, List.nil_append, List.append_nil]
            simp [blksOf, Ent.blocks, SBlk.den, denL, den, hat, SBlk.base, SBlk.wd, owned]
      · exact hx.elim
    · exact hx.elim
  · exact hx.elim
end Go.Proofs.Ytpjikjhaljennaa
