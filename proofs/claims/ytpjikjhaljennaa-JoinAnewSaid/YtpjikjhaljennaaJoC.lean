/- Joiners: mid, behind, fits. -/
import Derived.Test.YtpjikjhaljennaaJoB
set_option maxRecDepth 100000
set_option linter.unusedVariables false
set_option linter.unusedSimpArgs false
namespace Go.Proofs.Ytpjikjhaljennaa
open Go Go.Sx
attribute [local irreducible] Go.Sx.xrun

noncomputable def mdGoal (b : Nat) (n : Int) (L : Blks) (R : Value → Prop) : Prop :=
  xrun Go.Proofs.Try.prog [] [] [] 9 [] 42 [.val (.pointer (some ⟨b, 0, none⟩)), .val (.int .u32 n)] [.chunk L] fun s h => R (den (locs h) s) ∧ headIs h L
noncomputable def bhGoal (b : Nat) (n m : Int) (L : Blks) (R : Prop → Prop) : Prop :=
  xrun Go.Proofs.Try.prog [] [] [] 9 [] 78 [.val (.pointer (some ⟨b, 0, none⟩)), .val (.int .u32 n), .val (.int .u32 m)] [.chunk L] fun s h => bOf s R ∧ headIs h L
noncomputable def ftGoal (p p' : Pc) (s s' : JS) (L : Blks) (R : Prop → Prop) : Prop :=
  xrun Go.Proofs.Try.prog [] [] [] 9 [] 83 [.agg (p.svs s), .agg (p'.svs s')] [.chunk L] fun t h => bOf t R ∧ headIs h L
open Classical
theorem soundImp {P : Program} {f : FuncId} {T T' : Trans} (hs : SoundT P f T') (h : ∀ args hp K, T args hp K → T' args hp K) : SoundT P f T := fun F hp w args vs K c ha hx => hs F hp w args vs K c ha (h _ _ _ hx)
theorem headIs_perm {ρ : List Sx.Loc} {h : List Ent} {L : Blks} (hh : headIs h L) : ∃ G, (owned ρ h).Perm (L ++ G) := let ⟨G, e⟩ := headIs_owned (ρ := ρ) hh; ⟨G, by rw [e]⟩
theorem md_goal (b : Nat) (n : Int) (L : Blks) (R : Value → Prop) (i : Bool) (hb : rawCell L b 0 (.bool i)) (hR : R (.int .u32 (midF i n))) : mdGoal b n L R :=
  Eq.mpr (by kernel_rfl) (show
  ∃ (x : Bool), rawCell L b (0 : Nat) (Value.bool x) ∧ (x = Bool.true → R (Value.int IntKind.u32 n) ∧ L = L) ∧ (¬x = Bool.true → R (Value.int IntKind.u32 (iand IntKind.u32 n (65535 : Int))) ∧ L = L) from by
  simp only [eq_self, true_and, and_true, false_and, and_false, or_false, false_or, and_self, Nat.zero_add, Nat.add_zero, Nat.sub_zero, Nat.zero_mul, Nat.mul_one, Int.toNat_natCast, cond_true, cond_false, forall_const, implies_true, Nat.beq_refl, ne_eq, not_false_eq_true, not_true_eq_false, Classical.not_not, List.cons.injEq, List.append_nil, List.nil_append, Go.Value.int.injEq, Go.Value.bool.injEq, Go.Value.slice.injEq, Nat.le_refl, Nat.zero_le, Go.Sx.one_int, Go.Sx.one_bool, Go.Sx.one_slice, Go.Sx.one_ptr, Go.Sx.one_map, Int.cast_ofNat_Int, reduceCtorEq, Nat.reduceLeDiff, Nat.reduceMul, Nat.reduceAdd, Nat.reduceSub, Nat.reduceEqDiff, Int.reduceLE, Int.reduceLT, Int.reduceEq, Int.reduceAdd, Int.reduceSub, Int.reduceNeg, Int.reduceMul, Nat.reduceBEq]
  refine ⟨i, hb, fun h => ?_, fun h => ?_⟩
  · rw [midF, if_pos h] at hR; exact hR
  · rw [midF, if_neg h] at hR; exact hR)
theorem bh_goal (b : Nat) (n m : Int) (L : Blks) (R : Prop → Prop) (i : Bool) (hb : rawCell L b 0 (.bool i)) (hR : ∀ p, (p ↔ behindF i n m) → R p) : bhGoal b n m L R :=
  Eq.mpr (by kernel_rfl) (show
  ∃ (x : Bool), rawCell L b (0 : Nat) (Value.bool x) ∧ (x = Bool.true → R ((0 : Int) < IntKind.wrap IntKind.i32 (IntKind.wrap IntKind.u32 (m - n))) ∧ L = L) ∧ (¬x = Bool.true → R ((0 : Int) < IntKind.wrap IntKind.i16 (IntKind.wrap IntKind.u16 (IntKind.wrap IntKind.u16 m - IntKind.wrap IntKind.u16 n))) ∧ L = L) from by
  simp only [eq_self, true_and, and_true, false_and, and_false, or_false, false_or, and_self, Nat.zero_add, Nat.add_zero, Nat.sub_zero, Nat.zero_mul, Nat.mul_one, Int.toNat_natCast, cond_true, cond_false, forall_const, implies_true, Nat.beq_refl, ne_eq, not_false_eq_true, not_true_eq_false, Classical.not_not, List.cons.injEq, List.append_nil, List.nil_append, Go.Value.int.injEq, Go.Value.bool.injEq, Go.Value.slice.injEq, Nat.le_refl, Nat.zero_le, Go.Sx.one_int, Go.Sx.one_bool, Go.Sx.one_slice, Go.Sx.one_ptr, Go.Sx.one_map, Int.cast_ofNat_Int, reduceCtorEq, Nat.reduceLeDiff, Nat.reduceMul, Nat.reduceAdd, Nat.reduceSub, Nat.reduceEqDiff, Int.reduceLE, Int.reduceLT, Int.reduceEq, Int.reduceAdd, Int.reduceSub, Int.reduceNeg, Int.reduceMul, Nat.reduceBEq]
  refine ⟨i, hb, fun h => hR _ ?_, fun h => hR _ ?_⟩
  · rw [behindF, if_pos h]; rfl
  · rw [behindF, if_neg h]; rfl)
theorem ft_goal (p p' : Pc) (s s' : JS) (L : Blks) (R : Prop → Prop) (hR : ∀ t, (t ↔ fitsF p p') → R t) : ftGoal p p' s s' L R :=
  Eq.mpr (by kernel_rfl) (show
  ∀ (b b : Nat), (p.6 = p'.6 → ((p.4 = Bool.true ↔ p'.4 = Bool.true) → (p.4 = Bool.true → R True ∧ L = L) ∧ (¬p.4 = Bool.true → R (IntKind.wrap IntKind.u16 p.7 = IntKind.wrap IntKind.u16 p'.7) ∧ L = L)) ∧ (¬(p.4 = Bool.true ↔ p'.4 = Bool.true) → R False ∧ L = L)) ∧ (¬p.6 = p'.6 → R False ∧ L = L) from by
  simp only [eq_self, true_and, and_true, false_and, and_false, or_false, false_or, and_self, Nat.zero_add, Nat.add_zero, Nat.sub_zero, Nat.zero_mul, Nat.mul_one, Int.toNat_natCast, cond_true, cond_false, forall_const, implies_true, Nat.beq_refl, ne_eq, not_false_eq_true, not_true_eq_false, Classical.not_not, List.cons.injEq, List.append_nil, List.nil_append, Go.Value.int.injEq, Go.Value.bool.injEq, Go.Value.slice.injEq, Nat.le_refl, Nat.zero_le, Go.Sx.one_int, Go.Sx.one_bool, Go.Sx.one_slice, Go.Sx.one_ptr, Go.Sx.one_map, Int.cast_ofNat_Int, reduceCtorEq, Nat.reduceLeDiff, Nat.reduceMul, Nat.reduceAdd, Nat.reduceSub, Nat.reduceEqDiff, Int.reduceLE, Int.reduceLT, Int.reduceEq, Int.reduceAdd, Int.reduceSub, Int.reduceNeg, Int.reduceMul, Nat.reduceBEq]
  refine ⟨fun h => ⟨fun h2 => ⟨fun h3 => hR _ ?_, fun h3 => hR _ ?_⟩, fun h2 => hR _ ?_⟩, fun h => hR _ ?_⟩
  · exact ⟨fun _ => ⟨h, Bool.eq_iff_iff.2 h2, .inl h3⟩, fun _ => trivial⟩
  · exact ⟨fun e => ⟨h, Bool.eq_iff_iff.2 h2, .inr e⟩, fun ⟨_, _, e⟩ => e.resolve_left h3⟩
  · exact ⟨fun e => e.elim, fun ⟨_, e, _⟩ => h2 (by rw [show p.lo = p'.lo from e])⟩
  · exact ⟨fun e => e.elim, fun ⟨e, _⟩ => h e⟩)
theorem entersMid : Enters Go.Proofs.Try.prog 42 := ⟨Go.Proofs.Try.f42, Go.Proofs.Try.func42, by kernel_rfl, by kernel_rfl⟩
theorem entersBehind : Enters Go.Proofs.Try.prog 78 := ⟨Go.Proofs.Try.f78, Go.Proofs.Try.func78, by kernel_rfl, by kernel_rfl⟩
theorem entersFits : Enters Go.Proofs.Try.prog 83 := ⟨Go.Proofs.Try.f83, Go.Proofs.Try.func83, by kernel_rfl, by kernel_rfl⟩
structure MdX where
  b : Nat
  i : Bool
  n : Int
  m : Int
def MdPre (x : MdX) (vs : List Value) (L : Blks) : Prop := vs = [.pointer (some ⟨x.b, 0, none⟩), .int .u32 x.n] ∧ rawCell L x.b 0 (.bool x.i)
def BhPre (x : MdX) (vs : List Value) (L : Blks) : Prop := vs = [.pointer (some ⟨x.b, 0, none⟩), .int .u32 x.n, .int .u32 x.m] ∧ rawCell L x.b 0 (.bool x.i)
structure FtX where
  p : Pc
  s : JS
  p' : Pc
  s' : JS
def FtPre (x : FtX) (vs : List Value) (_ : Blks) : Prop := vs = [.agg (x.p.cells x.s).toArray, .agg (x.p'.cells x.s').toArray]
theorem mid0_sound : SoundT Go.Proofs.Try.prog 42 (readT (fun x : MdX => .val (.int .u32 (midF x.i x.n))) MdPre) :=
  readT_sound (val := fun x => .int .u32 (midF x.i x.n)) entersMid (fun a ρ => rfl) (fun a => by simp) (fun x vs L L' h ⟨h1, h2⟩ => ⟨h1, h _ _ _ h2⟩) fun x vs L ⟨h1, h2⟩ => by
    subst h1
    exact triple_of_runK (R := fun v L' => v = .int .u32 (midF x.i x.n) ∧ ∃ G, L'.Perm (L ++ G)) (h := [.chunk L]) (args := [.val (.pointer (some ⟨x.b, 0, none⟩)), .val (.int .u32 x.n)]) (run_with no_contracts _ _ _ _ _) (fun r => rfl) (fun r => by simp [owned, Ent.blocks]) (by simp)
      (md_goal x.b x.n L (fun v => v = .int .u32 (midF x.i x.n)) x.i h2 rfl) fun s h' ⟨k1, k2⟩ => ⟨k1, headIs_perm k2⟩
theorem behind0_sound : SoundT Go.Proofs.Try.prog 78 (readT (fun x : MdX => .prop (behindF x.i x.n x.m)) BhPre) :=
  readT_sound (val := fun x => .bool (decide (behindF x.i x.n x.m))) entersBehind (fun a ρ => rfl) (fun a => by simp) (fun x vs L L' h ⟨h1, h2⟩ => ⟨h1, h _ _ _ h2⟩) fun x vs L ⟨h1, h2⟩ => by
    subst h1
    exact triple_of_runK (R := fun v L' => v = .bool (decide (behindF x.i x.n x.m)) ∧ ∃ G, L'.Perm (L ++ G)) (h := [.chunk L]) (args := [.val (.pointer (some ⟨x.b, 0, none⟩)), .val (.int .u32 x.n), .val (.int .u32 x.m)]) (run_with no_contracts _ _ _ _ _) (fun r => rfl) (fun r => by simp [owned, Ent.blocks]) (by simp)
      (bh_goal x.b x.n x.m L (fun p => p ↔ behindF x.i x.n x.m) x.i h2 fun p hp => hp) fun s h' ⟨k1, k2⟩ => by
        obtain ⟨p, k3, k4⟩ := bOf_spec k1 (locs h')
        exact ⟨by rw [k4]; congr 1; exact decide_eq_decide.2 k3, headIs_perm k2⟩
theorem fits0_sound : SoundT Go.Proofs.Try.prog 83 (readT (fun x : FtX => .prop (fitsF x.p x.p')) FtPre) :=
  readT_sound (val := fun x => .bool (decide (fitsF x.p x.p'))) entersFits (fun a ρ => rfl) (fun a => by simp) (fun x vs L L' h h1 => h1) fun x vs L h1 => by
    have h1 : vs = _ := h1
    subst h1
    exact triple_of_runK (R := fun v L' => v = .bool (decide (fitsF x.p x.p')) ∧ ∃ G, L'.Perm (L ++ G)) (h := [.chunk L]) (args := [.agg (x.p.svs x.s), .agg (x.p'.svs x.s')]) (run_with no_contracts _ _ _ _ _) (fun r => rfl) (fun r => by simp [owned, Ent.blocks]) (by simp)
      (ft_goal x.p x.p' x.s x.s' L (fun t => t ↔ fitsF x.p x.p') fun t ht => ht) fun s h' ⟨k1, k2⟩ => by
        obtain ⟨p, k3, k4⟩ := bOf_spec k1 (locs h')
        exact ⟨by rw [k4]; congr 1; exact decide_eq_decide.2 k3, headIs_perm k2⟩
/-- These read a joiner that lies at a position. -/
noncomputable def midT : Trans := fun args h K => match args with
  | [.ptr m 0 0, .val (.int .u32 n)] => (match entAt h m with
    | some (.own _ (.cells 6 (.val (.bool i) :: _) _)) => K (.val (.int .u32 (midF i n))) h
    | _ => False)
  | _ => False
noncomputable def behindT : Trans := fun args h K => match args with
  | [.ptr m 0 0, .val (.int .u32 a), .val (.int .u32 b)] => (match entAt h m with
    | some (.own _ (.cells 6 (.val (.bool i) :: _) _)) => K (.prop (behindF i a b)) h
    | _ => False)
  | _ => False
noncomputable def fitsT : Trans := fun args h K => ∃ (p : Pc) (s : JS) (p' : Pc) (s' : JS), args = [.agg (p.svs s), .agg (p'.svs s')] ∧ K (.prop (fitsF p p')) h
theorem read_pos {h : List Ent} {m b wd : Nat} {l : List SV} {t : TypeId} {i : Bool} (he : entAt h m = some (.own b (.cells wd (.val (.bool i) :: l) t))) :
    den (locs h) (.ptr m 0 0) = .pointer (some ⟨b, 0, none⟩) ∧ rawCell (owned (locs h) h ++ roL (locs h) h) b 0 (.bool i) := by
  constructor
  · have := entAt_loc he []
    rw [List.append_nil] at this
    simp [den, this, Ent.loc, SBlk.base, SBlk.wd]
  · refine ⟨.cells (denL (locs h) (.val (.bool i) :: l)) t, List.mem_append_left _ (owned_mem (ρ := locs h) (List.mem_of_getElem? (entAt_get he))), ?_⟩
    simp [Blk.at, denL, den]
theorem midT_sound : SoundT Go.Proofs.Try.prog 42 midT := soundImp mid0_sound fun args h K hx => by
  unfold midT at hx
  split at hx
  · rename_i m n
    split at hx
    · rename_i b i l t he
      obtain ⟨h1, h2⟩ := read_pos he
      refine ⟨⟨b, i, n, 0⟩, ⟨?_, h2⟩, hx⟩
      rw [denL, denL, denL, h1]
      rfl
    · exact hx.elim
  · exact hx.elim
theorem behindT_sound : SoundT Go.Proofs.Try.prog 78 behindT := soundImp behind0_sound fun args h K hx => by
  unfold behindT at hx
  split at hx
  · rename_i m n n'
    split at hx
    · rename_i b i l t he
      obtain ⟨h1, h2⟩ := read_pos he
      refine ⟨⟨b, i, n, n'⟩, ⟨?_, h2⟩, hx⟩
      rw [denL, denL, denL, denL, h1]
      rfl
    · exact hx.elim
  · exact hx.elim
theorem fitsT_sound : SoundT Go.Proofs.Try.prog 83 fitsT := soundImp fits0_sound fun args h K ⟨p, s, p', s', e, hx⟩ => by
  subst e
  exact ⟨⟨p, s, p', s'⟩, rfl, hx⟩
end Go.Proofs.Ytpjikjhaljennaa
