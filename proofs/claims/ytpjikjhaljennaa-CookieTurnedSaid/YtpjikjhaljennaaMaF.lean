/- Hash, Same, Clone: contracts. -/
import Derived.Test.YtpjikjhaljennaaMaE
set_option maxRecDepth 100000
set_option linter.unusedVariables false
set_option linter.unusedSimpArgs false
namespace Go.Proofs.Ytpjikjhaljennaa
open Go Go.Sx
attribute [local irreducible] Go.Sx.xrun

noncomputable def cbGoal (o : Option Addr) (l c : Nat) (L : Blks) (R : Value → Blks → Prop) : Prop :=
  xrun Go.Proofs.Try.prog [] [] [] 9 [] 44 [.sl o l c] [.chunk L] fun s h => R (den (locs h) s) (owned (locs h) h)
noncomputable def csGoal (o : Option Addr) (l c : Nat) (L : Blks) (R : Value → Blks → Prop) : Prop :=
  xrun Go.Proofs.Try.prog [] [] [] 9 [] 58 [.sl o l c] [.chunk L] fun s h => R (den (locs h) s) (owned (locs h) h)
noncomputable def saGoal (xs ys : List Int) (L : Blks) (R : Value → Prop) : Prop :=
  xrun Go.Proofs.Try.prog [] [] [] 9 [] 34 [.arr .u8 xs, .arr .u8 ys] [.chunk L] fun s h => R (den (locs h) s) ∧ headIs h L
theorem enters31 : Enters Go.Proofs.Try.prog 31 := ⟨Go.Proofs.Try.f31, Go.Proofs.Try.func31, by kernel_rfl, by kernel_rfl⟩
theorem enters44 : Enters Go.Proofs.Try.prog 44 := ⟨Go.Proofs.Try.f44, Go.Proofs.Try.func44, by kernel_rfl, by kernel_rfl⟩
theorem enters58 : Enters Go.Proofs.Try.prog 58 := ⟨Go.Proofs.Try.f58, Go.Proofs.Try.func58, by kernel_rfl, by kernel_rfl⟩
theorem enters34 : Enters Go.Proofs.Try.prog 34 := ⟨Go.Proofs.Try.f34, Go.Proofs.Try.func34, by kernel_rfl, by kernel_rfl⟩
theorem hs_sound : ∀ p ∈ [((61 : Nat), blockT), (59, concatT)], SoundT Go.Proofs.Try.prog p.1 p.2 := by
  intro p hp
  simp at hp
  rcases hp with rfl | rfl
  · exact blockT_sound
  · exact concatT_sound
/-- Hash of parts. -/
noncomputable def hashT : Trans := readT (fun y : PsX => .arr .u8 (hashF y.ps.flatten)) PartsPre
theorem hashT_sound : SoundT Go.Proofs.Try.prog 31 hashT :=
  readT_sound (val := fun y => arrV .u8 (hashF y.ps.flatten)) enters31 (fun a ρ => by simp only [den, arrV]) (fun a => by simp) (fun y vs L L' h ⟨h1, h2, h3⟩ => ⟨h1, h2.seen h, h3⟩) fun y vs L ⟨h1, h2, h3, h4⟩ => by
    subst h1
    exact pure_of_run (args := [.val (.slice (some ⟨y.b, y.x, none⟩) y.n y.c)]) (run_withR hs_sound _ _ _ _ _) (fun r => rfl) (hs_goal y.b y.x y.n y.c _ L _ _ _ _ (fun v => v = arrV .u8 (hashF y.ps.flatten)) y.ps h2 h3 h4 rfl rfl rfl rfl rfl rfl) fun s h' h => h
structure Bv where
  o : Option Addr
  l : Nat
  c : Nat
  bs : List Int
def BvPre (y : Bv) (vs : List Value) (L : Blks) : Prop := vs = [.slice y.o y.l y.c] ∧ BytesAt L y.o y.l y.bs ∧ y.l < 1000000000
theorem cb_goal (o : Option Addr) (l c : Nat) (L : Blks) (R : Value → Blks → Prop) (bs : List Int) (hb : BytesAt L o l bs) (hl : l < 1000000000) (hR1 : o = none → R (.slice none 0 0) L)
    (hR2 : o ≠ none → ∀ b base cap xs, xs.length = cap → bs.length ≤ cap → xs.take bs.length = bs → R (.slice (some ⟨b, base, none⟩) bs.length cap) (L ++ [(b, .tab 5 base cap [.ints .u8 xs])])) : cbGoal o l c L R :=
  Eq.mpr (by kernel_rfl) (show
  (o = Option.none → R (Value.slice Option.none (0 : Nat) (0 : Nat)) (L ++ [])) ∧ (¬o = Option.none → ∀ (b : Nat), (l = (0 : Nat) → (0 : Nat) ≤ (0 : Nat) ∧ R (Value.slice (Option.some { block := b, off := (0 : Nat) * (1 : Nat) }) (0 : Nat) (0 : Nat)) (L ++ [(b, Blk.tab (5 : Nat) (0 : Nat) (0 : Nat) [Col.ints IntKind.u8 []])])) ∧ ((0 : Nat) < l → ∃ (b : Nat), ∃ (x0 : Nat), o = Option.some { block := b, off := x0 } ∧ ∃ (xs : List Int), rawTab L b x0 l [Col.ints IntKind.u8 xs] ∧ ((0 : Nat) ≤ (0 : Nat) ∧ (0 : Nat) ≤ (0 : Nat)) ∧ (0 : Nat) ≤ (0 : Nat) ∧
  ((0 : Nat) + l) * (1 : Nat) ≤ (140737488355328 : Nat) ∧ ∀ (b base cap' : Nat), (0 : Nat) + l ≤ cap' → ((0 : Nat) + l ≤ (0 : Nat) → cap' = (0 : Nat)) → ∀ (sp : List Int), List.length sp = cap' - ((0 : Nat) + l) → R (Value.slice (Option.some { block := b, off := base * (1 : Nat) }) ((0 : Nat) + l) cap') (L ++ [(b, Blk.tab (5 : Nat) base cap' [Col.ints IntKind.u8 (List.take (0 : Nat) [] ++ xs ++ sp)])]))) from by
  simp only [eq_self, true_and, and_true, false_and, and_false, or_false, false_or, and_self, Nat.zero_add, Nat.add_zero, Nat.sub_zero, Nat.zero_mul, Nat.mul_one, Int.toNat_natCast, cond_true, cond_false, forall_const, implies_true, Nat.beq_refl, ne_eq, not_false_eq_true, not_true_eq_false, Classical.not_not, List.cons.injEq, List.append_nil, List.nil_append, Go.Value.int.injEq, Go.Value.bool.injEq, Go.Value.slice.injEq, Nat.le_refl, Nat.zero_le, Go.Sx.one_int, Go.Sx.one_bool, Go.Sx.one_slice, Go.Sx.one_ptr, Go.Sx.one_map, Int.cast_ofNat_Int, reduceCtorEq, Nat.reduceLeDiff, Nat.reduceMul, Nat.reduceAdd, Nat.reduceSub, Nat.reduceEqDiff, Int.reduceLE, Int.reduceLT, Int.reduceEq, Int.reduceAdd, Int.reduceSub, Int.reduceNeg, Int.reduceMul, Nat.reduceBEq]
  have hl2 := hb.1
  refine ⟨hR1, fun h => fun b => ⟨fun h0 => ?_, fun h0 => ?_⟩⟩
  · obtain rfl : bs = [] := List.eq_nil_of_length_eq_zero (by omega)
    exact hR2 h b 0 0 [] rfl (Nat.le_refl _) rfl
  · obtain ⟨b0, x0, rfl, -⟩ := hb.2 h0
    refine ⟨b0, x0, rfl, bs, hb.raw h0, by omega, fun b1 base cap' hc hc2 sp hs => ?_⟩
    have := hR2 h b1 base cap' (bs ++ sp) (by simp; omega) (by omega) (by simp)
    rw [hl2] at this
    simpa using this)
/-- A copy of bytes. -/
noncomputable def cloneT : Trans := newT 5 (.ints .u8) BvPre (fun y => y.o = none) fun y => y.bs
theorem cloneT_sound : SoundT Go.Proofs.Try.prog 44 cloneT :=
  newT_sound enters44 (fun y vs L L' h ⟨h1, h2, h3⟩ => ⟨h1, h2.seen h, h3⟩) fun y vs L ⟨h1, h2, h3⟩ => by
    subst h1
    refine triple_of_run (R := NewR 5 (.ints .u8) (y.o = none) y.bs L) (h := [.chunk L]) (args := [.sl y.o y.l y.c]) (run_with no_contracts _ _ _ _ _) (fun r => rfl) (fun r => by simp [owned, Ent.blocks]) (by simp)
      (cb_goal y.o y.l y.c L _ y.bs h2 h3 (fun e => .inl ⟨e, rfl, [], by simp⟩) fun e b base cap xs r1 r2 r3 => .inr ⟨e, b, base, cap, xs, [], rfl, r1, r2, r3, ?_⟩)
    rw [List.append_nil]
    exact List.perm_append_comm (l₁ := L) (l₂ := [_])
/-- Values that a slice of them shows. -/
def RawsAt (L : Blks) (o : Option Addr) (l : Nat) (vs : List Value) : Prop := vs.length = l ∧ (∀ v ∈ vs, v.oneCell' = true) ∧ (0 < l → ∃ b x, o = some ⟨b, x, none⟩ ∧ ∀ i, i < l → rawCell L b (x + i) (vs.getD i .nilIface))
theorem RawsAt.seen {L L' : Blks} (h : SeenIn L L') {o : Option Addr} {l : Nat} {vs : List Value} (hb : RawsAt L o l vs) : RawsAt L' o l vs :=
  ⟨hb.1, hb.2.1, fun hl => let ⟨b, x, e, hc⟩ := hb.2.2 hl; ⟨b, x, e, fun i hi => h _ _ _ (hc i hi)⟩⟩
theorem RawsAt.raw {L : Blks} {b x l : Nat} {vs : List Value} (hb : RawsAt L (some ⟨b, x, none⟩) l vs) (hl : 0 < l) : rawTab L b x l [.raws vs] := by
  obtain ⟨h1, h2, h3⟩ := hb
  obtain ⟨b', x', e, hc⟩ := h3 hl
  simp at e
  obtain ⟨rfl, rfl⟩ := e
  refine .inr (.inr ⟨hl, by simp, fun d hd => by rw [List.mem_singleton.1 hd]; exact h1, fun i j d hi hj => ?_⟩)
  cases j with
  | succ j => simp at hj
  | zero =>
    simp at hj
    subst hj
    refine ⟨by simpa [Col.get] using hc i hi, ?_⟩
    simp only [Col.get]
    rw [List.getD_eq_getElem?_getD, List.getElem?_eq_getElem (by omega)]
    exact h2 _ (List.getElem_mem _)
structure Rv where
  o : Option Addr
  l : Nat
  c : Nat
  vs : List Value
def RvPre (y : Rv) (vs : List Value) (L : Blks) : Prop := vs = [.slice y.o y.l y.c] ∧ RawsAt L y.o y.l y.vs ∧ y.l < 1000000000
theorem cs_goal (o : Option Addr) (l c : Nat) (L : Blks) (R : Value → Blks → Prop) (bs : List Value) (hb : RawsAt L o l bs) (hl : l < 1000000000) (hR1 : o = none → R (.slice none 0 0) L)
    (hR2 : o ≠ none → ∀ b base cap xs, xs.length = cap → bs.length ≤ cap → xs.take bs.length = bs → R (.slice (some ⟨b, base, none⟩) bs.length cap) (L ++ [(b, .tab 30 base cap [.raws xs])])) : csGoal o l c L R :=
  Eq.mpr (by kernel_rfl) (show
  (o = Option.none → R (Value.slice Option.none (0 : Nat) (0 : Nat)) (L ++ [])) ∧ (¬o = Option.none → ∀ (b : Nat), (l = (0 : Nat) → (0 : Nat) ≤ (0 : Nat) ∧ R (Value.slice (Option.some { block := b, off := (0 : Nat) * (1 : Nat) }) (0 : Nat) (0 : Nat)) (L ++ [(b, Blk.tab (30 : Nat) (0 : Nat) (0 : Nat) [Col.raws []])])) ∧ ((0 : Nat) < l → ∃ (b : Nat), ∃ (x0 : Nat), o = Option.some { block := b, off := x0 } ∧ ∃ (xs : List Go.Value), rawTab L b x0 l [Col.raws xs] ∧ ((0 : Nat) ≤ (0 : Nat) ∧ (0 : Nat) ≤ (0 : Nat)) ∧ (0 : Nat) ≤ (0 : Nat) ∧ ((0 : Nat) + l) * (24 : Nat) ≤ (140737488355328 : Nat) ∧
  ∀ (b base cap' : Nat), (0 : Nat) + l ≤ cap' → ((0 : Nat) + l ≤ (0 : Nat) → cap' = (0 : Nat)) → ∀ (sp : List Go.Value), List.length sp = cap' - ((0 : Nat) + l) → R (Value.slice (Option.some { block := b, off := base * (1 : Nat) }) ((0 : Nat) + l) cap') (L ++ [(b, Blk.tab (30 : Nat) base cap' [Col.raws (List.take (0 : Nat) [] ++ xs ++ sp)])]))) from by
  simp only [eq_self, true_and, and_true, false_and, and_false, or_false, false_or, and_self, Nat.zero_add, Nat.add_zero, Nat.sub_zero, Nat.zero_mul, Nat.mul_one, Int.toNat_natCast, cond_true, cond_false, forall_const, implies_true, Nat.beq_refl, ne_eq, not_false_eq_true, not_true_eq_false, Classical.not_not, List.cons.injEq, List.append_nil, List.nil_append, Go.Value.int.injEq, Go.Value.bool.injEq, Go.Value.slice.injEq, Nat.le_refl, Nat.zero_le, Go.Sx.one_int, Go.Sx.one_bool, Go.Sx.one_slice, Go.Sx.one_ptr, Go.Sx.one_map, Int.cast_ofNat_Int, reduceCtorEq, Nat.reduceLeDiff, Nat.reduceMul, Nat.reduceAdd, Nat.reduceSub, Nat.reduceEqDiff, Int.reduceLE, Int.reduceLT, Int.reduceEq, Int.reduceAdd, Int.reduceSub, Int.reduceNeg, Int.reduceMul, Nat.reduceBEq]
  have hl2 := hb.1
  refine ⟨hR1, fun h => fun b => ⟨fun h0 => ?_, fun h0 => ?_⟩⟩
  · obtain rfl : bs = [] := List.eq_nil_of_length_eq_zero (by omega)
    exact hR2 h b 0 0 [] rfl (Nat.le_refl _) rfl
  · obtain ⟨b0, x0, rfl, -⟩ := hb.2.2 h0
    refine ⟨b0, x0, rfl, bs, hb.raw h0, by omega, fun b1 base cap' hc hc2 sp hs => ?_⟩
    have := hR2 h b1 base cap' (bs ++ sp) (by simp; omega) (by omega) (by simp)
    rw [hl2] at this
    simpa using this)
/-- A copy of values. -/
noncomputable def cloneVT : Trans := newT 30 .raws RvPre (fun y => y.o = none) fun y => y.vs
theorem cloneVT_sound : SoundT Go.Proofs.Try.prog 58 cloneVT :=
  newT_sound enters58 (fun y vs L L' h ⟨h1, h2, h3⟩ => ⟨h1, h2.seen h, h3⟩) fun y vs L ⟨h1, h2, h3⟩ => by
    subst h1
    refine triple_of_run (R := NewR 30 .raws (y.o = none) y.vs L) (h := [.chunk L]) (args := [.sl y.o y.l y.c]) (run_with no_contracts _ _ _ _ _) (fun r => rfl) (fun r => by simp [owned, Ent.blocks]) (by simp)
      (cs_goal y.o y.l y.c L _ y.vs h2 h3 (fun e => .inl ⟨e, rfl, [], by simp⟩) fun e b base cap xs r1 r2 r3 => .inr ⟨e, b, base, cap, xs, [], rfl, r1, r2, r3, ?_⟩)
    rw [List.append_nil]
    exact List.perm_append_comm (l₁ := L) (l₂ := [_])
theorem sa_goal (xs ys : List Int) (L : Blks) (R : Value → Prop) (hx : xs.length = 32) (hy : ys.length = 32) (hR : R (.bool (pbool (xs = ys)))) : saGoal xs ys L R :=
  Eq.mpr (by kernel_rfl) (show
  ∀ (b b : Nat), (32 : Nat) ≤ List.length xs ∧ (32 : Nat) ≤ List.length ys ∧ (!Go.Program.eqGuardType Go.Proofs.Try.prog (Go.Program.depth Go.Proofs.Try.prog) (65 : Nat) && Nat.beq (32 : Nat) (32 : Nat) && Nat.beq (1 : Nat) (1 : Nat)) = Bool.true ∧ (List.length (List.take (32 : Nat) xs) = (32 : Nat) ∧ List.length (List.take (32 : Nat) ys) = (32 : Nat)) ∧ R (Value.bool (pbool (List.take (32 : Nat) xs = List.take (32 : Nat) ys))) ∧ L = L from by
  rw [List.take_of_length_le (by omega), List.take_of_length_le (by omega)]
  exact fun _ _ => ⟨by omega, by omega, by kernel_rfl, ⟨hx, hy⟩, hR, rfl⟩)
def SaPre (x : List Int × List Int) (vs : List Value) (_ : Blks) : Prop := vs = [arrV .u8 x.1, arrV .u8 x.2] ∧ x.1.length = 32 ∧ x.2.length = 32
theorem same0_sound : SoundT Go.Proofs.Try.prog 34 (readT (fun x : List Int × List Int => .prop (x.1 = x.2)) SaPre) :=
  readT_sound (val := fun x => .bool (pbool (x.1 = x.2))) enters34 (fun a ρ => by simp only [den, pbool]) (fun a => by simp) (fun x vs L L' _ h => h) fun x vs L ⟨h1, h2, h3⟩ => by
    subst h1
    exact pure_of_run (args := [.arr .u8 x.1, .arr .u8 x.2]) (run_with no_contracts _ _ _ _ _) (fun r => by simp only [denL, den, arrV]) (sa_goal x.1 x.2 L (fun v => v = .bool (pbool (x.1 = x.2))) h2 h3 rfl) fun s h' h => h
/-- The same seals? -/
noncomputable def sameT : Trans := fun args h K => match args with
  | [.arr .u8 xs, .arr .u8 ys] => (xs.length = 32 ∧ ys.length = 32) ∧ K (.prop (xs = ys)) h
  | _ => False
theorem sameT_sound : SoundT Go.Proofs.Try.prog 34 sameT := SoundT.imp same0_sound fun args h K hx => by
  unfold sameT at hx
  split at hx
  · rename_i xs ys
    exact ⟨(xs, ys), ⟨by simp only [denL, den, arrV], hx.1⟩, hx.2⟩
  · exact hx.elim
end Go.Proofs.Ytpjikjhaljennaa
