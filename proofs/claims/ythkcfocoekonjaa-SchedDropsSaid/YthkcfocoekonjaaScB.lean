/- Queues: slices.Delete of one number. -/
import Derived.Test.YthkcfocoekonjaaScA
set_option maxRecDepth 100000
set_option linter.unusedVariables false
set_option linter.unusedSimpArgs false
namespace Go.Proofs.Ythkcfocoekonjaa
open Go Go.Sx
attribute [local irreducible] Go.Sx.xrun

def DelN (len i : Nat) (l : List Int) (v : Value) (L : Blks) : Prop := ∃ b' base' cap' xs' G, v = .slice (some ⟨b', base' * 1, none⟩) (len - 1) cap' ∧ len - 1 ≤ cap' ∧ xs'.length = cap' ∧ xs'.take (len - 1) = l.take i ++ l.drop (i + 1) ∧ L.Perm ((b', .tab 27 base' cap' [.ints .u16 xs']) :: G)
noncomputable def ddGoal (b base o N len cap i : Nat) (xs : List Int) : Prop :=
  xrun Go.Proofs.Try.prog [] [] [] 9 [] 67 [.slc 0 o len cap, .val (.int .i64 i), .val (.int .i64 ((i + 1 : Nat) : Int))]
    [.own b (.tab 27 base N [.ints .u16 xs])] fun s h => DelN len i ((xs.drop o).take len) (den (locs h) s) (owned (locs h) h)

theorem dd_vc (b base o N len cap i : Nat) (xs : List Int) (hi : i < len) (hlc : len ≤ cap) (hN : o + cap ≤ N) (hb : len < 1000000) (hx : xs.length = N) :
  ((0 : Int) ≤ (↑len : Int) ∧ (↑len : Int) ≤ (↑cap : Int)) ∧ ((0 : Int) ≤ (↑(i + (1 : Nat)) : Int) ∧ (↑(i + (1 : Nat)) : Int) ≤ (↑len : Int)) ∧ ((0 : Int) ≤ (↑i : Int) ∧ (↑i : Int) ≤ (↑(i + (1 : Nat)) : Int)) ∧ ((↑i : Int) = (↑(i + (1 : Nat)) : Int) → DelN len i (List.take len (List.drop o xs)) (Value.slice (Option.some { block := b, off := (base + o) * (1 : Nat) }) len cap) [(b, Blk.tab (27 : Go.TypeId) base N [Col.ints IntKind.u16 xs])]) ∧ (¬(↑i : Int) = (↑(i + (1 : Nat)) : Int) → ((0 : Int) ≤ (↑i : Int) ∧ (↑i : Int) ≤ (↑cap : Int)) ∧
  ((0 : Int) ≤ (↑(i + (1 : Nat)) : Int) ∧ (↑(i + (1 : Nat)) : Int) ≤ (↑len : Int)) ∧ (if cap = i + (1 : Nat) then o else o + (i + (1 : Nat))) + (len - (i + (1 : Nat))) ≤ N ∧ (i ≤ cap ∧ o + cap ≤ N) ∧ o + i ≤ N ∧ (i + (len - (i + (1 : Nat)))) * (2 : Nat) ≤ (140737488355328 : Nat) ∧ ∀ (b base cap' : Nat), i + (len - (i + (1 : Nat))) ≤ cap' → (i + (len - (i + (1 : Nat))) ≤ cap → cap' = cap) → ∀ (sp : List Int), List.length sp = cap' - (i + (len - (i + (1 : Nat)))) → ((0 : Int) ≤ (↑len : Int) ∧ (↑len : Int) ≤ (↑cap' : Int)) ∧
  ((0 : Int) ≤ (↑(i + (len - (i + (1 : Nat)))) : Int) ∧ (↑(i + (len - (i + (1 : Nat)))) : Int) ≤ (↑len : Int)) ∧ (if cap' = i + (len - (i + (1 : Nat))) then (0 : Nat) else (0 : Nat) + (i + (len - (i + (1 : Nat))))) + (len - (i + (len - (i + (1 : Nat))))) ≤ cap' ∧ DelN len i (List.take len (List.drop o xs)) (Value.slice (Option.some { block := b, off := base * (1 : Nat) }) (i + (len - (i + (1 : Nat)))) cap') [(b, Blk.tab (27 : Nat) base cap' [Col.ints IntKind.u16 (List.take (if cap' = i + (len - (i + (1 : Nat))) then (0 : Nat) else (0 : Nat) + (i + (len - (i + (1 : Nat)))))
  (List.take i (List.drop o xs) ++ List.take (len - (i + (1 : Nat))) (List.drop (if cap = i + (1 : Nat) then o else o + (i + (1 : Nat))) xs) ++ sp) ++ List.replicate (len - (i + (len - (i + (1 : Nat))))) (0 : Int) ++ List.drop ((if cap' = i + (len - (i + (1 : Nat))) then (0 : Nat) else (0 : Nat) + (i + (len - (i + (1 : Nat))))) + (len - (i + (len - (i + (1 : Nat)))))) (List.take i (List.drop o xs) ++ List.take (len - (i + (1 : Nat))) (List.drop (if cap = i + (1 : Nat) then o else o + (i + (1 : Nat))) xs) ++ sp))])]) := by
  simp only [eq_self, true_and, and_true, false_and, and_false, or_false, false_or, and_self, Nat.zero_add, Nat.add_zero, Nat.sub_zero, Nat.zero_mul, Nat.mul_one, Int.toNat_natCast, cond_true, cond_false, forall_const, implies_true, Nat.beq_refl, ne_eq, not_false_eq_true, not_true_eq_false, Classical.not_not, List.cons.injEq, List.append_nil, List.nil_append, Go.Value.int.injEq, Go.Value.bool.injEq, Go.Value.slice.injEq, Nat.le_refl, Nat.zero_le, Go.Sx.one_int, Go.Sx.one_bool, Go.Sx.one_slice, Go.Sx.one_ptr, Go.Sx.one_map, Int.cast_ofNat_Int, reduceCtorEq, Nat.reduceLeDiff, Nat.reduceMul, Nat.reduceAdd, Nat.reduceSub, Nat.reduceEqDiff, Int.reduceLE, Int.reduceLT, Int.reduceEq, Int.reduceAdd, Int.reduceSub, Int.reduceNeg, Int.reduceMul, Nat.reduceBEq]
  have e1 : i + (len - (i + 1)) = len - 1 := by omega
  have e2 : len - (len - 1) = 1 := by omega
  simp only [e1, e2]
  refine ⟨⟨by omega, by omega⟩, ⟨by omega, by omega⟩, ⟨by omega, by omega⟩, fun h => by omega, fun _ => ⟨⟨by omega, by omega⟩, ⟨by omega, by omega⟩, by split <;> omega, ⟨by omega, by omega⟩, by omega, by omega, fun b' base' cap' h1 h2 sp h3 => ?_⟩⟩
  have hc : cap' = cap := h2 (by omega)
  subst hc
  have n1 : ¬ cap' = len - 1 := by omega
  simp only [n1, if_false]
  refine ⟨⟨by omega, by omega⟩, ⟨by omega, by omega⟩, by omega, ?_⟩
  have hA : List.take (len - (i + 1)) (List.drop (if cap' = i + 1 then o else o + (i + 1)) xs) = List.drop (i + 1) (List.take len (List.drop o xs)) := by
    rw [List.drop_take, List.drop_drop]
    by_cases n2 : cap' = i + 1
    · rw [show len - (i + 1) = 0 by omega]; simp
    · rw [if_neg n2]
  have hB : List.take i (List.drop o xs) = List.take i (List.take len (List.drop o xs)) := by
    rw [List.take_take, Nat.min_eq_left (by omega)]
  rw [hA, hB]
  have hll : (List.take len (List.drop o xs)).length = len := by rw [List.length_take, List.length_drop]; omega
  generalize List.take len (List.drop o xs) = l at *
  have hAl : (List.take i l ++ List.drop (i + 1) l).length = len - 1 := by rw [List.length_append, List.length_take, List.length_drop]; omega
  refine ⟨b', base', cap', _, [], by rw [Nat.mul_one], by omega, ?_, ?_, List.Perm.refl _⟩
  · rw [List.take_left' hAl, List.length_append, List.length_append, hAl, List.length_drop, List.length_append, hAl, List.length_replicate]
    omega
  · rw [List.take_left' hAl, List.append_assoc, List.take_left' hAl]
theorem dd_goal (b base o N len cap i : Nat) (xs : List Int) (hi : i < len) (hlc : len ≤ cap) (hN : o + cap ≤ N) (hb : len < 1000000) (hx : xs.length = N) : ddGoal b base o N len cap i xs :=
  Eq.mpr (by kernel_rfl) (dd_vc b base o N len cap i xs hi hlc hN hb hx)

/-- slices.Delete of one number. -/
noncomputable def del16T : Trans := fun args h K => match args with
  | [.slc m o len cap, .val (.int .i64 i), .val (.int .i64 j)] => (match entAt h m with
    | some (.own b (.tab 27 base N [.ints .u16 xs])) =>
        (0 ≤ i ∧ i < (len : Int) ∧ j = i + 1 ∧ len ≤ cap ∧ o + cap ≤ N ∧ len < 1000000) ∧ ∀ b' base' cap' xs', len - 1 ≤ cap' → xs'.length = cap' →
          xs'.take (len - 1) = ((xs.drop o).take len).take i.toNat ++ ((xs.drop o).take len).drop (i.toNat + 1) →
          setK h m (.gone (b, base, 1)) fun h1 => appK h1 (.own b' (.tab 27 base' cap' [.ints .u16 xs'])) fun h2 => K (.slc (lenE h) 0 (len - 1) cap') h2
    | _ => False)
  | _ => False
theorem enters67 : Enters Go.Proofs.Try.prog 67 := ⟨Go.Proofs.Try.f67, Go.Proofs.Try.func67, by kernel_rfl, by kernel_rfl⟩
theorem del16T_sound : SoundT Go.Proofs.Try.prog 67 del16T := by
  intro F h w args vs K c ha hx
  refine ⟨enters67, ?_⟩
  unfold del16T at hx
  split at hx
  · rename_i m o len cap i j
    split at hx
    · rename_i b base N xs he
      obtain ⟨⟨h1, h2, rfl, h3, h4, h5⟩, hK⟩ := hx
      obtain ⟨⟨ob, hob, hk⟩, hloc⟩ := c.blk he rfl
      obtain ⟨arr, lo, hi, -, g1, -, -⟩ := hk []
      have hxl : xs.length = N := (g1 (.ints .u16 xs) (by simp)).1
      obtain ⟨k, hkk⟩ : ∃ k : Nat, i = k := ⟨i.toNat, by omega⟩
      subst hkk
      have hvs : vs = [.slice (some ⟨b, (base + o) * 1, none⟩) len cap, .int .i64 (k : Int), .int .i64 ((k + 1 : Nat) : Int)] := by
        have := ha []
        simp only [denL, den, hloc []] at this
        rw [← this]
        simp [SBlk.base, SBlk.wd]
      subst hvs
      have ht := triple_of_run (R := DelN len k ((xs.drop o).take len)) (h := [.own b (.tab 27 base N [.ints .u16 xs])]) (args := [.slc 0 o len cap, .val (.int .i64 k), .val (.int .i64 ((k + 1 : Nat) : Int))]) (vs := [.slice (some ⟨b, (base + o) * 1, none⟩) len cap, .int .i64 (k : Int), .int .i64 ((k + 1 : Nat) : Int)])
        (L := [(b, .tab 27 base N [.ints .u16 xs])]) (run_with no_contracts _ _ _ _ _) (fun r => rfl) (fun r => rfl) (by simp) (dd_goal b base o N len cap k xs (by omega) h3 h4 h5 hxl)
      refine frame_many (G := []) c [(m, .own b (.tab 27 base N [.ints .u16 xs]))] (by simp [he]) (by simp) (L := [(b, .tab 27 base N [.ints .u16 xs])]) (List.Perm.refl _)
        ht fun v L' hr => ?_
      obtain ⟨b', base', cap', xs', G, rfl, r1, r2, r3, r4⟩ := hr
      have hK := appK_iff (setK_spec (hK b' base' cap' xs' r1 r2 (by simpa using r3)))
      refine ⟨.slc (lenE h) 0 (len - 1) cap', [(m, .gone (b, base, 1))], [.own b' (.tab 27 base' cap' [.ints .u16 xs'])], G, hK, rfl, ?_, fun r => ?_, by simp, by simp, fun r => ?_⟩
      · intro q hq
        simp at hq
        subst hq
        exact ⟨_, he, rfl⟩
      · simp only [blksOf, Ent.blocks, owned, List.nil_append, List.append_nil]
        exact r4.symm
      · have e1 : locs (putAt h [(m, .gone (b, base, 1))]) = locs h := locs_put _ _ (by
          intro q hq
          simp at hq
          subst hq
          exact ⟨_, he, rfl⟩) (by simp)
        have e2 : locAt (locs h ++ ([(b', base', 1)] ++ r)) (lenE h) = (b', base', 1) := by
          rw [locAt_get, lenE_eq, List.getElem?_append_right (by rw [locs_eq]; simp)]
          simp [locs_eq]
        have e3 : locs [Ent.own b' (.tab 27 base' cap' [.ints .u16 xs'])] = [(b', base', 1)] := rfl
        simp only [den, locs_app', e1, List.append_assoc, e3, e2]
        rfl
    · exact hx.elim
  · exact hx.elim
end Go.Proofs.Ythkcfocoekonjaa
