/- Writers of bytes. -/
import Derived.Test.YtpjikjhaljennaaSxPw
import Derived.Test.YtpjikjhaljennaaPgB
set_option maxRecDepth 100000
set_option linter.unusedVariables false
set_option linter.unusedSimpArgs false
namespace Go.Proofs.Ytpjikjhaljennaa
open Go Go.Sx
attribute [local irreducible] Go.Sx.xrun

noncomputable def u16nGoal (wb : Nat) (v : Int) (R : Value → Blks → Prop) : Prop :=
  xrun Go.Proofs.Try.prog [] [] [] 9 [] 65 [.ptr 0 0 0, .val (.int .u16 v)] [.own wb (.cells 1 [.val (.slice none 0 0)] 139)] fun s h => R (den (locs h) s) (owned (locs h) h)
noncomputable def u16Goal (wb b base cap l : Nat) (xs : List Int) (v : Int) (R : Value → Blks → Prop) : Prop :=
  xrun Go.Proofs.Try.prog [] [] [] 9 [] 65 [.ptr 0 0 0, .val (.int .u16 v)] [.own wb (.cells 1 [.slc 1 0 l cap] 139), .own b (.tab 5 base cap [.ints .u8 xs])] fun s h => R (den (locs h) s) (owned (locs h) h)
noncomputable def u8nGoal (wb : Nat) (v : Int) (R : Value → Blks → Prop) : Prop :=
  xrun Go.Proofs.Try.prog [] [] [] 9 [] 66 [.ptr 0 0 0, .val (.int .u8 v)] [.own wb (.cells 1 [.val (.slice none 0 0)] 139)] fun s h => R (den (locs h) s) (owned (locs h) h)
noncomputable def u8Goal (wb b base cap l : Nat) (xs : List Int) (v : Int) (R : Value → Blks → Prop) : Prop :=
  xrun Go.Proofs.Try.prog [] [] [] 9 [] 66 [.ptr 0 0 0, .val (.int .u8 v)] [.own wb (.cells 1 [.slc 1 0 l cap] 139), .own b (.tab 5 base cap [.ints .u8 xs])] fun s h => R (den (locs h) s) (owned (locs h) h)
theorem enters64 : Enters Go.Proofs.Try.prog 64 := ⟨Go.Proofs.Try.f64, Go.Proofs.Try.func64, by kernel_rfl, by kernel_rfl⟩
theorem enters65 : Enters Go.Proofs.Try.prog 65 := ⟨Go.Proofs.Try.f65, Go.Proofs.Try.func65, by kernel_rfl, by kernel_rfl⟩
theorem enters66 : Enters Go.Proofs.Try.prog 66 := ⟨Go.Proofs.Try.f66, Go.Proofs.Try.func66, by kernel_rfl, by kernel_rfl⟩
/-- A writer writes: what is asked, and what comes of it. -/
noncomputable def wrRun (h : List Ent) (n k : Nat) (bs : List Int) (K : SV → List Ent → Prop) : Prop :=
  match entAt h n with
  | some (.own wb (.cells 1 [sv] 139)) => (match sv with
    | .val (.slice none 0 0) => ∀ b base cap xs, xs.length = cap → k ≤ cap → xs.take k = bs → setK h n (.own wb (.cells 1 [.slc (lenE h) 0 k cap] 139)) fun h1 => appK h1 (.own b (.tab 5 base cap [.ints .u8 xs])) fun h2 => K (.val (.tuple #[])) h2
    | .slc m 0 l cap => (match entAt h m with
      | some (.own b0 (.tab 5 base0 N [.ints .u8 ys])) => (l ≤ cap ∧ cap = N ∧ l + k < 1000000000) ∧ ∀ b base cap' xs, xs.length = cap' → l + k ≤ cap' → xs.take (l + k) = ys.take l ++ bs →
          setK h m (.gone (b0, base0, 1)) fun h0 => setK h0 n (.own wb (.cells 1 [.slc (lenE h) 0 (l + k) cap'] 139)) fun h1 => appK h1 (.own b (.tab 5 base cap' [.ints .u8 xs])) fun h2 => K (.val (.tuple #[])) h2
      | _ => False)
    | _ => False)
  | _ => False
def WrR (wb : Nat) (pre bs : List Int) (v : Value) (L' : Blks) : Prop := v = .tuple #[] ∧ ∃ b base cap xs G, xs.length = cap ∧ pre.length + bs.length ≤ cap ∧ xs.take (pre.length + bs.length) = pre ++ bs ∧
  L'.Perm ((wb, .cells [.slice (some ⟨b, base, none⟩) (pre.length + bs.length) cap] 139) :: (b, .tab 5 base cap [.ints .u8 xs]) :: G)
theorem wrRun_sound {P : Program} {f : FuncId} {F : Blks} {h : List Ent} {w : World} {n : Nat} {u : Value} {bs : List Int} {k : Nat} {K : SV → List Ent → Prop} (hbs : bs.length = k) (c : Ctx F h w) {vs : List Value} (hv : ∀ r, [den (locs h ++ r) (.ptr n 0 0), u] = vs)
    (hn : ∀ wb, Triple P f [.pointer (some ⟨wb, 0, none⟩), u] [(wb, .cells [.slice none 0 0] 139)] (WrR wb [] bs))
    (hs : ∀ wb b base cap l (ys : List Int), l ≤ cap → ys.length = cap → l + bs.length < 1000000000 → Triple P f [.pointer (some ⟨wb, 0, none⟩), u] [(wb, .cells [.slice (some ⟨b, base, none⟩) l cap] 139), (b, .tab 5 base cap [.ints .u8 ys])] (WrR wb (ys.take l) bs))
    (hx : wrRun h n k bs K) : CallAns P F h w K f vs.toArray := by
  subst hbs
  unfold wrRun at hx
  split at hx
  · rename_i wb sv hen
    obtain ⟨-, hloc⟩ := c.blk hen rfl
    have hvs : vs = [.pointer (some ⟨wb, 0, none⟩), u] := by
      rw [← hv []]
      simp only [den, hloc []]
      simp [SBlk.base, SBlk.wd]
    subst hvs
    split at hx
    · refine frame_many (G := []) c [(n, .own wb (.cells 1 [.val (.slice none 0 0)] 139))] (by simp [hen]) (by simp) (L := [(wb, .cells [.slice none 0 0] 139)]) (List.Perm.refl _) (hn wb) fun v L' hr => ?_
      obtain ⟨rfl, b, base, cap, xs, G, r1, r2, r3, r4⟩ := hr
      simp only [List.length_nil, Nat.zero_add, List.nil_append] at r2 r3 r4
      have hK1 := appK_iff (setK_spec (hx b base cap xs r1 r2 r3))
      refine ⟨.val (.tuple #[]), [(n, .own wb (.cells 1 [.slc (lenE h) 0 bs.length cap] 139))], [.own b (.tab 5 base cap [.ints .u8 xs])], G, hK1, rfl, ?_, fun r => ?_, by simp, by simp, fun r => rfl⟩
      · intro q hq
        simp at hq
        subst hq
        exact ⟨_, hen, rfl⟩
      · rw [List.append_nil]
        refine List.Perm.trans ?_ r4.symm
        have hat : locAt (locs h ++ (locs [Ent.own b (.tab 5 base cap [.ints .u8 xs])] ++ r)) (lenE h) = (b, base, 1) := by
          rw [lenE_eq, locAt_get, List.getElem?_append_right (by simp [locs_eq])]
          simp [locs_eq, Ent.loc, SBlk.base, SBlk.wd]
        simp [blksOf, Ent.blocks, SBlk.den, denL, den, hat, owned]
    · rename_i m l cap
      split at hx
      · rename_i b0 base0 N ys hem
        obtain ⟨⟨h1, rfl, h2⟩, hK⟩ := hx
        have hne : m ≠ n := by rintro rfl; rw [hen] at hem; simp at hem
        obtain ⟨⟨ob, hob, hk⟩, hloc2⟩ := c.blk hem rfl
        obtain ⟨arr, lo, hi, -, g1, -, -⟩ := hk []
        have hyl : ys.length = cap := (g1 (.ints .u8 ys) (by simp)).1
        have htl : (ys.take l).length = l := by rw [List.length_take]; omega
        refine frame_many (G := []) c [(m, .own b0 (.tab 5 base0 cap [.ints .u8 ys])), (n, .own wb (.cells 1 [.slc m 0 l cap] 139))] (by simp [hem, hen]) (by simp [hne]) (L := [(wb, .cells [.slice (some ⟨b0, base0, none⟩) l cap] 139), (b0, .tab 5 base0 cap [.ints .u8 ys])]) ?_ (hs wb b0 base0 cap l ys h1 hyl h2) fun v L' hr => ?_
        · have hat := hloc2 []
          rw [List.append_nil] at hat
          simp only [blksOf, Ent.blocks, SBlk.den, denL, den, hat, SBlk.base, SBlk.wd, List.append_nil, List.length_singleton, Nat.add_zero, Nat.mul_one, List.cons_append, List.nil_append]
          exact List.Perm.swap _ _ _
        · obtain ⟨rfl, b, base, cap', xs, G, r1, r2, r3, r4⟩ := hr
          rw [htl] at r2 r3 r4
          have hK1 := appK_iff (setK_spec (setK_spec (hK b base cap' xs r1 r2 r3)))
          have hlen : lenE h = lenE ((h.set m (.gone (b0, base0, 1))).set n (.own wb (.cells 1 [.slc (lenE h) 0 (l + bs.length) cap'] 139))) := by simp only [lenE_eq, List.length_set]
          refine ⟨.val (.tuple #[]), [(m, .gone (b0, base0, 1)), (n, .own wb (.cells 1 [.slc (lenE h) 0 (l + bs.length) cap'] 139))], [.own b (.tab 5 base cap' [.ints .u8 xs])], G, hK1, rfl, ?_, fun r => ?_, by simp, by simp, fun r => rfl⟩
          · intro q hq
            simp at hq
            rcases hq with rfl | rfl
            · exact ⟨_, hem, rfl⟩
            · exact ⟨_, hen, rfl⟩
          · rw [List.append_nil]
            refine List.Perm.trans ?_ r4.symm
            have hat : locAt (locs h ++ (locs [Ent.own b (.tab 5 base cap' [.ints .u8 xs])] ++ r)) (lenE h) = (b, base, 1) := by
              rw [lenE_eq, locAt_get, List.getElem?_append_right (by simp [locs_eq])]
              simp [locs_eq, Ent.loc, SBlk.base, SBlk.wd]
            simp [blksOf, Ent.blocks, SBlk.den, denL, den, hat, owned]
      · exact hx.elim
    · exact hx.elim
  · exact hx.elim
def w8 (x : Int) : Int := IntKind.wrap .u8 x
def b16 (v : Int) : List Int := [w8 (v.fdiv (2 ^ 8)), w8 v]
noncomputable def u16T : Trans := fun args h K => match args with
  | [.ptr n 0 0, .val (.int .u16 v)] => wrRun h n 2 (b16 v) K
  | _ => False
noncomputable def u8T : Trans := fun args h K => match args with
  | [.ptr n 0 0, .val (.int .u8 v)] => wrRun h n 1 [v] K
  | _ => False
theorem u16n_goal (wb : Nat) (v : Int) : u16nGoal wb v (WrR wb [] (b16 v)) :=
  Eq.mpr (by kernel_rfl) (show
  (0 : Int) ≤ (8 : Int) ∧ ∀ (b : Nat), Value.oneCell' (Value.int IntKind.u8 (IntKind.wrap IntKind.u8 (Int.fdiv v ((2 : Int) ^ Min.min (Int.toNat (8 : Int)) (IntKind.bits IntKind.u16))))) = Bool.true ∧ Value.oneCell' (Value.int IntKind.u8 (IntKind.wrap IntKind.u8 v)) = Bool.true ∧ (2 : Nat) ≤ (140737488355328 : Nat) ∧ ∀ (b_1 cap' : Nat), (2 : Nat) ≤ cap' → ∀ (sp : List Int), List.length sp = cap' - (2 : Nat) → WrR wb [] (b16 v) (Value.tuple #[]) [(wb, Blk.cells [Value.slice (Option.some { block := b_1, off := (0 : Nat) * (1 : Nat) }) (2 : Nat) cap'] (139 : Go.TypeId)), (b, Blk.cells
  [Value.int IntKind.u8 (IntKind.wrap IntKind.u8 (Int.fdiv v ((2 : Int) ^ Min.min (Int.toNat (8 : Int)) (IntKind.bits IntKind.u16)))), Value.int IntKind.u8 (IntKind.wrap IntKind.u8 v)] (5 : Nat)), (b_1, Blk.tab (5 : Nat) (0 : Nat) cap' [Col.ints IntKind.u8 (IntKind.wrap IntKind.u8 (Int.fdiv v ((2 : Int) ^ Min.min (Int.toNat (8 : Int)) (IntKind.bits IntKind.u16))) :: IntKind.wrap IntKind.u8 v :: sp)])] from by
  simp only [eq_self, true_and, and_true, false_and, and_false, or_false, false_or, and_self, Nat.zero_add, Nat.add_zero, Nat.sub_zero, Nat.zero_mul, Nat.mul_one, Int.toNat_natCast, cond_true, cond_false, forall_const, implies_true, Nat.beq_refl, ne_eq, not_false_eq_true, not_true_eq_false, Classical.not_not, List.cons.injEq, List.append_nil, List.nil_append, Go.Value.int.injEq, Go.Value.bool.injEq, Go.Value.slice.injEq, Nat.le_refl, Nat.zero_le, Go.Sx.one_int, Go.Sx.one_bool, Go.Sx.one_slice, Go.Sx.one_ptr, Go.Sx.one_map, Int.cast_ofNat_Int, reduceCtorEq, Nat.reduceLeDiff, Nat.reduceMul, Nat.reduceAdd, Nat.reduceSub, Nat.reduceEqDiff, Int.reduceLE, Int.reduceLT, Int.reduceEq, Int.reduceAdd, Int.reduceSub, Int.reduceNeg, Int.reduceMul, Nat.reduceBEq]
  intro b
  refine fun b1 cap hc sp hs => ⟨rfl, b1, 0, cap, _, [(b, _)], ?_, hc, rfl, List.Perm.cons _ (List.Perm.swap _ _ _)⟩
  simp [hs]; omega)
theorem u16_goal (wb b base cap l : Nat) (xs : List Int) (v : Int) (h1 : l ≤ cap) (h2 : xs.length = cap) (h3 : l + 2 < 1000000000) : u16Goal wb b base cap l xs v (WrR wb (xs.take l) (b16 v)) :=
  Eq.mpr (by kernel_rfl) (show
  (0 : Int) ≤ (8 : Int) ∧ ∀ (b : Nat), Value.oneCell' (Value.int IntKind.u8 (IntKind.wrap IntKind.u8 (Int.fdiv v ((2 : Int) ^ Min.min (Int.toNat (8 : Int)) (IntKind.bits IntKind.u16))))) = Bool.true ∧ Value.oneCell' (Value.int IntKind.u8 (IntKind.wrap IntKind.u8 v)) = Bool.true ∧ (l ≤ cap ∧ (0 : Nat) + cap ≤ cap) ∧ (0 : Nat) + l ≤ cap ∧ (l + (2 : Nat)) * (1 : Nat) ≤ (140737488355328 : Nat) ∧ ∀ (b_1 base cap' : Nat), l + (2 : Nat) ≤ cap' → (l + (2 : Nat) ≤ cap → cap' = cap) → ∀ (sp : List Int), List.length sp = cap' - (l + (2 : Nat)) → WrR wb (xs.take l) (b16 v) (Value.tuple #[])
  [(wb, Blk.cells [Value.slice (Option.some { block := b_1, off := base * (1 : Nat) }) (l + (2 : Nat)) cap'] (139 : Go.TypeId)), (b, Blk.cells [Value.int IntKind.u8 (IntKind.wrap IntKind.u8 (Int.fdiv v ((2 : Int) ^ Min.min (Int.toNat (8 : Int)) (IntKind.bits IntKind.u16)))), Value.int IntKind.u8 (IntKind.wrap IntKind.u8 v)] (5 : Nat)), (b_1, Blk.tab (5 : Nat) base cap' [Col.ints IntKind.u8 (List.take l xs ++ [IntKind.wrap IntKind.u8 (Int.fdiv v ((2 : Int) ^ Min.min (Int.toNat (8 : Int)) (IntKind.bits IntKind.u16))), IntKind.wrap IntKind.u8 v] ++ sp)])] from by
  simp only [eq_self, true_and, and_true, false_and, and_false, or_false, false_or, and_self, Nat.zero_add, Nat.add_zero, Nat.sub_zero, Nat.zero_mul, Nat.mul_one, Int.toNat_natCast, cond_true, cond_false, forall_const, implies_true, Nat.beq_refl, ne_eq, not_false_eq_true, not_true_eq_false, Classical.not_not, List.cons.injEq, List.append_nil, List.nil_append, Go.Value.int.injEq, Go.Value.bool.injEq, Go.Value.slice.injEq, Nat.le_refl, Nat.zero_le, Go.Sx.one_int, Go.Sx.one_bool, Go.Sx.one_slice, Go.Sx.one_ptr, Go.Sx.one_map, Int.cast_ofNat_Int, reduceCtorEq, Nat.reduceLeDiff, Nat.reduceMul, Nat.reduceAdd, Nat.reduceSub, Nat.reduceEqDiff, Int.reduceLE, Int.reduceLT, Int.reduceEq, Int.reduceAdd, Int.reduceSub, Int.reduceNeg, Int.reduceMul, Nat.reduceBEq]
  intro b1
  have hl : (xs.take l).length = l := by rw [List.length_take]; omega
  refine ⟨h1, h1, by omega, fun b2 base2 cap2 hc hc2 sp hs => ?_⟩
  have hA : (xs.take l ++ b16 v).length = l + 2 := by rw [List.length_append, hl]; rfl
  refine ⟨rfl, b2, base2, cap2, xs.take l ++ b16 v ++ sp, [(b1, .cells [.int .u8 (w8 (v.fdiv (2 ^ 8))), .int .u8 (w8 v)] 5)], ?_, by rw [hl]; exact hc, ?_, ?_⟩
  · show (xs.take l ++ b16 v ++ sp).length = cap2
    rw [List.length_append, hA, hs]; omega
  · rw [hl]
    show (xs.take l ++ b16 v ++ sp).take (l + 2) = _
    rw [List.take_left' hA]
  · rw [hl]
    exact List.Perm.cons _ (List.Perm.swap _ _ _))
theorem u8n_goal (wb : Nat) (v : Int) : u8nGoal wb v (WrR wb [] [v]) :=
  Eq.mpr (by kernel_rfl) (show
  ∀ (b : Nat), Value.oneCell' (Value.int IntKind.u8 v) = Bool.true ∧ (1 : Nat) ≤ (140737488355328 : Nat) ∧ ∀ (b_1 cap' : Nat), (1 : Nat) ≤ cap' → ∀ (sp : List Int), List.length sp = cap' - (1 : Nat) → WrR wb [] [v] (Value.tuple #[]) [(wb, Blk.cells [Value.slice (Option.some { block := b_1, off := (0 : Nat) * (1 : Nat) }) (1 : Nat) cap'] (139 : Go.TypeId)), (b, Blk.cells [Value.int IntKind.u8 v] (5 : Nat)), (b_1, Blk.tab (5 : Nat) (0 : Nat) cap' [Col.ints IntKind.u8 (v :: sp)])] from by
  simp only [eq_self, true_and, and_true, false_and, and_false, or_false, false_or, and_self, Nat.zero_add, Nat.add_zero, Nat.sub_zero, Nat.zero_mul, Nat.mul_one, Int.toNat_natCast, cond_true, cond_false, forall_const, implies_true, Nat.beq_refl, ne_eq, not_false_eq_true, not_true_eq_false, Classical.not_not, List.cons.injEq, List.append_nil, List.nil_append, Go.Value.int.injEq, Go.Value.bool.injEq, Go.Value.slice.injEq, Nat.le_refl, Nat.zero_le, Go.Sx.one_int, Go.Sx.one_bool, Go.Sx.one_slice, Go.Sx.one_ptr, Go.Sx.one_map, Int.cast_ofNat_Int, reduceCtorEq, Nat.reduceLeDiff, Nat.reduceMul, Nat.reduceAdd, Nat.reduceSub, Nat.reduceEqDiff, Int.reduceLE, Int.reduceLT, Int.reduceEq, Int.reduceAdd, Int.reduceSub, Int.reduceNeg, Int.reduceMul, Nat.reduceBEq]
  intro b
  refine fun b1 cap hc sp hs => ⟨rfl, b1, 0, cap, _, [(b, _)], ?_, hc, rfl, List.Perm.cons _ (List.Perm.swap _ _ _)⟩
  simp [hs]; omega)
theorem u8_goal (wb b base cap l : Nat) (xs : List Int) (v : Int) (h1 : l ≤ cap) (h2 : xs.length = cap) (h3 : l + 1 < 1000000000) : u8Goal wb b base cap l xs v (WrR wb (xs.take l) [v]) :=
  Eq.mpr (by kernel_rfl) (show
  ∀ (b : Nat), Value.oneCell' (Value.int IntKind.u8 v) = Bool.true ∧ (l ≤ cap ∧ (0 : Nat) + cap ≤ cap) ∧ (0 : Nat) + l ≤ cap ∧ (l + (1 : Nat)) * (1 : Nat) ≤ (140737488355328 : Nat) ∧ ∀ (b_1 base cap' : Nat), l + (1 : Nat) ≤ cap' → (l + (1 : Nat) ≤ cap → cap' = cap) → ∀ (sp : List Int), List.length sp = cap' - (l + (1 : Nat)) → WrR wb (xs.take l) [v] (Value.tuple #[]) [(wb, Blk.cells [Value.slice (Option.some { block := b_1, off := base * (1 : Nat) }) (l + (1 : Nat)) cap'] (139 : Go.TypeId)),
  (b, Blk.cells [Value.int IntKind.u8 v] (5 : Nat)), (b_1, Blk.tab (5 : Nat) base cap' [Col.ints IntKind.u8 (List.take l xs ++ [v] ++ sp)])] from by
  simp only [eq_self, true_and, and_true, false_and, and_false, or_false, false_or, and_self, Nat.zero_add, Nat.add_zero, Nat.sub_zero, Nat.zero_mul, Nat.mul_one, Int.toNat_natCast, cond_true, cond_false, forall_const, implies_true, Nat.beq_refl, ne_eq, not_false_eq_true, not_true_eq_false, Classical.not_not, List.cons.injEq, List.append_nil, List.nil_append, Go.Value.int.injEq, Go.Value.bool.injEq, Go.Value.slice.injEq, Nat.le_refl, Nat.zero_le, Go.Sx.one_int, Go.Sx.one_bool, Go.Sx.one_slice, Go.Sx.one_ptr, Go.Sx.one_map, Int.cast_ofNat_Int, reduceCtorEq, Nat.reduceLeDiff, Nat.reduceMul, Nat.reduceAdd, Nat.reduceSub, Nat.reduceEqDiff, Int.reduceLE, Int.reduceLT, Int.reduceEq, Int.reduceAdd, Int.reduceSub, Int.reduceNeg, Int.reduceMul, Nat.reduceBEq]
  intro b1
  have hl : (xs.take l).length = l := by rw [List.length_take]; omega
  refine ⟨h1, h1, by omega, fun b2 base2 cap2 hc hc2 sp hs => ?_⟩
  have hA : (xs.take l ++ [v]).length = l + 1 := by rw [List.length_append, hl]; rfl
  refine ⟨rfl, b2, base2, cap2, xs.take l ++ [v] ++ sp, [(b1, .cells [.int .u8 v] 5)], ?_, by rw [hl]; exact hc, ?_, ?_⟩
  · rw [List.length_append, hA, hs]; omega
  · rw [hl]
    show (xs.take l ++ [v] ++ sp).take (l + 1) = _
    rw [List.take_left' hA]
  · rw [hl]
    exact List.Perm.cons _ (List.Perm.swap _ _ _))
theorem u16T_sound : SoundT Go.Proofs.Try.prog 65 u16T := by
  intro F h w args vs K c ha hx
  refine ⟨enters65, ?_⟩
  unfold u16T at hx
  split at hx
  · rename_i n v
    refine wrRun_sound (u := .int .u16 v) (bs := b16 v) (k := 2) rfl c (fun r => by have := ha r; simpa only [denL, den] using this) (fun wb => ?_) (fun wb b base cap l ys h1 h2 h3 => ?_) hx
    · exact triple_of_run (h := [.own wb (.cells 1 [.val (.slice none 0 0)] 139)]) (args := [.ptr 0 0 0, .val (.int .u16 v)]) (run_with no_contracts _ _ _ _ _) (fun r => rfl) (fun r => rfl) (by simp) (u16n_goal wb v)
    · exact triple_of_run (h := [.own wb (.cells 1 [.slc 1 0 l cap] 139), .own b (.tab 5 base cap [.ints .u8 ys])]) (args := [.ptr 0 0 0, .val (.int .u16 v)]) (run_with no_contracts _ _ _ _ _) (fun r => rfl) (fun r => by simp [owned, Ent.blocks, SBlk.den, denL, den, locs, Ent.loc, SBlk.base, SBlk.wd, locAt]) (by simp) (u16_goal wb b base cap l ys v h1 h2 h3)
  · exact hx.elim
theorem u8T_sound : SoundT Go.Proofs.Try.prog 66 u8T := by
  intro F h w args vs K c ha hx
  refine ⟨enters66, ?_⟩
  unfold u8T at hx
  split at hx
  · rename_i n v
    refine wrRun_sound (u := .int .u8 v) (bs := [v]) (k := 1) rfl c (fun r => by have := ha r; simpa only [denL, den] using this) (fun wb => ?_) (fun wb b base cap l ys h1 h2 h3 => ?_) hx
    · exact triple_of_run (h := [.own wb (.cells 1 [.val (.slice none 0 0)] 139)]) (args := [.ptr 0 0 0, .val (.int .u8 v)]) (run_with no_contracts _ _ _ _ _) (fun r => rfl) (fun r => rfl) (by simp) (u8n_goal wb v)
    · exact triple_of_run (h := [.own wb (.cells 1 [.slc 1 0 l cap] 139), .own b (.tab 5 base cap [.ints .u8 ys])]) (args := [.ptr 0 0 0, .val (.int .u8 v)]) (run_with no_contracts _ _ _ _ _) (fun r => rfl) (fun r => by simp [owned, Ent.blocks, SBlk.den, denL, den, locs, Ent.loc, SBlk.base, SBlk.wd, locAt]) (by simp) (u8_goal wb b base cap l ys v h1 h2 h3)
  · exact hx.elim
end Go.Proofs.Ytpjikjhaljennaa
