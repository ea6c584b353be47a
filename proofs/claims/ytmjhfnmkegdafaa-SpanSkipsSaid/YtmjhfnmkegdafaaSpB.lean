/- Span: the contract of an insertion. -/
import Derived.Test.YtmjhfnmkegdafaaSpA
import Derived.Test.YtmjhfnmkegdafaaProg
set_option maxRecDepth 100000
set_option linter.unusedVariables false
set_option linter.unusedSimpArgs false
namespace Go.Proofs.Ytmjhfnmkegdafaa
open Go Go.Sx

noncomputable def insNilGoal (b2 : Nat) (a c : Int) : Prop :=
  xrun Go.Proofs.Try.prog [] [] [([], 16, false), ([], 22, true)] 9 [] 25 [.val (.slice none 0 0), .val (.int .i64 0), .slc 0 0 1 1]
    [.own b2 (.cells 2 [.val (.int .u32 a), .val (.int .u32 c)] 60)] fun s h => InsR 0 0 [] [] a c (den (locs h) s) (owned (locs h) h)

theorem insNil_vc (b2 : Nat) (a c : Int) : 
    ((0 : Int) ≤ (0 : Int) ∧ (0 : Int) ≤ (↑(0 : Nat) : Int)) ∧
  ¬(↑(1 : Nat) : Int) = (0 : Int) ∧
    (0 : Int) = (↑(0 : Nat) : Int) ∧
      Go.Value.oneCell' (Go.Value.int Go.IntKind.u32 a) = Bool.true ∧
        Go.Value.oneCell' (Go.Value.int Go.IntKind.u32 c) = Bool.true ∧
          (8 : Nat) ≤ (140737488355328 : Nat) ∧
            ∀ (b cap' : Nat),
              (1 : Nat) ≤ cap' →
                ∀ (sp : List Int),
                  List.length sp = cap' - (1 : Nat) →
                    ∀ (sp_1 : List Int),
                      List.length sp_1 = cap' - (1 : Nat) →
                        InsR (0 : Nat) (0 : Nat) [] [] a c (Go.Value.slice (Option.some { block := b, off := (0 : Nat) * (2 : Nat) }) (1 : Nat) cap')
                          [(b2, Go.Sx.Blk.cells [Go.Value.int Go.IntKind.u32 a, Go.Value.int Go.IntKind.u32 c] (60 : Go.TypeId)),
                            (b, Go.Sx.Blk.tab (60 : Nat) (0 : Nat) cap' [Go.Sx.Col.ints Go.IntKind.u32 (a :: sp), Go.Sx.Col.ints Go.IntKind.u32 (c :: sp_1)])] := by
  refine ⟨⟨by omega, by omega⟩, by omega, rfl, rfl, rfl, by omega, fun b cap' h1 sp h2 sp1 h3 => ?_⟩
  refine ⟨b, 0, cap', _, _, _, rfl, h1, by simp; omega, by simp; omega, by simp, by simp, List.Perm.swap _ _ _⟩

theorem insNil_goal (b2 : Nat) (a c : Int) : insNilGoal b2 a c := Eq.mpr (by kernel_rfl) (insNil_vc b2 a c)

theorem run_ok (ann : List (Nat × FnAnn)) (hs : Hints) (d : Nat) (path : List Nat) (g : FuncId) : SoundT Go.Proofs.Try.prog g (xrun Go.Proofs.Try.prog [] ann hs d path g) :=
  xrun_sound mixed no_numG (fun g T h => by cases h) d path g

theorem ins_triple (b b2 base len cap i : Nat) (xs ys : List Int) (a c : Int) (hi : i ≤ len) (hlc : len ≤ cap) (hb : len < 1000000) (hx : xs.length = cap) (hy : ys.length = cap) :
    Triple Go.Proofs.Try.prog 25 [.slice (some ⟨b, base * 2, none⟩) len cap, .int .i64 i, .slice (some ⟨b2, 0, none⟩) 1 1] [(b, .tab 60 base cap [.ints .u32 xs, .ints .u32 ys]), (b2, .cells [.int .u32 a, .int .u32 c] 60)] (InsR len i xs ys a c) :=
  triple_of_run (h := [.own b (.tab 60 base cap [.ints .u32 xs, .ints .u32 ys]), .own b2 (.cells 2 [.val (.int .u32 a), .val (.int .u32 c)] 60)]) (args := [.slc 0 0 len cap, .val (.int .i64 i), .slc 1 0 1 1])
    (run_ok _ _ _ _ _) (fun r => rfl) (fun r => rfl) (by simp) (ins_goal b b2 base len cap i xs ys a c hi hlc hb hx hy overlaps_row)

theorem insNil_triple (b2 : Nat) (a c : Int) :
    Triple Go.Proofs.Try.prog 25 [.slice none 0 0, .int .i64 0, .slice (some ⟨b2, 0, none⟩) 1 1] [(b2, .cells [.int .u32 a, .int .u32 c] 60)] (InsR 0 0 [] [] a c) :=
  triple_of_run (h := [.own b2 (.cells 2 [.val (.int .u32 a), .val (.int .u32 c)] 60)]) (args := [.val (.slice none 0 0), .val (.int .i64 0), .slc 0 0 1 1])
    (run_ok _ _ _ _ _) (fun r => rfl) (fun r => rfl) (by simp) (insNil_goal b2 a c)

/-- The contract of an insertion of one row. -/
noncomputable def insT : Trans := fun args h K => match args with
  | [.slc m 0 len cap, .val (.int .i64 i), .slc m2 0 1 1] => (match entAt h m, entAt h m2 with
    | some (.own b (.tab 60 base N [.ints .u32 xs, .ints .u32 ys])), some (.own b2 (.cells 2 [.val (.int .u32 a), .val (.int .u32 c)] 60)) => bif Nat.beq m m2 then False else
        (0 ≤ i ∧ i ≤ (len : Int) ∧ len ≤ cap ∧ N = cap ∧ len < 1000000) ∧ ∀ b' base' cap' xs' ys', len + 1 ≤ cap' → xs'.length = cap' → ys'.length = cap' →
          xs'.take (len + 1) = (xs.take len).take i.toNat ++ a :: (xs.take len).drop i.toNat → ys'.take (len + 1) = (ys.take len).take i.toNat ++ c :: (ys.take len).drop i.toNat →
          setK h m (.gone (b, base, 2)) fun h1 => setK h1 m2 (.gone (b2, 0, 2)) fun h2 => appK h2 (.own b' (.tab 60 base' cap' [.ints .u32 xs', .ints .u32 ys'])) fun h3 => K (.slc (lenE h) 0 (len + 1) cap') h3
    | _, _ => False)
  | [.val (.slice none 0 0), .val (.int .i64 i), .slc m2 0 1 1] => (match entAt h m2 with
    | some (.own b2 (.cells 2 [.val (.int .u32 a), .val (.int .u32 c)] 60)) => i = 0 ∧ ∀ b' base' cap' xs' ys', 1 ≤ cap' → xs'.length = cap' → ys'.length = cap' →
          xs'.take 1 = [a] → ys'.take 1 = [c] →
          setK h m2 (.gone (b2, 0, 2)) fun h2 => appK h2 (.own b' (.tab 60 base' cap' [.ints .u32 xs', .ints .u32 ys'])) fun h3 => K (.slc (lenE h) 0 1 cap') h3
    | _ => False)
  | _ => False

theorem enters25 : Enters Go.Proofs.Try.prog 25 := ⟨Go.Proofs.Try.f25, Go.Proofs.Try.func25, by kernel_rfl, by kernel_rfl⟩

theorem locs_app' (h es : List Ent) : locs (h ++ es) = locs h ++ locs es := by simp [locs_eq]

theorem insT_sound : SoundT Go.Proofs.Try.prog 25 insT := by
  intro F h w args vs K c ha hx
  refine ⟨enters25, ?_⟩
  unfold insT at hx
  split at hx
  · rename_i m len cap i m2
    split at hx
    · rename_i b base N xs ys b2 a c2 he he2
      cases hb : Nat.beq m m2 with
      | true => rw [hb] at hx; exact hx.elim
      | false =>
        rw [hb] at hx
        simp only [cond_false] at hx
        have hne : m ≠ m2 := by rintro rfl; simp at hb
        obtain ⟨⟨h1, h2, h3, rfl, h5⟩, hK⟩ := hx
        obtain ⟨⟨ob, hob, hk⟩, hloc⟩ := c.blk he rfl
        obtain ⟨-, hloc2⟩ := c.blk he2 rfl
        obtain ⟨arr, lo, hi, -, g1, -, -⟩ := hk []
        have hxl := (g1 (.ints .u32 xs) (by simp)).1
        have hyl := (g1 (.ints .u32 ys) (by simp)).1
        have hvs : vs = [.slice (some ⟨b, base * 2, none⟩) len N, .int .i64 i, .slice (some ⟨b2, 0, none⟩) 1 1] := by
          have := ha []
          simp only [denL, den, hloc [], hloc2 []] at this
          rw [← this]
          simp [SBlk.base, SBlk.wd]
        subst hvs
        obtain ⟨k, hkk⟩ : ∃ k : Nat, i = k := ⟨i.toNat, by omega⟩
        subst hkk
        refine frame_many (G := []) c [(m, .own b (.tab 60 base N [.ints .u32 xs, .ints .u32 ys])), (m2, .own b2 (.cells 2 [.val (.int .u32 a), .val (.int .u32 c2)] 60))] (by simp [he, he2]) (by simp [hne]) (L := [(b, .tab 60 base N [.ints .u32 xs, .ints .u32 ys]), (b2, .cells [.int .u32 a, .int .u32 c2] 60)]) (List.Perm.refl _)
          (ins_triple b b2 base len N k xs ys a c2 (by omega) h3 h5 hxl hyl) fun v L' hr => ?_
        obtain ⟨b', base', cap', xs', ys', G, rfl, r1, r2, r3, r4, r5, r6⟩ := hr
        have hK := hK b' base' cap' xs' ys' r1 r2 r3 (by simpa using r4) (by simpa using r5)
        have hK := appK_iff (setK_spec (setK_spec hK))
        refine ⟨.slc (lenE h) 0 (len + 1) cap', [(m, .gone (b, base, 2)), (m2, .gone (b2, 0, 2))], [.own b' (.tab 60 base' cap' [.ints .u32 xs', .ints .u32 ys'])], G, hK, rfl, ?_, fun r => ?_, by simp, by simp, fun r => ?_⟩
        · intro p hp
          simp at hp
          rcases hp with rfl | rfl
          · exact ⟨_, he, rfl⟩
          · exact ⟨_, he2, rfl⟩
        · simp only [blksOf, Ent.blocks, owned, List.nil_append, List.append_nil]
          exact r6.symm
        · have e1 : locs (putAt h [(m, .gone (b, base, 2)), (m2, .gone (b2, 0, 2))]) = locs h := locs_put _ _ (by
            intro p hp
            simp at hp
            rcases hp with rfl | rfl
            · exact ⟨_, he, rfl⟩
            · exact ⟨_, he2, rfl⟩) (by simp [hne])
          have e2 : locAt (locs h ++ ([(b', base', 2)] ++ r)) (lenE h) = (b', base', 2) := by
            rw [locAt_get, lenE_eq, List.getElem?_append_right (by rw [locs_eq]; simp)]
            simp [locs_eq]
          have e3 : locs [Ent.own b' (.tab 60 base' cap' [.ints .u32 xs', .ints .u32 ys'])] = [(b', base', 2)] := rfl
          simp only [den, locs_app', e1, List.append_assoc, e3, e2]
          rfl
    · exact hx.elim
  · rename_i i m2
    split at hx
    · rename_i b2 a c2 he2
      obtain ⟨rfl, hK⟩ := hx
      obtain ⟨-, hloc2⟩ := c.blk he2 rfl
      have hvs : vs = [.slice none 0 0, .int .i64 0, .slice (some ⟨b2, 0, none⟩) 1 1] := by
        have := ha []
        simp only [denL, den, hloc2 []] at this
        rw [← this]
        simp [SBlk.base, SBlk.wd]
      subst hvs
      refine frame_many (G := []) c [(m2, .own b2 (.cells 2 [.val (.int .u32 a), .val (.int .u32 c2)] 60))] (by simp [he2]) (by simp) (L := [(b2, .cells [.int .u32 a, .int .u32 c2] 60)]) (List.Perm.refl _)
        (insNil_triple b2 a c2) fun v L' hr => ?_
      obtain ⟨b', base', cap', xs', ys', G, rfl, r1, r2, r3, r4, r5, r6⟩ := hr
      have hK := hK b' base' cap' xs' ys' r1 r2 r3 (by simpa using r4) (by simpa using r5)
      have hK := appK_iff (setK_spec hK)
      refine ⟨.slc (lenE h) 0 1 cap', [(m2, .gone (b2, 0, 2))], [.own b' (.tab 60 base' cap' [.ints .u32 xs', .ints .u32 ys'])], G, hK, rfl, ?_, fun r => ?_, by simp, by simp, fun r => ?_⟩
      · intro p hp
        simp at hp
        subst hp
        exact ⟨_, he2, rfl⟩
      · simp only [blksOf, Ent.blocks, owned, List.nil_append, List.append_nil]
        exact r6.symm
      · have e1 : locs (putAt h [(m2, .gone (b2, 0, 2))]) = locs h := locs_put _ _ (by
          intro p hp
          simp at hp
          subst hp
          exact ⟨_, he2, rfl⟩) (by simp)
        have e2 : locAt (locs h ++ ([(b', base', 2)] ++ r)) (lenE h) = (b', base', 2) := by
          rw [locAt_get, lenE_eq, List.getElem?_append_right (by rw [locs_eq]; simp)]
          simp [locs_eq]
        have e3 : locs [Ent.own b' (.tab 60 base' cap' [.ints .u32 xs', .ints .u32 ys'])] = [(b', base', 2)] := rfl
        simp only [den, locs_app', e1, List.append_assoc, e3, e2]
        rfl
    · exact hx.elim
  · exact hx.elim
end Go.Proofs.Ytmjhfnmkegdafaa
