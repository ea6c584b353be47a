/- Span: New, Mark, Has, Len. -/
import Derived.Test.YtmjhfnmkegdafaaSpI
import Derived.Test.YtmjhfnmkegdafaaSxX
set_option maxRecDepth 100000
set_option linter.unusedVariables false
set_option linter.unusedSimpArgs false
namespace Go.Proofs.Ytmjhfnmkegdafaa
open Go Go.Sx

def NewR (mark : Int) (v : Value) (L : Blks) : Prop := ∃ b, v = .pointer (some ⟨b, 0, none⟩) ∧ SetRep b mark [] L
noncomputable def newGoal (mark : Int) : Prop :=
  xrun Go.Proofs.Try.prog [] [] [] 9 [] 10 [.val (.int .u32 mark)] [] fun s h => NewR mark (den (locs h) s) (owned (locs h) h)
def MkR (b : Nat) (mark : Int) (rows : List (Int × Int)) (v : Value) (L : Blks) : Prop := v = .int .u32 mark ∧ SetRep b mark rows L
noncomputable def mkGoal (b b1 base cap : Nat) (xs ys : List Int) (mark : Int) (rows : List (Int × Int)) : Prop :=
  xrun Go.Proofs.Try.prog [] [] [] 9 [] 12 [.ptr 0 0 0]
    [.own b (.cells 2 [.val (.int .u32 mark), .slc 1 0 rows.length cap] 55), .own b1 (.tab 60 base cap [.ints .u32 xs, .ints .u32 ys])] fun s h => MkR b mark rows (den (locs h) s) (owned (locs h) h)
noncomputable def mkNilGoal (b : Nat) (mark : Int) : Prop :=
  xrun Go.Proofs.Try.prog [] [] [] 9 [] 12 [.ptr 0 0 0] [.own b (.cells 2 [.val (.int .u32 mark), .val (.slice none 0 0)] 55)] fun s h => MkR b mark [] (den (locs h) s) (owned (locs h) h)
/-- What 'Has' answers. -/
def hasF (mark : Int) (rows : List (Int × Int)) (t : Int) : Prop := (lessF mark t ∧ ∃ (i : Nat) (r : Int × Int), rows[i]? = some r ∧ (∀ (k : Nat) (s : Int × Int), k < i → rows[k]? = some s → s.2 < distF mark t) ∧ r.1 ≤ distF mark t ∧ distF mark t ≤ r.2) ∨ (¬ lessF mark t ∧ (t = mark ∨ lessF t mark))
def HasR (b : Nat) (mark : Int) (rows : List (Int × Int)) (t : Int) (p : Prop) (L : Blks) : Prop := (p ↔ hasF mark rows t) ∧ SetRep b mark rows L
noncomputable def hsGoal (b b1 base cap : Nat) (xs ys : List Int) (mark t : Int) (rows : List (Int × Int)) : Prop :=
  xrun Go.Proofs.Try.prog [(28, moveT), (25, insT), (24, atT), (26, delT)] [] [] 9 [] 13 [.ptr 0 0 0, .val (.int .u32 t)]
    [.own b (.cells 2 [.val (.int .u32 mark), .slc 1 0 rows.length cap] 55), .own b1 (.tab 60 base cap [.ints .u32 xs, .ints .u32 ys])] fun s h => bOf s fun p => HasR b mark rows t p (owned (locs h) h)
noncomputable def hsNilGoal (b : Nat) (mark t : Int) : Prop :=
  xrun Go.Proofs.Try.prog [(28, moveT), (25, insT), (24, atT), (26, delT)] [] [] 9 [] 13 [.ptr 0 0 0, .val (.int .u32 t)] [.own b (.cells 2 [.val (.int .u32 mark), .val (.slice none 0 0)] 55)] fun s h => bOf s fun p => HasR b mark [] t p (owned (locs h) h)
/-- How many numbers the rows have. -/
def lenF : List (Int × Int) → Int
  | [] => 0
  | r :: l => (IntKind.wrap .u32 (r.2 - r.1) + 1) + lenF l
def LenR (b : Nat) (mark : Int) (rows : List (Int × Int)) (v : Value) (L : Blks) : Prop := v = .int .i64 (lenF rows) ∧ SetRep b mark rows L
noncomputable def Ann.ln (rows : List (Int × Int)) : FnAnn := ⟨[], [(3, ⟨Nat, [
  (fun σ x => ⟨σ.n, (3, .val (.int .i64 (lenF (rows.take x)))) :: (11, .val (.int .i64 x)) :: keepE σ.env [0, 9, 10], σ.heap⟩, fun _ x => x ≤ rows.length)], fun x => rows.length - x⟩)]⟩
noncomputable def lnGoal (b b1 base cap : Nat) (xs ys : List Int) (mark : Int) (rows : List (Int × Int)) : Prop :=
  xrun Go.Proofs.Try.prog [] [(20, Ann.ln rows)] [] 9 [] 20 [.ptr 0 0 0]
    [.own b (.cells 2 [.val (.int .u32 mark), .slc 1 0 rows.length cap] 55), .own b1 (.tab 60 base cap [.ints .u32 xs, .ints .u32 ys])] fun s h => LenR b mark rows (den (locs h) s) (owned (locs h) h)
noncomputable def lnNilGoal (b : Nat) (mark : Int) : Prop :=
  xrun Go.Proofs.Try.prog [] [(20, Ann.ln [])] [] 9 [] 20 [.ptr 0 0 0] [.own b (.cells 2 [.val (.int .u32 mark), .val (.slice none 0 0)] 55)] fun s h => LenR b mark [] (den (locs h) s) (owned (locs h) h)

theorem rep_nil (b : Nat) (mark : Int) : SetRep b mark [] [(b, .cells [.int .u32 mark, .slice none 0 0] 55)] := ⟨_, _, .inl ⟨rfl, rfl⟩, List.Perm.refl _⟩
theorem rep_tab {b b1 base cap : Nat} {xs ys : List Int} {mark : Int} {rows : List (Int × Int)} (hlc : rows.length ≤ cap) (h0 : 0 < rows.length) (hx : xs.length = cap) (hy : ys.length = cap)
    (h1 : xs.take rows.length = rows.map (·.1)) (h2 : ys.take rows.length = rows.map (·.2)) :
    SetRep b mark rows [(b, .cells [.int .u32 mark, .slice (some ⟨b1, base * 2, none⟩) rows.length cap] 55), (b1, .tab 60 base cap [.ints .u32 xs, .ints .u32 ys])] :=
  ⟨_, _, .inr ⟨b1, base, cap, xs, ys, [], rfl, h0, hlc, hx, hy, h1, h2, List.Perm.refl _⟩, List.Perm.refl _⟩

theorem new_vc (mark : Int) :
    ∀ (b : Nat),
  NewR mark (Go.Value.pointer (Option.some { block := b, off := (0 : Nat) * (2 : Nat) }))
    [(b, Go.Sx.Blk.cells [Go.Value.int Go.IntKind.u32 mark, Go.Value.slice Option.none (0 : Nat) (0 : Nat)] (55 : Nat))] := fun b => ⟨b, by simp, rep_nil b mark⟩
theorem new_triple (mark : Int) : Triple Go.Proofs.Try.prog 10 [.int .u32 mark] [] (NewR mark) :=
  triple_of_run (h := []) (args := [.val (.int .u32 mark)]) (run_ok _ _ _ _ _) (fun r => rfl) (fun r => rfl) (by simp) (Eq.mpr (by kernel_rfl) (new_vc mark) : newGoal mark)

theorem mk_vc (b b1 base cap : Nat) (xs ys : List Int) (mark : Int) (rows : List (Int × Int)) (hlc : rows.length ≤ cap) (h0 : 0 < rows.length) (hx : xs.length = cap) (hy : ys.length = cap)
    (h1 : xs.take rows.length = rows.map (·.1)) (h2 : ys.take rows.length = rows.map (·.2)) :
    MkR b mark rows (Go.Value.int Go.IntKind.u32 mark)
  [(b, Go.Sx.Blk.cells [Go.Value.int Go.IntKind.u32 mark, Go.Value.slice (Option.some { block := b1, off := base * (2 : Nat) }) (List.length rows) cap] (55 : Go.TypeId)),
    (b1, Go.Sx.Blk.tab (60 : Go.TypeId) base cap [Go.Sx.Col.ints Go.IntKind.u32 xs, Go.Sx.Col.ints Go.IntKind.u32 ys])] := ⟨rfl, rep_tab hlc h0 hx hy h1 h2⟩
theorem mkNil_vc (b : Nat) (mark : Int) :
    MkR b mark [] (Go.Value.int Go.IntKind.u32 mark) [(b, Go.Sx.Blk.cells [Go.Value.int Go.IntKind.u32 mark, Go.Value.slice Option.none (0 : Nat) (0 : Nat)] (55 : Go.TypeId))] := ⟨rfl, rep_nil b mark⟩
theorem mark_triple {b : Nat} {mark : Int} {rows : List (Int × Int)} {L : Blks} (hr : SetRep b mark rows L) :
    Triple Go.Proofs.Try.prog 12 [.pointer (some ⟨b, 0, none⟩)] L (MkR b mark rows) := by
  refine set_triple hr (fun v L' G h => ⟨h.1, h.2.more G⟩) (fun v L' L'' h p => ⟨h.1, h.2.perm p⟩) (fun h0 => ?_) fun b1 base cap xs ys g1 g2 g3 g4 g5 g6 => ?_
  · subst h0
    exact triple_of_run (h := [.own b (.cells 2 [.val (.int .u32 mark), .val (.slice none 0 0)] 55)]) (args := [.ptr 0 0 0])
      (run_ok _ _ _ _ _) (fun r => rfl) (fun r => rfl) (by simp) (Eq.mpr (by kernel_rfl) (mkNil_vc b mark) : mkNilGoal b mark)
  · exact triple_of_run (h := [.own b (.cells 2 [.val (.int .u32 mark), .slc 1 0 rows.length cap] 55), .own b1 (.tab 60 base cap [.ints .u32 xs, .ints .u32 ys])]) (args := [.ptr 0 0 0])
      (run_ok _ _ _ _ _) (fun r => rfl) (fun r => rfl) (by simp) (Eq.mpr (by kernel_rfl) (mk_vc b b1 base cap xs ys mark rows g2 g1 g3 g4 g5 g6) : mkGoal b b1 base cap xs ys mark rows)

theorem hs_vc (b b1 base cap : Nat) (xs ys : List Int) (mark t : Int) (rows : List (Int × Int)) (hlc : rows.length ≤ cap) (hb : rows.length < 1000000) (h0 : 0 < rows.length) (hx : xs.length = cap) (hy : ys.length = cap)
    (h1 : xs.take rows.length = rows.map (·.1)) (h2 : ys.take rows.length = rows.map (·.2)) (hri : Rising rows) :
    (¬(0 : Int) < Go.IntKind.wrap Go.IntKind.i32 (Go.IntKind.wrap Go.IntKind.u32 (t - mark)) →
    (t = mark →
        HasR b mark rows t True
          [(b, Go.Sx.Blk.cells [Go.Value.int Go.IntKind.u32 mark, Go.Value.slice (Option.some { block := b1, off := base * (2 : Nat) }) (List.length rows) cap] (55 : Go.TypeId)),
            (b1, Go.Sx.Blk.tab (60 : Go.TypeId) base cap [Go.Sx.Col.ints Go.IntKind.u32 xs, Go.Sx.Col.ints Go.IntKind.u32 ys])]) ∧
      (¬t = mark →
        HasR b mark rows t ((0 : Int) < Go.IntKind.wrap Go.IntKind.i32 (Go.IntKind.wrap Go.IntKind.u32 (mark - t)))
          [(b, Go.Sx.Blk.cells [Go.Value.int Go.IntKind.u32 mark, Go.Value.slice (Option.some { block := b1, off := base * (2 : Nat) }) (List.length rows) cap] (55 : Go.TypeId)),
            (b1, Go.Sx.Blk.tab (60 : Go.TypeId) base cap [Go.Sx.Col.ints Go.IntKind.u32 xs, Go.Sx.Col.ints Go.IntKind.u32 ys])])) ∧
  (¬¬(0 : Int) < Go.IntKind.wrap Go.IntKind.i32 (Go.IntKind.wrap Go.IntKind.u32 (t - mark)) →
    (List.length rows ≤ cap ∧ cap = cap ∧ List.length rows < (1000000 : Nat) ∧ Rising (zipRows (List.length rows) xs ys)) ∧
      ∀ (i : Nat),
        i ≤ List.length rows →
          (∀ (k : Nat) (r : Int × Int), k < i → (zipRows (List.length rows) xs ys)[k]? = Option.some r → r.2 < Go.IntKind.wrap Go.IntKind.u32 (t - mark)) →
            (∀ (k : Nat) (r : Int × Int), i ≤ k → (zipRows (List.length rows) xs ys)[k]? = Option.some r → Go.IntKind.wrap Go.IntKind.u32 (t - mark) ≤ r.2) →
              ((↑i : Int) < (↑(List.length rows) : Int) →
                  ((0 : Int) ≤ (↑i : Int) ∧ (↑i : Int) < (↑(List.length rows) : Int)) ∧
                    (0 : Nat) + i < cap ∧
                      HasR b mark rows t (List.getD xs ((0 : Nat) + i) (0 : Int) ≤ Go.IntKind.wrap Go.IntKind.u32 (t - mark))
                        [(b, Go.Sx.Blk.cells [Go.Value.int Go.IntKind.u32 mark, Go.Value.slice (Option.some { block := b1, off := base * (2 : Nat) }) (List.length rows) cap] (55 : Go.TypeId)),
                          (b1, Go.Sx.Blk.tab (60 : Go.TypeId) base cap [Go.Sx.Col.ints Go.IntKind.u32 xs, Go.Sx.Col.ints Go.IntKind.u32 ys])]) ∧
                (¬(↑i : Int) < (↑(List.length rows) : Int) →
                  HasR b mark rows t False
                    [(b, Go.Sx.Blk.cells [Go.Value.int Go.IntKind.u32 mark, Go.Value.slice (Option.some { block := b1, off := base * (2 : Nat) }) (List.length rows) cap] (55 : Go.TypeId)),
                      (b1, Go.Sx.Blk.tab (60 : Go.TypeId) base cap [Go.Sx.Col.ints Go.IntKind.u32 xs, Go.Sx.Col.ints Go.IntKind.u32 ys])])) := by
  have hz := zip_rows h1 h2
  simp only [hz]
  have hless : lessF mark t ↔ 0 < IntKind.wrap .i32 (IntKind.wrap .u32 (t - mark)) := Iff.rfl
  have hdist : distF mark t = IntKind.wrap .u32 (t - mark) := rfl
  have hrep := rep_tab (b := b) (b1 := b1) (base := base) (mark := mark) hlc h0 hx hy h1 h2
  refine ⟨fun hn => ⟨fun he => ⟨⟨fun _ => .inr ⟨fun h => hn (hless.1 h), .inl he⟩, fun _ => trivial⟩, hrep⟩, fun he => ⟨⟨fun h => .inr ⟨fun h => hn (hless.1 h), .inr h⟩, fun h => ?_⟩, hrep⟩⟩,
    fun hl => ⟨⟨hlc, trivial, hb, hri⟩, fun i gi g1 g2 => ⟨fun hlt => ⟨⟨by omega, hlt⟩, by omega, ⟨fun h => .inl ⟨hless.2 (Decidable.not_not.1 hl), ?_⟩, fun h => ?_⟩, hrep⟩, fun hge => ⟨⟨fun h => ?_, fun h => ?_⟩, hrep⟩⟩⟩⟩
  · rcases h with ⟨h, -⟩ | ⟨-, h | h⟩
    · exact absurd (hless.1 h) hn
    · exact absurd h he
    · exact h
  · have hi : i < rows.length := by omega
    rw [Nat.zero_add, getD_take (f := (·.1)) h1 hi] at h
    rw [hdist]
    exact ⟨i, rows[i], List.getElem?_eq_getElem hi, g1, h, g2 i _ (Nat.le_refl i) (List.getElem?_eq_getElem hi)⟩
  · rcases h with ⟨-, h⟩ | ⟨h, -⟩
    · have hi : i < rows.length := by omega
      rw [Nat.zero_add, getD_take (f := (·.1)) h1 hi]
      obtain ⟨j, r, k1, k2, k3, k4⟩ := h
      rw [hdist] at k2 k3 k4
      have hij : i = j := by
        rcases Nat.lt_trichotomy i j with h | h | h
        · have := k2 i _ h (List.getElem?_eq_getElem hi)
          have := g2 i _ (Nat.le_refl i) (List.getElem?_eq_getElem hi)
          omega
        · exact h
        · have := g1 j r h k1; omega
      subst hij
      rw [List.getElem?_eq_getElem hi] at k1
      cases k1
      exact k3
    · exact absurd (hless.2 (Decidable.not_not.1 hl)) h
  · cases h
  · rcases h with ⟨-, h⟩ | ⟨h, -⟩
    · obtain ⟨j, r, k1, k2, k3, k4⟩ := h
      have hj := (List.getElem?_eq_some_iff.1 k1).1
      have := g1 j r (by omega) k1
      rw [hdist] at k4
      omega
    · exact absurd (hless.2 (Decidable.not_not.1 hl)) h
theorem hsNil_vc (b : Nat) (mark t : Int) :
    (¬(0 : Int) < Go.IntKind.wrap Go.IntKind.i32 (Go.IntKind.wrap Go.IntKind.u32 (t - mark)) →
    (t = mark → HasR b mark [] t True [(b, Go.Sx.Blk.cells [Go.Value.int Go.IntKind.u32 mark, Go.Value.slice Option.none (0 : Nat) (0 : Nat)] (55 : Go.TypeId))]) ∧
      (¬t = mark →
        HasR b mark [] t ((0 : Int) < Go.IntKind.wrap Go.IntKind.i32 (Go.IntKind.wrap Go.IntKind.u32 (mark - t)))
          [(b, Go.Sx.Blk.cells [Go.Value.int Go.IntKind.u32 mark, Go.Value.slice Option.none (0 : Nat) (0 : Nat)] (55 : Go.TypeId))])) ∧
  (¬¬(0 : Int) < Go.IntKind.wrap Go.IntKind.i32 (Go.IntKind.wrap Go.IntKind.u32 (t - mark)) →
    ((↑(0 : Nat) : Int) < (↑(0 : Nat) : Int) → False) ∧
      (¬(↑(0 : Nat) : Int) < (↑(0 : Nat) : Int) → HasR b mark [] t False [(b, Go.Sx.Blk.cells [Go.Value.int Go.IntKind.u32 mark, Go.Value.slice Option.none (0 : Nat) (0 : Nat)] (55 : Go.TypeId))])) := by
  have hless : lessF mark t ↔ 0 < IntKind.wrap .i32 (IntKind.wrap .u32 (t - mark)) := Iff.rfl
  refine ⟨fun hn => ⟨fun he => ⟨⟨fun _ => .inr ⟨fun h => hn (hless.1 h), .inl he⟩, fun _ => trivial⟩, rep_nil b mark⟩, fun he => ⟨⟨fun h => .inr ⟨fun h => hn (hless.1 h), .inr h⟩, fun h => ?_⟩, rep_nil b mark⟩⟩,
    fun hl => ⟨fun h => by simp at h, fun _ => ⟨⟨fun h => (by cases h), fun h => ?_⟩, rep_nil b mark⟩⟩⟩
  · rcases h with ⟨h, -⟩ | ⟨-, h | h⟩
    · exact absurd (hless.1 h) hn
    · exact absurd h he
    · exact h
  · rcases h with ⟨-, h⟩ | ⟨h, -⟩
    · obtain ⟨j, r, k1, -⟩ := h
      simp at k1
    · exact absurd (hless.2 (Decidable.not_not.1 hl)) h
open Classical in
theorem has_triple {b : Nat} {mark : Int} {rows : List (Int × Int)} {L : Blks} (t : Int) (hr : SetRep b mark rows L) (hb : rows.length < 1000000) (hri : Rising rows) :
    Triple Go.Proofs.Try.prog 13 [.pointer (some ⟨b, 0, none⟩), .int .u32 t] L fun v L' => ∃ p : Prop, v = .bool (decide p) ∧ HasR b mark rows t p L' := by
  refine set_triple hr (fun v L' G ⟨p, h1, h2⟩ => ⟨p, h1, h2.1, h2.2.more G⟩) (fun v L' L'' ⟨p, h1, h2⟩ q => ⟨p, h1, h2.1, h2.2.perm q⟩) (fun h0 => ?_) fun b1 base cap xs ys g1 g2 g3 g4 g5 g6 => ?_
  · subst h0
    exact triple_of_runK (h := [.own b (.cells 2 [.val (.int .u32 mark), .val (.slice none 0 0)] 55)]) (args := [.ptr 0 0 0, .val (.int .u32 t)])
      (run_add _ _ _ _ _) (fun r => rfl) (fun r => rfl) (by simp) (Eq.mpr (by kernel_rfl) (hsNil_vc b mark t) : hsNilGoal b mark t) fun s h' hk => by
        obtain ⟨p, h1, h2⟩ := bOf_spec hk (locs h')
        exact ⟨p, h2, h1⟩
  · exact triple_of_runK (h := [.own b (.cells 2 [.val (.int .u32 mark), .slc 1 0 rows.length cap] 55), .own b1 (.tab 60 base cap [.ints .u32 xs, .ints .u32 ys])]) (args := [.ptr 0 0 0, .val (.int .u32 t)])
      (run_add _ _ _ _ _) (fun r => rfl) (fun r => rfl) (by simp) (Eq.mpr (by kernel_rfl) (hs_vc b b1 base cap xs ys mark t rows g2 hb g1 g3 g4 g5 g6 hri) : hsGoal b b1 base cap xs ys mark t rows) fun s h' hk => by
        obtain ⟨p, h1, h2⟩ := bOf_spec hk (locs h')
        exact ⟨p, h2, h1⟩

/-! Len. -/
theorem lenF_take {rows : List (Int × Int)} {i : Nat} (h : i < rows.length) : lenF (rows.take (i + 1)) = lenF (rows.take i) + (IntKind.wrap .u32 (rows[i].2 - rows[i].1) + 1) := by
  induction rows generalizing i with
  | nil => simp at h
  | cons r l ih =>
    cases i with
    | zero => simp [lenF]
    | succ i =>
      have := ih (i := i) (by simpa using h)
      simp only [List.take_succ_cons, lenF, List.getElem_cons_succ, this]
      omega
theorem wrap_u32_bd (a : Int) : 0 ≤ IntKind.wrap .u32 a ∧ IntKind.wrap .u32 a < 4294967296 := by
  simp only [IntKind.wrap, IntKind.bits, IntKind.signed]
  simp
  omega
theorem lenF_bd (rows : List (Int × Int)) : 0 ≤ lenF rows ∧ lenF rows ≤ rows.length * 4294967296 := by
  induction rows with
  | nil => simp [lenF]
  | cons r l ih =>
    have := wrap_u32_bd (r.2 - r.1)
    simp only [lenF, List.length_cons]
    omega
theorem ln_vc (b b1 base cap : Nat) (xs ys : List Int) (mark : Int) (rows : List (Int × Int)) (hlc : rows.length ≤ cap) (hb : rows.length < 1000000) (h0 : 0 < rows.length) (hx : xs.length = cap) (hy : ys.length = cap)
    (h1 : xs.take rows.length = rows.map (·.1)) (h2 : ys.take rows.length = rows.map (·.2)) :
    ∃ (x0 : Nat),
  ((((0 : Int) = lenF (List.take x0 rows) ∧
          (0 : Int) = (↑x0 : Int) ∧
            ((0 : Nat) = (0 : Nat) ∧ (0 : Nat) = (0 : Nat)) ∧
              ((0 : Nat) = (0 : Nat) ∧ List.length rows = List.length rows ∧ cap = cap) ∧ (↑(List.length rows) : Int) = (↑(List.length rows) : Int) ∧ True) ∧
        (b = b ∧ mark = mark ∧ ((0 : Nat) = (0 : Nat) ∧ List.length rows = List.length rows ∧ cap = cap) ∧ True) ∧ (b1 = b1 ∧ base = base ∧ cap = cap ∧ xs = xs ∧ ys = ys ∧ True) ∧ True) ∧
      x0 ≤ List.length rows) ∧
    ∀ (x : Nat),
      x ≤ List.length rows →
        ((↑x : Int) < (↑(List.length rows) : Int) →
            ((0 : Int) ≤ (↑x : Int) ∧ (↑x : Int) < (↑(List.length rows) : Int)) ∧
              (0 : Nat) + x < cap ∧
                (0 : Nat) + x < cap ∧
                  ∀ (b_1 : Nat),
                    Go.Value.oneCell' (Go.Value.int Go.IntKind.u32 (List.getD xs ((0 : Nat) + x) (0 : Int))) = Bool.true ∧
                      Go.Value.oneCell' (Go.Value.int Go.IntKind.u32 (List.getD ys ((0 : Nat) + x) (0 : Int))) = Bool.true ∧
                        ∃ (y : Nat),
                          List.length rows - y < List.length rows - x ∧
                            ((Go.IntKind.wrap Go.IntKind.i64
                                      (lenF (List.take x rows) +
                                        Go.IntKind.wrap Go.IntKind.i64
                                          (Go.IntKind.wrap Go.IntKind.i64 (Go.IntKind.wrap Go.IntKind.u32 (List.getD ys ((0 : Nat) + x) (0 : Int) - List.getD xs ((0 : Nat) + x) (0 : Int))) +
                                            (1 : Int))) =
                                    lenF (List.take y rows) ∧
                                  Go.IntKind.wrap Go.IntKind.i64 ((↑x : Int) + (1 : Int)) = (↑y : Int) ∧
                                    ((0 : Nat) = (0 : Nat) ∧ (0 : Nat) = (0 : Nat)) ∧
                                      ((0 : Nat) = (0 : Nat) ∧ List.length rows = List.length rows ∧ cap = cap) ∧ (↑(List.length rows) : Int) = (↑(List.length rows) : Int) ∧ True) ∧
                                (b = b ∧ mark = mark ∧ ((0 : Nat) = (0 : Nat) ∧ List.length rows = List.length rows ∧ cap = cap) ∧ True) ∧
                                  (b1 = b1 ∧ base = base ∧ cap = cap ∧ xs = xs ∧ ys = ys ∧ True) ∧ True) ∧
                              y ≤ List.length rows) ∧
          (¬(↑x : Int) < (↑(List.length rows) : Int) →
            LenR b mark rows (Go.Value.int Go.IntKind.i64 (lenF (List.take x rows)))
              [(b, Go.Sx.Blk.cells [Go.Value.int Go.IntKind.u32 mark, Go.Value.slice (Option.some { block := b1, off := base * (2 : Nat) }) (List.length rows) cap] (55 : Go.TypeId)),
                (b1, Go.Sx.Blk.tab (60 : Go.TypeId) base cap [Go.Sx.Col.ints Go.IntKind.u32 xs, Go.Sx.Col.ints Go.IntKind.u32 ys])]) := by
  have hrep := rep_tab (b := b) (b1 := b1) (base := base) (mark := mark) hlc h0 hx hy h1 h2
  refine ⟨0, ⟨by simp [lenF], Nat.zero_le _⟩, fun i hi => ⟨fun hlt => ⟨⟨by omega, hlt⟩, by omega, by omega, fun b2 => ⟨rfl, rfl, i + 1, by omega, ?_, by omega⟩⟩, fun hge => ?_⟩⟩
  · have hi' : i < rows.length := by omega
    have x0 := getD_take (f := (·.1)) h1 hi'
    have y0 := getD_take (f := (·.2)) h2 hi'
    have hw := wrapI hi' hb
    have hbd := wrap_u32_bd (rows[i].2 - rows[i].1)
    have hbd2 := lenF_bd (rows.take i)
    rw [List.length_take] at hbd2
    rw [Nat.zero_add, x0, y0, hw, lenF_take hi']
    refine ⟨⟨?_, by simp⟩, by simp, by simp, trivial⟩
    rw [IntKind.wrap_i64, IntKind.wrap_i64, IntKind.wrap_i64]
    omega
  · have : i = rows.length := by omega
    subst this
    rw [List.take_length]
    exact ⟨rfl, hrep⟩
theorem lnNil_vc (b : Nat) (mark : Int) :
    ∃ (x0 : Nat),
  ((((0 : Int) = lenF (List.take x0 []) ∧
          (0 : Int) = (↑x0 : Int) ∧
            ((0 : Nat) = (0 : Nat) ∧ (0 : Nat) = (0 : Nat)) ∧
              Go.Value.slice Option.none (0 : Nat) (0 : Nat) = Go.Value.slice Option.none (0 : Nat) (0 : Nat) ∧ (↑(0 : Nat) : Int) = (↑(0 : Nat) : Int) ∧ True) ∧
        (b = b ∧ mark = mark ∧ Go.Value.slice Option.none (0 : Nat) (0 : Nat) = Go.Value.slice Option.none (0 : Nat) (0 : Nat) ∧ True) ∧ True) ∧
      x0 ≤ (0 : Nat)) ∧
    ∀ (x : Nat),
      x ≤ (0 : Nat) →
        ((↑x : Int) < (↑(0 : Nat) : Int) → False) ∧
          (¬(↑x : Int) < (↑(0 : Nat) : Int) →
            LenR b mark [] (Go.Value.int Go.IntKind.i64 (lenF (List.take x [])))
              [(b, Go.Sx.Blk.cells [Go.Value.int Go.IntKind.u32 mark, Go.Value.slice Option.none (0 : Nat) (0 : Nat)] (55 : Go.TypeId))]) := ⟨0, ⟨by simp [lenF], Nat.zero_le _⟩, fun i hi => ⟨fun h => by omega, fun _ => ⟨by simp [lenF], rep_nil b mark⟩⟩⟩
theorem len_triple {b : Nat} {mark : Int} {rows : List (Int × Int)} {L : Blks} (hr : SetRep b mark rows L) (hb : rows.length < 1000000) :
    Triple Go.Proofs.Try.prog 20 [.pointer (some ⟨b, 0, none⟩)] L (LenR b mark rows) := by
  refine set_triple hr (fun v L' G h => ⟨h.1, h.2.more G⟩) (fun v L' L'' h p => ⟨h.1, h.2.perm p⟩) (fun h0 => ?_) fun b1 base cap xs ys g1 g2 g3 g4 g5 g6 => ?_
  · subst h0
    exact triple_of_run (h := [.own b (.cells 2 [.val (.int .u32 mark), .val (.slice none 0 0)] 55)]) (args := [.ptr 0 0 0])
      (run_ok _ _ _ _ _) (fun r => rfl) (fun r => rfl) (by simp) (Eq.mpr (by kernel_rfl) (lnNil_vc b mark) : lnNilGoal b mark)
  · exact triple_of_run (h := [.own b (.cells 2 [.val (.int .u32 mark), .slc 1 0 rows.length cap] 55), .own b1 (.tab 60 base cap [.ints .u32 xs, .ints .u32 ys])]) (args := [.ptr 0 0 0])
      (run_ok _ _ _ _ _) (fun r => rfl) (fun r => rfl) (by simp) (Eq.mpr (by kernel_rfl) (ln_vc b b1 base cap xs ys mark rows g2 hb g1 g3 g4 g5 g6) : lnGoal b b1 base cap xs ys mark rows)
end Go.Proofs.Ytmjhfnmkegdafaa
