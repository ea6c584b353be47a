/- Span: an added number. -/
import Derived.Test.YtmjhfnmkegdafaaSpK
import Derived.Test.YtmjhfnmkegdafaaProg
set_option maxRecDepth 100000
set_option linter.unusedVariables false
set_option linter.unusedSimpArgs false
namespace Go.Proofs.Ytmjhfnmkegdafaa
open Go Go.Sx

structure AX where
  i : Nat
  n : Nat
  b : Nat
  base : Nat
  cap : Nat
  xs : List Int
  ys : List Int
structure AY where
  i : Nat
def AXok (x : AX) (l : List (Int × Int)) : Prop := x.n = l.length ∧ x.n ≤ x.cap ∧ x.xs.length = x.cap ∧ x.ys.length = x.cap ∧ x.xs.take x.n = l.map (·.1) ∧ x.ys.take x.n = l.map (·.2)
/-- The place i of a distance d that is not known. -/
def Place (d : Int) (rows : List (Int × Int)) (i : Nat) : Prop := i ≤ rows.length ∧ (∀ (k : Nat) (r : Int × Int), k < i → rows[k]? = some r → r.2 < d) ∧ ∀ (k : Nat) (r : Int × Int), i ≤ k → rows[k]? = some r → d ≤ r.2 ∧ (k = i → d < r.1)
def insF (d : Int) (i : Nat) (l : List (Int × Int)) : List (Int × Int) := l.take i ++ (d, d) :: l.drop i
def mergeR (d : Int) (i : Nat) (l : List (Int × Int)) : List (Int × Int) :=
  if i + 1 < l.length ∧ (l.getD (i + 1) (0, 0)).1 = IntKind.wrap .u32 (d + 1) then l.take i ++ (d, (l.getD (i + 1) (0, 0)).2) :: l.drop (i + 2) else l
def mergeL (d : Int) (i : Nat) (l : List (Int × Int)) : List (Int × Int) :=
  if 0 < i ∧ IntKind.wrap .u32 ((l.getD (i - 1) (0, 0)).2 + 1) = d then l.take (i - 1) ++ ((l.getD (i - 1) (0, 0)).1, (l.getD i (0, 0)).2) :: l.drop (i + 1) else l
def adI0 (d : Int) (rows : List (Int × Int)) (x : AY) : Prop := Place d rows x.i
def adI1 (d : Int) (rows : List (Int × Int)) (x : AX) : Prop := Place d rows x.i ∧ AXok x (insF d x.i rows)
def adI2 (d : Int) (rows : List (Int × Int)) (x : AX) : Prop := Place d rows x.i ∧ AXok x (mergeR d x.i (insF d x.i rows))
def adI3 (d : Int) (rows : List (Int × Int)) (x : AX) : Prop := Place d rows x.i ∧ AXok x (mergeL d x.i (mergeR d x.i (insF d x.i rows)))
noncomputable def Ann.adSt0 (σ : St) (x : AY) : St := ⟨σ.n, (6, .val (.int .i64 x.i)) :: keepE σ.env [0, 1, 5], σ.heap⟩
noncomputable def Ann.adSt (b : Nat) (mark d : Int) (l1 : Go.Sx.Loc) (σ : St) (x : AX) : St :=
  ⟨σ.n, (6, .val (.int .i64 x.i)) :: (5, .val (.int .u32 d)) :: keepE σ.env [0, 1], [.own b (.cells 2 [.val (.int .u32 mark), .slc 2 0 x.n x.cap] 55), .gone l1, .own x.b (.tab 60 x.base x.cap [.ints .u32 x.xs, .ints .u32 x.ys])]⟩
noncomputable def Ann.ad (b : Nat) (mark d : Int) (l1 : Go.Sx.Loc) (rows : List (Int × Int)) : FnAnn := ⟨[], [
  (1000009, ⟨AY, [(Ann.adSt0, fun _ x => adI0 d rows x)], fun _ => 0⟩),
  (1000010, ⟨AX, [(Ann.adSt b mark d l1, fun _ x => adI1 d rows x)], fun _ => 0⟩),
  (1000013, ⟨AX, [(Ann.adSt b mark d l1, fun _ x => adI2 d rows x)], fun _ => 0⟩),
  (1000016, ⟨AX, [(Ann.adSt b mark d l1, fun _ x => adI3 d rows x)], fun _ => 0⟩)]⟩
def addF (d : Int) (i : Nat) (rows : List (Int × Int)) : List (Int × Int) := mergeL d i (mergeR d i (insF d i rows))
def Known (d : Int) (rows : List (Int × Int)) : Prop := ∃ (k : Nat) (r : Int × Int), rows[k]? = some r ∧ r.1 ≤ d ∧ d ≤ r.2
/-- What 'Add' answers and leaves. -/
def AdR (b : Nat) (mark : Int) (rows : List (Int × Int)) (t : Int) (v : Value) (L : Blks) : Prop :=
  (¬ lessF mark t → v = .int .i64 1 ∧ SetRep b mark rows L) ∧ (lessF mark t → 4096 < distF mark t → v = .int .i64 2 ∧ SetRep b mark rows L) ∧
  (lessF mark t → ¬ 4096 < distF mark t → (v = .int .i64 1 ∧ Known (distF mark t) rows ∧ SetRep b mark rows L) ∨
    (v = .int .i64 0 ∧ ∃ i, Place (distF mark t) rows i ∧ SetRep b (settleF mark (addF (distF mark t) i rows)).1 (settleF mark (addF (distF mark t) i rows)).2 L))
noncomputable def adGoal (b b1 base cap : Nat) (xs ys : List Int) (mark t : Int) (rows : List (Int × Int)) : Prop :=
  xrun Go.Proofs.Try.prog [(28, moveT), (25, insT), (24, atT), (26, delT)] [(11, Ann.ad b mark (distF mark t) (b1, base, 2) rows)] [] 9 [] 11 [.ptr 0 0 0, .val (.int .u32 t)]
    [.own b (.cells 2 [.val (.int .u32 mark), .slc 1 0 rows.length cap] 55), .own b1 (.tab 60 base cap [.ints .u32 xs, .ints .u32 ys])] fun s h => AdR b mark rows t (den (locs h) s) (owned (locs h) h)
noncomputable def adNilGoal (b : Nat) (mark t : Int) : Prop :=
  xrun Go.Proofs.Try.prog [(28, moveT), (25, insT), (24, atT), (26, delT)] [] [([], (32, false)), ([], (65, false)), ([], (109, false)), ([152], (8, true))] 9 [] 11 [.ptr 0 0 0, .val (.int .u32 t)]
    [.own b (.cells 2 [.val (.int .u32 mark), .val (.slice none 0 0)] 55)] fun s h => AdR b mark [] t (den (locs h) s) (owned (locs h) h)

/-! Lists of rows and their columns. -/
theorem map_ins {f : Int × Int → Int} {rows : List (Int × Int)} {d : Int} {i : Nat} (hf : f (d, d) = d) {xs : List Int} (h : xs.take rows.length = rows.map f) :
    (xs.take rows.length).take i ++ d :: (xs.take rows.length).drop i = (insF d i rows).map f := by
  rw [h]
  simp [insF, hf, List.map_take, List.map_drop]

theorem ins_len {rows : List (Int × Int)} {d : Int} {i : Nat} (hi : i ≤ rows.length) : (insF d i rows).length = rows.length + 1 := by
  simp [insF]; omega
theorem ins_at {rows : List (Int × Int)} {d : Int} {i : Nat} (hi : i ≤ rows.length) : (insF d i rows)[i]? = some (d, d) := by
  unfold insF
  rw [List.getElem?_append_right (by rw [List.length_take]; omega)]
  rw [List.length_take, show i - min i rows.length = 0 by omega]
  rfl

theorem getD_col {xs : List Int} {l : List (Int × Int)} {f : Int × Int → Int} (h : xs.take l.length = l.map f) {i : Nat} (hi : i < l.length) (hf : f (0, 0) = 0) : xs.getD i 0 = f (l.getD i (0, 0)) := by
  rw [getD_take h hi]
  simp [List.getD, List.getElem?_eq_getElem hi]

/-- Row i takes the end of row i + 1, which goes. -/
theorem right_fst {l : List (Int × Int)} {d : Int} {i : Nat} {e : Int} (h0 : l[i]? = some (d, e)) (h1 : i + 1 < l.length) {xs : List Int} (h : xs.take l.length = l.map (·.1)) :
    (xs.take l.length).take (i + 1) ++ (xs.take l.length).drop (i + 1 + 1) = (l.take i ++ (d, (l.getD (i + 1) (0, 0)).2) :: l.drop (i + 2)).map (·.1) := by
  rw [h, ← List.map_take, ← List.map_drop, ← List.map_append]
  have hlt : i < l.length := by omega
  have : l.take (i + 1) = l.take i ++ [(d, e)] := by
    rw [List.take_succ_eq_append_getElem hlt]
    congr 2
    rw [List.getElem?_eq_getElem hlt] at h0
    exact Option.some.inj h0
  rw [this]
  simp
theorem right_snd {l : List (Int × Int)} {d : Int} {i : Nat} (h1 : i + 1 < l.length) {ys : List Int} (hy : l.length ≤ ys.length) (h : ys.take l.length = l.map (·.2)) {v : Int} (hv : v = (l.getD (i + 1) (0, 0)).2) :
    ((ys.set i v).take l.length).take (i + 1) ++ ((ys.set i v).take l.length).drop (i + 1 + 1) = (l.take i ++ (d, (l.getD (i + 1) (0, 0)).2) :: l.drop (i + 2)).map (·.2) := by
  rw [List.take_set, h, ← hv]
  rw [List.take_set, List.drop_set_of_lt (by omega), ← List.map_take, ← List.map_drop]
  have hlt : i < l.length := by omega
  rw [List.take_succ_eq_append_getElem hlt, List.map_append, List.set_append_right _ _ (by simp; omega)]
  simp
  rw [show i - min i l.length = 0 by omega]
  simp



theorem left_fst {l : List (Int × Int)} {j : Nat} {v : Int} (h1 : j + 1 < l.length) {xs : List Int} (h : xs.take l.length = l.map (·.1)) :
    (xs.take l.length).take (j + 1) ++ (xs.take l.length).drop (j + 1 + 1) = (l.take j ++ ((l.getD j (0, 0)).1, v) :: l.drop (j + 2)).map (·.1) := by
  rw [h, ← List.map_take, ← List.map_drop, ← List.map_append]
  have hlt : j < l.length := by omega
  have : l.take (j + 1) = l.take j ++ [l[j]] := List.take_succ_eq_append_getElem hlt
  rw [this]
  simp only [List.map_append, List.map_cons, List.map_nil, List.append_assoc, List.cons_append, List.nil_append, List.getD, List.getElem?_eq_getElem hlt, Option.getD_some]
theorem left_snd {l : List (Int × Int)} {j : Nat} {a : Int} (h1 : j + 1 < l.length) {ys : List Int} (hy : l.length ≤ ys.length) (h : ys.take l.length = l.map (·.2)) {v : Int} (hv : v = (l.getD (j + 1) (0, 0)).2) :
    ((ys.set j v).take l.length).take (j + 1) ++ ((ys.set j v).take l.length).drop (j + 1 + 1) = (l.take j ++ (a, (l.getD (j + 1) (0, 0)).2) :: l.drop (j + 2)).map (·.2) := by
  rw [List.take_set, h, ← hv]
  rw [List.take_set, List.drop_set_of_lt (by omega), ← List.map_take, ← List.map_drop]
  have hlt : j < l.length := by omega
  rw [List.take_succ_eq_append_getElem hlt, List.map_append, List.set_append_right _ _ (by simp; omega)]
  simp
  rw [show j - min j l.length = 0 by omega]
  simp

theorem AXok.ins {d : Int} {rows : List (Int × Int)} {i b' base' cap' : Nat} {xs ys xs' ys' : List Int} (hi : i ≤ rows.length)
    (h1 : xs.take rows.length = rows.map (·.1)) (h2 : ys.take rows.length = rows.map (·.2)) (k1 : rows.length + 1 ≤ cap') (k2 : xs'.length = cap') (k3 : ys'.length = cap')
    (k4 : xs'.take (rows.length + 1) = (xs.take rows.length).take i ++ d :: (xs.take rows.length).drop i)
    (k5 : ys'.take (rows.length + 1) = (ys.take rows.length).take i ++ d :: (ys.take rows.length).drop i) : AXok ⟨i, rows.length + 1, b', base', cap', xs', ys'⟩ (insF d i rows) :=
  ⟨(ins_len hi).symm, k1, k2, k3, k4.trans (map_ins (f := (·.1)) rfl h1), k5.trans (map_ins (f := (·.2)) rfl h2)⟩

theorem mergeR_yes {d : Int} {i : Nat} {l : List (Int × Int)} (h : i + 1 < l.length) (he : (l.getD (i + 1) (0, 0)).1 = IntKind.wrap .u32 (d + 1)) :
    mergeR d i l = l.take i ++ (d, (l.getD (i + 1) (0, 0)).2) :: l.drop (i + 2) := if_pos ⟨h, he⟩
theorem mergeR_no {d : Int} {i : Nat} {l : List (Int × Int)} (h : i + 1 < l.length → ¬(l.getD (i + 1) (0, 0)).1 = IntKind.wrap .u32 (d + 1)) : mergeR d i l = l := if_neg fun h' => h h'.1 h'.2
theorem mergeR_len {d : Int} {i : Nat} {l : List (Int × Int)} (h0 : i < l.length) : (mergeR d i l).length ≤ l.length ∧ i < (mergeR d i l).length := by
  unfold mergeR; split
  · rename_i h; obtain ⟨h, -⟩ := h
    simp; omega
  · omega
theorem mergeR_at {d e : Int} {i : Nat} {l : List (Int × Int)} (h : l[i]? = some (d, e)) : ∃ e', (mergeR d i l)[i]? = some (d, e') := by
  unfold mergeR; split
  · rename_i hc; obtain ⟨hc, -⟩ := hc
    refine ⟨(l.getD (i + 1) (0, 0)).2, ?_⟩
    rw [List.getElem?_append_right (by rw [List.length_take]; omega)]
    rw [List.length_take, show i - min i l.length = 0 by omega]
    rfl
  · exact ⟨e, h⟩
theorem mergeL_yes {d : Int} {i : Nat} {l : List (Int × Int)} (h : 0 < i) (he : IntKind.wrap .u32 ((l.getD (i - 1) (0, 0)).2 + 1) = d) :
    mergeL d i l = l.take (i - 1) ++ ((l.getD (i - 1) (0, 0)).1, (l.getD i (0, 0)).2) :: l.drop (i + 1) := if_pos ⟨h, he⟩
theorem mergeL_no {d : Int} {i : Nat} {l : List (Int × Int)} (h : 0 < i → ¬IntKind.wrap .u32 ((l.getD (i - 1) (0, 0)).2 + 1) = d) : mergeL d i l = l := if_neg fun h' => h h'.1 h'.2
theorem mergeL_len {d : Int} {i : Nat} {l : List (Int × Int)} (h0 : i < l.length) : (mergeL d i l).length ≤ l.length ∧ 0 < (mergeL d i l).length := by
  unfold mergeL; split
  · rename_i h; obtain ⟨h, -⟩ := h
    simp; omega
  · omega

theorem AXok.right {i n b base cap b' base' cap' : Nat} {xs ys xs' ys' : List Int} {l : List (Int × Int)} {d e : Int} (h0 : l[i]? = some (d, e)) (ha : AXok ⟨i, n, b, base, cap, xs, ys⟩ l)
    (hc : i + 1 < n) (he : xs.getD (i + 1) 0 = IntKind.wrap .u32 (d + 1)) (k1 : n - 1 ≤ cap') (k2 : xs'.length = cap') (k3 : ys'.length = cap')
    (k4 : xs'.take (n - 1) = (xs.take n).take (i + 1) ++ (xs.take n).drop (i + 1 + 1))
    (k5 : ys'.take (n - 1) = ((ys.set i (ys.getD (i + 1) 0)).take n).take (i + 1) ++ ((ys.set i (ys.getD (i + 1) 0)).take n).drop (i + 1 + 1)) :
    AXok ⟨i, n - 1, b', base', cap', xs', ys'⟩ (mergeR d i l) := by
  obtain ⟨a1, a2, a3, a4, a5, a6⟩ := ha
  simp only at a1 a2 a3 a4 a5 a6
  subst a1
  have hx := getD_col (f := (·.1)) a5 hc rfl
  have hy := getD_col (f := (·.2)) a6 hc rfl
  have hm := mergeR_yes (d := d) hc (hx ▸ he)
  refine ⟨?_, k1, k2, k3, ?_, ?_⟩
  · rw [hm]; simp; omega
  · rw [hm]; exact k4.trans (right_fst h0 hc a5)
  · rw [hm]; exact k5.trans (right_snd hc (by omega) a6 hy)
theorem AXok.left {i n b base cap b' base' cap' : Nat} {xs ys xs' ys' : List Int} {l : List (Int × Int)} {d : Int} (hi : 0 < i) (ha : AXok ⟨i, n, b, base, cap, xs, ys⟩ l)
    (hc : i < n) (he : IntKind.wrap .u32 (ys.getD (i - 1) 0 + 1) = d) (k1 : n - 1 ≤ cap') (k2 : xs'.length = cap') (k3 : ys'.length = cap')
    (k4 : xs'.take (n - 1) = (xs.take n).take i ++ (xs.take n).drop (i + 1))
    (k5 : ys'.take (n - 1) = ((ys.set (i - 1) (ys.getD i 0)).take n).take i ++ ((ys.set (i - 1) (ys.getD i 0)).take n).drop (i + 1)) :
    AXok ⟨i, n - 1, b', base', cap', xs', ys'⟩ (mergeL d i l) := by
  obtain ⟨a1, a2, a3, a4, a5, a6⟩ := ha
  simp only at a1 a2 a3 a4 a5 a6
  subst a1
  obtain ⟨j, rfl⟩ : ∃ j, i = j + 1 := ⟨i - 1, by omega⟩
  simp only [Nat.add_sub_cancel] at *
  have hx := getD_col (f := (·.2)) a6 (show j < l.length by omega) rfl
  have hy := getD_col (f := (·.2)) a6 hc rfl
  have hm := mergeL_yes (d := d) (l := l) hi (by rw [Nat.add_sub_cancel]; exact hx ▸ he)
  rw [Nat.add_sub_cancel] at hm
  refine ⟨?_, k1, k2, k3, ?_, ?_⟩
  · rw [hm]; simp; omega
  · rw [hm]; exact k4.trans (left_fst hc a5)
  · rw [hm]; exact k5.trans (left_snd hc (by omega) a6 hy)

theorem AdR.low {b : Nat} {mark t : Int} {rows : List (Int × Int)} {L : Blks} (h : ¬ lessF mark t) (hr : SetRep b mark rows L) : AdR b mark rows t (.int .i64 1) L :=
  ⟨fun _ => ⟨rfl, hr⟩, fun h' => absurd h' h, fun h' => absurd h' h⟩
theorem AdR.far {b : Nat} {mark t : Int} {rows : List (Int × Int)} {L : Blks} (h : lessF mark t) (h2 : 4096 < distF mark t) (hr : SetRep b mark rows L) : AdR b mark rows t (.int .i64 2) L :=
  ⟨fun h' => absurd h h', fun _ _ => ⟨rfl, hr⟩, fun _ h' => absurd h2 h'⟩
theorem AdR.known {b : Nat} {mark t : Int} {rows : List (Int × Int)} {L : Blks} (h : lessF mark t) (h2 : ¬ 4096 < distF mark t) (hk : Known (distF mark t) rows) (hr : SetRep b mark rows L) :
    AdR b mark rows t (.int .i64 1) L := ⟨fun h' => absurd h h', fun _ h' => absurd h' h2, fun _ _ => .inl ⟨rfl, hk, hr⟩⟩
theorem AdR.fresh {b : Nat} {mark t : Int} {rows : List (Int × Int)} {L : Blks} (h : lessF mark t) (h2 : ¬ 4096 < distF mark t) {i : Nat} (hp : Place (distF mark t) rows i)
    (hr : SetRep b (settleF mark (addF (distF mark t) i rows)).1 (settleF mark (addF (distF mark t) i rows)).2 L) :
    AdR b mark rows t (.int .i64 0) L := ⟨fun h' => absurd h h', fun _ h' => absurd h' h2, fun _ _ => .inr ⟨rfl, i, hp, hr⟩⟩

theorem i64_succ {i : Nat} (h : i < 2000000) : IntKind.wrap .i64 ((i : Int) + 1) = ((i + 1 : Nat) : Int) := by rw [IntKind.wrap_i64]; omega
theorem i64_pred {i : Nat} (h0 : 0 < i) (h : i < 2000000) : IntKind.wrap .i64 ((i : Int) - 1) = ((i - 1 : Nat) : Int) := by rw [IntKind.wrap_i64]; omega
theorem i64_two {i : Nat} (h : i < 2000000) : IntKind.wrap .i64 ((i : Int) + 2) = ((i + 1 : Nat) : Int) + 1 := by rw [IntKind.wrap_i64]; omega

theorem ad_vc (b b1 base cap : Nat) (xs ys : List Int) (mark t : Int) (rows : List (Int × Int)) (hlc : rows.length ≤ cap) (hb : rows.length + 1 < 1000000) (h0 : 0 < rows.length) (hx : xs.length = cap) (hy : ys.length = cap)
    (h1 : xs.take rows.length = rows.map (·.1)) (h2 : ys.take rows.length = rows.map (·.2)) (hri : Rising rows) :
    (¬(0 : Int) < Go.IntKind.wrap Go.IntKind.i32 (Go.IntKind.wrap Go.IntKind.u32 (t - mark)) →
    AdR b mark rows t (Go.Value.int Go.IntKind.i64 (1 : Int))
      [(b, Go.Sx.Blk.cells [Go.Value.int Go.IntKind.u32 mark, Go.Value.slice (Option.some { block := b1, off := base * (2 : Nat) }) (List.length rows) cap] (55 : Go.TypeId)),
        (b1, Go.Sx.Blk.tab (60 : Go.TypeId) base cap [Go.Sx.Col.ints Go.IntKind.u32 xs, Go.Sx.Col.ints Go.IntKind.u32 ys])]) ∧
  (¬¬(0 : Int) < Go.IntKind.wrap Go.IntKind.i32 (Go.IntKind.wrap Go.IntKind.u32 (t - mark)) →
    ((4096 : Int) < Go.IntKind.wrap Go.IntKind.u32 (t - mark) →
        AdR b mark rows t (Go.Value.int Go.IntKind.i64 (2 : Int))
          [(b, Go.Sx.Blk.cells [Go.Value.int Go.IntKind.u32 mark, Go.Value.slice (Option.some { block := b1, off := base * (2 : Nat) }) (List.length rows) cap] (55 : Go.TypeId)),
            (b1, Go.Sx.Blk.tab (60 : Go.TypeId) base cap [Go.Sx.Col.ints Go.IntKind.u32 xs, Go.Sx.Col.ints Go.IntKind.u32 ys])]) ∧
      (¬(4096 : Int) < Go.IntKind.wrap Go.IntKind.u32 (t - mark) →
        (List.length rows ≤ cap ∧ cap = cap ∧ List.length rows < (1000000 : Nat) ∧ Rising (zipRows (List.length rows) xs ys)) ∧
          ∀ (i : Nat),
            i ≤ List.length rows →
              (∀ (k : Nat) (r : Int × Int), k < i → (zipRows (List.length rows) xs ys)[k]? = Option.some r → r.2 < Go.IntKind.wrap Go.IntKind.u32 (t - mark)) →
                (∀ (k : Nat) (r : Int × Int), i ≤ k → (zipRows (List.length rows) xs ys)[k]? = Option.some r → Go.IntKind.wrap Go.IntKind.u32 (t - mark) ≤ r.2) →
                  ∃ (x0 : AY),
                    (((↑i : Int) < (↑(List.length rows) : Int) →
                          ((0 : Int) ≤ (↑i : Int) ∧ (↑i : Int) < (↑(List.length rows) : Int)) ∧
                            (0 : Nat) + i < cap ∧
                              (List.getD xs ((0 : Nat) + i) (0 : Int) ≤ Go.IntKind.wrap Go.IntKind.u32 (t - mark) →
                                  AdR b mark rows t (Go.Value.int Go.IntKind.i64 (1 : Int))
                                    [(b,
                                        Go.Sx.Blk.cells [Go.Value.int Go.IntKind.u32 mark, Go.Value.slice (Option.some { block := b1, off := base * (2 : Nat) }) (List.length rows) cap]
                                          (55 : Go.TypeId)),
                                      (b1, Go.Sx.Blk.tab (60 : Go.TypeId) base cap [Go.Sx.Col.ints Go.IntKind.u32 xs, Go.Sx.Col.ints Go.IntKind.u32 ys])]) ∧
                                (¬List.getD xs ((0 : Nat) + i) (0 : Int) ≤ Go.IntKind.wrap Go.IntKind.u32 (t - mark) →
                                  ∃ (y : AY),
                                    (((↑i : Int) = (↑y.1 : Int) ∧
                                          ((0 : Nat) = (0 : Nat) ∧ (0 : Nat) = (0 : Nat)) ∧ t = t ∧ Go.IntKind.wrap Go.IntKind.u32 (t - mark) = Go.IntKind.wrap Go.IntKind.u32 (t - mark) ∧ True) ∧
                                        (b = b ∧ mark = mark ∧ ((0 : Nat) = (0 : Nat) ∧ List.length rows = List.length rows ∧ cap = cap) ∧ True) ∧
                                          (b1 = b1 ∧ base = base ∧ cap = cap ∧ xs = xs ∧ ys = ys ∧ True) ∧ True) ∧
                                      adI0 (distF mark t) rows y)) ∧
                        (¬(↑i : Int) < (↑(List.length rows) : Int) →
                          ∃ (y : AY),
                            (((↑i : Int) = (↑y.1 : Int) ∧
                                  ((0 : Nat) = (0 : Nat) ∧ (0 : Nat) = (0 : Nat)) ∧ t = t ∧ Go.IntKind.wrap Go.IntKind.u32 (t - mark) = Go.IntKind.wrap Go.IntKind.u32 (t - mark) ∧ True) ∧
                                (b = b ∧ mark = mark ∧ ((0 : Nat) = (0 : Nat) ∧ List.length rows = List.length rows ∧ cap = cap) ∧ True) ∧
                                  (b1 = b1 ∧ base = base ∧ cap = cap ∧ xs = xs ∧ ys = ys ∧ True) ∧ True) ∧
                              adI0 (distF mark t) rows y)) ∧
                      ∀ (x : AY),
                        adI0 (distF mark t) rows x →
                          ∃ (x0 : AX),
                            (∀ (b_1 : Nat),
                                ((0 : Int) ≤ (↑x.1 : Int) ∧ (↑x.1 : Int) ≤ (↑(List.length rows) : Int) ∧ List.length rows ≤ cap ∧ cap = cap ∧ List.length rows < (1000000 : Nat)) ∧
                                  ∀ (b' base' cap' : Nat) (xs' ys' : List Int),
                                    List.length rows + (1 : Nat) ≤ cap' →
                                      List.length xs' = cap' →
                                        List.length ys' = cap' →
                                          List.take (List.length rows + (1 : Nat)) xs' =
                                              List.take x.1 (List.take (List.length rows) xs) ++ Go.IntKind.wrap Go.IntKind.u32 (t - mark) :: List.drop x.1 (List.take (List.length rows) xs) →
                                            List.take (List.length rows + (1 : Nat)) ys' =
                                                List.take x.1 (List.take (List.length rows) ys) ++ Go.IntKind.wrap Go.IntKind.u32 (t - mark) :: List.drop x.1 (List.take (List.length rows) ys) →
                                              ∃ (y : AX),
                                                (((↑x.1 : Int) = (↑y.1 : Int) ∧
                                                      Go.IntKind.wrap Go.IntKind.u32 (t - mark) = distF mark t ∧
                                                        ((0 : Nat) = (0 : Nat) ∧ (0 : Nat) = (0 : Nat)) ∧ t = t ∧ True) ∧
                                                    (b = b ∧ mark = mark ∧ ((0 : Nat) = (0 : Nat) ∧ List.length rows + (1 : Nat) = y.2 ∧ cap' = y.5) ∧ True) ∧
                                                      (b1, base, (2 : Nat)) = (b1, base, (2 : Nat)) ∧ (b' = y.3 ∧ base' = y.4 ∧ cap' = y.5 ∧ xs' = y.6 ∧ ys' = y.7 ∧ True) ∧ True) ∧
                                                  adI1 (distF mark t) rows y) ∧
                              ∀ (x : AX),
                                adI1 (distF mark t) rows x →
                                  ∃ (x0 : AX),
                                    ((Go.IntKind.wrap Go.IntKind.i64 ((↑x.1 : Int) + (1 : Int)) < (↑x.2 : Int) →
                                          ((0 : Int) ≤ Go.IntKind.wrap Go.IntKind.i64 ((↑x.1 : Int) + (1 : Int)) ∧ Go.IntKind.wrap Go.IntKind.i64 ((↑x.1 : Int) + (1 : Int)) < (↑x.2 : Int)) ∧
                                            (0 : Nat) + Int.toNat (Go.IntKind.wrap Go.IntKind.i64 ((↑x.1 : Int) + (1 : Int))) < x.5 ∧
                                              (List.getD x.6 ((0 : Nat) + Int.toNat (Go.IntKind.wrap Go.IntKind.i64 ((↑x.1 : Int) + (1 : Int)))) (0 : Int) =
                                                    Go.IntKind.wrap Go.IntKind.u32 (distF mark t + (1 : Int)) →
                                                  ((0 : Int) ≤ Go.IntKind.wrap Go.IntKind.i64 ((↑x.1 : Int) + (1 : Int)) ∧ Go.IntKind.wrap Go.IntKind.i64 ((↑x.1 : Int) + (1 : Int)) < (↑x.2 : Int)) ∧
                                                    (0 : Nat) + Int.toNat (Go.IntKind.wrap Go.IntKind.i64 ((↑x.1 : Int) + (1 : Int))) < x.5 ∧
                                                      ((0 : Int) ≤ (↑x.1 : Int) ∧ (↑x.1 : Int) < (↑x.2 : Int)) ∧
                                                        (0 : Nat) + x.1 < x.5 ∧
                                                          ((0 : Int) ≤ Go.IntKind.wrap Go.IntKind.i64 ((↑x.1 : Int) + (1 : Int)) ∧
                                                              Go.IntKind.wrap Go.IntKind.i64 ((↑x.1 : Int) + (1 : Int)) < (↑x.2 : Int) ∧
                                                                Go.IntKind.wrap Go.IntKind.i64 ((↑x.1 : Int) + (2 : Int)) = Go.IntKind.wrap Go.IntKind.i64 ((↑x.1 : Int) + (1 : Int)) + (1 : Int) ∧
                                                                  x.2 ≤ x.5 ∧ x.5 = x.5 ∧ x.2 < (1000000 : Nat)) ∧
                                                            ∀ (b' base' cap' : Nat) (xs' ys' : List Int),
                                                              x.2 - (1 : Nat) ≤ cap' →
                                                                List.length xs' = cap' →
                                                                  List.length ys' = cap' →
                                                                    List.take (x.2 - (1 : Nat)) xs' =
                                                                        List.take (Int.toNat (Go.IntKind.wrap Go.IntKind.i64 ((↑x.1 : Int) + (1 : Int)))) (List.take x.2 x.6) ++
                                                                          List.drop (Int.toNat (Go.IntKind.wrap Go.IntKind.i64 ((↑x.1 : Int) + (1 : Int))) + (1 : Nat)) (List.take x.2 x.6) →
                                                                      List.take (x.2 - (1 : Nat)) ys' =
                                                                          List.take (Int.toNat (Go.IntKind.wrap Go.IntKind.i64 ((↑x.1 : Int) + (1 : Int))))
                                                                              (List.take x.2
                                                                                (List.set x.7 ((0 : Nat) + x.1)
                                                                                  (List.getD x.7 ((0 : Nat) + Int.toNat (Go.IntKind.wrap Go.IntKind.i64 ((↑x.1 : Int) + (1 : Int)))) (0 : Int)))) ++
                                                                            List.drop (Int.toNat (Go.IntKind.wrap Go.IntKind.i64 ((↑x.1 : Int) + (1 : Int))) + (1 : Nat))
                                                                              (List.take x.2
                                                                                (List.set x.7 ((0 : Nat) + x.1)
                                                                                  (List.getD x.7 ((0 : Nat) + Int.toNat (Go.IntKind.wrap Go.IntKind.i64 ((↑x.1 : Int) + (1 : Int)))) (0 : Int)))) →
                                                                        ∃ (y : AX),
                                                                          (((↑x.1 : Int) = (↑y.1 : Int) ∧
                                                                                distF mark t = distF mark t ∧
                                                                                  ((0 : Nat) = (0 : Nat) ∧ (0 : Nat) = (0 : Nat)) ∧ t = t ∧ True) ∧
                                                                              (b = b ∧ mark = mark ∧ ((0 : Nat) = (0 : Nat) ∧ x.2 - (1 : Nat) = y.2 ∧ cap' = y.5) ∧ True) ∧
                                                                                (b1, base, (2 : Nat)) = (b1, base, (2 : Nat)) ∧
                                                                                  (b' = y.3 ∧ base' = y.4 ∧ cap' = y.5 ∧ xs' = y.6 ∧ ys' = y.7 ∧ True) ∧ True) ∧
                                                                            adI2 (distF mark t) rows y) ∧
                                                (¬List.getD x.6 ((0 : Nat) + Int.toNat (Go.IntKind.wrap Go.IntKind.i64 ((↑x.1 : Int) + (1 : Int)))) (0 : Int) =
                                                      Go.IntKind.wrap Go.IntKind.u32 (distF mark t + (1 : Int)) →
                                                  ∃ (y : AX),
                                                    (((↑x.1 : Int) = (↑y.1 : Int) ∧
                                                          distF mark t = distF mark t ∧
                                                            ((0 : Nat) = (0 : Nat) ∧ (0 : Nat) = (0 : Nat)) ∧ t = t ∧ True) ∧
                                                        (b = b ∧ mark = mark ∧ ((0 : Nat) = (0 : Nat) ∧ x.2 = y.2 ∧ x.5 = y.5) ∧ True) ∧
                                                          (b1, base, (2 : Nat)) = (b1, base, (2 : Nat)) ∧ (x.3 = y.3 ∧ x.4 = y.4 ∧ x.5 = y.5 ∧ x.6 = y.6 ∧ x.7 = y.7 ∧ True) ∧ True) ∧
                                                      adI2 (distF mark t) rows y)) ∧
                                        (¬Go.IntKind.wrap Go.IntKind.i64 ((↑x.1 : Int) + (1 : Int)) < (↑x.2 : Int) →
                                          ∃ (y : AX),
                                            (((↑x.1 : Int) = (↑y.1 : Int) ∧
                                                  distF mark t = distF mark t ∧ ((0 : Nat) = (0 : Nat) ∧ (0 : Nat) = (0 : Nat)) ∧ t = t ∧ True) ∧
                                                (b = b ∧ mark = mark ∧ ((0 : Nat) = (0 : Nat) ∧ x.2 = y.2 ∧ x.5 = y.5) ∧ True) ∧
                                                  (b1, base, (2 : Nat)) = (b1, base, (2 : Nat)) ∧ (x.3 = y.3 ∧ x.4 = y.4 ∧ x.5 = y.5 ∧ x.6 = y.6 ∧ x.7 = y.7 ∧ True) ∧ True) ∧
                                              adI2 (distF mark t) rows y)) ∧
                                      ∀ (x : AX),
                                        adI2 (distF mark t) rows x →
                                          ∃ (x0 : AX),
                                            (((0 : Int) < (↑x.1 : Int) →
                                                  ((0 : Int) ≤ Go.IntKind.wrap Go.IntKind.i64 ((↑x.1 : Int) - (1 : Int)) ∧ Go.IntKind.wrap Go.IntKind.i64 ((↑x.1 : Int) - (1 : Int)) < (↑x.2 : Int)) ∧
                                                    (0 : Nat) + Int.toNat (Go.IntKind.wrap Go.IntKind.i64 ((↑x.1 : Int) - (1 : Int))) < x.5 ∧
                                                      (Go.IntKind.wrap Go.IntKind.u32
                                                              (List.getD x.7 ((0 : Nat) + Int.toNat (Go.IntKind.wrap Go.IntKind.i64 ((↑x.1 : Int) - (1 : Int)))) (0 : Int) + (1 : Int)) =
                                                            distF mark t →
                                                          ((0 : Int) ≤ (↑x.1 : Int) ∧ (↑x.1 : Int) < (↑x.2 : Int)) ∧
                                                            (0 : Nat) + x.1 < x.5 ∧
                                                              ((0 : Int) ≤ Go.IntKind.wrap Go.IntKind.i64 ((↑x.1 : Int) - (1 : Int)) ∧
                                                                  Go.IntKind.wrap Go.IntKind.i64 ((↑x.1 : Int) - (1 : Int)) < (↑x.2 : Int)) ∧
                                                                (0 : Nat) + Int.toNat (Go.IntKind.wrap Go.IntKind.i64 ((↑x.1 : Int) - (1 : Int))) < x.5 ∧
                                                                  ((0 : Int) ≤ (↑x.1 : Int) ∧
                                                                      (↑x.1 : Int) < (↑x.2 : Int) ∧
                                                                        Go.IntKind.wrap Go.IntKind.i64 ((↑x.1 : Int) + (1 : Int)) = (↑x.1 : Int) + (1 : Int) ∧
                                                                          x.2 ≤ x.5 ∧ x.5 = x.5 ∧ x.2 < (1000000 : Nat)) ∧
                                                                    ∀ (b' base' cap' : Nat) (xs' ys' : List Int),
                                                                      x.2 - (1 : Nat) ≤ cap' →
                                                                        List.length xs' = cap' →
                                                                          List.length ys' = cap' →
                                                                            List.take (x.2 - (1 : Nat)) xs' = List.take x.1 (List.take x.2 x.6) ++ List.drop (x.1 + (1 : Nat)) (List.take x.2 x.6) →
                                                                              List.take (x.2 - (1 : Nat)) ys' =
                                                                                  List.take x.1
                                                                                      (List.take x.2
                                                                                        (List.set x.7 ((0 : Nat) + Int.toNat (Go.IntKind.wrap Go.IntKind.i64 ((↑x.1 : Int) - (1 : Int))))
                                                                                          (List.getD x.7 ((0 : Nat) + x.1) (0 : Int)))) ++
                                                                                    List.drop (x.1 + (1 : Nat))
                                                                                      (List.take x.2
                                                                                        (List.set x.7 ((0 : Nat) + Int.toNat (Go.IntKind.wrap Go.IntKind.i64 ((↑x.1 : Int) - (1 : Int))))
                                                                                          (List.getD x.7 ((0 : Nat) + x.1) (0 : Int)))) →
                                                                                ∃ (y : AX),
                                                                                  (((↑x.1 : Int) = (↑y.1 : Int) ∧
                                                                                        distF mark t = distF mark t ∧
                                                                                          ((0 : Nat) = (0 : Nat) ∧ (0 : Nat) = (0 : Nat)) ∧ t = t ∧ True) ∧
                                                                                      (b = b ∧ mark = mark ∧ ((0 : Nat) = (0 : Nat) ∧ x.2 - (1 : Nat) = y.2 ∧ cap' = y.5) ∧ True) ∧
                                                                                        (b1, base, (2 : Nat)) = (b1, base, (2 : Nat)) ∧
                                                                                          (b' = y.3 ∧ base' = y.4 ∧ cap' = y.5 ∧ xs' = y.6 ∧ ys' = y.7 ∧ True) ∧ True) ∧
                                                                                    adI3 (distF mark t) rows y) ∧
                                                        (¬Go.IntKind.wrap Go.IntKind.u32
                                                                (List.getD x.7 ((0 : Nat) + Int.toNat (Go.IntKind.wrap Go.IntKind.i64 ((↑x.1 : Int) - (1 : Int)))) (0 : Int) + (1 : Int)) =
                                                              distF mark t →
                                                          ∃ (y : AX),
                                                            (((↑x.1 : Int) = (↑y.1 : Int) ∧
                                                                  distF mark t = distF mark t ∧
                                                                    ((0 : Nat) = (0 : Nat) ∧ (0 : Nat) = (0 : Nat)) ∧ t = t ∧ True) ∧
                                                                (b = b ∧ mark = mark ∧ ((0 : Nat) = (0 : Nat) ∧ x.2 = y.2 ∧ x.5 = y.5) ∧ True) ∧
                                                                  (b1, base, (2 : Nat)) = (b1, base, (2 : Nat)) ∧ (x.3 = y.3 ∧ x.4 = y.4 ∧ x.5 = y.5 ∧ x.6 = y.6 ∧ x.7 = y.7 ∧ True) ∧ True) ∧
                                                              adI3 (distF mark t) rows y)) ∧
                                                (¬(0 : Int) < (↑x.1 : Int) →
                                                  ∃ (y : AX),
                                                    (((↑x.1 : Int) = (↑y.1 : Int) ∧
                                                          distF mark t = distF mark t ∧
                                                            ((0 : Nat) = (0 : Nat) ∧ (0 : Nat) = (0 : Nat)) ∧ t = t ∧ True) ∧
                                                        (b = b ∧ mark = mark ∧ ((0 : Nat) = (0 : Nat) ∧ x.2 = y.2 ∧ x.5 = y.5) ∧ True) ∧
                                                          (b1, base, (2 : Nat)) = (b1, base, (2 : Nat)) ∧ (x.3 = y.3 ∧ x.4 = y.4 ∧ x.5 = y.5 ∧ x.6 = y.6 ∧ x.7 = y.7 ∧ True) ∧ True) ∧
                                                      adI3 (distF mark t) rows y)) ∧
                                              ∀ (x : AX),
                                                adI3 (distF mark t) rows x →
                                                  ((0 : Int) < (↑x.2 : Int) →
                                                      ((0 : Int) ≤ (0 : Int) ∧ (0 : Int) < (↑x.2 : Int)) ∧
                                                        (0 : Nat) < x.5 ∧
                                                          (List.getD x.6 (0 : Nat) (0 : Int) = (1 : Int) →
                                                              ((0 : Int) ≤ (0 : Int) ∧ (0 : Int) < (↑x.2 : Int)) ∧
                                                                (0 : Nat) < x.5 ∧
                                                                  (x.2 ≤ x.5 ∧ x.5 = x.5 ∧ x.2 < (1000000 : Nat)) ∧
                                                                    (mvRows (List.getD x.7 (0 : Nat) (0 : Int)) (zipRows x.2 x.6 x.7) = [] →
                                                                        AdR b mark rows t (Go.Value.int Go.IntKind.i64 (0 : Int))
                                                                          [(b,
                                                                              Go.Sx.Blk.cells
                                                                                [Go.Value.int Go.IntKind.u32 (Go.IntKind.wrap Go.IntKind.u32 (mark + List.getD x.7 (0 : Nat) (0 : Int))),
                                                                                  Go.Value.slice Option.none (0 : Nat) (0 : Nat)]
                                                                                (55 : Go.TypeId))]) ∧
                                                                      ∀ (b' base' cap' : Nat) (xs' ys' : List Int),
                                                                        (0 : Nat) <
                                                                            List.length
                                                                              (mvRows (List.getD x.7 (0 : Nat) (0 : Int)) (zipRows x.2 x.6 x.7)) →
                                                                          List.length
                                                                                (mvRows (List.getD x.7 (0 : Nat) (0 : Int))
                                                                                  (zipRows x.2 x.6 x.7)) ≤
                                                                              cap' →
                                                                            List.length xs' = cap' →
                                                                              List.length ys' = cap' →
                                                                                List.take
                                                                                      (List.length
                                                                                        (mvRows (List.getD x.7 (0 : Nat) (0 : Int))
                                                                                          (zipRows x.2 x.6 x.7)))
                                                                                      xs' =
                                                                                    List.map (fun (x : Int × Int) => x.1)
                                                                                      (mvRows (List.getD x.7 (0 : Nat) (0 : Int))
                                                                                        (zipRows x.2 x.6 x.7)) →
                                                                                  List.take
                                                                                        (List.length
                                                                                          (mvRows (List.getD x.7 (0 : Nat) (0 : Int))
                                                                                            (zipRows x.2 x.6 x.7)))
                                                                                        ys' =
                                                                                      List.map (fun (x : Int × Int) => x.2)
                                                                                        (mvRows (List.getD x.7 (0 : Nat) (0 : Int))
                                                                                          (zipRows x.2 x.6 x.7)) →
                                                                                    AdR b mark rows t (Go.Value.int Go.IntKind.i64 (0 : Int))
                                                                                      [(b,
                                                                                          Go.Sx.Blk.cells
                                                                                            [Go.Value.int Go.IntKind.u32 (Go.IntKind.wrap Go.IntKind.u32 (mark + List.getD x.7 (0 : Nat) (0 : Int))),
                                                                                              Go.Value.slice (Option.some { block := b', off := base' * (2 : Nat) })
                                                                                                (List.length
                                                                                                  (mvRows (List.getD x.7 (0 : Nat) (0 : Int))
                                                                                                    (zipRows x.2 x.6 x.7)))
                                                                                                cap']
                                                                                            (55 : Go.TypeId)),
                                                                                        (b',
                                                                                          Go.Sx.Blk.tab (60 : Go.TypeId) base' cap'
                                                                                            [Go.Sx.Col.ints Go.IntKind.u32 xs', Go.Sx.Col.ints Go.IntKind.u32 ys'])]) ∧
                                                            (¬List.getD x.6 (0 : Nat) (0 : Int) = (1 : Int) →
                                                              AdR b mark rows t (Go.Value.int Go.IntKind.i64 (0 : Int))
                                                                [(b,
                                                                    Go.Sx.Blk.cells [Go.Value.int Go.IntKind.u32 mark, Go.Value.slice (Option.some { block := x.3, off := x.4 * (2 : Nat) }) x.2 x.5]
                                                                      (55 : Go.TypeId)),
                                                                  (x.3, Go.Sx.Blk.tab (60 : Go.TypeId) x.4 x.5 [Go.Sx.Col.ints Go.IntKind.u32 x.6, Go.Sx.Col.ints Go.IntKind.u32 x.7])])) ∧
                                                    (¬(0 : Int) < (↑x.2 : Int) →
                                                      AdR b mark rows t (Go.Value.int Go.IntKind.i64 (0 : Int))
                                                        [(b,
                                                            Go.Sx.Blk.cells [Go.Value.int Go.IntKind.u32 mark, Go.Value.slice (Option.some { block := x.3, off := x.4 * (2 : Nat) }) x.2 x.5]
                                                              (55 : Go.TypeId)),
                                                          (x.3, Go.Sx.Blk.tab (60 : Go.TypeId) x.4 x.5 [Go.Sx.Col.ints Go.IntKind.u32 x.6, Go.Sx.Col.ints Go.IntKind.u32 x.7])]))) := by
  have hz := zip_rows h1 h2
  simp only [hz]
  have hless : lessF mark t ↔ 0 < IntKind.wrap .i32 (IntKind.wrap .u32 (t - mark)) := Iff.rfl
  have hdist : distF mark t = IntKind.wrap .u32 (t - mark) := rfl
  have hrep : SetRep b mark rows [(b, .cells [.int .u32 mark, .slice (some ⟨b1, base * 2, none⟩) rows.length cap] 55), (b1, .tab 60 base cap [.ints .u32 xs, .ints .u32 ys])] :=
    ⟨_, _, .inr ⟨b1, base, cap, xs, ys, [], rfl, h0, hlc, hx, hy, h1, h2, List.Perm.refl _⟩, List.Perm.refl _⟩
  refine ⟨fun hn => AdR.low (fun h => hn (hless.1 h)) hrep, fun hl => ?_⟩
  replace hl : lessF mark t := hless.2 (Decidable.not_not.1 hl)
  refine ⟨fun hf => AdR.far hl hf hrep, fun hf => ?_⟩
  have A1 := @AdR.known b mark t rows
  have A2 := @AdR.fresh b mark t rows
  rw [← hdist]
  rw [← hdist] at hf
  revert A1 A2
  generalize distF mark t = d at hf ⊢
  intro A1 A2
  refine ⟨⟨hlc, trivial, by omega, hri⟩, fun i gi g1 g2 => ⟨⟨0⟩, ⟨fun hlt => ⟨⟨by omega, hlt⟩, by omega, fun hk => A1 hl hf ?_ hrep, fun hk => ⟨⟨i⟩, by simp, gi, g1, fun k r hk' hr => ⟨g2 k r hk' hr, ?_⟩⟩⟩,
    fun hge => ⟨⟨i⟩, by simp, gi, g1, fun k r hk' hr => ⟨g2 k r hk' hr, ?_⟩⟩⟩, ?_⟩⟩
  · have hi : i < rows.length := by omega
    rw [Nat.zero_add, getD_col (f := (·.1)) h1 hi rfl] at hk
    have he : rows[i]? = some (rows.getD i (0, 0)) := by simp [List.getD, List.getElem?_eq_getElem hi]
    exact ⟨i, _, he, hk, g2 i _ (Nat.le_refl i) he⟩
  · rintro rfl
    have hi : k < rows.length := by omega
    rw [Nat.zero_add, getD_col (f := (·.1)) h1 hi rfl] at hk
    simp [List.getD, hr] at hk
    exact hk
  · rintro rfl
    have := (List.getElem?_eq_some_iff.1 hr).1
    omega
  · clear gi g1 g2 i
    rintro ⟨i⟩ hp
    have hi : i ≤ rows.length := hp.1
    refine ⟨⟨0, 0, 0, 0, 0, [], []⟩, fun b_1 => ⟨⟨by simp only; omega, by simp only; omega, hlc, trivial, by omega⟩, fun b' base' cap' xs' ys' k1 k2 k3 k4 k5 => ⟨⟨i, rows.length + 1, b', base', cap', xs', ys'⟩, by simp, hp, AXok.ins hi h1 h2 k1 k2 k3 k4 k5⟩⟩, ?_⟩
    clear hp hi i
    rintro ⟨i, n, b', base', cap', xs', ys'⟩ hpa
    obtain ⟨hp, ha⟩ : Place d rows i ∧ AXok ⟨i, n, b', base', cap', xs', ys'⟩ (insF d i rows) := hpa
    have hi : i ≤ rows.length := hp.1
    have hn : n = rows.length + 1 := ha.1.trans (ins_len hi)
    have hin : i < (insF d i rows).length := by rw [ins_len hi]; omega
    have hat := ins_at (d := d) hi
    obtain ⟨a1, a2, a3, a4, a5, a6⟩ := id ha
    simp only at a1 a2 a3 a4 a5 a6
    have hs := i64_succ (i := i) (by omega)
    simp only [hs, Int.toNat_natCast, Nat.zero_add]
    refine ⟨⟨0, 0, 0, 0, 0, [], []⟩, ⟨fun hlt => ⟨⟨by omega, hlt⟩, by omega, fun he => ⟨⟨by omega, hlt⟩, by omega, ⟨by omega, by omega⟩, by omega, ⟨by omega, hlt, i64_two (by omega), a2, trivial, by omega⟩, fun b2 base2 cap2 xs2 ys2 k1 k2 k3 k4 k5 =>
        ⟨⟨i, n - 1, b2, base2, cap2, xs2, ys2⟩, by simp, hp, AXok.right hat ha (by omega) he k1 k2 k3 k4 k5⟩⟩, fun he => ⟨⟨i, n, b', base', cap', xs', ys'⟩, by simp, hp, ?_⟩⟩, fun hge => ⟨⟨i, n, b', base', cap', xs', ys'⟩, by simp, hp, ?_⟩⟩, ?_⟩
    · change AXok ⟨i, n, b', base', cap', xs', ys'⟩ (mergeR d i (insF d i rows))
      rw [mergeR_no (fun hc => ?_)]; exact ha
      rw [← getD_col (f := (·.1)) (a1 ▸ a5) hc rfl]; exact he
    · change AXok ⟨i, n, b', base', cap', xs', ys'⟩ (mergeR d i (insF d i rows))
      rw [mergeR_no (fun hc => ?_)]; exact ha
      omega
    clear hp ha hi hn hin hat a1 a2 a3 a4 a5 a6 hs i n b' base' cap' xs' ys'
    rintro ⟨i, n, b', base', cap', xs', ys'⟩ hpa
    obtain ⟨hp, ha⟩ : Place d rows i ∧ AXok ⟨i, n, b', base', cap', xs', ys'⟩ (mergeR d i (insF d i rows)) := hpa
    have hi : i ≤ rows.length := hp.1
    have hin : i < (insF d i rows).length := by rw [ins_len hi]; omega
    have hml := mergeR_len (d := d) hin
    have hnl : n = (mergeR d i (insF d i rows)).length := ha.1
    have hil := ins_len (d := d) hi
    obtain ⟨a1, a2, a3, a4, a5, a6⟩ := id ha
    simp only at a1 a2 a3 a4 a5 a6
    have hs := i64_succ (i := i) (by omega)
    refine ⟨⟨0, 0, 0, 0, 0, [], []⟩, ⟨fun hlt => ?_, fun hge => ⟨⟨i, n, b', base', cap', xs', ys'⟩, by simp, hp, ?_⟩⟩, ?_⟩
    · have hlt' : 0 < i := by
        have h : (0 : Int) < (i : Int) := hlt
        omega
      simp only [i64_pred hlt' (show i < 2000000 by omega), Int.toNat_natCast, Nat.zero_add]
      refine ⟨⟨by omega, by omega⟩, by omega, fun he => ⟨⟨by omega, by omega⟩, by omega, ⟨by omega, by omega⟩, by omega, ⟨by omega, by omega, by omega, a2, trivial, by omega⟩, fun b2 base2 cap2 xs2 ys2 k1 k2 k3 k4 k5 =>
        ⟨⟨i, n - 1, b2, base2, cap2, xs2, ys2⟩, by simp, hp, AXok.left hlt' ha (by omega) he k1 k2 k3 k4 k5⟩⟩, fun he => ⟨⟨i, n, b', base', cap', xs', ys'⟩, by simp, hp, ?_⟩⟩
      change AXok ⟨i, n, b', base', cap', xs', ys'⟩ (mergeL d i (mergeR d i (insF d i rows)))
      rw [mergeL_no (fun hc => ?_)]; exact ha
      rw [← getD_col (f := (·.2)) (a1 ▸ a6) (show i - 1 < _ by omega) rfl]; exact he
    · change AXok ⟨i, n, b', base', cap', xs', ys'⟩ (mergeL d i (mergeR d i (insF d i rows)))
      rw [mergeL_no (fun hc => ?_)]; exact ha
      have h : ¬(0 : Int) < (i : Int) := hge
      omega
    clear hp ha hi hin hml hnl hil a1 a2 a3 a4 a5 a6 hs i n b' base' cap' xs' ys'
    rintro ⟨i, n, b', base', cap', xs', ys'⟩ hpa
    obtain ⟨hp, ha⟩ : Place d rows i ∧ AXok ⟨i, n, b', base', cap', xs', ys'⟩ (addF d i rows) := hpa
    have hi : i ≤ rows.length := hp.1
    have hin : i < (insF d i rows).length := by rw [ins_len hi]; omega
    have hml := mergeR_len (d := d) hin
    have hml2 := mergeL_len (d := d) hml.2
    have hil := ins_len (d := d) hi
    have A3 := fun L => @A2 L hl hf i hp
    change (addF d i rows).length ≤ _ ∧ 0 < (addF d i rows).length at hml2
    clear A1 A2
    generalize addF d i rows = l at *
    obtain ⟨a1, a2, a3, a4, a5, a6⟩ := ha
    simp only at a1 a2 a3 a4 a5 a6
    subst a1
    have hz2 : zipRows l.length xs' ys' = l := zip_rows a5 a6
    simp only [hz2]
    have x0 := getD_take (f := (·.1)) a5 hml2.2
    have y0 := getD_take (f := (·.2)) a6 hml2.2
    have hmv : ∀ d, (mvRows d l).length ≤ l.length := fun d => by unfold mvRows; rw [List.length_map]; exact List.length_filter_le _ _
    cases hR : l with
    | nil => rw [hR] at hml2; simp at hml2
    | cons r0 rs =>
      obtain ⟨f, e⟩ := r0
      simp only [hR] at x0 y0 hml2 A3 a2 a5 a6 hmv ⊢
      simp only [List.getElem_cons_zero] at x0 y0
      have hpos : (0 : Int) < (((f, e) :: rs).length : Int) := by simp only [List.length_cons]; omega
      simp only [x0, y0]
      simp only [settleF] at A3
      refine ⟨fun _ => ⟨⟨by first | omega | trivial, hpos⟩, by omega, fun hf1 => ⟨⟨by first | omega | trivial, hpos⟩, by omega, ⟨a2, trivial, by omega⟩, fun hm => A3 _ ?_, fun b2 base2 cap2 xs2 ys2 k1 k2 k3 k4 k5 k6 => A3 _ ?_⟩, fun hf1 => A3 _ ?_⟩, fun hn => absurd hpos hn⟩
      · rw [if_pos hf1, hm]
        exact ⟨_, _, .inl ⟨rfl, rfl⟩, List.Perm.refl _⟩
      · rw [if_pos hf1]
        exact ⟨_, _, .inr ⟨b2, base2, cap2, xs2, ys2, [], rfl, k1, k2, k3, k4, k5, k6, List.Perm.refl _⟩, List.Perm.refl _⟩
      · rw [if_neg hf1]
        exact ⟨_, _, .inr ⟨b', base', cap', xs', ys', [], rfl, hml2.2, a2, a3, a4, a5, a6, List.Perm.refl _⟩, List.Perm.refl _⟩
theorem ad_goal (b b1 base cap : Nat) (xs ys : List Int) (mark t : Int) (rows : List (Int × Int)) (hlc : rows.length ≤ cap) (hb : rows.length + 1 < 1000000) (h0 : 0 < rows.length) (hx : xs.length = cap) (hy : ys.length = cap)
    (h1 : xs.take rows.length = rows.map (·.1)) (h2 : ys.take rows.length = rows.map (·.2)) (hri : Rising rows) : adGoal b b1 base cap xs ys mark t rows :=
  Eq.mpr (by kernel_rfl) (ad_vc b b1 base cap xs ys mark t rows hlc hb h0 hx hy h1 h2 hri)

theorem adNil_vc (b : Nat) (mark t : Int) :
    (¬(0 : Int) < Go.IntKind.wrap Go.IntKind.i32 (Go.IntKind.wrap Go.IntKind.u32 (t - mark)) →
    AdR b mark [] t (Go.Value.int Go.IntKind.i64 (1 : Int)) [(b, Go.Sx.Blk.cells [Go.Value.int Go.IntKind.u32 mark, Go.Value.slice Option.none (0 : Nat) (0 : Nat)] (55 : Go.TypeId))]) ∧
  (¬¬(0 : Int) < Go.IntKind.wrap Go.IntKind.i32 (Go.IntKind.wrap Go.IntKind.u32 (t - mark)) →
    ((4096 : Int) < Go.IntKind.wrap Go.IntKind.u32 (t - mark) →
        AdR b mark [] t (Go.Value.int Go.IntKind.i64 (2 : Int)) [(b, Go.Sx.Blk.cells [Go.Value.int Go.IntKind.u32 mark, Go.Value.slice Option.none (0 : Nat) (0 : Nat)] (55 : Go.TypeId))]) ∧
      (¬(4096 : Int) < Go.IntKind.wrap Go.IntKind.u32 (t - mark) →
        ¬(↑(0 : Nat) : Int) < (↑(0 : Nat) : Int) ∧
          ∀ (b_1 : Nat),
            (↑(0 : Nat) : Int) = (0 : Int) ∧
              ∀ (b' base' cap' : Nat) (xs' ys' : List Int),
                (1 : Nat) ≤ cap' →
                  List.length xs' = cap' →
                    List.length ys' = cap' →
                      List.take (1 : Nat) xs' = [Go.IntKind.wrap Go.IntKind.u32 (t - mark)] →
                        List.take (1 : Nat) ys' = [Go.IntKind.wrap Go.IntKind.u32 (t - mark)] →
                          ¬Go.IntKind.wrap Go.IntKind.i64 ((↑(0 : Nat) : Int) + (1 : Int)) < (↑(1 : Nat) : Int) ∧
                            ¬(0 : Int) < (↑(0 : Nat) : Int) ∧
                              (0 : Int) < (↑(1 : Nat) : Int) ∧
                                ((0 : Int) ≤ (0 : Int) ∧ (0 : Int) < (↑(1 : Nat) : Int)) ∧
                                  (0 : Nat) + Int.toNat (0 : Int) < cap' ∧
                                    (List.getD xs' ((0 : Nat) + Int.toNat (0 : Int)) (0 : Int) = (1 : Int) →
                                        ((0 : Int) ≤ (0 : Int) ∧ (0 : Int) < (↑(1 : Nat) : Int)) ∧
                                          (0 : Nat) + Int.toNat (0 : Int) < cap' ∧
                                            ((1 : Nat) ≤ cap' ∧ cap' = cap' ∧ (1 : Nat) < (1000000 : Nat)) ∧
                                              (mvRows (List.getD ys' ((0 : Nat) + Int.toNat (0 : Int)) (0 : Int)) (zipRows (1 : Nat) xs' ys') =
                                                    [] →
                                                  AdR b mark [] t (Go.Value.int Go.IntKind.i64 (0 : Int))
                                                    [(b,
                                                        Go.Sx.Blk.cells
                                                          [Go.Value.int Go.IntKind.u32 (Go.IntKind.wrap Go.IntKind.u32 (mark + List.getD ys' ((0 : Nat) + Int.toNat (0 : Int)) (0 : Int))),
                                                            Go.Value.slice Option.none (0 : Nat) (0 : Nat)]
                                                          (55 : Go.TypeId))]) ∧
                                                ∀ (b' base' cap' : Nat) (xs'_1 ys'_1 : List Int),
                                                  (0 : Nat) <
                                                      List.length
                                                        (mvRows (List.getD ys' ((0 : Nat) + Int.toNat (0 : Int)) (0 : Int))
                                                          (zipRows (1 : Nat) xs' ys')) →
                                                    List.length
                                                          (mvRows (List.getD ys' ((0 : Nat) + Int.toNat (0 : Int)) (0 : Int))
                                                            (zipRows (1 : Nat) xs' ys')) ≤
                                                        cap' →
                                                      List.length xs'_1 = cap' →
                                                        List.length ys'_1 = cap' →
                                                          List.take
                                                                (List.length
                                                                  (mvRows (List.getD ys' ((0 : Nat) + Int.toNat (0 : Int)) (0 : Int))
                                                                    (zipRows (1 : Nat) xs' ys')))
                                                                xs'_1 =
                                                              List.map (fun (x : Int × Int) => x.1)
                                                                (mvRows (List.getD ys' ((0 : Nat) + Int.toNat (0 : Int)) (0 : Int))
                                                                  (zipRows (1 : Nat) xs' ys')) →
                                                            List.take
                                                                  (List.length
                                                                    (mvRows (List.getD ys' ((0 : Nat) + Int.toNat (0 : Int)) (0 : Int))
                                                                      (zipRows (1 : Nat) xs' ys')))
                                                                  ys'_1 =
                                                                List.map (fun (x : Int × Int) => x.2)
                                                                  (mvRows (List.getD ys' ((0 : Nat) + Int.toNat (0 : Int)) (0 : Int))
                                                                    (zipRows (1 : Nat) xs' ys')) →
                                                              AdR b mark [] t (Go.Value.int Go.IntKind.i64 (0 : Int))
                                                                [(b,
                                                                    Go.Sx.Blk.cells
                                                                      [Go.Value.int Go.IntKind.u32 (Go.IntKind.wrap Go.IntKind.u32 (mark + List.getD ys' ((0 : Nat) + Int.toNat (0 : Int)) (0 : Int))),
                                                                        Go.Value.slice (Option.some { block := b', off := base' * (2 : Nat) })
                                                                          (List.length
                                                                            (mvRows (List.getD ys' ((0 : Nat) + Int.toNat (0 : Int)) (0 : Int))
                                                                              (zipRows (1 : Nat) xs' ys')))
                                                                          cap']
                                                                      (55 : Go.TypeId)),
                                                                  (b', Go.Sx.Blk.tab (60 : Go.TypeId) base' cap' [Go.Sx.Col.ints Go.IntKind.u32 xs'_1, Go.Sx.Col.ints Go.IntKind.u32 ys'_1])]) ∧
                                      (¬List.getD xs' ((0 : Nat) + Int.toNat (0 : Int)) (0 : Int) = (1 : Int) →
                                        AdR b mark [] t (Go.Value.int Go.IntKind.i64 (0 : Int))
                                          [(b,
                                              Go.Sx.Blk.cells [Go.Value.int Go.IntKind.u32 mark, Go.Value.slice (Option.some { block := b', off := base' * (2 : Nat) }) (1 : Nat) cap']
                                                (55 : Go.TypeId)),
                                            (b', Go.Sx.Blk.tab (60 : Go.TypeId) base' cap' [Go.Sx.Col.ints Go.IntKind.u32 xs', Go.Sx.Col.ints Go.IntKind.u32 ys'])]))) := by
  have hless : lessF mark t ↔ 0 < IntKind.wrap .i32 (IntKind.wrap .u32 (t - mark)) := Iff.rfl
  have hdist : distF mark t = IntKind.wrap .u32 (t - mark) := rfl
  have hrep : SetRep b mark [] [(b, .cells [.int .u32 mark, .slice none 0 0] 55)] := ⟨_, _, .inl ⟨rfl, rfl⟩, List.Perm.refl _⟩
  refine ⟨fun hn => AdR.low (fun h => hn (hless.1 h)) hrep, fun hl => ?_⟩
  replace hl : lessF mark t := hless.2 (Decidable.not_not.1 hl)
  refine ⟨fun hf => AdR.far hl hf hrep, fun hf => ?_⟩
  have hp : ∀ d, Place d [] 0 := fun d => ⟨Nat.le_refl _, fun k r _ h => by simp at h, fun k r _ h => by simp at h⟩
  have A3 := fun L => @AdR.fresh b mark t [] L hl hf 0 (hp _)
  rw [show addF (distF mark t) 0 [] = [(distF mark t, distF mark t)] from rfl, hdist] at A3
  revert A3
  generalize IntKind.wrap .u32 (t - mark) = d
  intro A3
  refine ⟨by decide, fun _ => ⟨rfl, fun b' base' cap' xs' ys' k1 k2 k3 k4 k5 => ?_⟩⟩
  have x0 := getD_take (rows := [(d, d)]) (f := (·.1)) k4 (Nat.zero_lt_one)
  have y0 := getD_take (rows := [(d, d)]) (f := (·.2)) k5 (Nat.zero_lt_one)
  have hz2 : zipRows 1 xs' ys' = [(d, d)] := by unfold zipRows; rw [k4, k5]; rfl
  simp only [List.getElem_cons_zero] at x0 y0
  simp only [Int.toNat_zero, Nat.add_zero, x0, y0, hz2]
  simp only [settleF] at A3
  refine ⟨by decide, by decide, by decide, ⟨by decide, by decide⟩, by omega, fun hf1 => ⟨⟨by decide, by decide⟩, by omega, ⟨k1, trivial, by decide⟩, fun hm => A3 _ ?_, fun b2 base2 cap2 xs2 ys2 j1 j2 j3 j4 j5 j6 => A3 _ ?_⟩, fun hf1 => A3 _ ?_⟩
  · rw [if_pos hf1, hm]
    exact ⟨_, _, .inl ⟨rfl, rfl⟩, List.Perm.refl _⟩
  · rw [if_pos hf1]
    exact ⟨_, _, .inr ⟨b2, base2, cap2, xs2, ys2, [], rfl, j1, j2, j3, j4, j5, j6, List.Perm.refl _⟩, List.Perm.refl _⟩
  · rw [if_neg hf1]
    exact ⟨_, _, .inr ⟨b', base', cap', xs', ys', [], rfl, Nat.zero_lt_one, k1, k2, k3, k4, k5, List.Perm.refl _⟩, List.Perm.refl _⟩
theorem adNil_goal (b : Nat) (mark t : Int) : adNilGoal b mark t := Eq.mpr (by kernel_rfl) (adNil_vc b mark t)

theorem run_add (ann : List (Nat × FnAnn)) (hs : Hints) (d : Nat) (path : List Nat) (g : FuncId) :
    SoundT Go.Proofs.Try.prog g (xrun Go.Proofs.Try.prog [(28, moveT), (25, insT), (24, atT), (26, delT)] ann hs d path g) :=
  xrun_sound mixed no_numG (fun g T h => by
    simp only [findT] at h
    cases hb : Nat.beq 28 g with
    | true =>
      rw [hb] at h
      have := Nat.eq_of_beq_eq_true hb
      subst this
      cases h
      exact moveT_sound
    | false =>
      rw [hb] at h
      simp only [cond_false] at h
      cases hb : Nat.beq 25 g with
      | true =>
        rw [hb] at h
        have := Nat.eq_of_beq_eq_true hb
        subst this
        cases h
        exact insT_sound
      | false =>
        rw [hb] at h
        simp only [cond_false] at h
        cases hb : Nat.beq 24 g with
        | true =>
          rw [hb] at h
          have := Nat.eq_of_beq_eq_true hb
          subst this
          cases h
          exact atT_sound
        | false =>
          rw [hb] at h
          simp only [cond_false] at h
          cases hb : Nat.beq 26 g with
          | true =>
            rw [hb] at h
            have := Nat.eq_of_beq_eq_true hb
            subst this
            cases h
            exact delT_sound
          | false => rw [hb] at h; cases h) d path g

theorem AdR.more {b : Nat} {mark : Int} {rows : List (Int × Int)} {t : Int} {v : Value} {L : Blks} (h : AdR b mark rows t v L) (G : Blks) : AdR b mark rows t v (L ++ G) :=
  ⟨fun a => ⟨(h.1 a).1, (h.1 a).2.more G⟩, fun a c => ⟨(h.2.1 a c).1, (h.2.1 a c).2.more G⟩, fun a c => (h.2.2 a c).imp (fun x => ⟨x.1, x.2.1, x.2.2.more G⟩) fun x => ⟨x.1, x.2.choose, x.2.choose_spec.1, x.2.choose_spec.2.more G⟩⟩
theorem AdR.perm {b : Nat} {mark : Int} {rows : List (Int × Int)} {t : Int} {v : Value} {L L' : Blks} (h : AdR b mark rows t v L) (p : L'.Perm L) : AdR b mark rows t v L' :=
  ⟨fun a => ⟨(h.1 a).1, (h.1 a).2.perm p⟩, fun a c => ⟨(h.2.1 a c).1, (h.2.1 a c).2.perm p⟩, fun a c => (h.2.2 a c).imp (fun x => ⟨x.1, x.2.1, x.2.2.perm p⟩) fun x => ⟨x.1, x.2.choose, x.2.choose_spec.1, x.2.choose_spec.2.perm p⟩⟩

theorem add_triple {b : Nat} {mark : Int} {rows : List (Int × Int)} {L : Blks} (t : Int) (hr : SetRep b mark rows L) (hb : rows.length + 1 < 1000000) (hri : Rising rows) :
    Triple Go.Proofs.Try.prog 11 [.pointer (some ⟨b, 0, none⟩), .int .u32 t] L (AdR b mark rows t) := by
  refine set_triple hr (fun v L' G h => h.more G) (fun v L' L'' h p => h.perm p) (fun h0 => ?_) fun b1 base cap xs ys g1 g2 g3 g4 g5 g6 => ?_
  · subst h0
    exact triple_of_run (h := [.own b (.cells 2 [.val (.int .u32 mark), .val (.slice none 0 0)] 55)]) (args := [.ptr 0 0 0, .val (.int .u32 t)])
      (run_add _ _ _ _ _) (fun r => rfl) (fun r => rfl) (by simp) (adNil_goal b mark t)
  · exact triple_of_run (h := [.own b (.cells 2 [.val (.int .u32 mark), .slc 1 0 rows.length cap] 55), .own b1 (.tab 60 base cap [.ints .u32 xs, .ints .u32 ys])]) (args := [.ptr 0 0 0, .val (.int .u32 t)])
      (run_add _ _ _ _ _) (fun r => rfl) (fun r => rfl) (by simp) (ad_goal b b1 base cap xs ys mark t rows g2 hb g1 g3 g4 g5 g6 hri)
end Go.Proofs.Ytmjhfnmkegdafaa
