/- Span: an insertion of one row into rows. -/
import Derived.Test.YtmjhfnmkegdafaaSxW
import Derived.Test.YtmjhfnmkegdafaaProg
set_option maxRecDepth 100000
set_option linter.unusedVariables false
set_option linter.unusedSimpArgs false
namespace Go.Proofs.Ytmjhfnmkegdafaa
open Go Go.Sx

/-- What an insertion of one row leaves. -/
def InsR (len i : Nat) (xs ys : List Int) (a c : Int) (v : Value) (L : Blks) : Prop := ∃ b' base' cap' xs' ys' G, v = .slice (some ⟨b', base' * 2, none⟩) (len + 1) cap' ∧ len + 1 ≤ cap' ∧ xs'.length = cap' ∧ ys'.length = cap' ∧
  xs'.take (len + 1) = (xs.take len).take i ++ a :: (xs.take len).drop i ∧ ys'.take (len + 1) = (ys.take len).take i ++ c :: (ys.take len).drop i ∧ L.Perm ((b', .tab 60 base' cap' [.ints .u32 xs', .ints .u32 ys']) :: G)
noncomputable def Ann.ins (len i : Nat) : List (Nat × FnAnn) := [(25, ⟨[(28, .val (.int .i64 ((len + 1 : Nat) : Int))), (37, .val (.int .i64 ((len + 1 : Nat) : Int))), (39, .val (.int .i64 ((len + 1 - i : Nat) : Int))), (49, .val (.int .i64 ((i + 1 : Nat) : Int))), (59, .val (.int .i64 ((len + 1 : Nat) : Int))), (65, .val (.int .i64 ((i + 1 : Nat) : Int))), (72, .val (.int .i64 ((i + 1 : Nat) : Int)))], []⟩)]
noncomputable def insGoal (b b2 base len cap i : Nat) (xs ys : List Int) (a c : Int) : Prop :=
  xrun Go.Proofs.Try.prog [] (Ann.ins len i) [([], 16, false)] 9 [] 25 [.slc 0 0 len cap, .val (.int .i64 i), .slc 1 0 1 1]
    [.own b (.tab 60 base cap [.ints .u32 xs, .ints .u32 ys]), .own b2 (.cells 2 [.val (.int .u32 a), .val (.int .u32 c)] 60)] fun s h => InsR len i xs ys a c (den (locs h) s) (owned (locs h) h)

theorem wrap64 {n : Nat} (h : n < 9000000000000000000) : IntKind.wrap .i64 (n : Int) = n := by
  rw [IntKind.wrap_i64]; omega

/-- lists, element by element -/
theorem ins_list {len i : Nat} (hi : i ≤ len) (xs : List Int) (a : Int) (zs : List Int) (hl : len ≤ xs.length)
    (hz : ∀ j, j ≤ len → zs[j]? = if j < i then xs[j]? else if j = i then some a else xs[j - 1]?) :
    zs.take (len + 1) = (xs.take len).take i ++ a :: (xs.take len).drop i := by
  apply List.ext_getElem?
  intro j
  have e1 : min i (min len xs.length) = i := by omega
  rw [List.getElem?_take, List.getElem?_append, List.length_take, List.length_take, e1, List.getElem?_cons, List.getElem?_drop]
  by_cases h1 : j < len + 1
  · rw [if_pos h1, hz j (by omega)]
    by_cases h2 : j < i
    · simp only [h2, if_true, List.getElem?_take]
      rw [if_pos (by omega)]
    · by_cases h3 : j = i
      · subst h3; simp
      · have h4 : ¬ (j - i = 0) := by omega
        simp only [h2, h3, h4, if_false, List.getElem?_take]
        rw [if_pos (by omega)]
        congr 1; omega
  · have h2 : ¬ j < i := by omega
    have h4 : ¬ (j - i = 0) := by omega
    simp only [h1, h2, h4, if_false, List.getElem?_take]
    rw [if_neg (by omega)]

theorem put_get {α : Type} {o n : Nat} {xs ys : List α} (hx : o + n ≤ xs.length) (hy : n ≤ ys.length) (j : Nat) :
    (xs.take o ++ ys.take n ++ xs.drop (o + n))[j]? = if o ≤ j ∧ j < o + n then ys[j - o]? else xs[j]? := by
  rw [List.append_assoc, List.getElem?_append, List.getElem?_append, List.length_take, List.length_take, show min o xs.length = o by omega, show min n ys.length = n by omega,
    List.getElem?_take, List.getElem?_take, List.getElem?_drop]
  by_cases h1 : j < o
  · rw [if_pos h1, if_pos h1, if_neg (by omega)]
  · rw [if_neg h1]
    by_cases h2 : j < o + n
    · rw [if_pos (by omega), if_pos (by omega), if_pos (by omega)]
    · rw [if_neg (by omega), if_neg (by omega)]
      congr 1; omega

theorem ins_grow {len i : Nat} (hi : i < len) {xs Z : List Int} (a : Int) (hl : len ≤ xs.length) (hz : len + 1 ≤ Z.length) (hzx : ∀ j, j < i → Z[j]? = xs[j]?) (j : Nat) (hj : j ≤ len) :
    (List.take (i + 1) (List.take i Z ++ List.take 1 [a] ++ List.drop (i + 1) Z) ++ List.take (len - i) (List.take (len - i) (List.drop i xs)) ++
      List.drop (i + 1 + (len - i)) (List.take i Z ++ List.take 1 [a] ++ List.drop (i + 1) Z))[j]? = if j < i then xs[j]? else if j = i then some a else xs[j - 1]? := by
  rw [put_get (by simp; omega) (by simp; omega), put_get (by omega) (by simp)]
  by_cases h1 : j < i
  · rw [if_neg (by omega), if_neg (by omega), if_pos h1, hzx j h1]
  · by_cases h2 : j = i
    · subst h2
      rw [if_neg (by omega), if_pos (by omega), if_neg h1, if_pos rfl]
      simp
    · rw [if_pos (by omega), if_neg h1, if_neg h2, List.getElem?_take, if_pos (by omega), List.getElem?_drop]
      congr 1; omega

theorem ins_shift {len i : Nat} (hi : i < len) {xs : List Int} (a : Int) (hl : len + 1 ≤ xs.length) (j : Nat) (hj : j ≤ len) :
    (List.take i (List.take (i + 1) xs ++ List.take (len - i) (List.take (len + 1 - i) (List.drop i xs)) ++ List.drop (i + 1 + (len - i)) xs) ++ List.take 1 [a] ++
      List.drop (i + 1) (List.take (i + 1) xs ++ List.take (len - i) (List.take (len + 1 - i) (List.drop i xs)) ++ List.drop (i + 1 + (len - i)) xs))[j]? = if j < i then xs[j]? else if j = i then some a else xs[j - 1]? := by
  rw [put_get (by simp; omega) (by simp), put_get (by omega) (by simp; omega)]
  by_cases h1 : j < i
  · rw [if_neg (by omega), if_neg (by omega), if_pos h1]
  · by_cases h2 : j = i
    · subst h2
      rw [if_pos (by omega), if_neg h1, if_pos rfl]
      simp
    · rw [if_neg (by omega), if_pos (by omega), if_neg h1, if_neg h2, List.getElem?_take, if_pos (by omega), List.getElem?_drop]
      congr 1; omega

theorem ins_end {i : Nat} {xs : List Int} (a : Int) {sp : List Int} (hl : i ≤ xs.length) (j : Nat) (hj : j ≤ i) :
    (List.take i xs ++ [a] ++ sp)[j]? = if j < i then xs[j]? else if j = i then some a else xs[j - 1]? := by
  rw [List.append_assoc, List.getElem?_append, List.length_take, show min i xs.length = i by omega, List.getElem?_take]
  by_cases h1 : j < i
  · rw [if_pos h1, if_pos h1, if_pos h1]
  · have : j = i := by omega
    subst this
    simp

theorem ins_vc (b b2 base len cap i : Nat) (xs ys : List Int) (a c : Int) (hi : i ≤ len) (hlc : len ≤ cap) (hb : len < 1000000) (hx : xs.length = cap) (hy : ys.length = cap)
   (hov : IsOverlaps Go.Proofs.Try.prog 35 53) : 
    ((0 : Int) ≤ (↑i : Int) ∧ (↑i : Int) ≤ (↑len : Int)) ∧
  ¬(↑(1 : Nat) : Int) = (0 : Int) ∧
    ((↑i : Int) = (↑len : Int) →
        Go.Value.oneCell' (Go.Value.int Go.IntKind.u32 a) = Bool.true ∧
          Go.Value.oneCell' (Go.Value.int Go.IntKind.u32 c) = Bool.true ∧
            (len ≤ cap ∧ (0 : Nat) + cap ≤ cap) ∧
              (0 : Nat) + len ≤ cap ∧
                (len + (1 : Nat)) * (8 : Nat) ≤ (140737488355328 : Nat) ∧
                  ∀ (b base cap' : Nat),
                    len + (1 : Nat) ≤ cap' →
                      (len + (1 : Nat) ≤ cap → cap' = cap) →
                        ∀ (sp : List Int),
                          List.length sp = cap' - (len + (1 : Nat)) →
                            ∀ (sp_1 : List Int),
                              List.length sp_1 = cap' - (len + (1 : Nat)) →
                                InsR len i xs ys a c (Go.Value.slice (Option.some { block := b, off := base * (2 : Nat) }) (len + (1 : Nat)) cap')
                                  [(b2, Go.Sx.Blk.cells [Go.Value.int Go.IntKind.u32 a, Go.Value.int Go.IntKind.u32 c] (60 : Go.TypeId)),
                                    (b,
                                      Go.Sx.Blk.tab (60 : Nat) base cap'
                                        [Go.Sx.Col.ints Go.IntKind.u32 (List.take len xs ++ [a] ++ sp), Go.Sx.Col.ints Go.IntKind.u32 (List.take len ys ++ [c] ++ sp_1)])]) ∧
      (¬(↑i : Int) = (↑len : Int) →
        Go.Value.int Go.IntKind.i64 (↑(len + (1 : Nat)) : Int) = Go.Value.int Go.IntKind.i64 (Go.IntKind.wrap Go.IntKind.i64 ((↑len : Int) + (↑(1 : Nat) : Int))) ∧
          ((↑cap : Int) < (↑(len + (1 : Nat)) : Int) →
              ((0 : Int) ≤ (↑i : Int) ∧ (↑i : Int) ≤ (↑cap : Int)) ∧
                Go.Value.int Go.IntKind.i64 (↑(len + (1 : Nat)) : Int) = Go.Value.int Go.IntKind.i64 (Go.IntKind.wrap Go.IntKind.i64 ((↑len : Int) + (↑(1 : Nat) : Int))) ∧
                  Go.Value.int Go.IntKind.i64 (↑(len + (1 : Nat) - i) : Int) = Go.Value.int Go.IntKind.i64 (Go.IntKind.wrap Go.IntKind.i64 ((↑(len + (1 : Nat)) : Int) - (↑i : Int))) ∧
                    ((1 : Int) ≤ (↑(len + (1 : Nat) - i) : Int) ∧ (↑cap : Int) < (↑i : Int) + (↑(len + (1 : Nat) - i) : Int) ∧ (i + (len + (1 : Nat) - i)) * (8 : Nat) ≤ (140737488355328 : Nat)) ∧
                      (0 : Nat) + i ≤ cap ∧
                        ∀ (b_1 cap' : Nat),
                          i + (len + (1 : Nat) - i) ≤ cap' →
                            ∀ (sp : List Int),
                              List.length sp = cap' - (i + (len + (1 : Nat) - i)) →
                                ∀ (sp_1 : List Int),
                                  List.length sp_1 = cap' - (i + (len + (1 : Nat) - i)) →
                                    ((0 : Int) ≤ (↑i : Int) ∧ (↑i : Int) ≤ (↑(i + (len + (1 : Nat) - i)) : Int)) ∧
                                      Go.Value.oneCell' (Go.Value.int Go.IntKind.u32 a) = Bool.true ∧
                                        Go.Value.oneCell' (Go.Value.int Go.IntKind.u32 c) = Bool.true ∧
                                          (if cap' = i then (0 : Nat) else (0 : Nat) + i) + (i + (len + (1 : Nat) - i) - i) ≤ cap' ∧
                                            Go.Value.int Go.IntKind.i64 (↑(i + (1 : Nat)) : Int) = Go.Value.int Go.IntKind.i64 (Go.IntKind.wrap Go.IntKind.i64 ((↑i : Int) + (↑(1 : Nat) : Int))) ∧
                                              ((0 : Int) ≤ (↑(i + (1 : Nat)) : Int) ∧ (↑(i + (1 : Nat)) : Int) ≤ (↑(i + (len + (1 : Nat) - i)) : Int)) ∧
                                                ((0 : Int) ≤ (↑i : Int) ∧ (↑i : Int) ≤ (↑len : Int)) ∧
                                                  (if cap = i then (0 : Nat) else (0 : Nat) + i) + (len - i) ≤ cap ∧
                                                    (if cap' = i + (1 : Nat) then (0 : Nat) else (0 : Nat) + (i + (1 : Nat))) + (i + (len + (1 : Nat) - i) - (i + (1 : Nat))) ≤ cap' ∧
                                                      InsR len i xs ys a c (Go.Value.slice (Option.some { block := b_1, off := (0 : Nat) * (2 : Nat) }) (i + (len + (1 : Nat) - i)) cap')
                                                        [(b, Go.Sx.Blk.tab (60 : Go.TypeId) base cap [Go.Sx.Col.ints Go.IntKind.u32 xs, Go.Sx.Col.ints Go.IntKind.u32 ys]),
                                                          (b2, Go.Sx.Blk.cells [Go.Value.int Go.IntKind.u32 a, Go.Value.int Go.IntKind.u32 c] (60 : Go.TypeId)),
                                                          (b_1,
                                                            Go.Sx.Blk.tab (60 : Nat) (0 : Nat) cap'
                                                              [Go.Sx.Col.ints Go.IntKind.u32
                                                                  (List.take (if cap' = i + (1 : Nat) then (0 : Nat) else (0 : Nat) + (i + (1 : Nat)))
                                                                        (List.take (if cap' = i then (0 : Nat) else (0 : Nat) + i)
                                                                              (List.take i xs ++ List.replicate (len + (1 : Nat) - i) (0 : Int) ++ sp) ++
                                                                            List.take (Min.min (1 : Nat) (i + (len + (1 : Nat) - i) - i)) [a] ++
                                                                          List.drop ((if cap' = i then (0 : Nat) else (0 : Nat) + i) + Min.min (1 : Nat) (i + (len + (1 : Nat) - i) - i))
                                                                            (List.take i xs ++ List.replicate (len + (1 : Nat) - i) (0 : Int) ++ sp)) ++
                                                                      List.take (Min.min (len - i) (i + (len + (1 : Nat) - i) - (i + (1 : Nat))))
                                                                        (List.take (len - i) (List.drop (if cap = i then (0 : Nat) else (0 : Nat) + i) xs)) ++
                                                                    List.drop
                                                                      ((if cap' = i + (1 : Nat) then (0 : Nat) else (0 : Nat) + (i + (1 : Nat))) +
                                                                        Min.min (len - i) (i + (len + (1 : Nat) - i) - (i + (1 : Nat))))
                                                                      (List.take (if cap' = i then (0 : Nat) else (0 : Nat) + i)
                                                                            (List.take i xs ++ List.replicate (len + (1 : Nat) - i) (0 : Int) ++ sp) ++
                                                                          List.take (Min.min (1 : Nat) (i + (len + (1 : Nat) - i) - i)) [a] ++
                                                                        List.drop ((if cap' = i then (0 : Nat) else (0 : Nat) + i) + Min.min (1 : Nat) (i + (len + (1 : Nat) - i) - i))
                                                                          (List.take i xs ++ List.replicate (len + (1 : Nat) - i) (0 : Int) ++ sp))),
                                                                Go.Sx.Col.ints Go.IntKind.u32
                                                                  (List.take (if cap' = i + (1 : Nat) then (0 : Nat) else (0 : Nat) + (i + (1 : Nat)))
                                                                        (List.take (if cap' = i then (0 : Nat) else (0 : Nat) + i)
                                                                              (List.take i ys ++ List.replicate (len + (1 : Nat) - i) (0 : Int) ++ sp_1) ++
                                                                            List.take (Min.min (1 : Nat) (i + (len + (1 : Nat) - i) - i)) [c] ++
                                                                          List.drop ((if cap' = i then (0 : Nat) else (0 : Nat) + i) + Min.min (1 : Nat) (i + (len + (1 : Nat) - i) - i))
                                                                            (List.take i ys ++ List.replicate (len + (1 : Nat) - i) (0 : Int) ++ sp_1)) ++
                                                                      List.take (Min.min (len - i) (i + (len + (1 : Nat) - i) - (i + (1 : Nat))))
                                                                        (List.take (len - i) (List.drop (if cap = i then (0 : Nat) else (0 : Nat) + i) ys)) ++
                                                                    List.drop
                                                                      ((if cap' = i + (1 : Nat) then (0 : Nat) else (0 : Nat) + (i + (1 : Nat))) +
                                                                        Min.min (len - i) (i + (len + (1 : Nat) - i) - (i + (1 : Nat))))
                                                                      (List.take (if cap' = i then (0 : Nat) else (0 : Nat) + i)
                                                                            (List.take i ys ++ List.replicate (len + (1 : Nat) - i) (0 : Int) ++ sp_1) ++
                                                                          List.take (Min.min (1 : Nat) (i + (len + (1 : Nat) - i) - i)) [c] ++
                                                                        List.drop ((if cap' = i then (0 : Nat) else (0 : Nat) + i) + Min.min (1 : Nat) (i + (len + (1 : Nat) - i) - i))
                                                                          (List.take i ys ++ List.replicate (len + (1 : Nat) - i) (0 : Int) ++ sp_1)))])]) ∧
            (¬(↑cap : Int) < (↑(len + (1 : Nat)) : Int) →
              Go.Value.int Go.IntKind.i64 (↑(len + (1 : Nat)) : Int) = Go.Value.int Go.IntKind.i64 (Go.IntKind.wrap Go.IntKind.i64 ((↑len : Int) + (↑(1 : Nat) : Int))) ∧
                ((0 : Int) ≤ (↑(len + (1 : Nat)) : Int) ∧ (↑(len + (1 : Nat)) : Int) ≤ (↑cap : Int)) ∧
                  Go.Value.int Go.IntKind.i64 (↑(i + (1 : Nat)) : Int) = Go.Value.int Go.IntKind.i64 (Go.IntKind.wrap Go.IntKind.i64 ((↑i : Int) + (↑(1 : Nat) : Int))) ∧
                    ((0 : Int) ≤ (↑(i + (1 : Nat)) : Int) ∧ (↑(i + (1 : Nat)) : Int) ≤ (↑(len + (1 : Nat)) : Int)) ∧
                      Go.Sx.IsOverlaps Go.Proofs.Try.prog (35 : Nat) (53 : Nat) ∧
                        (0 : Nat) < cap ∧
                          Go.Value.int Go.IntKind.i64 (↑(i + (1 : Nat)) : Int) = Go.Value.int Go.IntKind.i64 (Go.IntKind.wrap Go.IntKind.i64 ((↑i : Int) + (↑(1 : Nat) : Int))) ∧
                            ((0 : Int) ≤ (↑(i + (1 : Nat)) : Int) ∧ (↑(i + (1 : Nat)) : Int) ≤ (↑(len + (1 : Nat)) : Int)) ∧
                              ((0 : Int) ≤ (↑i : Int) ∧ (↑i : Int) ≤ (↑(len + (1 : Nat)) : Int)) ∧
                                (if cap = i then (0 : Nat) else (0 : Nat) + i) + (len + (1 : Nat) - i) ≤ cap ∧
                                  (if cap = i + (1 : Nat) then (0 : Nat) else (0 : Nat) + (i + (1 : Nat))) + (len + (1 : Nat) - (i + (1 : Nat))) ≤ cap ∧
                                    ((0 : Int) ≤ (↑i : Int) ∧ (↑i : Int) ≤ (↑(len + (1 : Nat)) : Int)) ∧
                                      Go.Value.oneCell' (Go.Value.int Go.IntKind.u32 a) = Bool.true ∧
                                        Go.Value.oneCell' (Go.Value.int Go.IntKind.u32 c) = Bool.true ∧
                                          (if cap = i then (0 : Nat) else (0 : Nat) + i) + (len + (1 : Nat) - i) ≤ cap ∧
                                            InsR len i xs ys a c (Go.Value.slice (Option.some { block := b, off := base * (2 : Nat) }) (len + (1 : Nat)) cap)
                                              [(b,
                                                  Go.Sx.Blk.tab (60 : Go.TypeId) base cap
                                                    [Go.Sx.Col.ints Go.IntKind.u32
                                                        (List.take (if cap = i then (0 : Nat) else (0 : Nat) + i)
                                                              (List.take (if cap = i + (1 : Nat) then (0 : Nat) else (0 : Nat) + (i + (1 : Nat))) xs ++
                                                                  List.take (Min.min (len + (1 : Nat) - i) (len + (1 : Nat) - (i + (1 : Nat))))
                                                                    (List.take (len + (1 : Nat) - i) (List.drop (if cap = i then (0 : Nat) else (0 : Nat) + i) xs)) ++
                                                                List.drop
                                                                  ((if cap = i + (1 : Nat) then (0 : Nat) else (0 : Nat) + (i + (1 : Nat))) +
                                                                    Min.min (len + (1 : Nat) - i) (len + (1 : Nat) - (i + (1 : Nat))))
                                                                  xs) ++
                                                            List.take (Min.min (1 : Nat) (len + (1 : Nat) - i)) [a] ++
                                                          List.drop ((if cap = i then (0 : Nat) else (0 : Nat) + i) + Min.min (1 : Nat) (len + (1 : Nat) - i))
                                                            (List.take (if cap = i + (1 : Nat) then (0 : Nat) else (0 : Nat) + (i + (1 : Nat))) xs ++
                                                                List.take (Min.min (len + (1 : Nat) - i) (len + (1 : Nat) - (i + (1 : Nat))))
                                                                  (List.take (len + (1 : Nat) - i) (List.drop (if cap = i then (0 : Nat) else (0 : Nat) + i) xs)) ++
                                                              List.drop
                                                                ((if cap = i + (1 : Nat) then (0 : Nat) else (0 : Nat) + (i + (1 : Nat))) +
                                                                  Min.min (len + (1 : Nat) - i) (len + (1 : Nat) - (i + (1 : Nat))))
                                                                xs)),
                                                      Go.Sx.Col.ints Go.IntKind.u32
                                                        (List.take (if cap = i then (0 : Nat) else (0 : Nat) + i)
                                                              (List.take (if cap = i + (1 : Nat) then (0 : Nat) else (0 : Nat) + (i + (1 : Nat))) ys ++
                                                                  List.take (Min.min (len + (1 : Nat) - i) (len + (1 : Nat) - (i + (1 : Nat))))
                                                                    (List.take (len + (1 : Nat) - i) (List.drop (if cap = i then (0 : Nat) else (0 : Nat) + i) ys)) ++
                                                                List.drop
                                                                  ((if cap = i + (1 : Nat) then (0 : Nat) else (0 : Nat) + (i + (1 : Nat))) +
                                                                    Min.min (len + (1 : Nat) - i) (len + (1 : Nat) - (i + (1 : Nat))))
                                                                  ys) ++
                                                            List.take (Min.min (1 : Nat) (len + (1 : Nat) - i)) [c] ++
                                                          List.drop ((if cap = i then (0 : Nat) else (0 : Nat) + i) + Min.min (1 : Nat) (len + (1 : Nat) - i))
                                                            (List.take (if cap = i + (1 : Nat) then (0 : Nat) else (0 : Nat) + (i + (1 : Nat))) ys ++
                                                                List.take (Min.min (len + (1 : Nat) - i) (len + (1 : Nat) - (i + (1 : Nat))))
                                                                  (List.take (len + (1 : Nat) - i) (List.drop (if cap = i then (0 : Nat) else (0 : Nat) + i) ys)) ++
                                                              List.drop
                                                                ((if cap = i + (1 : Nat) then (0 : Nat) else (0 : Nat) + (i + (1 : Nat))) +
                                                                  Min.min (len + (1 : Nat) - i) (len + (1 : Nat) - (i + (1 : Nat))))
                                                                ys))]),
                                                (b2, Go.Sx.Blk.cells [Go.Value.int Go.IntKind.u32 a, Go.Value.int Go.IntKind.u32 c] (60 : Go.TypeId))])) := by
  have w1 : IntKind.wrap .i64 ((len : Int) + ((1 : Nat) : Int)) = ((len + 1 : Nat) : Int) := by rw [IntKind.wrap_i64]; omega
  have w2 : IntKind.wrap .i64 (((len + 1 : Nat) : Int) - (i : Int)) = ((len + 1 - i : Nat) : Int) := by rw [IntKind.wrap_i64]; omega
  have w3 : IntKind.wrap .i64 ((i : Int) + ((1 : Nat) : Int)) = ((i + 1 : Nat) : Int) := by rw [IntKind.wrap_i64]; omega
  refine ⟨⟨by omega, by omega⟩, by omega, fun he => ⟨rfl, rfl, ⟨by omega, by omega⟩, by omega, by omega, fun b base cap' h1 h2 sp h3 sp1 h4 => ?_⟩, fun he => ⟨by rw [w1], fun hc => ⟨⟨by omega, by omega⟩, by rw [w1], by rw [w2], ⟨by omega, by omega, by omega⟩, by omega, fun b1 cap' h1 sp h2 sp1 h3 => ?_⟩, fun hc => ?_⟩⟩
  · have hie : i = len := by omega
    subst hie
    refine ⟨b, base, cap', _, _, _, rfl, h1, by simp; omega, by simp; omega, ?_, ?_, List.Perm.swap _ _ _⟩
    · refine ins_list hi xs a _ (by omega) fun j hj => ?_
      exact ins_end a (by omega) j hj
    · refine ins_list hi ys c _ (by omega) fun j hj => ?_
      exact ins_end c (by omega) j hj
  · have n1 : ¬ cap' = i := by omega
    have n2 : ¬ cap' = i + 1 := by omega
    have n3 : ¬ cap = i := by omega
    refine ⟨⟨by omega, by omega⟩, rfl, rfl, by simp only [n1, if_false]; omega, by rw [w3], ⟨by omega, by omega⟩, ⟨by omega, by omega⟩, by split <;> omega, by simp only [n2, if_false]; omega, ?_⟩
    have m1 : min (len - i) (i + (len + 1 - i) - (i + 1)) = len - i := by omega
    have m2 : min 1 (i + (len + 1 - i) - i) = 1 := by omega
    simp only [n1, n2, n3, if_false, Nat.zero_add, m1, m2]
    refine ⟨b1, 0, cap', _, _, _, by rw [show i + (len + 1 - i) = len + 1 by omega], by omega, by simp; omega, by simp; omega, ?_, ?_, (List.perm_append_comm (l₁ := [_, _]) (l₂ := [_]))⟩
    · refine ins_list hi xs a _ (by omega) fun j hj => ?_
      exact ins_grow (by omega) a (by omega) (by simp; omega) (fun j hj => by rw [List.append_assoc, List.getElem?_append, List.length_take, if_pos (by omega), List.getElem?_take, if_pos hj]) j hj
    · refine ins_list hi ys c _ (by omega) fun j hj => ?_
      exact ins_grow (by omega) c (by omega) (by simp; omega) (fun j hj => by rw [List.append_assoc, List.getElem?_append, List.length_take, if_pos (by omega), List.getElem?_take, if_pos hj]) j hj
  · have n1 : ¬ cap = i := by omega
    have n2 : ¬ cap = i + 1 := by omega
    refine ⟨by rw [w1], ⟨by omega, by omega⟩, by rw [w3], ⟨by omega, by omega⟩, hov, by omega, by rw [w3], ⟨by omega, by omega⟩, ⟨by omega, by omega⟩, by simp only [n1, if_false]; omega, by simp only [n2, if_false]; omega, ⟨by omega, by omega⟩, rfl, rfl, by simp only [n1, if_false]; omega, ?_⟩
    have m1 : min (len + 1 - i) (len + 1 - (i + 1)) = len - i := by omega
    have m2 : min 1 (len + 1 - i) = 1 := by omega
    simp only [n1, n2, if_false, Nat.zero_add, m1, m2]
    refine ⟨b, base, cap, _, _, _, rfl, by omega, by simp; omega, by simp; omega, ?_, ?_, List.Perm.refl _⟩
    · refine ins_list hi xs a _ (by omega) fun j hj => ?_
      exact ins_shift (by omega) a (by omega) j hj
    · refine ins_list hi ys c _ (by omega) fun j hj => ?_
      exact ins_shift (by omega) c (by omega) j hj

theorem ins_goal (b b2 base len cap i : Nat) (xs ys : List Int) (a c : Int) (hi : i ≤ len) (hlc : len ≤ cap) (hb : len < 1000000) (hx : xs.length = cap) (hy : ys.length = cap)
   (hov : IsOverlaps Go.Proofs.Try.prog 35 53) : insGoal b b2 base len cap i xs ys a c :=
  Eq.mpr (by kernel_rfl) (ins_vc b b2 base len cap i xs ys a c hi hlc hb hx hy hov)

theorem mixed : Go.Proofs.Try.prog.follows .mixedOrders = true := by kernel_rfl

def plainNames (l : List Func) : Bool := l.all fun fn => !(fn.name == "runtime.NumGoroutine")
theorem plain_names : plainNames Go.Proofs.Try.prog.funcs.toList = true := by kernel_rfl
theorem no_numG (f : FuncId) (fn : Func) (h : Go.Proofs.Try.prog.funcs[f]? = some fn) : (fn.name == "runtime.NumGoroutine") = false := by
  have h1 := plain_names
  unfold plainNames at h1
  rw [List.all_eq_true] at h1
  have := h1 fn (List.mem_of_getElem? (by rw [Array.getElem?_toList]; exact h))
  simpa using this

theorem overlaps_row : IsOverlaps Go.Proofs.Try.prog 35 53 := ⟨Go.Proofs.Try.f35, 4, Go.Proofs.Try.func35, by kernel_rfl, by kernel_rfl, by kernel_rfl, by kernel_rfl⟩
end Go.Proofs.Ytmjhfnmkegdafaa
