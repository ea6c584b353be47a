/- Span: a row is taken out. -/
import Derived.Test.YtmjhfnmkegdafaaSpH
import Derived.Test.YtmjhfnmkegdafaaProg
set_option maxRecDepth 100000
set_option linter.unusedVariables false
set_option linter.unusedSimpArgs false
namespace Go.Proofs.Ytmjhfnmkegdafaa
open Go Go.Sx

def DelR (len i : Nat) (xs ys : List Int) (v : Value) (L : Blks) : Prop := ∃ b' base' cap' xs' ys' G, v = .slice (some ⟨b', base' * 2, none⟩) (len - 1) cap' ∧ len - 1 ≤ cap' ∧ xs'.length = cap' ∧ ys'.length = cap' ∧
  xs'.take (len - 1) = (xs.take len).take i ++ (xs.take len).drop (i + 1) ∧ ys'.take (len - 1) = (ys.take len).take i ++ (ys.take len).drop (i + 1) ∧ L.Perm ((b', .tab 60 base' cap' [.ints .u32 xs', .ints .u32 ys']) :: G)
noncomputable def delGoal (b base len cap i : Nat) (xs ys : List Int) : Prop :=
  xrun Go.Proofs.Try.prog [] [] [] 9 [] 26 [.slc 0 0 len cap, .val (.int .i64 i), .val (.int .i64 ((i + 1 : Nat) : Int))]
    [.own b (.tab 60 base cap [.ints .u32 xs, .ints .u32 ys])] fun s h => DelR len i xs ys (den (locs h) s) (owned (locs h) h)

theorem del_list {len i : Nat} (hi : i < len) (xs zs : List Int) (hl : len ≤ xs.length) (hz : ∀ j, j < len - 1 → zs[j]? = if j < i then xs[j]? else xs[j + 1]?) :
    zs.take (len - 1) = (xs.take len).take i ++ (xs.take len).drop (i + 1) := by
  apply List.ext_getElem?
  intro j
  have e1 : min i (min len xs.length) = i := by omega
  rw [List.getElem?_take, List.getElem?_append, List.length_take, List.length_take, e1, List.getElem?_drop]
  by_cases h1 : j < len - 1
  · rw [if_pos h1, hz j h1]
    by_cases h2 : j < i
    · simp only [h2, if_true, List.getElem?_take]
      rw [if_pos (by omega)]
    · simp only [h2, if_false, List.getElem?_take]
      rw [if_pos (by omega)]
      congr 1; omega
  · have h2 : ¬ j < i := by omega
    simp only [h1, h2, if_false, List.getElem?_take]
    rw [if_neg (by omega)]

theorem del_zs {len i : Nat} (hi : i < len) {xs sp : List Int} (hl : len ≤ xs.length) (hs : len ≤ (len - 1) + sp.length) (j : Nat) (hj : j < len - 1) :
    (List.take (len - 1) (List.take i xs ++ List.take (len - (i + 1)) (List.drop (i + 1) xs) ++ sp) ++ List.replicate 1 (0 : Int) ++ List.drop (len - 1 + 1) (List.take i xs ++ List.take (len - (i + 1)) (List.drop (i + 1) xs) ++ sp))[j]? = if j < i then xs[j]? else xs[j + 1]? := by
  have hlen : (List.take i xs ++ List.take (len - (i + 1)) (List.drop (i + 1) xs) ++ sp).length = (len - 1) + sp.length := by simp; omega
  rw [List.append_assoc, List.getElem?_append, List.length_take, hlen, if_pos (by omega), List.getElem?_take, if_pos hj, List.append_assoc, List.getElem?_append, List.length_take, show min i xs.length = i by omega]
  by_cases h2 : j < i
  · rw [if_pos h2, if_pos h2, List.getElem?_take, if_pos h2]
  · rw [if_neg h2, if_neg h2, List.getElem?_append, List.length_take, List.length_drop, if_pos (by omega), List.getElem?_take, if_pos (by omega), List.getElem?_drop]
    congr 1; omega

theorem del_vc (b base len cap i : Nat) (xs ys : List Int) (hi : i < len) (hlc : len ≤ cap) (hb : len < 1000000) (hx : xs.length = cap) (hy : ys.length = cap) :
    ((0 : Int) ≤ (↑len : Int) ∧ (↑len : Int) ≤ (↑cap : Int)) ∧
  ((0 : Int) ≤ (↑(i + (1 : Nat)) : Int) ∧ (↑(i + (1 : Nat)) : Int) ≤ (↑len : Int)) ∧
    ((0 : Int) ≤ (↑i : Int) ∧ (↑i : Int) ≤ (↑(i + (1 : Nat)) : Int)) ∧
      ((↑i : Int) = (↑(i + (1 : Nat)) : Int) →
          DelR len i xs ys (Go.Value.slice (Option.some { block := b, off := base * (2 : Nat) }) len cap)
            [(b, Go.Sx.Blk.tab (60 : Go.TypeId) base cap [Go.Sx.Col.ints Go.IntKind.u32 xs, Go.Sx.Col.ints Go.IntKind.u32 ys])]) ∧
        (¬(↑i : Int) = (↑(i + (1 : Nat)) : Int) →
          ((0 : Int) ≤ (↑i : Int) ∧ (↑i : Int) ≤ (↑cap : Int)) ∧
            ((0 : Int) ≤ (↑(i + (1 : Nat)) : Int) ∧ (↑(i + (1 : Nat)) : Int) ≤ (↑len : Int)) ∧
              (if cap = i + (1 : Nat) then (0 : Nat) else (0 : Nat) + (i + (1 : Nat))) + (len - (i + (1 : Nat))) ≤ cap ∧
                (i ≤ cap ∧ (0 : Nat) + cap ≤ cap) ∧
                  (0 : Nat) + i ≤ cap ∧
                    (i + (len - (i + (1 : Nat)))) * (8 : Nat) ≤ (140737488355328 : Nat) ∧
                      ∀ (b base cap' : Nat),
                        i + (len - (i + (1 : Nat))) ≤ cap' →
                          (i + (len - (i + (1 : Nat))) ≤ cap → cap' = cap) →
                            ∀ (sp : List Int),
                              List.length sp = cap' - (i + (len - (i + (1 : Nat)))) →
                                ∀ (sp_1 : List Int),
                                  List.length sp_1 = cap' - (i + (len - (i + (1 : Nat)))) →
                                    ((0 : Int) ≤ (↑len : Int) ∧ (↑len : Int) ≤ (↑cap' : Int)) ∧
                                      ((0 : Int) ≤ (↑(i + (len - (i + (1 : Nat)))) : Int) ∧ (↑(i + (len - (i + (1 : Nat)))) : Int) ≤ (↑len : Int)) ∧
                                        (if cap' = i + (len - (i + (1 : Nat))) then (0 : Nat) else (0 : Nat) + (i + (len - (i + (1 : Nat))))) + (len - (i + (len - (i + (1 : Nat))))) ≤ cap' ∧
                                          DelR len i xs ys (Go.Value.slice (Option.some { block := b, off := base * (2 : Nat) }) (i + (len - (i + (1 : Nat)))) cap')
                                            [(b,
                                                Go.Sx.Blk.tab (60 : Nat) base cap'
                                                  [Go.Sx.Col.ints Go.IntKind.u32
                                                      (List.take (if cap' = i + (len - (i + (1 : Nat))) then (0 : Nat) else (0 : Nat) + (i + (len - (i + (1 : Nat)))))
                                                            (List.take i xs ++
                                                                List.take (len - (i + (1 : Nat))) (List.drop (if cap = i + (1 : Nat) then (0 : Nat) else (0 : Nat) + (i + (1 : Nat))) xs) ++
                                                              sp) ++
                                                          List.replicate (len - (i + (len - (i + (1 : Nat))))) (0 : Int) ++
                                                        List.drop
                                                          ((if cap' = i + (len - (i + (1 : Nat))) then (0 : Nat) else (0 : Nat) + (i + (len - (i + (1 : Nat))))) +
                                                            (len - (i + (len - (i + (1 : Nat))))))
                                                          (List.take i xs ++
                                                              List.take (len - (i + (1 : Nat))) (List.drop (if cap = i + (1 : Nat) then (0 : Nat) else (0 : Nat) + (i + (1 : Nat))) xs) ++
                                                            sp)),
                                                    Go.Sx.Col.ints Go.IntKind.u32
                                                      (List.take (if cap' = i + (len - (i + (1 : Nat))) then (0 : Nat) else (0 : Nat) + (i + (len - (i + (1 : Nat)))))
                                                            (List.take i ys ++
                                                                List.take (len - (i + (1 : Nat))) (List.drop (if cap = i + (1 : Nat) then (0 : Nat) else (0 : Nat) + (i + (1 : Nat))) ys) ++
                                                              sp_1) ++
                                                          List.replicate (len - (i + (len - (i + (1 : Nat))))) (0 : Int) ++
                                                        List.drop
                                                          ((if cap' = i + (len - (i + (1 : Nat))) then (0 : Nat) else (0 : Nat) + (i + (len - (i + (1 : Nat))))) +
                                                            (len - (i + (len - (i + (1 : Nat))))))
                                                          (List.take i ys ++
                                                              List.take (len - (i + (1 : Nat))) (List.drop (if cap = i + (1 : Nat) then (0 : Nat) else (0 : Nat) + (i + (1 : Nat))) ys) ++
                                                            sp_1))])]) := by
  refine ⟨⟨by omega, by omega⟩, ⟨by omega, by omega⟩, ⟨by omega, by omega⟩, fun h => by omega, fun _ => ⟨⟨by omega, by omega⟩, ⟨by omega, by omega⟩, by split <;> omega, ⟨by omega, by omega⟩, by omega, by omega, fun b' base' cap' h1 h2 sp h3 sp1 h4 => ?_⟩⟩
  have hc : cap' = cap := h2 (by omega)
  subst hc
  have e1 : i + (len - (i + 1)) = len - 1 := by omega
  have e2 : len - (len - 1) = 1 := by omega
  have n1 : ¬ cap' = len - 1 := by omega
  simp only [e1, e2, n1, if_false, Nat.zero_add] at h1 h3 h4 ⊢
  refine ⟨⟨by omega, by omega⟩, ⟨by omega, by omega⟩, by omega, ?_⟩
  have hxs : (if cap' = i + 1 then List.take (len - (i + 1)) (List.drop 0 xs) else List.take (len - (i + 1)) (List.drop (i + 1) xs)) = List.take (len - (i + 1)) (List.drop (i + 1) xs) ∨ True := .inr trivial
  by_cases n2 : cap' = i + 1
  · have : len = i + 1 := by omega
    subst this
    simp only [n2, if_true, Nat.sub_self, List.take_zero, List.append_nil, Nat.add_sub_cancel]
    have fin : ∀ (xs sp : List Int), xs.length = i + 1 → sp.length = 1 → (List.take i (List.take i xs ++ sp) ++ List.replicate 1 (0 : Int) ++ List.drop (i + 1) (List.take i xs ++ sp)).length = i + 1 ∧
        List.take (i + 1 - 1) (List.take i (List.take i xs ++ sp) ++ List.replicate 1 (0 : Int) ++ List.drop (i + 1) (List.take i xs ++ sp)) = List.take i (List.take (i + 1) xs) ++ List.drop (i + 1) (List.take (i + 1) xs) := fun xs sp hx hs => by
      refine ⟨by simp; omega, del_list hi xs _ (by omega) fun j hj => ?_⟩
      have hj' : j < i := by omega
      rw [List.append_assoc, List.getElem?_append, List.length_take, if_pos (by simp; omega), List.getElem?_take, if_pos hj', List.getElem?_append, List.length_take, if_pos (by omega), List.getElem?_take, if_pos hj', if_pos hj']
    obtain ⟨a1, a2⟩ := fin xs sp (by omega) (by omega)
    obtain ⟨c1, c2⟩ := fin ys sp1 (by omega) (by omega)
    exact ⟨b', base', _, _, _, [], rfl, by omega, a1, c1, a2, c2, List.Perm.refl _⟩
  · simp only [n2, if_false]
    refine ⟨b', base', cap', _, _, [], rfl, by omega, by simp; omega, by simp; omega, ?_, ?_, List.Perm.refl _⟩
    · exact del_list hi xs _ (by omega) fun j hj => del_zs hi (by omega) (by omega) j hj
    · exact del_list hi ys _ (by omega) fun j hj => del_zs hi (by omega) (by omega) j hj

theorem del_goal (b base len cap i : Nat) (xs ys : List Int) (hi : i < len) (hlc : len ≤ cap) (hb : len < 1000000) (hx : xs.length = cap) (hy : ys.length = cap) : delGoal b base len cap i xs ys :=
  Eq.mpr (by kernel_rfl) (del_vc b base len cap i xs ys hi hlc hb hx hy)
end Go.Proofs.Ytmjhfnmkegdafaa
