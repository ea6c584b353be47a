/- Queues: who is served next (plain law of SchedFair). -/
import Derived.Test.YthkcfocoekonjaaScH
set_option maxRecDepth 100000
set_option linter.unusedVariables false
set_option linter.unusedSimpArgs false
namespace Go.Proofs.Ythkcfocoekonjaa
open Go Go.Sx

def cyc (n j : Nat) : List Nat := (List.range n).map fun t => (j + t) % n
theorem cyc_at (n j u : Nat) : (cyc n j)[u]? = if u < n then some ((j + u) % n) else none := by
  unfold cyc
  rw [List.getElem?_map]
  by_cases h : u < n
  · rw [List.getElem?_range h, if_pos h]; rfl
  · rw [if_neg h, List.getElem?_eq_none (by simpa using h)]; rfl
theorem cyc_len (n j : Nat) : (cyc n j).length = n := by simp [cyc]
theorem mod_ne {n a d : Nat} (hd : 0 < d) (hn : d < n) : (a + d) % n ≠ a % n := by
  have h1 : a % n < n := Nat.mod_lt _ (by omega)
  rw [← Nat.mod_add_mod]
  by_cases h : a % n + d < n
  · rw [Nat.mod_eq_of_lt h]; omega
  · rw [Nat.mod_eq_sub_mod (by omega), Nat.mod_eq_of_lt (by omega)]; omega
theorem cyc_split {n j s : Nat} {pre post : List Nat} (h : cyc n j = pre ++ s :: post) :
    n = pre.length + 1 + post.length ∧ s = (j + pre.length) % n ∧ (∀ u, u < pre.length → pre[u]? = some ((j + u) % n)) ∧ (∀ u, u < post.length → post[u]? = some ((j + pre.length + 1 + u) % n)) := by
  have hl : n = pre.length + 1 + post.length := by
    have := congrArg List.length h
    rw [cyc_len] at this
    simp at this; omega
  refine ⟨hl, ?_, fun u hu => ?_, fun u hu => ?_⟩
  · have h1 := cyc_at n j pre.length
    rw [h, if_pos (by omega), List.getElem?_append_right (Nat.le_refl _), Nat.sub_self] at h1
    simpa using h1
  · have h1 := cyc_at n j u
    rw [h, if_pos (by omega), List.getElem?_append_left hu] at h1
    exact h1
  · have h1 := cyc_at n j (pre.length + 1 + u)
    rw [h, if_pos (by omega), List.getElem?_append_right (by omega), show pre.length + 1 + u - pre.length = u + 1 by omega, List.getElem?_cons_succ] at h1
    rw [h1]; congr 2; omega
theorem cyc_next {n j s : Nat} {pre post : List Nat} (h : cyc n j = pre ++ s :: post) : cyc n (s + 1) = post ++ pre ++ [s] := by
  obtain ⟨hl, hs, h1, h2⟩ := cyc_split h
  have hm : ∀ u, (s + 1 + u) % n = (j + pre.length + 1 + u) % n := fun u => by
    rw [hs, Nat.add_assoc, Nat.mod_add_mod]; congr 1; omega
  apply List.ext_getElem?
  intro u
  rw [cyc_at]
  by_cases a : u < post.length
  · rw [if_pos (by omega), List.append_assoc, List.getElem?_append_left a, h2 u a, hm]
  · by_cases b : u < post.length + pre.length
    · rw [if_pos (by omega), List.append_assoc, List.getElem?_append_right (by omega), List.getElem?_append_left (by omega), h1 _ (by omega), hm]
      rw [show j + pre.length + 1 + u = j + (u - post.length) + n by omega, Nat.add_mod_right]
    · by_cases c : u = post.length + pre.length
      · rw [if_pos (by omega), List.getElem?_append_right (by simp; omega)]
        subst c
        simp only [List.length_append, Nat.sub_self, List.getElem?_cons_zero]
        rw [hm, show j + pre.length + 1 + (post.length + pre.length) = j + pre.length + n by omega, Nat.add_mod_right, ← hs]
      · rw [if_neg (by omega), List.getElem?_eq_none (by simp; omega)]
theorem cyc_not {n j s : Nat} {pre post : List Nat} (h : cyc n j = pre ++ s :: post) : s ∉ post := by
  obtain ⟨hl, hs, h1, h2⟩ := cyc_split h
  intro hm
  obtain ⟨u, hu, e⟩ := List.getElem_of_mem hm
  have := h2 u hu
  rw [List.getElem?_eq_getElem hu, e] at this
  injection this with this
  exact mod_ne (n := n) (a := j + pre.length) (d := 1 + u) (by omega) (by omega) (by rw [← hs, this]; congr 1; omega)
theorem cyc_lt {n j s : Nat} (h : s ∈ cyc n j) : s < n := by
  unfold cyc at h
  obtain ⟨t, h1, rfl⟩ := List.mem_map.1 h
  have := List.mem_range.1 h1
  exact Nat.mod_lt _ (by omega)

def FairI (n : Nat) (q : SQ) (xs : List Int) (last : Int) : Prop :=
  q.inter = true ∧ n ≤ 12 ∧ xs.length = 12 ∧ -1 ≤ last ∧ (last < n ∨ last = -1) ∧
  ∃ its : List (Nat × QItem), q.lines = its.map (fun p => ((p.1 : Int), [p.2])) ∧ its.map Prod.fst = (cyc n (last + 1).toNat).filter (fun k => decide (0 < xs.getD k 0)) ∧
    (∀ p ∈ its, (p.2.body.length : Int) = xs.getD p.1 0) ∧ q.all = (its.map fun p => (p.2.body.length : Int)).sum
theorem fair_small {n : Nat} {q : SQ} {xs : List Int} {last : Int} (h : FairI n q xs last) : q.small ∧ 0 ≤ q.all := by
  obtain ⟨h1, h2, h3, h4, h5, its, e1, e2, e3, e4⟩ := h
  have hl : its.length ≤ n := by
    rw [← List.length_map (f := Prod.fst), e2]
    have := List.length_filter_le (fun k => decide (0 < xs.getD k 0)) (cyc n (last + 1).toNat)
    rw [cyc_len] at this
    exact this
  refine ⟨⟨by rw [e1, List.length_map]; omega, fun l hl => ?_⟩, ?_⟩
  · rw [e1] at hl
    obtain ⟨p, -, rfl⟩ := List.mem_map.1 hl
    simp
  · rw [e4]
    clear e1 e2 e3 e4 hl
    induction its with
    | nil => simp
    | cons a r ih => simp only [List.map_cons, List.sum_cons]; omega
theorem body_sum (its : List (Nat × QItem)) : 0 ≤ (its.map fun p => (p.2.body.length : Int)).sum := by
  induction its with
  | nil => simp
  | cons a r ih => simp only [List.map_cons, List.sum_cons]; omega
theorem fair_next {n : Nat} {q : SQ} {xs : List Int} {last : Int} (h : FairI n q xs last) :
    (nextF q 100 = (chZ, q) ∧ q.all = 0) ∨ ((nextF q 100).1.ok = true ∧ ∃ (s : Nat) (pre post : List Nat), cyc n (last + 1).toNat = pre ++ s :: post ∧ (∀ k ∈ pre, xs.getD k 0 ≤ 0) ∧ s < n ∧ (nextF q 100).1.stream = s ∧
      FairI n (nextF q 100).2 (xs.set s (xs.getD s 0 - (nextF q 100).1.body.length)) s ∧ (nextF q 100).2.all + 1 ≤ q.all ∧ 0 ≤ xs.getD s 0 ∧ xs.getD s 0 ≤ q.all) := by
  have hsm := (fair_small h).1
  obtain ⟨h1, h2, h3, h4, h5, its, e1, e2, e3, e4⟩ := h
  rcases its with _ | ⟨⟨s, it⟩, rest⟩
  · refine .inl ⟨nextF_fail hsm (.inl (by rw [e1]; rfl)), by rw [e4]; rfl⟩
  · right
    simp only [List.map_cons] at e1 e2 e4
    obtain ⟨pre, post, c1, c2, c3, c4⟩ := List.filter_eq_cons_iff.1 e2.symm
    simp only [decide_eq_true_eq] at c2 c3
    have hb := e3 (s, it) (by simp)
    simp only at hb
    have hlt : s < n := cyc_lt (by rw [c1]; simp)
    have hr : q.room = 1168 := by unfold SQ.room; rw [h1]; rfl
    obtain ⟨k, hk⟩ : ∃ k, k = min (100 : Int).toNat it.body.length := ⟨_, rfl⟩
    have he := nextF_go (most := 100) e1 ⟨by omega, by omega⟩ hk (nu := numF q.inter q.nums it) rfl
    rw [he]
    have hk2 : 1 ≤ k ∧ k ≤ it.body.length := by
      have : (100 : Int).toNat = 100 := rfl
      omega
    have hnot := cyc_not c1
    have hpre : s ∉ pre := fun hm => absurd c3 (by simpa using c2 s hm)
    have hset : ∀ v j, j ≠ s → (xs.set s v).getD j 0 = xs.getD j 0 := fun v j hj => by
      simp only [List.getD_eq_getElem?_getD, List.getElem?_set_ne (Ne.symm hj)]
    have hself : ∀ v, (xs.set s v).getD s 0 = v := fun v => by
      simp only [List.getD_eq_getElem?_getD, List.getElem?_set_self (show s < xs.length by omega), Option.getD_some]
    have hcyc := cyc_next c1
    have hl : (it.body.take k).length = k := by rw [List.length_take]; omega
    have hf : ∀ v : Int, (cyc n ((s : Int) + 1).toNat).filter (fun j => decide (0 < (xs.set s v).getD j 0)) = rest.map Prod.fst ++ (if 0 < v then [s] else []) := fun v => by
      rw [show ((s : Int) + 1).toNat = s + 1 by omega, hcyc, List.filter_append, List.filter_append, ← c4]
      have a1 : post.filter (fun j => decide (0 < (xs.set s v).getD j 0)) = post.filter (fun j => decide (0 < xs.getD j 0)) := List.filter_congr fun j hj => by rw [hset v j (fun e => hnot (e ▸ hj))]
      have a2 : pre.filter (fun j => decide (0 < (xs.set s v).getD j 0)) = [] := List.filter_eq_nil_iff.2 fun j hj => by
        rw [hset v j (fun e => hpre (e ▸ hj))]
        simpa using c2 j hj
      rw [a1, a2, List.append_nil]
      congr 1
      simp only [List.filter_cons, List.filter_nil, hself, decide_eq_true_eq]
    refine ⟨rfl, s, pre, post, c1, fun j hj => by have := c2 j hj; omega, hlt, rfl, ?_, by show q.all - (k : Int) + 1 ≤ q.all; omega, by omega, by rw [e4, ← hb]; have := body_sum rest; simp only [List.sum_cons]; omega⟩
    simp only [hl]
    have hrest : ∀ v : Int, ∀ p ∈ rest, (p.2.body.length : Int) = (xs.set s v).getD p.1 0 := fun v p hp => by
      rw [hset v p.1 (fun e => hnot ?_)]
      · exact e3 p (by simp [hp])
      · have : p.1 ∈ rest.map Prod.fst := List.mem_map_of_mem hp
        rw [← c4] at this
        rw [← e]
        exact (List.mem_filter.1 this).1
    by_cases hE : k = it.body.length
    · refine ⟨h1, h2, by simpa using h3, by omega, .inl (by omega), rest, ?_, ?_, hrest _, ?_⟩
      · show (if decide (k = it.body.length) = true then _ else _) = _
        rw [if_pos (by simpa using hE), if_pos (by simp)]
      · rw [hf, if_neg (by omega), List.append_nil]
      · show q.all - (k : Int) = _
        rw [e4]
        simp only [List.sum_cons]
        omega
    · refine ⟨h1, h2, by simpa using h3, by omega, .inl (by omega), rest ++ [(s, it.cut (numF q.inter q.nums it).1 k)], ?_, ?_, ?_, ?_⟩
      · show (if decide (k = it.body.length) = true then _ else _) = _
        rw [if_neg (by simpa using hE), if_pos h1]
        simp
      · rw [hf, if_pos (by omega)]
        simp
      · intro p hp
        rcases List.mem_append.1 hp with hp | hp
        · exact hrest _ p hp
        · simp only [List.mem_singleton] at hp
          subst hp
          rw [hself]
          simp only [QItem.cut, List.length_drop]
          omega
      · show q.all - (k : Int) = _
        rw [e4]
        simp only [List.map_append, List.map_cons, List.map_nil, List.sum_append, List.sum_cons, List.sum_nil, QItem.cut, List.length_drop]
        omega
end Go.Proofs.Ythkcfocoekonjaa
