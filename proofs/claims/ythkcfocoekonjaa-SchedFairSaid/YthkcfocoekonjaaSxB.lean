/- Regions in any order: quiet operations are taken first; what they answered must stay true in every world in which they may still come up. -/
import Derived.OrdersHeld
import Derived.Test.YthkcfocoekonjaaSxA
set_option linter.unusedVariables false
set_option linter.unusedSimpArgs false
namespace Go.Sx
section
variable {P : Program} {ops : Array Oper} {N : Act → World → Prop}

def Q0 (N : Act → World → Prop) : Exit → Act → World → Prop := fun e a w => e = .normal ∧ N a w

/-- `i` comes up ahead of `j` in every order. -/
def pre (ops : Array Oper) (i j : Nat) : Bool := ((Region.before ops).getD j 0).testBit i

theorem fold_bits (acc : Array Nat) (l : List Edge) (s : Nat) (i : Nat)
    (h : (l.foldl (fun s e => if Region.binds .any e then s ||| 2 ^ e.on ||| acc.getD e.on 0 else s) s).testBit i = true) :
    s.testBit i = true ∨ ∃ e ∈ l, Region.binds .any e = true ∧ (e.on = i ∨ (acc.getD e.on 0).testBit i = true) := by
  induction l generalizing s with
  | nil => exact .inl h
  | cons e r ih =>
    rw [List.foldl_cons] at h
    rcases ih _ h with h1 | ⟨e', he', h2⟩
    · by_cases hb : Region.binds .any e = true
      · rw [if_pos hb, Nat.testBit_or, Nat.testBit_or] at h1
        simp only [Bool.or_eq_true] at h1
        rcases h1 with (h1 | h1) | h1
        · exact .inl h1
        · rw [Nat.testBit_two_pow] at h1
          exact .inr ⟨e, by simp, hb, .inl (by simpa using h1)⟩
        · exact .inr ⟨e, by simp, hb, .inr h1⟩
      · rw [if_neg hb] at h1; exact .inl h1
    · exact .inr ⟨e', by simp [he'], h2⟩

def beforeStep (acc : Array Nat) (o : Oper) : Array Nat :=
  acc.push (o.after.foldl (fun s e => if Region.binds .any e then s ||| 2 ^ e.on ||| acc.getD e.on 0 else s) 0)

theorem before_aux (l : List Oper) : ∀ (acc : Array Nat),
    (∀ j, j < acc.size → (l.foldl beforeStep acc)[j]? = acc[j]?) ∧
    ∀ k o i, l[k]? = some o → ((l.foldl beforeStep acc).getD (acc.size + k) 0).testBit i = true →
      ∃ e ∈ o.after.toList, Region.binds .any e = true ∧ (e.on = i ∨ (e.on < acc.size + k ∧ ((l.foldl beforeStep acc).getD e.on 0).testBit i = true)) := by
  induction l with
  | nil => intro acc; exact ⟨fun _ _ => rfl, fun k o i h => by simp at h⟩
  | cons o r ih =>
    intro acc
    obtain ⟨h1, h2⟩ := ih (beforeStep acc o)
    have hs : (beforeStep acc o).size = acc.size + 1 := by simp [beforeStep]
    have hkeep : ∀ j, j < acc.size → (r.foldl beforeStep (beforeStep acc o))[j]? = acc[j]? := fun j hj => by
      rw [h1 j (by omega)]
      simp only [beforeStep, Array.getElem?_push]
      rw [if_neg (by omega)]
    refine ⟨hkeep, ?_⟩
    intro k o' i hk ht
    rw [List.foldl_cons] at ht ⊢
    cases k with
    | zero =>
      simp only [List.getElem?_cons_zero, Option.some.injEq] at hk
      subst hk
      have hv : (r.foldl beforeStep (beforeStep acc o)).getD (acc.size + 0) 0 = o.after.foldl (fun s e => if Region.binds .any e then s ||| 2 ^ e.on ||| acc.getD e.on 0 else s) 0 := by
        rw [Array.getD_eq_getD_getElem?, Nat.add_zero, h1 _ (by omega)]
        simp [beforeStep]
      rw [hv, ← Array.foldl_toList] at ht
      rcases fold_bits acc o.after.toList 0 i ht with h0 | ⟨e, he, hb, h3⟩
      · simp at h0
      · refine ⟨e, he, hb, h3.imp id fun h4 => ?_⟩
        have hlt : e.on < acc.size := by
          rcases Nat.lt_or_ge e.on acc.size with h | h
          · exact h
          · rw [Array.getD_eq_getD_getElem?, Array.getElem?_eq_none h] at h4; simp at h4
        refine ⟨by omega, ?_⟩
        rw [Array.getD_eq_getD_getElem?, hkeep _ hlt, ← Array.getD_eq_getD_getElem?]
        exact h4
    | succ k =>
      simp only [List.getElem?_cons_succ] at hk
      have := h2 k o' i hk (by rw [hs]; rw [show acc.size + 1 + k = acc.size + (k + 1) by omega]; exact ht)
      rw [hs] at this
      obtain ⟨e, he, hb, h3⟩ := this
      exact ⟨e, he, hb, h3.imp id fun ⟨h4, h5⟩ => ⟨by omega, h5⟩⟩

theorem pre_spec {i j : Nat} {o : Oper} (hj : ops[j]? = some o) (h : pre ops i j = true) :
    ∃ e ∈ o.after, Region.binds .any e = true ∧ (e.on = i ∨ (e.on < j ∧ pre ops i e.on = true)) := by
  have hb : Region.before ops = ops.toList.foldl beforeStep #[] := by
    rw [Array.foldl_toList]; rfl
  unfold pre at h ⊢
  rw [hb] at h ⊢
  have := (before_aux ops.toList #[]).2 j o i (by simpa using hj) (by simpa using h)
  simpa using this

def Closed (ops : Array Oper) (listed : Array Bool) : Prop :=
  ∀ j o, ops[j]? = some o → listed.getD j false = true → ∀ e ∈ o.after, Region.binds .any e = true → listed.getD e.on false = true

theorem pre_listed {listed : Array Bool} (hc : Closed ops listed) {i : Nat} : ∀ (j : Nat) (o : Oper), ops[j]? = some o →
    (∀ e ∈ o.after, Region.binds .any e = true → listed.getD e.on false = true) → pre ops i j = true → listed.getD i false = true := by
  intro j
  induction j using Nat.strongRecOn with
  | _ j ih =>
    intro o ho hall hp
    obtain ⟨e, he, hb, h | ⟨hlt, h⟩⟩ := pre_spec ho hp
    · exact h ▸ hall e he hb
    · have hl := hall e he hb
      cases ho' : ops[e.on]? with
      | none =>
        have : Region.before ops = ops.toList.foldl beforeStep #[] := by rw [Array.foldl_toList]; rfl
        exfalso
        have hjs := (Array.getElem?_eq_some_iff.1 ho).1
        have := Array.getElem?_eq_none_iff.1 ho'
        omega
      | some o' => exact ih e.on hlt o' ho' (hc e.on o' ho' hl) h

theorem Closed.step {listed : Array Bool} (hc : Closed ops listed) {j : Nat} (hj : j ∈ Region.ready .any ops listed) : Closed ops (listed.setIfInBounds j true) := by
  intro k o ho hk e he hb
  obtain ⟨_, oj, hoj, hall⟩ := mem_ready.1 hj
  by_cases hkj : k = j
  · subst hkj
    rw [hoj] at ho
    cases ho
    exact getD_set_true (hall e he hb)
  · rw [getD_set_ne false (Ne.symm hkj)] at hk
    exact getD_set_true (hc k o ho hk e he hb)

abbrev Pend := List (Nat × (World → Prop))
def keepP (ops : Array Oper) (j : Nat) (pend : Pend) : Pend := pend.filter fun p => !pre ops p.1 j

def wpAnyT (P : Program) (ops : Array Oper) (N : Act → World → Prop) : Nat → Pend → Array Bool → Act → World → Prop
  | 0, _, listed, a, w => Region.ready .any ops listed = [] ∧ N a w
  | fuel + 1, pend, listed, a, w =>
    (Region.ready .any ops listed = [] → N a w) ∧
    ∀ j ∈ Region.ready .any ops listed, wpOp P ops (Q0 N) j (fun a' w' => (∀ p ∈ keepP ops j pend, p.2 w') ∧
      wpAnyT P ops N fuel (keepP ops j pend) (listed.setIfInBounds j true) a' w') a w

theorem wpAny_of_T : ∀ (fuel : Nat) (pend : Pend) (listed : Array Bool) (a : Act) (w : World), wpAnyT P ops N fuel pend listed a w → wpAny P .any ops (Q0 N) fuel listed a w
  | 0, _, _, _, _, h => ⟨h.1, rfl, h.2⟩
  | fuel + 1, _, _, _, _, h => ⟨fun hr => ⟨rfl, h.1 hr⟩, fun i hi => wpOp_mono (fun a' w' h' => wpAny_of_T fuel _ _ a' w' h'.2) (h.2 i hi)⟩

theorem wpAnyT_less : ∀ (fuel : Nat) (pend pend' : Pend) (listed : Array Bool) (a : Act) (w : World), (∀ p ∈ pend', p ∈ pend) →
    wpAnyT P ops N fuel pend listed a w → wpAnyT P ops N fuel pend' listed a w
  | 0, _, _, _, _, _, _, h => h
  | fuel + 1, pend, pend', listed, a, w, hs, h => by
    have hk : ∀ j, ∀ p ∈ keepP ops j pend', p ∈ keepP ops j pend := fun j p hp => by
      unfold keepP at *
      rw [List.mem_filter] at *
      exact ⟨hs p hp.1, hp.2⟩
    exact ⟨h.1, fun j hj => wpOp_mono (fun a' w' h' => ⟨fun p hp => h'.1 p (hk j p hp), wpAnyT_less fuel _ _ _ a' w' (hk j) h'.2⟩) (h.2 j hj)⟩

theorem wpAnyT_first {i : Nat} {oi : Oper} {v : Value} {T : World → Prop} (hi : ops[i]? = some oi)
    (hsel : ∀ (j : Nat) (o : Oper) cs b, ops[j]? = some o → o.op ≠ .select cs b) :
    ∀ (fuel : Nat) (pend : Pend) (listed : Array Bool) (a : Act) (w : World),
      (∀ j oj, ops[j]? = some oj → j ≠ i → listed.getD j true = false → (∀ e ∈ oj.after, Region.binds .any e = true → e.on ≠ i) → oi.apart ops oj = true) →
      Closed ops listed → i ∈ Region.ready .any ops listed → YieldsIf P ops T oi v a → T w → (∀ p ∈ pend, p.2 w) →
      wpAnyT P ops N fuel ((i, T) :: pend) (listed.setIfInBounds i true) (a.put oi.dst v) w → wpAnyT P ops N (fuel + 1) pend listed a w := by
  intro fuel
  have hQ : ∀ c a w, Q0 N (.panic c) (a.put oi.dst v) w → Q0 N (.panic c) a w := fun c a w h => by simp [Q0] at h
  induction fuel with
  | zero =>
    intro pend listed a w _ _ hr hy hT hp H
    refine ⟨fun h => (by rw [h] at hr; cases hr), fun j hj => ?_⟩
    by_cases hji : j = i
    · subst hji
      exact hy.wpOp hi hT ⟨fun p h => hp p ((List.mem_filter.1 h).1), H⟩
    · have := ready_mono hj hji
      rw [H.1] at this
      cases this
  | succ fuel ih =>
    intro pend listed a w hfree hc hr hy hT hp H
    refine ⟨fun h => (by rw [h] at hr; cases hr), fun j hj => ?_⟩
    by_cases hji : j = i
    · subst hji
      refine hy.wpOp hi hT ⟨fun p h => hp p ((List.mem_filter.1 h).1), wpAnyT_less _ _ _ _ _ _ (fun p h => ?_) H⟩
      exact List.mem_cons_of_mem _ ((List.mem_filter.1 h).1)
    · have h1 := H.2 j (ready_mono hj hji)
      obtain ⟨hjun, oj, hoj, hall⟩ := mem_ready.1 hj
      have hiun : listed.getD i false = false := by
        have h0 := (mem_ready.1 hr).1
        rcases Nat.lt_or_ge i listed.size with h' | h'
        · simp [h'] at h0 ⊢; exact h0
        · simp [Array.getElem?_eq_none h']
      have hnot : ∀ e ∈ oj.after, Region.binds .any e = true → e.on ≠ i := fun e he hb heq => by
        have h1 := hall e he hb
        rw [heq, hiun] at h1
        cases h1
      have hnp : pre ops i j = false := by
        cases hpi : pre ops i j with
        | false => rfl
        | true => have := pre_listed hc j oj hoj hall hpi; rw [hiun] at this; cases this
      have hkp : keepP ops j ((i, T) :: pend) = (i, T) :: keepP ops j pend := by
        simp [keepP, hnp]
      rw [hkp] at h1
      have h2 := wpOp_putIf hoj (hfree j oj hoj hji hjun hnot) (fun cs b => hsel i oi cs b hi) (fun cs b => hsel j oj cs b hoj) hQ hy h1
      have hfree' : ∀ k ok, ops[k]? = some ok → k ≠ i → (listed.setIfInBounds j true).getD k true = false →
          (∀ e ∈ ok.after, Region.binds .any e = true → e.on ≠ i) → oi.apart ops ok = true := fun k ok hk hki hun hno => by
        refine hfree k ok hk hki ?_ hno
        by_cases hjk : j = k
        · subst hjk; exact hjun
        · rw [getD_set_ne true hjk] at hun; exact hun
      refine wpOp_mono (fun a' w' h3 => ?_) h2
      obtain ⟨hy', hall', h4⟩ := h3
      refine ⟨fun p h => hall' p (by simp [h]), ih (keepP ops j pend) (listed.setIfInBounds j true) a' w' hfree' (hc.step hj) (ready_mono hr (Ne.symm hji)) hy' (hall' (i, T) (by simp)) (fun p h => hall' p (by simp [h])) ?_⟩
      rw [Array.setIfInBounds_comm _ _ hji]
      exact h4

theorem wp_region_T {id : Nat} {a : Act} {w : World} {Q : Exit → Act → World → Prop} (hm : P.follows .mixedOrders = true)
    (h : wpAnyT P ops (Q .normal) ops.size [] (Array.replicate ops.size false) a { w with drawn := w.drawn + 1 }) : (Code.region id ops true).wp P Q a w :=
  wp_mono (wp_region_any hm (wpAny_of_T _ _ _ _ _ h)) fun _ _ _ ⟨he, hn⟩ => he ▸ hn
end
end Go.Sx
