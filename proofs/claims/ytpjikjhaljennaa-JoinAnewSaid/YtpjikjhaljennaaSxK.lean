/- The loud operations, first part: new blocks and stores. -/
import Derived.Test.YtpjikjhaljennaaSxJ
set_option linter.unusedVariables false
set_option linter.unusedSimpArgs false
namespace Go.Sx
open Classical

def appK : List Ent → Ent → (List Ent → Prop) → Prop
  | [], e, K => K [e]
  | x :: r, e, K => appK r e fun ys => K (x :: ys)
def setK : List Ent → Nat → Ent → (List Ent → Prop) → Prop
  | [], _, _, _ => False
  | _ :: r, 0, e, K => K (e :: r)
  | x :: r, n + 1, e, K => setK r n e fun ys => K (x :: ys)
def lenE : List Ent → Nat
  | [] => 0
  | _ :: r => lenE r + 1

theorem lenE_eq : ∀ h : List Ent, lenE h = h.length
  | [] => rfl
  | _ :: r => by simp [lenE, lenE_eq r]
theorem appK_iff : ∀ {h : List Ent} {e : Ent} {K : List Ent → Prop}, appK h e K → K (h ++ [e])
  | [], _, _, hk => hk
  | x :: r, e, K, hk => by have := appK_iff (h := r) hk; simpa using this
theorem setK_spec : ∀ {h : List Ent} {n : Nat} {e : Ent} {K : List Ent → Prop}, setK h n e K → K (h.set n e)
  | [], _, _, _, hk => hk.elim
  | _ :: r, 0, e, K, hk => hk
  | x :: r, n + 1, e, K, hk => by have := setK_spec (h := r) hk; simpa using this

noncomputable def pbool (p : Prop) : Bool := @decide p (Classical.propDecidable p)

/-- What a loud operation comes to. -/
def Loud (P : Program) (F : List (Nat × Blk)) (h : List Ent) (w : World) (K : SV → List Ent → Prop) (m : Sem Next) : Prop :=
  ∃ s h' nx v w', K s h' ∧ Ext h h' ∧ Ctx F h' w' ∧ Rest w w' ∧ (s ≠ .top → Std h' s v) ∧ m.run P w = .ok nx w' ∧ (nx = .value v ∨ (nx = .skip ∧ v = undef))

theorem Ext.app (h : List Ent) (e : Ent) : Ext h (h ++ [e]) := ⟨[e.loc], by simp [locs_eq]⟩

section
variable {P : Program} {F : List (Nat × Blk)} {h : List Ent} {w : World}

theorem Ctx.push (c : Ctx F h w) {blk : SBlk} {o : Obj} (hb : ∀ r, (blk.den (locs h ++ r)).holds o) : Ctx F (h ++ [.own w.heap.size blk]) { w with heap := w.heap.push o } := by
  have hl : ∀ r, locs (h ++ [.own w.heap.size blk]) ++ r = locs h ++ ((w.heap.size, blk.base, blk.wd) :: r) := fun r => by simp [locs_eq, Ent.loc]
  refine ⟨fun r => ?_, fun b k hm => ?_⟩
  · rw [hl, owned_append]
    have := c.owns ((w.heap.size, blk.base, blk.wd) :: r)
    have := Owns.alloc this (hb ((w.heap.size, blk.base, blk.wd) :: r))
    simpa [owned, Ent.blocks] using this
  · rcases List.mem_append.1 hm with hm | hm
    · obtain ⟨o', h1, h2⟩ := c.ro b k hm
      exact ⟨o', h1, fun r => by rw [hl]; exact h2 _⟩
    · simp at hm

theorem owned_split {ρ : List Loc} : ∀ {h : List Ent} {n b : Nat} {k : SBlk}, entAt h n = some (.own b k) → ∃ A B, owned ρ h = A ++ (b, k.den ρ) :: B ∧ ∀ e, owned ρ (h.set n e) = A ++ e.blocks ρ ++ B
  | [], _, _, _, he => by cases he
  | x :: r, 0, b, k, he => by
    cases he
    exact ⟨[], owned ρ r, by simp [owned, Ent.blocks], fun e => by simp [owned]⟩
  | x :: r, n + 1, b, k, he => by
    obtain ⟨A, B, h1, h2⟩ := owned_split (ρ := ρ) (h := r) (n := n) he
    exact ⟨x.blocks ρ ++ A, B, by simp [owned, h1], fun e => by simp [owned, h2 e]⟩

theorem locs_set {h : List Ent} {n : Nat} {e e' : Ent} (he : entAt h n = some e) (hl : e'.loc = e.loc) : locs (h.set n e') = locs h := by
  rw [locs_eq, locs_eq, List.map_set, hl]
  have := entAt_get he
  obtain ⟨hlt, hg⟩ := List.getElem?_eq_some_iff.1 this
  have : e.loc = (h.map Ent.loc)[n]'(by simpa using hlt) := by simp [hg]
  rw [this, List.set_getElem_self]

theorem Ctx.set (c : Ctx F h w) {n b : Nat} {k k' : SBlk} (he : entAt h n = some (.own b k)) (h1 : k'.base = k.base) (h2 : k'.wd = k.wd) {w' : World} {o : Obj} (ho : w'.heap[b]? = some o)
    (hk : ∀ r, (k'.den (locs h ++ r)).holds o) (hs : ∀ x, x ≠ b → w'.heap[x]? = w.heap[x]?) : Ctx F (h.set n (.own b k')) w' := by
  have hl : locs (h.set n (.own b k')) = locs h := locs_set he (by simp [Ent.loc, h1, h2])
  refine ⟨fun r => ?_, fun b' k'' hm => ?_⟩
  · rw [hl]
    obtain ⟨A, B, e1, e2⟩ := owned_split (ρ := locs h ++ r) he
    rw [e2]
    have := c.owns r
    rw [e1, List.append_assoc, List.cons_append] at this
    have := Owns.write this ⟨o, ho, hk r⟩ hs
    simpa [Ent.blocks] using this
  · rw [hl]
    have : Ent.ro b' k'' ∈ h := by
      rcases List.mem_or_eq_of_mem_set hm with hm | hm
      · exact hm
      · cases hm
    exact c.ro b' k'' this

theorem Ext.set {n : Nat} {e e' : Ent} (he : entAt h n = some e) (hl : e'.loc = e.loc) : Ext h (h.set n e') := ⟨[], by rw [locs_set he hl, List.append_nil]⟩

def objSet (o : Obj) (x : Nat) (v : Value) : Obj :=
  match o with
  | .cells c t f => .cells (c.setIfInBounds x v) t f
  | o => o
def objFrozen (o : Obj) (x : Nat) : Bool :=
  match o with
  | .cells _ _ (lo, hi) => decide (lo ≤ x) && decide (x < hi)
  | _ => false

theorem run_store1 {b x : Nat} {o : Obj} {v : Value} (ho : w.heap[b]? = some o) (hc : (objCell o x).isSome) (hf : objFrozen o x = false) (hv : v.oneCell' = true) :
    (store ⟨b, x, none⟩ v).run P w = .ok () (w.setCell ⟨b, x, none⟩ v) ∧ (w.setCell ⟨b, x, none⟩ v).heap[b]? = some (objSet o x v) ∧
      (∀ y, y ≠ b → (w.setCell ⟨b, x, none⟩ v).heap[y]? = w.heap[y]?) ∧ Rest w (w.setCell ⟨b, x, none⟩ v) := by
  obtain ⟨u, hu⟩ := Option.isSome_iff_exists.1 hc
  have hcell := cell_obj ho hu
  have hfr : w.frozen? ⟨b, x, none⟩ = false := by
    unfold World.frozen?
    simp only [ho]
    cases o <;> simp_all [objFrozen, objCell]
  refine ⟨?_, ?_, ?_, ?_⟩
  · rw [run_store P w _ v .plain hv, hcell]
    simp [hfr]
  · simp only [World.setCell, Array.getElem?_modify, if_true, ho, Option.map_some]
    cases o <;> simp [objSet]
  · intro y hy
    simp only [World.setCell, Array.getElem?_modify]
    rw [if_neg (Ne.symm hy)]
  · exact ⟨rfl, rfl, rfl, by simp [World.setCell]⟩

def one (s : SV) (A : Prop) : Prop :=
  match s with
  | .val v => v.oneCell' = true ∧ A
  | .agg _ => False
  | .tup _ => False
  | .top => False
  | .arr _ _ => False
  | _ => A
theorem one_spec {s : SV} {A : Prop} (ho : one s A) : s ≠ .top ∧ (∀ ρ, (den ρ s).oneCell' = true) ∧ A := by
  cases s <;> first | exact ho.elim | exact ⟨by simp, fun _ => rfl, ho⟩ | exact ⟨by simp, fun _ => ho.1, ho.2⟩

noncomputable def Col.setC (ρ : List Loc) (c : Col) (i : Nat) (s : SV) (K : Col → Prop) : Prop :=
  match c, s with
  | .ints k xs, .val (.int k' x) => kSame k k' (K (.ints k (xs.set i x)))
  | .bools xs, .tt => K (.bools (xs.set i true))
  | .bools xs, .ff => K (.bools (xs.set i false))
  | .bools xs, .val (.bool b) => K (.bools (xs.set i b))
  | .bools xs, .prop p => K (.bools (xs.set i (pbool p)))
  | .raws xs, s => one s (K (.raws (xs.set i (den ρ s))))
  | _, _ => False

theorem Col.setC_sound {c : Col} {i : Nat} {s : SV} {v : Value} {K : Col → Prop} (hv : s ≠ .top → Std h s v) (hx : c.setC (locs h) i s K) (hi : i < c.len) :
    ∃ c', K c' ∧ c'.len = c.len ∧ c'.get i = v ∧ (∀ y, y ≠ i → c'.get y = c.get y) ∧ v.oneCell' = true := by
  have fin : ∀ (c' : Col), K c' → c'.len = c.len → c'.get i = v → (∀ y, y ≠ i → c'.get y = c.get y) → v.oneCell' = true →
    ∃ c', K c' ∧ c'.len = c.len ∧ c'.get i = v ∧ (∀ y, y ≠ i → c'.get y = c.get y) ∧ v.oneCell' = true := fun c' a b d e f => ⟨c', a, b, d, e, f⟩
  have setg : ∀ {α : Type} (xs : List α) (x d : α), i < xs.length → (xs.set i x).getD i d = x := by
    intro α xs x d hi; simp [List.getD, hi]
  have seto : ∀ {α : Type} (xs : List α) (x d : α) (y : Nat), y ≠ i → (xs.set i x).getD y d = xs.getD y d := by
    intro α xs x d y hy; simp [List.getD, List.getElem?_set_ne (Ne.symm hy)]
  unfold Col.setC at hx
  split at hx
  · rename_i k xs k' x
    obtain ⟨rfl, hx2⟩ := kSame_iff hx
    have e : v = .int k x := (hv (by simp) []).symm
    subst e
    exact fin _ hx2 (by simp [Col.len]) (by simp only [Col.get]; rw [setg xs x 0 hi]) (fun y hy => by simp only [Col.get]; rw [seto xs x 0 y hy]) rfl
  · rename_i xs
    have e : v = .bool true := (hv (by simp) []).symm
    subst e
    exact fin _ hx (by simp [Col.len]) (by simp only [Col.get]; rw [setg xs _ _ hi]) (fun y hy => by simp only [Col.get]; rw [seto xs _ _ y hy]) rfl
  · rename_i xs
    have e : v = .bool false := (hv (by simp) []).symm
    subst e
    exact fin _ hx (by simp [Col.len]) (by simp only [Col.get]; rw [setg xs _ _ hi]) (fun y hy => by simp only [Col.get]; rw [seto xs _ _ y hy]) rfl
  · rename_i xs b
    have e : v = .bool b := (hv (by simp) []).symm
    subst e
    exact fin _ hx (by simp [Col.len]) (by simp only [Col.get]; rw [setg xs _ _ hi]) (fun y hy => by simp only [Col.get]; rw [seto xs _ _ y hy]) rfl
  · rename_i xs p
    have e : v = .bool (pbool p) := (hv (by simp) []).symm
    subst e
    exact fin _ hx (by simp [Col.len]) (by simp only [Col.get]; rw [setg xs _ _ hi]) (fun y hy => by simp only [Col.get]; rw [seto xs _ _ y hy]) rfl
  · rename_i xs
    obtain ⟨h1, h2, h3⟩ := one_spec hx
    have e : v = den (locs h) s := by have := hv h1 []; rw [List.append_nil] at this; exact this.symm
    subst e
    exact fin _ h3 (by simp [Col.len]) (by simp only [Col.get]; rw [setg xs _ _ hi]) (fun y hy => by simp only [Col.get]; rw [seto xs _ _ y hy]) (h2 _)
  · exact hx.elim

def setNth : List SV → Nat → SV → (List SV → Prop) → Prop
  | [], _, _, _ => False
  | _ :: r, 0, s, K => K (s :: r)
  | x :: r, n + 1, s, K => setNth r n s fun ys => K (x :: ys)
theorem setNth_spec : ∀ {l : List SV} {n : Nat} {s : SV} {K : List SV → Prop}, setNth l n s K → n < l.length ∧ K (l.set n s)
  | [], _, _, _, hk => hk.elim
  | _ :: r, 0, s, K, hk => ⟨by simp, hk⟩
  | x :: r, n + 1, s, K, hk => by have := setNth_spec (l := r) hk; simpa using this
noncomputable def setColN (ρ : List Loc) : List Col → Nat → Nat → SV → (List Col → Prop) → Prop
  | [], _, _, _, _ => False
  | c :: r, 0, i, s, K => c.setC ρ i s fun c' => K (c' :: r)
  | c :: r, j + 1, i, s, K => setColN ρ r j i s fun r' => K (c :: r')
theorem setColN_sound {i : Nat} {s : SV} {v : Value} (hv : s ≠ .top → Std h s v) : ∀ {cols : List Col} {j : Nat} {K : List Col → Prop}, (∀ c ∈ cols, i < c.len) → setColN (locs h) cols j i s K →
    ∃ c c', cols[j]? = some c ∧ K (cols.set j c') ∧ c'.len = c.len ∧ c'.get i = v ∧ (∀ y, y ≠ i → c'.get y = c.get y) ∧ v.oneCell' = true
  | [], _, _, _, hx => hx.elim
  | c :: r, 0, K, hi, hx => by
    obtain ⟨c', h1, h2, h3, h4, h5⟩ := Col.setC_sound hv hx (hi c (by simp))
    exact ⟨c, c', rfl, h1, h2, h3, h4, h5⟩
  | c :: r, j + 1, K, hi, hx => by
    obtain ⟨c1, c', h0, h1, h2, h3, h4, h5⟩ := setColN_sound hv (cols := r) (fun c hc => hi c (by simp [hc])) hx
    exact ⟨c1, c', by simpa using h0, by simpa using h1, h2, h3, h4, h5⟩

noncomputable def SBlk.store1 (ρ : List Loc) (k : SBlk) (i j : Nat) (s : SV) (K : SBlk → Prop) : Prop :=
  match k with
  | .cells wd l t => one s (setNth l (i * wd + j) s fun l' => K (.cells wd l' t))
  | .tab t base len cols => i < len ∧ setColN ρ cols j i s fun cols' => K (.tab t base len cols')
  | _ => False

theorem offs_ne {w i j i' j' : Nat} (hj : j < w) (hj' : j' < w) (hne : ¬ (i = i' ∧ j = j')) : i * w + j ≠ i' * w + j' := by
  intro h
  apply hne
  have h1 : (i * w + j) / w = i := by rw [Nat.mul_comm, Nat.mul_add_div (by omega), Nat.div_eq_of_lt hj, Nat.add_zero]
  have h2 : (i' * w + j') / w = i' := by rw [Nat.mul_comm, Nat.mul_add_div (by omega), Nat.div_eq_of_lt hj', Nat.add_zero]
  have hi : i = i' := by rw [← h1, h, h2]
  subst hi
  exact ⟨rfl, by omega⟩

theorem SBlk.store1_sound {k : SBlk} {i j : Nat} {s : SV} {v : Value} {K : SBlk → Prop} {o : Obj} (ho : ∀ r, (k.den (locs h ++ r)).holds o) (hv : s ≠ .top → Std h s v) (hx : k.store1 (locs h) i j s K) :
    ∃ k', K k' ∧ k'.base = k.base ∧ k'.wd = k.wd ∧ (∀ r, (k'.den (locs h ++ r)).holds (objSet o ((k.base + i) * k.wd + j) v)) ∧ (objCell o ((k.base + i) * k.wd + j)).isSome ∧
      objFrozen o ((k.base + i) * k.wd + j) = false ∧ v.oneCell' = true := by
  cases k with
  | cells wd l t =>
    obtain ⟨h1, h2, h3⟩ := one_spec hx
    obtain ⟨h4, h5⟩ := setNth_spec h3
    have hs := hv h1
    refine ⟨_, h5, rfl, rfl, fun r => ?_, ?_, ?_, ?_⟩
    · have := ho r
      simp only [SBlk.den, Blk.holds] at this ⊢
      subst this
      simp only [objSet, SBlk.base, SBlk.wd, Nat.zero_add, List.setIfInBounds_toArray, denL_eq, List.map_set, hs r]
    · have := ho []
      simp only [SBlk.den, Blk.holds] at this
      subst this
      simp [objCell, SBlk.base, SBlk.wd, denL_eq, h4]
    · have := ho []
      simp only [SBlk.den, Blk.holds] at this
      subst this
      simp [objFrozen]
    · rw [← hs []]; exact h2 _
  | tab t base len cols =>
    obtain ⟨hi, hx⟩ := hx
    obtain ⟨arr, lo, hi', rfl, hlen, hget, hfz⟩ := ho []
    obtain ⟨c, c', h0, h1, h2, h3, h4, h5⟩ := setColN_sound hv (fun c hc => by rw [(hlen c hc).1]; exact hi) hx
    obtain ⟨hj, -⟩ := List.getElem?_eq_some_iff.1 h0
    have hoff : arr[(base + i) * cols.length + j]? = some (c.get i) := hget i j c hi h0
    obtain ⟨hsz, -⟩ := Array.getElem?_eq_some_iff.1 hoff
    refine ⟨_, h1, rfl, by simp [SBlk.wd], fun r => ?_, by simp [objCell, SBlk.base, SBlk.wd, hsz], ?_, h5⟩
    · refine ⟨arr.setIfInBounds ((base + i) * cols.length + j) v, lo, hi', rfl, ?_, ?_, ?_⟩
      · intro d hd
        rcases List.mem_or_eq_of_mem_set hd with hd | rfl
        · exact hlen d hd
        · have hc := hlen c (List.mem_of_getElem? h0)
          refine ⟨by rw [h2]; exact hc.1, fun y hy => ?_⟩
          by_cases hyi : y = i
          · subst hyi; rw [h3]; exact h5
          · rw [h4 y hyi]; exact hc.2 y hy
      · intro i2 j2 d hi2 hd
        simp only [List.length_set]
        by_cases hjj : j2 = j
        · subst hjj
          rw [List.getElem?_set_self hj] at hd
          cases hd
          by_cases hii : i2 = i
          · subst hii
            rw [Array.getElem?_setIfInBounds_self, if_pos hsz, h3]
          · rw [Array.getElem?_setIfInBounds_ne (offs_ne hj hj (by omega)), hget i2 j2 c hi2 h0, h4 i2 hii]
        · rw [List.getElem?_set_ne (Ne.symm hjj)] at hd
          obtain ⟨hj2, -⟩ := List.getElem?_eq_some_iff.1 hd
          rw [Array.getElem?_setIfInBounds_ne (offs_ne hj hj2 (by omega)), hget i2 j2 d hi2 hd]
      · intro x hx1 hx2
        simp only [List.length_set] at hx1 hx2
        exact hfz x hx1 hx2
    · have := hfz ((base + i) * cols.length + j) (by rw [Nat.add_mul]; omega) (by
        have : (base + i + 1) * cols.length ≤ (base + len) * cols.length := Nat.mul_le_mul_right _ (by omega)
        rw [Nat.add_mul (base + i), Nat.one_mul] at this
        omega)
      simp only [objFrozen, SBlk.base, SBlk.wd]
      by_cases h1 : lo ≤ (base + i) * cols.length + j <;> by_cases h2 : (base + i) * cols.length + j < hi' <;> simp [h1, h2]
      exact this ⟨h1, h2⟩
  | map ks m st => exact hx.elim
  | obj o' => exact hx.elim

/-- Cells one behind the other. -/
noncomputable def SBlk.storeL (ρ : List Loc) : List SV → SBlk → Nat → Nat → (SBlk → Prop) → Prop
  | [], k, _, _, K => K k
  | s :: r, k, i, j, K => k.store1 ρ i j s fun k' => bif Nat.beq (j + 1) k.wd then SBlk.storeL ρ r k' (i + 1) 0 K else SBlk.storeL ρ r k' i (j + 1) K

theorem storeL_sound {b x : Nat} : ∀ {l : List SV} {vs : List Value} {k : SBlk} {i j : Nat} {K : SBlk → Prop} {o : Obj} {w : World} (d : Nat), ArgsStd h l vs → w.heap[b]? = some o → (∀ r, (k.den (locs h ++ r)).holds o) →
    x + d = (k.base + i) * k.wd + j → SBlk.storeL (locs h) l k i j K →
    ∃ k' o' w', K k' ∧ k'.base = k.base ∧ k'.wd = k.wd ∧ (storeCells ⟨b, x, none⟩ vs d).run P w = .ok () w' ∧ w'.heap[b]? = some o' ∧ (∀ r, (k'.den (locs h ++ r)).holds o') ∧ (∀ y, y ≠ b → w'.heap[y]? = w.heap[y]?) ∧ Rest w w'
  | [], [], k, i, j, K, o, w, d, _, ho, hk, _, hx => ⟨k, o, w, hx, rfl, rfl, rfl, ho, hk, fun _ _ => rfl, Rest.refl w⟩
  | [], _ :: _, _, _, _, _, _, _, _, ha, _, _, _, _ => ha.elim
  | _ :: _, [], _, _, _, _, _, _, _, ha, _, _, _, _ => ha.elim
  | s :: l, v :: vs, k, i, j, K, o, w, d, ha, ho, hk, he, hx => by
    obtain ⟨k1, h1, h2, h3, h4, h5, h6, h7⟩ := SBlk.store1_sound hk ha.1 hx
    rw [← he] at h4 h5 h6
    obtain ⟨r1, r2, r3, r4⟩ := run_store1 (P := P) ho h5 h6 h7
    have key : ∀ i' j', x + (d + 1) = (k1.base + i') * k1.wd + j' → SBlk.storeL (locs h) l k1 i' j' K →
        ∃ k' o' w', K k' ∧ k'.base = k.base ∧ k'.wd = k.wd ∧ (storeCells ⟨b, x, none⟩ (v :: vs) d).run P w = .ok () w' ∧ w'.heap[b]? = some o' ∧ (∀ r, (k'.den (locs h ++ r)).holds o') ∧ (∀ y, y ≠ b → w'.heap[y]? = w.heap[y]?) ∧ Rest w w' := by
      intro i' j' he' hx'
      obtain ⟨k', o', w', e1, e2, e3, e4, e5, e6, e7, e8⟩ := storeL_sound (d + 1) ha.2 r2 h4 he' hx'
      refine ⟨k', o', w', e1, e2.trans h2, e3.trans h3, ?_, e5, e6, fun y hy => (e7 y hy).trans (r3 y hy), r4.trans e8⟩
      simp only [storeCells, Sem.run_bind, addr_add, r1, Result.andThen_ok]
      exact e4
    cases hb : Nat.beq (j + 1) k.wd with
    | true =>
      simp only [hb, cond_true] at h1
      have hw : j + 1 = k.wd := Nat.eq_of_beq_eq_true hb
      refine key (i + 1) 0 ?_ h1
      rw [h2, h3, ← Nat.add_assoc, he, ← Nat.add_assoc, Nat.add_mul (k.base + i), Nat.one_mul]
      omega
    | false =>
      simp only [hb, cond_false] at h1
      exact key i (j + 1) (by rw [h2, h3]; omega) h1

/-! Stores at raw addresses. -/
def Blk.upd : Blk → Nat → Value → Blk → Prop
  | .cells l t, x, v, k' => x < l.length ∧ k' = .cells (l.set x v) t
  | .tab t base len cols, x, v, k' => ∃ i j c c', x = (base + i) * cols.length + j ∧ i < len ∧ cols[j]? = some c ∧ c'.len = c.len ∧ c'.get i = v ∧ (∀ y, y ≠ i → c'.get y = c.get y) ∧ k' = .tab t base len (cols.set j c')
  | _, _, _, _ => False
theorem upd_spec {k k' : Blk} {x : Nat} {v : Value} {o : Obj} (hk : k.holds o) (hu : k.upd x v k') (hv : v.oneCell' = true) : (objCell o x).isSome ∧ objFrozen o x = false ∧ k'.holds (objSet o x v) := by
  cases k with
  | cells l t =>
    obtain ⟨h1, rfl⟩ := hu
    simp only [Blk.holds] at hk
    subst hk
    refine ⟨by simp [objCell, h1], by simp [objFrozen], ?_⟩
    simp only [Blk.holds, objSet, List.setIfInBounds_toArray]
  | tab t base len cols =>
    obtain ⟨i, j, c, c', rfl, hi, h0, h2, h3, h4, rfl⟩ := hu
    obtain ⟨arr, lo, hi', rfl, hlen, hget, hfz⟩ := hk
    obtain ⟨hj, -⟩ := List.getElem?_eq_some_iff.1 h0
    have hoff : arr[(base + i) * cols.length + j]? = some (c.get i) := hget i j c hi h0
    obtain ⟨hsz, -⟩ := Array.getElem?_eq_some_iff.1 hoff
    refine ⟨by simp [objCell, hsz], ?_, ?_⟩
    · have := hfz ((base + i) * cols.length + j) (by rw [Nat.add_mul]; omega) (by
        have : (base + i + 1) * cols.length ≤ (base + len) * cols.length := Nat.mul_le_mul_right _ (by omega)
        rw [Nat.add_mul (base + i), Nat.one_mul] at this
        omega)
      simp only [objFrozen]
      by_cases h1 : lo ≤ (base + i) * cols.length + j <;> by_cases h2 : (base + i) * cols.length + j < hi' <;> simp [h1, h2]
      exact this ⟨h1, h2⟩
    · refine ⟨arr.setIfInBounds ((base + i) * cols.length + j) v, lo, hi', rfl, ?_, ?_, ?_⟩
      · intro d hd
        rcases List.mem_or_eq_of_mem_set hd with hd | rfl
        · exact hlen d hd
        · have hc := hlen c (List.mem_of_getElem? h0)
          refine ⟨by rw [h2]; exact hc.1, fun y hy => ?_⟩
          by_cases hyi : y = i
          · subst hyi; rw [h3]; exact hv
          · rw [h4 y hyi]; exact hc.2 y hy
      · intro i2 j2 d hi2 hd
        simp only [List.length_set]
        by_cases hjj : j2 = j
        · subst hjj
          rw [List.getElem?_set_self hj] at hd
          cases hd
          by_cases hii : i2 = i
          · subst hii
            rw [Array.getElem?_setIfInBounds_self, if_pos hsz, h3]
          · rw [Array.getElem?_setIfInBounds_ne (offs_ne hj hj (by omega)), hget i2 j2 c hi2 h0, h4 i2 hii]
        · rw [List.getElem?_set_ne (Ne.symm hjj)] at hd
          obtain ⟨hj2, -⟩ := List.getElem?_eq_some_iff.1 hd
          rw [Array.getElem?_setIfInBounds_ne (offs_ne hj hj2 (by omega)), hget i2 j2 d hi2 hd]
      · intro x hx1 hx2
        simp only [List.length_set] at hx1 hx2
        exact hfz x hx1 hx2
  | map ks m st => exact hu.elim
  | obj o' => exact hu.elim
noncomputable def updL (ρ : List Loc) : List SV → Blk → Nat → (Blk → Prop) → Prop
  | [], k, _, K => K k
  | s :: r, k, x, K => one s (∃ k1, k.upd x (den ρ s) k1 ∧ updL ρ r k1 (x + 1) K)
theorem updL_sound {b x : Nat} : ∀ {l : List SV} {vs : List Value} {k : Blk} {K : Blk → Prop} {o : Obj} {w : World} (d : Nat), ArgsStd h l vs → w.heap[b]? = some o → k.holds o → updL (locs h) l k (x + d) K →
    ∃ k' o' w', K k' ∧ (storeCells ⟨b, x, none⟩ vs d).run P w = .ok () w' ∧ w'.heap[b]? = some o' ∧ k'.holds o' ∧ (∀ y, y ≠ b → w'.heap[y]? = w.heap[y]?) ∧ Rest w w'
  | [], [], k, K, o, w, d, _, ho, hk, hx => ⟨k, o, w, hx, rfl, ho, hk, fun _ _ => rfl, Rest.refl w⟩
  | [], _ :: _, _, _, _, _, _, ha, _, _, _ => ha.elim
  | _ :: _, [], _, _, _, _, _, ha, _, _, _ => ha.elim
  | s :: l, v :: vs, k, K, o, w, d, ha, ho, hk, hx => by
    obtain ⟨h1, h2, k1, h3, h4⟩ := one_spec hx
    have hs : den (locs h) s = v := by have := ha.1 h1 []; rwa [List.append_nil] at this
    rw [hs] at h3
    have hv : v.oneCell' = true := by rw [← hs]; exact h2 _
    obtain ⟨g1, g2, g3⟩ := upd_spec hk h3 hv
    obtain ⟨r1, r2, r3, r4⟩ := run_store1 (P := P) ho g1 g2 hv
    obtain ⟨k', o', w', e1, e4, e5, e6, e7, e8⟩ := updL_sound (d + 1) ha.2 r2 g3 h4
    refine ⟨k', o', w', e1, ?_, e5, e6, fun y hy => (e7 y hy).trans (r3 y hy), r4.trans e8⟩
    simp only [storeCells, Sem.run_bind, addr_add, r1, Result.andThen_ok]
    exact e4
theorem owned_out' {ρ : List Loc} : ∀ {h : List Ent} {n : Nat} {e : Ent} (e' : Ent), entAt h n = some e → (owned ρ (h.set n e')).Perm (e'.blocks ρ ++ owned ρ (h.set n (.gone e.loc)))
  | [], _, _, _, he => by cases he
  | x :: r, 0, e, e', he => by
    cases he
    simp only [List.set, owned, Ent.blocks, List.nil_append]
    exact List.Perm.refl _
  | x :: r, n + 1, e, e', he => by
    have ih := owned_out' (ρ := ρ) (h := r) (n := n) e' he
    simp only [List.set, owned]
    refine (ih.append_left _).trans ?_
    rw [← List.append_assoc, ← List.append_assoc]
    exact List.perm_append_comm.append_right _
theorem set_self' {h : List Ent} {n : Nat} {e : Ent} (he : entAt h n = some e) : h.set n e = h := by
  have := entAt_get he
  obtain ⟨hlt, hg⟩ := List.getElem?_eq_some_iff.1 this
  rw [← hg, List.set_getElem_self]
theorem Ctx.setChunk (c : Ctx F h w) {n b : Nat} {L G : List (Nat × Blk)} {k k' : Blk} (he : entAt h n = some (.chunk L)) (hp : L.Perm ((b, k) :: G)) {w' : World} {o : Obj} (ho : w'.heap[b]? = some o) (hk : k'.holds o)
    (hs : ∀ x, x ≠ b → w'.heap[x]? = w.heap[x]?) : Ctx F (h.set n (.chunk ((b, k') :: G))) w' := by
  have hl : locs (h.set n (.chunk ((b, k') :: G))) = locs h := locs_set he rfl
  refine ⟨fun r => ?_, fun b' k'' hm => ?_⟩
  · rw [hl]
    have p0 := owned_out' (ρ := locs h ++ r) (.chunk L) he
    rw [set_self' he] at p0
    have p1 := owned_out' (ρ := locs h ++ r) (.chunk ((b, k') :: G)) he
    simp only [Ent.blocks] at p0 p1
    have h0 := c.owns r
    have h1 : Owns w ([] ++ (b, k) :: (G ++ (owned (locs h ++ r) (h.set n (.gone (Ent.chunk L).loc)) ++ F))) := by
      refine h0.perm ?_
      refine (p0.append_right F).trans ?_
      rw [List.append_assoc]
      exact (hp.append_right _)
    have h2 := Owns.write h1 ⟨o, ho, hk⟩ hs
    refine h2.perm ?_
    refine List.Perm.trans ?_ (p1.append_right F).symm
    simp only [List.nil_append, List.cons_append, List.append_assoc]
    exact List.Perm.refl _
  · rw [hl]
    have : Ent.ro b' k'' ∈ h := by
      rcases List.mem_or_eq_of_mem_set hm with hm | hm
      · exact hm
      · cases hm
    exact c.ro b' k'' this
noncomputable def xrawStore (P : Program) (h : List Ent) (b x : Nat) (t : TypeId) (v : SV) (K : SV → List Ent → Prop) : Prop :=
  match P.info? t with
  | none => False
  | some inf => match chunkAt h 0 with
    | none => False
    | some (n, L) => bif Nat.beq (lenS (cellsS v)) inf.size && noTop (cellsS v) then ∃ (k : Blk) (G : List (Nat × Blk)), L.Perm ((b, k) :: G) ∧ updL (locs h) (cellsS v) k x fun k' => setK h n (.chunk ((b, k') :: G)) fun h' => K .top h' else False

/-- An array of numbers. -/
def arrOf : SV → Option (IntKind × List Int)
  | .arr k l => some (k, l)
  | .agg (.val (.int k z) :: r) => (match intsL k r with | some l => some (k, z :: l) | none => none)
  | _ => none
theorem arrOf_spec {v : SV} {k : IntKind} {ys : List Int} (hv : arrOf v = some (k, ys)) : v ≠ .top ∧ ∀ ρ, denL ρ (cellsS v) = ys.map (Value.int k) := by
  unfold arrOf at hv
  split at hv
  · rename_i k0 l
    cases hv
    refine ⟨by simp, fun ρ => ?_⟩
    simp only [cellsS, denL_eq, List.map_map]
    exact List.map_congr_left fun z _ => by simp [den]
  · rename_i k0 z r
    split at hv
    · rename_i l hl
      cases hv
      refine ⟨by simp, fun ρ => ?_⟩
      simp only [cellsS, denL, den, List.map_cons, intsL_spec hl ρ]
    · cases hv
  · cases hv
theorem kSame_mono {k k' : IntKind} {A B : Prop} (h : kSame k k' A) (hab : A → B) : kSame k k' B := by
  cases k <;> cases k' <;> first | exact hab h | exact h.elim
theorem storeL_ints {ρ : List Loc} {tt : TypeId} {base N : Nat} {k : IntKind} {K : SBlk → Prop} (hkk : ∀ A : Prop, A → kSame k k A) : ∀ (ys : List Int) (i : Nat) (xs : List Int), xs.length = N → i + ys.length ≤ N →
    K (.tab tt base N [.ints k (xs.take i ++ ys ++ xs.drop (i + ys.length))]) → SBlk.storeL ρ (ys.map fun z => SV.val (.int k z)) (.tab tt base N [.ints k xs]) i 0 K
  | [], i, xs, hx, hi, hk => by
    simp only [List.map_nil, SBlk.storeL]
    simpa using hk
  | y :: ys, i, xs, hx, hi, hk => by
    simp only [List.length_cons] at hi
    have ih := storeL_ints (ρ := ρ) (tt := tt) (base := base) (N := N) (k := k) (K := K) hkk ys (i + 1) (xs.set i y) (by simp [hx]) (by omega) (by
      have e1 : (xs.set i y).take (i + 1) = xs.take i ++ [y] := by
        rw [List.take_add_one, List.take_set_of_le (Nat.le_refl _), List.getElem?_set_self (by omega)]; rfl
      have e2 : (xs.set i y).drop (i + 1 + ys.length) = xs.drop (i + (ys.length + 1)) := by
        rw [List.drop_set_of_lt (by omega)]; congr 1; omega
      rw [e1, e2]
      simpa using hk)
    simp only [List.map_cons, SBlk.storeL, SBlk.store1]
    refine ⟨by omega, ?_⟩
    simp only [setColN, Col.setC]
    exact hkk _ ih
/-- A store through a pointer. -/
noncomputable def xstore (P : Program) (h : List Ent) (t : TypeId) (a v : SV) (K : SV → List Ent → Prop) : Prop :=
  match a with
  | .ptr n i j => (match P.info? t with
    | none => False
    | some inf => match entAt h n with
      | some (.own b k) => (match P.underlying t, arrOf v, k, j with
        | some (.array _ _), some (kv, ys), .tab tt base N [.ints k' xs], 0 => kSame kv k' ((ys.length = inf.size ∧ i + ys.length ≤ N) ∧ setK h n (.own b (.tab tt base N [.ints k' (xs.take i ++ ys ++ xs.drop (i + ys.length))])) fun h' => K .top h')
        | _, _, _, _ => bif Nat.beq (lenS (cellsS v)) inf.size && noTop (cellsS v) then SBlk.storeL (locs h) (cellsS v) k i j fun k' => setK h n (.own b k') fun h' => K .top h' else False)
      | some (.gone l) => xrawStore P h l.1 ((l.2.1 + i) * l.2.2 + j) t v K
      | _ => False)
  | .val (.pointer (some ⟨b, x, none⟩)) => xrawStore P h b x t v K
  | _ => False

theorem stdL_args : ∀ {l : List SV} {vs : List Value}, StdL h l vs → ArgsStd h l vs
  | [], [], _ => trivial
  | [], _ :: _, hl => by have := hl []; simp [denL] at this
  | _ :: _, [], hl => by have := hl []; simp [denL] at this
  | s :: l, v :: vs, hl => by
    have h1 : ∀ r, den (locs h ++ r) s = v ∧ denL (locs h ++ r) l = vs := fun r => by have := hl r; simpa [denL] using this
    exact ⟨fun _ r => (h1 r).1, stdL_args fun r => (h1 r).2⟩

theorem xrawStore_sound {K : SV → List Ent → Prop} (c : Ctx F h w) {b x : Nat} {t : TypeId} {v : SV} {va vv : Value} (hva : va = .pointer (some ⟨b, x, none⟩)) (hv : v ≠ .top → Std h v vv) (hx : xrawStore P h b x t v K) :
    Loud P F h w K (do Instr.storeAt t va vv; pure .skip) := by
  unfold xrawStore at hx
  split at hx
  · exact hx.elim
  · rename_i inf hinf
    split at hx
    · exact hx.elim
    · rename_i n L hc
      obtain ⟨-, he⟩ := chunkAt_spec hc
      rw [Nat.sub_zero] at he
      obtain ⟨hb, k, G, hp, hx⟩ := bif_false hx
      simp only [Bool.and_eq_true] at hb
      have hsz := Nat.eq_of_beq_eq_true hb.1
      have hnt : v ≠ .top := by rintro rfl; simp [cellsS, noTop] at hb
      obtain ⟨o, ho, hk⟩ := c.chunk he (hp.mem_iff.2 (List.mem_cons_self ..))
      have hcs := cellsS_std hnt (hv hnt)
      obtain ⟨k', o', w', e1, e4, e5, e6, e7, e8⟩ := updL_sound (P := P) (x := x) 0 (stdL_args hcs) ho hk hx
      have e1 := setK_spec e1
      refine ⟨_, _, .skip, undef, w', e1, Ext.set he rfl, c.setChunk he hp e5 e6 e7, e8, fun h => absurd rfl h, ?_, .inr ⟨rfl, rfl⟩⟩
      subst hva
      have hlen := hcs.length
      simp only [Instr.storeAt, Instr.sureAddr, storeVar, Sem.run_bind, Sem.run_pure, Result.andThen_ok, run_sizeOf' hinf]
      rw [if_neg (by rw [lenS_eq] at hsz; simp at hlen; omega), e4]
      rfl

theorem xstore_sound {K : SV → List Ent → Prop} (c : Ctx F h w) {t : TypeId} {a v : SV} {va vv : Value} (ha : a ≠ .top → Std h a va) (hv : v ≠ .top → Std h v vv) (hx : xstore P h t a v K) :
    Loud P F h w K (do Instr.storeAt t va vv; pure .skip) := by
  unfold xstore at hx
  split at hx
  · rename_i n i j
    split at hx
    · exact hx.elim
    · rename_i inf hinf
      split at hx
      · rename_i b k he
        split at hx
        · rename_i kv ys tt base N k' xs _ hav
          have hkk : ∀ A : Prop, A → kSame kv k' A := fun A ha => kSame_mono hx fun _ => ha
          obtain ⟨rfl, ⟨hl1, hl2⟩, hx⟩ := kSame_iff hx
          obtain ⟨hnt, hcl⟩ := arrOf_spec hav
          obtain ⟨⟨o, ho, hk⟩, hloc⟩ := c.blk he rfl
          have hxs : xs.length = N := by
            obtain ⟨arr, lo, hi, -, g1, -⟩ := hk []
            exact (g1 (.ints kv xs) (by simp)).1
          have hcs := cellsS_std hnt (hv hnt)
          have hvc : vv.cells.toList = ys.map (Value.int kv) := by rw [← hcs [], hcl]
          have hst := storeL_ints (ρ := locs h) (tt := tt) (base := base) (N := N) (k := kv) (K := fun k' => setK h n (.own b k') fun h' => K .top h') hkk ys i xs hxs hl2 hx
          have hargs : ArgsStd h (ys.map fun z => SV.val (.int kv z)) (ys.map (Value.int kv)) := stdL_args fun r => by
            rw [denL_eq, List.map_map]
            exact List.map_congr_left fun z _ => by simp [den]
          obtain ⟨k', o', w', e1, e2, e3, e4, e5, e6, e7, e8⟩ := storeL_sound (P := P) (x := ((SBlk.tab tt base N [.ints kv xs]).base + i) * (SBlk.tab tt base N [.ints kv xs]).wd + 0) 0 hargs ho hk (by simp) hst
          have e1 := setK_spec e1
          have hva : va = .pointer (some ⟨b, ((SBlk.tab tt base N [.ints kv xs]).base + i) * (SBlk.tab tt base N [.ints kv xs]).wd + 0, none⟩) := by
            have := ha (by simp) []
            simp only [den, hloc []] at this
            exact this.symm
          refine ⟨_, _, .skip, undef, w', e1, Ext.set he (by simp [Ent.loc, e2, e3]), c.set he e2 e3 e5 e6 e7, e8, fun h => absurd rfl h, ?_, .inr ⟨rfl, rfl⟩⟩
          subst hva
          have hlen : vv.cells.size = ys.length := by
            have := congrArg List.length hvc
            simpa using this
          simp only [Instr.storeAt, Instr.sureAddr, storeVar, Sem.run_bind, Sem.run_pure, Result.andThen_ok, run_sizeOf' hinf]
          rw [hvc, if_neg (by omega), e4]
          rfl
        rename_i k j _ _ _ _ _
        obtain ⟨hb, hx⟩ := bif_false hx
        simp only [Bool.and_eq_true] at hb
        have hsz := Nat.eq_of_beq_eq_true hb.1
        have hnt : v ≠ .top := by rintro rfl; simp [cellsS, noTop] at hb
        obtain ⟨⟨o, ho, hk⟩, hloc⟩ := c.blk he rfl
        have hcs := cellsS_std hnt (hv hnt)
        obtain ⟨k', o', w', e1, e2, e3, e4, e5, e6, e7, e8⟩ := storeL_sound (P := P) (x := (k.base + i) * k.wd + j) 0 (stdL_args hcs) ho hk (by simp) hx
        have e1 := setK_spec e1
        have hva : va = .pointer (some ⟨b, (k.base + i) * k.wd + j, none⟩) := by
          have := ha (by simp) []
          simp only [den, hloc []] at this
          exact this.symm
        refine ⟨_, _, .skip, undef, w', e1, Ext.set he (by simp [Ent.loc, e2, e3]), c.set he e2 e3 e5 e6 e7, e8, fun h => absurd rfl h, ?_, .inr ⟨rfl, rfl⟩⟩
        subst hva
        have hlen := hcs.length
        simp only [Instr.storeAt, Instr.sureAddr, storeVar, Sem.run_bind, Sem.run_pure, Result.andThen_ok, run_sizeOf' hinf]
        rw [if_neg (by rw [lenS_eq] at hsz; simp at hlen; omega), e4]
        rfl
      · rename_i l he
        refine xrawStore_sound c ?_ hv hx
        have := ha (by simp) []
        simp only [den, entAt_loc he []] at this
        exact this.symm
      · exact hx.elim
  · rename_i b x
    exact xrawStore_sound c (ha (by simp) []).symm hv hx
  · exact hx.elim

end
end Go.Sx
