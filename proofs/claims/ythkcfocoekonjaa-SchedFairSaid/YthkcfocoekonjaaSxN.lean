/- The loud operations, fourth part: append. -/
import Derived.Test.YthkcfocoekonjaaSxM
set_option linter.unusedVariables false
set_option linter.unusedSimpArgs false
namespace Go.Sx
open Classical

def winCol (o len : Nat) : Col → Col
  | .ints k xs => .ints k ((xs.drop o).take len)
  | .bools xs => .bools ((xs.drop o).take len)
  | .raws xs => .raws ((xs.drop o).take len)
def winCols (o len : Nat) : List Col → List Col
  | [] => []
  | c :: r => winCol o len c :: winCols o len r
noncomputable def col1 (ρ : List Loc) : SV → Col
  | .val (.int k n) => .ints k [n]
  | .tt => .bools [true]
  | .ff => .bools [false]
  | .prop p => .bools [pbool p]
  | .val (.bool b) => .bools [b]
  | s => .raws [den ρ s]
noncomputable def cols1 (ρ : List Loc) : List SV → List Col
  | [] => []
  | s :: r => col1 ρ s :: cols1 ρ r
def oneL : List SV → Prop → Prop
  | [], A => A
  | s :: r, A => one s (oneL r A)
def catCol : Col → Col → (Col → Prop) → Prop
  | .ints k xs, .ints k' ys, K => kSame k k' (K (.ints k (xs ++ ys)))
  | .bools xs, .bools ys, K => K (.bools (xs ++ ys))
  | .raws xs, .raws ys, K => K (.raws (xs ++ ys))
  | _, _, _ => False
def catCols : List Col → List Col → (List Col → Prop) → Prop
  | [], [], K => K []
  | c :: cs, d :: ds, K => catCol c d fun e => catCols cs ds fun es => K (e :: es)
  | _, _, _ => False
def takeS : Nat → List SV → List SV
  | 0, _ => []
  | _ + 1, [] => []
  | n + 1, s :: r => s :: takeS n r
def dropS : Nat → List SV → List SV
  | 0, l => l
  | _ + 1, [] => []
  | n + 1, _ :: r => dropS n r
noncomputable def elemsCols (ρ : List Loc) (wd : Nat) : Nat → List SV → (List Col → Prop) → Prop
  | 0, _, _ => False
  | 1, l, K => bif Nat.beq (lenS (takeS wd l)) wd then oneL (takeS wd l) (K (cols1 ρ (takeS wd l))) else False
  | n + 2, l, K => bif Nat.beq (lenS (takeS wd l)) wd then oneL (takeS wd l) (elemsCols ρ wd (n + 1) (dropS wd l) fun cs => catCols (cols1 ρ (takeS wd l)) cs K) else False
noncomputable def srcCols (ρ : List Loc) (k : SBlk) (o len : Nat) (K : List Col → Prop) : Prop :=
  match k with
  | .tab _ _ N cols => o + len ≤ N ∧ K (winCols o len cols)
  | .cells wd l _ => elemsCols ρ wd len (dropS (o * wd) l) K
  | _ => False
def spareK (n : Nat) : List Col → (List Col → Prop) → Prop
  | [], K => K []
  | .ints k xs :: r, K => ∀ sp : List Int, sp.length = n → spareK n r fun r' => K (.ints k (xs ++ sp) :: r')
  | .bools xs :: r, K => ∀ sp : List Bool, sp.length = n → spareK n r fun r' => K (.bools (xs ++ sp) :: r')
  | .raws xs :: r, K => ∀ sp : List Value, sp.length = n → spareK n r fun r' => K (.raws (xs ++ sp) :: r')

/-- Columns of `len` elements whose values are given. -/
structure ColsAre (cols : List Col) (n : Nat) (f : Nat → Nat → Value) : Prop where
  len : ∀ c ∈ cols, c.len = n
  get : ∀ i j c, i < n → cols[j]? = some c → c.get i = f i j
  one : ∀ i j, i < n → j < cols.length → (f i j).oneCell' = true

section
variable {P : Program} {F : List (Nat × Blk)} {h : List Ent} {w : World}

theorem winCols_eq (o len : Nat) : ∀ cols : List Col, winCols o len cols = cols.map (winCol o len)
  | [] => rfl
  | c :: r => by simp [winCols, winCols_eq o len r]
theorem winCol_len {o len : Nat} {c : Col} (hl : o + len ≤ c.len) : (winCol o len c).len = len := by
  cases c <;> simp [winCol, Col.len] at * <;> omega
theorem getD_win {α : Type} (xs : List α) (d : α) {o len i : Nat} (hi : i < len) : ((xs.drop o).take len).getD i d = xs.getD (o + i) d := by
  simp [List.getD, List.getElem?_take, hi, List.getElem?_drop]
theorem winCol_get {o len i : Nat} {c : Col} (hi : i < len) : (winCol o len c).get i = c.get (o + i) := by
  cases c <;> simp only [winCol, Col.get, getD_win _ _ hi]

theorem col1_len (ρ : List Loc) (s : SV) : (col1 ρ s).len = 1 := by unfold col1; split <;> rfl
theorem col1_get (ρ : List Loc) (s : SV) : (col1 ρ s).get 0 = den ρ s := by unfold col1; split <;> rfl
theorem cols1_eq (ρ : List Loc) : ∀ l : List SV, cols1 ρ l = l.map (col1 ρ)
  | [] => rfl
  | _ :: r => by simp [cols1, cols1_eq ρ r]
theorem oneL_spec : ∀ {l : List SV} {A : Prop}, oneL l A → (∀ s ∈ l, ∀ ρ, (den ρ s).oneCell' = true) ∧ A
  | [], _, ho => ⟨by simp, ho⟩
  | s :: r, A, ho => by
    obtain ⟨-, h1, h2⟩ := one_spec ho
    obtain ⟨h3, h4⟩ := oneL_spec h2
    refine ⟨fun t ht => ?_, h4⟩
    rcases List.mem_cons.1 ht with rfl | ht
    · exact h1
    · exact h3 t ht
theorem takeS_eq : ∀ (n : Nat) (l : List SV), takeS n l = l.take n
  | 0, _ => by simp [takeS]
  | _ + 1, [] => by simp [takeS]
  | n + 1, _ :: r => by simp [takeS, takeS_eq n r]
theorem dropS_eq : ∀ (n : Nat) (l : List SV), dropS n l = l.drop n
  | 0, _ => by simp [dropS]
  | _ + 1, [] => by simp [dropS]
  | n + 1, _ :: r => by simp [dropS, dropS_eq n r]

theorem getD_app1 {α : Type} (xs ys : List α) (d : α) {i : Nat} (hi : i < xs.length) : (xs ++ ys).getD i d = xs.getD i d := by
  simp [List.getD, List.getElem?_append_left hi]
theorem getD_app2 {α : Type} (xs ys : List α) (d : α) (i : Nat) : (xs ++ ys).getD (xs.length + i) d = ys.getD i d := by
  simp [List.getD, List.getElem?_append_right]

def fitsC (c : Col) (v : Value) : Prop :=
  match c with
  | .ints k _ => ∃ z, v = .int k z
  | .bools _ => ∃ b, v = .bool b
  | .raws _ => True

theorem fitsC_get (c : Col) (i : Nat) : fitsC c (c.get i) := by
  cases c
  · exact ⟨_, rfl⟩
  · exact ⟨_, rfl⟩
  · trivial
theorem fitsC_win {o len : Nat} {c : Col} {v : Value} (h : fitsC c v) : fitsC (winCol o len c) v := by
  cases c <;> exact h

theorem catCol_spec {c d : Col} {K : Col → Prop} (hk : catCol c d K) : ∃ e, K e ∧ e.len = c.len + d.len ∧ (∀ i, i < c.len → e.get i = c.get i) ∧ (∀ i, e.get (c.len + i) = d.get i) ∧ ∀ v, fitsC c v → fitsC e v := by
  unfold catCol at hk
  split at hk
  · rename_i k xs k' ys
    obtain ⟨rfl, hk2⟩ := kSame_iff hk
    exact ⟨_, hk2, by simp [Col.len], fun i hi => by simp only [Col.get]; rw [getD_app1 _ _ _ hi], fun i => by simp only [Col.get, Col.len]; rw [getD_app2], fun v h => h⟩
  · exact ⟨_, hk, by simp [Col.len], fun i hi => by simp only [Col.get]; rw [getD_app1 _ _ _ hi], fun i => by simp only [Col.get, Col.len]; rw [getD_app2], fun v h => h⟩
  · exact ⟨_, hk, by simp [Col.len], fun i hi => by simp only [Col.get]; rw [getD_app1 _ _ _ hi], fun i => by simp only [Col.get, Col.len]; rw [getD_app2], fun v h => h⟩
  · exact hk.elim

theorem catCols_spec : ∀ {cs ds : List Col} {K : List Col → Prop} {n m : Nat} {f g : Nat → Nat → Value}, catCols cs ds K → ColsAre cs n f → ColsAre ds m g →
    ∃ es, K es ∧ es.length = cs.length ∧ ds.length = cs.length ∧ ColsAre es (n + m) (fun i j => if i < n then f i j else g (i - n) j) ∧ ∀ (j : Nat) (c e : Col), cs[j]? = some c → es[j]? = some e → ∀ v, fitsC c v → fitsC e v
  | [], [], K, n, m, f, g, hk, _, _ => ⟨[], hk, rfl, rfl, ⟨by simp, by simp, by simp⟩, by simp⟩
  | [], _ :: _, _, _, _, _, _, hk, _, _ => hk.elim
  | _ :: _, [], _, _, _, _, _, hk, _, _ => hk.elim
  | c :: cs, d :: ds, K, n, m, f, g, hk, hc, hd => by
    obtain ⟨e, hk, h1, h2, h3, hke⟩ := catCol_spec hk
    have hcn : c.len = n := hc.len c (by simp)
    have hdm : d.len = m := hd.len d (by simp)
    have hc' : ColsAre cs n (fun i j => f i (j + 1)) := ⟨fun x hx => hc.len x (by simp [hx]), fun i j x hi hj => hc.get i (j + 1) x hi (by simpa using hj), fun i j hi hj => hc.one i (j + 1) hi (by simp; omega)⟩
    have hd' : ColsAre ds m (fun i j => g i (j + 1)) := ⟨fun x hx => hd.len x (by simp [hx]), fun i j x hi hj => hd.get i (j + 1) x hi (by simpa using hj), fun i j hi hj => hd.one i (j + 1) hi (by simp; omega)⟩
    obtain ⟨es, hk, h4, h5, h6, h7⟩ := catCols_spec hk hc' hd'
    refine ⟨e :: es, hk, by simp [h4], by simp [h5], ⟨?_, ?_, ?_⟩, ?_⟩
    rotate_left 3
    · intro j x y hx hy
      cases j with
      | zero => simp at hx hy; subst hx hy; exact hke
      | succ j => exact h7 j x y (by simpa using hx) (by simpa using hy)
    · intro x hx
      rcases List.mem_cons.1 hx with rfl | hx
      · omega
      · exact h6.len x hx
    · intro i j x hi hj
      cases j with
      | zero =>
        simp at hj
        subst hj
        by_cases hin : i < n
        · simp only [hin, if_true]
          rw [h2 i (by omega), hc.get i 0 c hin rfl]
        · simp only [hin, if_false]
          have := h3 (i - n)
          rw [hcn, show n + (i - n) = i by omega] at this
          rw [this, hd.get (i - n) 0 d (by omega) rfl]
      | succ j => exact h6.get i j x hi (by simpa using hj)
    · intro i j hi hj
      by_cases hin : i < n
      · simp only [hin, if_true]; exact hc.one i j hin (by simp at hj ⊢; omega)
      · simp only [hin, if_false]; exact hd.one (i - n) j (by omega) (by simp at hj ⊢; omega)

theorem spareK_spec : ∀ {cs : List Col} {n s : Nat} {K : List Col → Prop} {f : Nat → Nat → Value} (g : Nat → Nat → Value), spareK s cs K → ColsAre cs n f →
    (∀ (i j : Nat) (c : Col), i < s → cs[j]? = some c → fitsC c (g i j)) → (∀ i j, i < s → j < cs.length → (g i j).oneCell' = true) →
    ∃ es, K es ∧ es.length = cs.length ∧ ColsAre es (n + s) (fun i j => if i < n then f i j else g (i - n) j)
  | [], n, s, K, f, g, hk, _, _, _ => ⟨[], hk, rfl, ⟨by simp, by simp, by simp⟩⟩
  | c :: cs, n, s, K, f, g, hk, hc, hg, ho => by
    have hcn : c.len = n := hc.len c (by simp)
    have hc' : ColsAre cs n (fun i j => f i (j + 1)) := ⟨fun x hx => hc.len x (by simp [hx]), fun i j x hi hj => hc.get i (j + 1) x hi (by simpa using hj), fun i j hi hj => hc.one i (j + 1) hi (by simp; omega)⟩
    have fin : ∀ (e : Col), e.len = n + s → (∀ i, i < n → e.get i = c.get i) → (∀ i, i < s → e.get (n + i) = g i 0) → spareK s cs (fun r' => K (e :: r')) →
        ∃ es, K es ∧ es.length = (c :: cs).length ∧ ColsAre es (n + s) (fun i j => if i < n then f i j else g (i - n) j) := by
      intro e e1 e2 e3 e4
      obtain ⟨es, hk, h4, h6⟩ := spareK_spec (fun i j => g i (j + 1)) e4 hc' (fun i j x hi hj => hg i (j + 1) x hi (by simpa using hj)) (fun i j hi hj => ho i (j + 1) hi (by simp; omega))
      refine ⟨e :: es, hk, by simp [h4], ⟨?_, ?_, ?_⟩⟩
      · intro x hx
        rcases List.mem_cons.1 hx with rfl | hx
        · exact e1
        · exact h6.len x hx
      · intro i j x hi hj
        cases j with
        | zero =>
          simp at hj
          subst hj
          by_cases hin : i < n
          · simp only [hin, if_true]; rw [e2 i hin, hc.get i 0 c hin rfl]
          · simp only [hin, if_false]
            have := e3 (i - n) (by omega)
            rw [show n + (i - n) = i by omega] at this
            exact this
        | succ j => exact h6.get i j x hi (by simpa using hj)
      · intro i j hi hj
        by_cases hin : i < n
        · simp only [hin, if_true]; exact hc.one i j hin (by simp at hj ⊢; omega)
        · simp only [hin, if_false]; exact ho (i - n) j (by omega) (by simp at hj ⊢; omega)
    cases c with
    | ints k xs =>
      have hx : xs.length = n := hcn
      have hgi : ∀ i, i < s → ∃ z, g i 0 = .int k z := fun i hi => hg i 0 _ hi rfl
      have hk := hk ((List.range s).map fun i => match g i 0 with | .int _ z => z | _ => 0) (by simp)
      refine fin _ (by simp [Col.len, hx]) (fun i hi => by simp only [Col.get]; rw [getD_app1 _ _ _ (by omega)]) (fun i hi => ?_) hk
      obtain ⟨z, hz⟩ := hgi i hi
      simp only [Col.get]
      rw [← hx, getD_app2, hz]
      simp [List.getD, hi, hz]
    | bools xs =>
      have hx : xs.length = n := hcn
      have hgi : ∀ i, i < s → ∃ z, g i 0 = .bool z := fun i hi => hg i 0 _ hi rfl
      have hk := hk ((List.range s).map fun i => match g i 0 with | .bool z => z | _ => false) (by simp)
      refine fin _ (by simp [Col.len, hx]) (fun i hi => by simp only [Col.get]; rw [getD_app1 _ _ _ (by omega)]) (fun i hi => ?_) hk
      obtain ⟨z, hz⟩ := hgi i hi
      simp only [Col.get]
      rw [← hx, getD_app2, hz]
      simp [List.getD, hi, hz]
    | raws xs =>
      have hx : xs.length = n := hcn
      have hk := hk ((List.range s).map fun i => g i 0) (by simp)
      refine fin _ (by simp [Col.len, hx]) (fun i hi => by simp only [Col.get]; rw [getD_app1 _ _ _ (by omega)]) (fun i hi => ?_) hk
      simp only [Col.get]
      rw [← hx, getD_app2]
      simp [List.getD, hi]

theorem elemsCols_spec {ρ : List Loc} {wd : Nat} : ∀ {n : Nat} {l : List SV} {K : List Col → Prop}, elemsCols ρ wd n l K →
    ∃ cs, K cs ∧ cs.length = wd ∧ (n * wd ≤ l.length) ∧ ColsAre cs n (fun i j => ((l[i * wd + j]?).map (den ρ)).getD .nilIface)
  | 0, _, _, hk => hk.elim
  | 1, l, K, hk => by
    simp only [elemsCols] at hk
    obtain ⟨hb, hk⟩ := bif_false hk
    have hb := Nat.eq_of_beq_eq_true hb
    rw [lenS_eq, takeS_eq] at hb
    obtain ⟨h1, h2⟩ := oneL_spec hk
    rw [takeS_eq] at h1 h2
    rw [cols1_eq] at h2
    have hl : wd ≤ l.length := by simp at hb; omega
    refine ⟨_, h2, by simp; omega, by omega, ⟨?_, ?_, ?_⟩⟩
    · intro c hc
      obtain ⟨s, -, rfl⟩ := List.mem_map.1 hc
      exact col1_len _ _
    · intro i j c hi hj
      have hi0 : i = 0 := by omega
      subst hi0
      obtain ⟨hjl, rfl⟩ := List.getElem?_eq_some_iff.1 hj
      simp only [List.length_map, List.length_take] at hjl
      have hjl2 : j < l.length := by omega
      simp [col1_get, hjl2]
    · intro i j hi hj
      have hi0 : i = 0 := by omega
      subst hi0
      simp only [List.length_map, List.length_take] at hj
      have hjl2 : j < l.length := by omega
      have hmem : l[j] ∈ l.take wd := by
        rw [List.mem_take_iff_getElem]
        exact ⟨j, by omega, rfl⟩
      simpa [hjl2] using h1 _ hmem ρ
  | n + 2, l, K, hk => by
    simp only [elemsCols] at hk
    obtain ⟨hb, hk⟩ := bif_false hk
    have hb := Nat.eq_of_beq_eq_true hb
    rw [lenS_eq, takeS_eq] at hb
    obtain ⟨h1, h2⟩ := oneL_spec hk
    rw [takeS_eq] at h1
    obtain ⟨cs, h3, h4, h5, h6⟩ := elemsCols_spec h2
    rw [takeS_eq, cols1_eq] at h3
    rw [dropS_eq] at h5 h6
    have hl : wd ≤ l.length := by simp at hb; omega
    have first : ColsAre ((l.take wd).map (col1 ρ)) 1 (fun i j => ((l[j]?).map (den ρ)).getD .nilIface) := by
      refine ⟨?_, ?_, ?_⟩
      · intro c hc
        obtain ⟨s, -, rfl⟩ := List.mem_map.1 hc
        exact col1_len _ _
      · intro i j c hi hj
        have hi0 : i = 0 := by omega
        subst hi0
        obtain ⟨hjl, rfl⟩ := List.getElem?_eq_some_iff.1 hj
        simp only [List.length_map, List.length_take] at hjl
        have hjl2 : j < l.length := by omega
        simp [col1_get, hjl2]
      · intro i j hi hj
        simp only [List.length_map, List.length_take] at hj
        have hjl2 : j < l.length := by omega
        have hmem : l[j] ∈ l.take wd := by
          rw [List.mem_take_iff_getElem]
          exact ⟨j, by omega, rfl⟩
        simpa [hjl2] using h1 _ hmem ρ
    obtain ⟨es, h7, h8, h9, h10, -⟩ := catCols_spec h3 first h6
    refine ⟨es, h7, by rw [h8]; simp; omega, ?_, ?_⟩
    · simp only [List.length_drop] at h5
      have : (n + 2) * wd = (n + 1) * wd + wd := by rw [show n + 2 = (n + 1) + 1 from rfl, Nat.add_mul (n + 1), Nat.one_mul]
      omega
    · rw [show n + 2 = 1 + (n + 1) by omega]
      refine ⟨h10.len, ?_, ?_⟩
      · intro i j c hi hj
        rw [h10.get i j c hi hj]
        by_cases hi1 : i < 1
        · have : i = 0 := by omega
          subst this; simp
        · simp only [hi1, if_false, List.getElem?_drop]
          rw [show wd + ((i - 1) * wd + j) = i * wd + j by
            obtain ⟨d, rfl⟩ : ∃ d, i = d + 1 := ⟨i - 1, by omega⟩
            rw [Nat.add_mul, Nat.one_mul]; simp; omega]
      · intro i j hi hj
        have := h10.one i j hi hj
        by_cases hi1 : i < 1
        · have h0 : i = 0 := by omega
          subst h0; simpa using this
        · simp only [hi1, if_false, List.getElem?_drop] at this
          rw [show wd + ((i - 1) * wd + j) = i * wd + j by
            obtain ⟨d, rfl⟩ : ∃ d, i = d + 1 := ⟨i - 1, by omega⟩
            rw [Nat.add_mul, Nat.one_mul]; simp; omega] at this
          exact this

/-- The cells of a window. -/
theorem srcCols_spec {k : SBlk} {o len : Nat} {K : List Col → Prop} {ob : Obj} (ho : ∀ r, (k.den (locs h ++ r)).holds ob) (hx : srcCols (locs h) k o len K) :
    ∃ cs f, K cs ∧ cs.length = k.wd ∧ ColsAre cs len f ∧ ∀ i j, i < len → j < k.wd → objCell ob ((k.base + o + i) * k.wd + j) = some (f i j) := by
  cases k with
  | cells wd l t =>
    obtain ⟨cs, h1, h2, h3, h4⟩ := elemsCols_spec hx
    rw [dropS_eq] at h3 h4
    refine ⟨cs, _, h1, h2, h4, fun i j hi hj => ?_⟩
    have := ho []
    simp only [SBlk.den, Blk.holds] at this
    subst this
    simp only [SBlk.wd] at hj
    have hlt : o * wd + (i * wd + j) < l.length := by
      simp only [List.length_drop] at h3
      have : (i + 1) * wd ≤ len * wd := Nat.mul_le_mul_right _ (by omega)
      rw [Nat.add_mul, Nat.one_mul] at this
      omega
    simp only [objCell, SBlk.base, SBlk.wd, Nat.zero_add, List.getElem?_toArray, denL_eq, List.getElem?_map, List.getElem?_drop, List.append_nil]
    rw [show (o + i) * wd + j = o * wd + (i * wd + j) by rw [Nat.add_mul, Nat.add_assoc]]
    simp [hlt]
  | tab t base N cols =>
    obtain ⟨hl, hx⟩ := hx
    obtain ⟨arr, lo, hi', rfl, h1, h2, -⟩ := ho []
    rw [winCols_eq] at hx
    refine ⟨_, fun i j => ((cols[j]?).map (·.get (o + i))).getD .nilIface, hx, by simp [SBlk.wd], ⟨?_, ?_, ?_⟩, fun i j hi hj => ?_⟩
    · intro c hc
      obtain ⟨d, hd, rfl⟩ := List.mem_map.1 hc
      exact winCol_len (by rw [(h1 d hd).1]; exact hl)
    · intro i j c hi hj
      rw [List.getElem?_map] at hj
      cases hd : cols[j]? with
      | none => rw [hd] at hj; cases hj
      | some d =>
        rw [hd] at hj
        simp at hj
        subst hj
        simp [winCol_get hi]
    · intro i j hi hj
      simp only [List.length_map] at hj
      simp only [List.getElem?_eq_getElem hj, Option.map_some, Option.getD_some]
      exact (h1 _ (List.getElem_mem hj)).2 _ (by omega)
    · simp only [SBlk.wd] at hj
      have := h2 (o + i) j cols[j] (by omega) (List.getElem?_eq_getElem hj)
      simp only [objCell, SBlk.base, SBlk.wd, List.getElem?_eq_getElem hj, Option.map_some, Option.getD_some]
      rw [Nat.add_assoc]
      exact this
  | map ks m st => exact hx.elim
  | obj o' => exact hx.elim

end
end Go.Sx
