/- The loud operations, fourth part: append. -/
import Derived.Test.YtpjikjhaljennaaSxM
set_option linter.unusedVariables false
set_option linter.unusedSimpArgs false
namespace Go.Sx
open Classical

def winCol (o len : Nat) : Col → Col
  | .ints k xs => .ints k ((xs.drop o).take len)
  | .bools xs => .bools ((xs.drop o).take len)
  | .raws xs => .raws ((xs.drop o).take len)
def winCols (o len : Nat) : List Col → List Col
  | [] => []
  | c :: r => winCol o len c :: winCols o len r
noncomputable def col1 (ρ : List Loc) : SV → Col
  | .val (.int k n) => .ints k [n]
  | .tt => .bools [true]
  | .ff => .bools [false]
  | .prop p => .bools [pbool p]
  | .val (.bool b) => .bools [b]
  | s => .raws [den ρ s]
noncomputable def cols1 (ρ : List Loc) : List SV → List Col
  | [] => []
  | s :: r => col1 ρ s :: cols1 ρ r
def oneL : List SV → Prop → Prop
  | [], A => A
  | s :: r, A => one s (oneL r A)
def catCol : Col → Col → (Col → Prop) → Prop
  | .ints k xs, .ints k' ys, K => kSame k k' (K (.ints k (xs ++ ys)))
  | .bools xs, .bools ys, K => K (.bools (xs ++ ys))
  | .raws xs, .raws ys, K => K (.raws (xs ++ ys))
  | _, _, _ => False
def catCols : List Col → List Col → (List Col → Prop) → Prop
  | [], [], K => K []
  | c :: cs, d :: ds, K => catCol c d fun e => catCols cs ds fun es => K (e :: es)
  | _, _, _ => False
def takeS : Nat → List SV → List SV
  | 0, _ => []
  | _ + 1, [] => []
  | n + 1, s :: r => s :: takeS n r
def dropS : Nat → List SV → List SV
  | 0, l => l
  | _ + 1, [] => []
  | n + 1, _ :: r => dropS n r
noncomputable def elemsCols (ρ : List Loc) (wd : Nat) : Nat → List SV → (List Col → Prop) → Prop
  | 0, _, _ => False
  | 1, l, K => bif Nat.beq (lenS (takeS wd l)) wd then oneL (takeS wd l) (K (cols1 ρ (takeS wd l))) else False
  | n + 2, l, K => bif Nat.beq (lenS (takeS wd l)) wd then oneL (takeS wd l) (elemsCols ρ wd (n + 1) (dropS wd l) fun cs => catCols (cols1 ρ (takeS wd l)) cs K) else False
noncomputable def srcCols (ρ : List Loc) (k : SBlk) (o len : Nat) (K : List Col → Prop) : Prop :=
  match k with
  | .tab _ _ N cols => o + len ≤ N ∧ K (winCols o len cols)
  | .cells wd l _ => elemsCols ρ wd len (dropS (o * wd) l) K
  | _ => False
def spareK (n : Nat) : List Col → (List Col → Prop) → Prop
  | [], K => K []
  | .ints k xs :: r, K => ∀ sp : List Int, sp.length = n → spareK n r fun r' => K (.ints k (xs ++ sp) :: r')
  | .bools xs :: r, K => ∀ sp : List Bool, sp.length = n → spareK n r fun r' => K (.bools (xs ++ sp) :: r')
  | .raws xs :: r, K => ∀ sp : List Value, sp.length = n → spareK n r fun r' => K (.raws (xs ++ sp) :: r')

/-- Columns of `len` elements whose values are given. -/
structure ColsAre (cols : List Col) (n : Nat) (f : Nat → Nat → Value) : Prop where
  len : ∀ c ∈ cols, c.len = n
  get : ∀ i j c, i < n → cols[j]? = some c → c.get i = f i j
  one : ∀ i j, i < n → j < cols.length → (f i j).oneCell' = true

section
variable {P : Program} {F : List (Nat × Blk)} {h : List Ent} {w : World}

theorem winCols_eq (o len : Nat) : ∀ cols : List Col, winCols o len cols = cols.map (winCol o len)
  | [] => rfl
  | c :: r => by simp [winCols, winCols_eq o len r]
theorem winCol_len {o len : Nat} {c : Col} (hl : o + len ≤ c.len) : (winCol o len c).len = len := by
  cases c <;> simp [winCol, Col.len] at * <;> omega
theorem getD_win {α : Type} (xs : List α) (d : α) {o len i : Nat} (hi : i < len) : ((xs.drop o).take len).getD i d = xs.getD (o + i) d := by
  simp [List.getD, List.getElem?_take, hi, List.getElem?_drop]
theorem winCol_get {o len i : Nat} {c : Col} (hi : i < len) : (winCol o len c).get i = c.get (o + i) := by
  cases c <;> simp only [winCol, Col.get, getD_win _ _ hi]

theorem col1_len (ρ : List Loc) (s : SV) : (col1 ρ s).len = 1 := by unfold col1; split <;> rfl
theorem col1_get (ρ : List Loc) (s : SV) : (col1 ρ s).get 0 = den ρ s := by unfold col1; split <;> rfl
theorem cols1_eq (ρ : List Loc) : ∀ l : List SV, cols1 ρ l = l.map (col1 ρ)
  | [] => rfl
  | _ :: r => by simp [cols1, cols1_eq ρ r]
theorem oneL_spec : ∀ {l : List SV} {A : Prop}, oneL l A → (∀ s ∈ l, ∀ ρ, (den ρ s).oneCell' = true) ∧ A
  | [], _, ho => ⟨by simp, ho⟩
  | s :: r, A, ho => by
    obtain ⟨-, h1, h2⟩ := one_spec ho
    obtain ⟨h3, h4⟩ := oneL_spec h2
    refine ⟨fun t ht => ?_, h4⟩
    rcases List.mem_cons.1 ht with rfl | ht
    · exact h1
    · exact h3 t ht
theorem takeS_eq : ∀ (n : Nat) (l : List SV), takeS n l = l.take n
  | 0, _ => by simp [takeS]
  | _ + 1, [] => by simp [takeS]
  | n + 1, _ :: r => by simp [takeS, takeS_eq n r]
theorem dropS_eq : ∀ (n : Nat) (l : List SV), dropS n l = l.drop n
  | 0, _ => by simp [dropS]
  | _ + 1, [] => by simp [dropS]
  | n + 1, _ :: r => by simp [dropS, dropS_eq n r]

theorem getD_app1 {α : Type} (xs ys : List α) (d : α) {i : Nat} (hi : i < xs.length) : (xs ++ ys).getD i d = xs.getD i d := by
  simp [List.getD, List.getElem?_append_left hi]
theorem getD_app2 {α : Type} (xs ys : List α) (d : α) (i : Nat) : (xs ++ ys).getD (xs.length + i) d = ys.getD i d := by
  simp [List.getD, List.getElem?_append_right]

def fitsC (c : Col) (v : Value) : Prop :=
  match c with
  | .ints k _ => ∃ z, v = .int k z
  | .bools _ => ∃ b, v = .bool b
  | .raws _ => True

theorem fitsC_get (c : Col) (i : Nat) : fitsC c (c.get i) := by
  cases c
  · exact ⟨_, rfl⟩
  · exact ⟨_, rfl⟩
  · trivial
theorem fitsC_win {o len : Nat} {c : Col} {v : Value} (h : fitsC c v) : fitsC (winCol o len c) v := by
  cases c <;> exact h

theorem catCol_spec {c d : Col} {K : Col → Prop} (hk : catCol c d K) : ∃ e, K e ∧ e.len = c.len + d.len ∧ (∀ i, i < c.len → e.get i = c.get i) ∧ (∀ i, e.get (c.len + i) = d.get i) ∧ ∀ v, fitsC c v → fitsC e v := by
  unfold catCol at hk
  split at hk
  · rename_i k xs k' ys
    obtain ⟨rfl, hk2⟩ := kSame_iff hk
    exact ⟨_, hk2, by simp [Col.len], fun i hi => by simp only [Col.get]; rw [getD_app1 _ _ _ hi], fun i => by simp only [Col.get, Col.len]; rw [getD_app2], fun v h => h⟩
  · exact ⟨_, hk, by simp [Col.len], fun i hi => by simp only [Col.get]; rw [getD_app1 _ _ _ hi], fun i => by simp only [Col.get, Col.len]; rw [getD_app2], fun v h => h⟩
  · exact ⟨_, hk, by simp [Col.len], fun i hi => by simp only [Col.get]; rw [getD_app1 _ _ _ hi], fun i => by simp only [Col.get, Col.len]; rw [getD_app2], fun v h => h⟩
  · exact hk.elim

theorem catCols_spec : ∀ {cs ds : List Col} {K : List Col → Prop} {n m : Nat} {f g : Nat → Nat → Value}, catCols cs ds K → ColsAre cs n f → ColsAre ds m g →
    ∃ es, K es ∧ es.length = cs.length ∧ ds.length = cs.length ∧ ColsAre es (n + m) (fun i j => if i < n then f i j else g (i - n) j) ∧ ∀ (j : Nat) (c e : Col), cs[j]? = some c → es[j]? = some e → ∀ v, fitsC c v → fitsC e v
  | [], [], K, n, m, f, g, hk, _, _ => ⟨[], hk, rfl, rfl, ⟨by simp, by simp, by simp⟩, by simp⟩
  | [], _ :: _, _, _, _, _, _, hk, _, _ => hk.elim
  | _ :: _, [], _, _, _, _, _, hk, _, _ => hk.elim
  | c :: cs, d :: ds, K, n, m, f, g, hk, hc, hd => by
    obtain ⟨e, hk, h1, h2, h3, hke⟩ := catCol_spec hk
    have hcn : c.len = n := hc.len c (by simp)
    have hdm : d.len = m := hd.len d (by simp)
    have hc' : ColsAre cs n (fun i j => f i (j + 1)) := ⟨fun x hx => hc.len x (by simp [hx]), fun i j x hi hj => hc.get i (j + 1) x hi (by simpa using hj), fun i j hi hj => hc.one i (j + 1) hi (by simp; omega)⟩
    have hd' : ColsAre ds m (fun i j => g i (j + 1)) := ⟨fun x hx => hd.len x (by simp [hx]), fun i j x hi hj => hd.get i (j + 1) x hi (by simpa using hj), fun i j hi hj => hd.one i (j + 1) hi (by simp; omega)⟩
    obtain ⟨es, hk, h4, h5, h6, h7⟩ := catCols_spec hk hc' hd'
    refine ⟨e :: es, hk, by simp [h4], by simp [h5], ⟨?_, ?_, ?_⟩, ?_⟩
    rotate_left 3
    · intro j x y hx hy
      cases j with
      | zero => simp at hx hy; subst hx hy; exact hke
      | succ j => exact h7 j x y (by simpa using hx) (by simpa using hy)
    · intro x hx
      rcases List.mem_cons.1 hx with rfl | hx
      · omega
      · exact h6.len x hx
    · intro i j x hi hj
      cases j with
      | zero =>
        simp at hj
        subst hj
        by_cases hin : i < n
        · simp only [hin, if_true]
          rw [h2 i (by omega), hc.get i 0 c hin rfl]
        · simp only [hin, if_false]
          have := h3 (i - n)
          rw [hcn, show n + (i - n) = i by omega] at this
          rw [this, hd.get (i - n) 0 d (by omega) rfl]
      | succ j => exact h6.get i j x hi (by simpa using hj)
    · intro i j hi hj
      by_cases hin : i < n
      · simp only [hin, if_true]; exact hc.one i j hin (by simp at hj ⊢; omega)
      · simp only [hin, if_false]; exact hd.one (i - n) j (by omega) (by simp at hj ⊢; omega)

theorem spareK_spec : ∀ {cs : List Col} {n s : Nat} {K : List Col → Prop} {f : Nat → Nat → Value} (g : Nat → Nat → Value), spareK s cs K → ColsAre cs n f →
    (∀ (i j : Nat) (c : Col), i < s → cs[j]? = some c → fitsC c (g i j)) → (∀ i j, i < s → j < cs.length → (g i j).oneCell' = true) →
    ∃ es, K es ∧ es.length = cs.length ∧ ColsAre es (n + s) (fun i j => if i < n then f i j else g (i - n) j)
  | [], n, s, K, f, g, hk, _, _, _ => ⟨[], hk, rfl, ⟨by simp, by simp, by simp⟩⟩
  | c :: cs, n, s, K, f, g, hk, hc, hg, ho => by
    have hcn : c.len = n := hc.len c (by simp)
    have hc' : ColsAre cs n (fun i j => f i (j + 1)) := ⟨fun x hx => hc.len x (by simp [hx]), fun i j x hi hj => hc.get i (j + 1) x hi (by simpa using hj), fun i j hi hj => hc.one i (j + 1) hi (by simp; omega)⟩
    have fin : ∀ (e : Col), e.len = n + s → (∀ i, i < n → e.get i = c.get i) → (∀ i, i < s → e.get (n + i) = g i 0) → spareK s cs (fun r' => K (e :: r')) →
        ∃ es, K es ∧ es.length = (c :: cs).length ∧ ColsAre es (n + s) (fun i j => if i < n then f i j else g (i - n) j) := by
      intro e e1 e2 e3 e4
      obtain ⟨es, hk, h4, h6⟩ := spareK_spec (fun i j => g i (j + 1)) e4 hc' (fun i j x hi hj => hg i (j + 1) x hi (by simpa using hj)) (fun i j hi hj => ho i (j + 1) hi (by simp; omega))
      refine ⟨e :: es, hk, by simp [h4], ⟨?_, ?_, ?_⟩⟩
      · intro x hx
        rcases List.mem_cons.1 hx with rfl | hx
        · exact e1
        · exact h6.len x hx
      · intro i j x hi hj
        cases j with
        | zero =>
          simp at hj
          subst hj
          by_cases hin : i < n
          · simp only [hin, if_true]; rw [e2 i hin, hc.get i 0 c hin rfl]
          · simp only [hin, if_false]
            have := e3 (i - n) (by omega)
            rw [show n + (i - n) = i by omega] at this
            exact this
        | succ j => exact h6.get i j x hi (by simpa using hj)
      · intro i j hi hj
        by_cases hin : i < n
        · simp only [hin, if_true]; exact hc.one i j hin (by simp at hj ⊢; omega)
        · simp only [hin, if_false]; exact ho (i - n) j (by omega) (by simp at hj ⊢; omega)
    cases c with
    | ints k xs =>
      have hx : xs.length = n := hcn
      have hgi : ∀ i, i < s → ∃ z, g i 0 = .int k z := fun i hi => hg i 0 _ hi rfl
      have hk := hk ((List.range s).map fun i => match g i 0 with | .int _ z => z | _ => 0) (by simp)
      refine fin _ (by simp [Col.len, hx]) (fun i hi => by simp only [Col.get]; rw [getD_app1 _ _ _ (by omega)]) (fun i hi => ?_) hk
      obtain ⟨z, hz⟩ := hgi i hi
      simp only [Col.get]
      rw [← hx, getD_app2, hz]
      simp [List.getD, hi, hz]
    | bools xs =>
      have hx : xs.length = n := hcn
      have hgi : ∀ i, i < s → ∃ z, g i 0 = .bool z := fun i hi => hg i 0 _ hi rfl
      have hk := hk ((List.range s).map fun i => match g i 0 with | .bool z => z | _ => false) (by simp)
      refine fin _ (by simp [Col.len, hx]) (fun i hi => by simp only [Col.get]; rw [getD_app1 _ _ _ (by omega)]) (fun i hi => ?_) hk
      obtain ⟨z, hz⟩ := hgi i hi
      simp only [Col.get]
      rw [← hx, getD_app2, hz]
      simp [List.getD, hi, hz]
    | raws xs =>
      have hx : xs.length = n := hcn
      have hk := hk ((List.range s).map fun i => g i 0) (by simp)
      refine fin _ (by simp [Col.len, hx]) (fun i hi => by simp only [Col.get]; rw [getD_app1 _ _ _ (by omega)]) (fun i hi => ?_) hk
      simp only [Col.get]
      rw [← hx, getD_app2]
      simp [List.getD, hi]

theorem elemsCols_spec {ρ : List Loc} {wd : Nat} : ∀ {n : Nat} {l : List SV} {K : List Col → Prop}, elemsCols ρ wd n l K →
    ∃ cs, K cs ∧ cs.length = wd ∧ (n * wd ≤ l.length) ∧ ColsAre cs n (fun i j => ((l[i * wd + j]?).map (den ρ)).getD .nilIface)
  | 0, _, _, hk => hk.elim
  | 1, l, K, hk => by
    simp only [elemsCols] at hk
    obtain ⟨hb, hk⟩ := bif_false hk
    have hb := Nat.eq_of_beq_eq_true hb
    rw [lenS_eq, takeS_eq] at hb
    obtain ⟨h1, h2⟩ := oneL_spec hk
    rw [takeS_eq] at h1 h2
    rw [cols1_eq] at h2
    have hl : wd ≤ l.length := by simp at hb; omega
    refine ⟨_, h2, by simp; omega, by omega, ⟨?_, ?_, ?_⟩⟩
    · intro c hc
      obtain ⟨s, -, rfl⟩ := List.mem_map.1 hc
      exact col1_len _ _
    · intro i j c hi hj
      have hi0 : i = 0 := by omega
      subst hi0
      obtain ⟨hjl, rfl⟩ := List.getElem?_eq_some_iff.1 hj
      simp only [List.length_map, List.length_take] at hjl
      have hjl2 : j < l.length := by omega
      simp [col1_get, hjl2]
    · intro i j hi hj
      have hi0 : i = 0 := by omega
      subst hi0
      simp only [List.length_map, List.length_take] at hj
      have hjl2 : j < l.length := by omega
      have hmem : l[j] ∈ l.take wd := by
        rw [List.mem_take_iff_getElem]
        exact ⟨j, by omega, rfl⟩
      simpa [hjl2] using h1 _ hmem ρ
  | n + 2, l, K, hk => by
    simp only [elemsCols] at hk
    obtain ⟨hb, hk⟩ := bif_false hk
    have hb := Nat.eq_of_beq_eq_true hb
    rw [lenS_eq, takeS_eq] at hb
    obtain ⟨h1, h2⟩ := oneL_spec hk
    rw [takeS_eq] at h1
    obtain ⟨cs, h3, h4, h5, h6⟩ := elemsCols_spec h2
    rw [takeS_eq, cols1_eq] at h3
    rw [dropS_eq] at h5 h6
    have hl : wd ≤ l.length := by simp at hb; omega
    have first : ColsAre ((l.take wd).map (col1 ρ)) 1 (fun i j => ((l[j]?).map (den ρ)).getD .nilIface) := by
      refine ⟨?_, ?_, ?_⟩
      · intro c hc
        obtain ⟨s, -, rfl⟩ := List.mem_map.1 hc
        exact col1_len _ _
      · intro i j c hi hj
        have hi0 : i = 0 := by omega
        subst hi0
        obtain ⟨hjl, rfl⟩ := List.getElem?_eq_some_iff.1 hj
        simp only [List.length_map, List.length_take] at hjl
        have hjl2 : j < l.length := by omega
        simp [col1_get, hjl2]
      · intro i j hi hj
        simp only [List.length_map, List.length_take] at hj
        have hjl2 : j < l.length := by omega
        have hmem : l[j] ∈ l.take wd := by
          rw [List.mem_take_iff_getElem]
          exact ⟨j, by omega, rfl⟩
        simpa [hjl2] using h1 _ hmem ρ
    obtain ⟨es, h7, h8, h9, h10, -⟩ := catCols_spec h3 first h6
    refine ⟨es, h7, by rw [h8]; simp; omega, ?_, ?_⟩
    · simp only [List.length_drop] at h5
      have : (n + 2) * wd = (n + 1) * wd + wd := by rw [show n + 2 = (n + 1) + 1 from rfl, Nat.add_mul (n + 1), Nat.one_mul]
      omega
    · rw [show n + 2 = 1 + (n + 1) by omega]
      refine ⟨h10.len, ?_, ?_⟩
      · intro i j c hi hj
        rw [h10.get i j c hi hj]
        by_cases hi1 : i < 1
        · have : i = 0 := by omega
          subst this; simp
        · simp only [hi1, if_false, List.getElem?_drop]
          rw [show wd + ((i - 1) * wd + j) = i * wd + j by
            obtain ⟨d, rfl⟩ : ∃ d, i = d + 1 := ⟨i - 1, by omega⟩
            rw [Nat.add_mul, Nat.one_mul]; simp; omega]
      · intro i j hi hj
        have := h10.one i j hi hj
        by_cases hi1 : i < 1
        · have h0 : i = 0 := by omega
          subst h0; simpa using this
        · simp only [hi1, if_false, List.getElem?_drop] at this
          rw [show wd + ((i - 1) * wd + j) = i * wd + j by
            obtain ⟨d, rfl⟩ : ∃ d, i = d + 1 := ⟨i - 1, by omega⟩
            rw [Nat.add_mul, Nat.one_mul]; simp; omega] at this
          exact this

/-- The cells of a window. -/
theorem srcCols_spec {k : SBlk} {o len : Nat} {K : List Col → Prop} {ob : Obj} (ho : ∀ r, (k.den (locs h ++ r)).holds ob) (hx : srcCols (locs h) k o len K) :
    ∃ cs f, K cs ∧ cs.length = k.wd ∧ ColsAre cs len f ∧ ∀ i j, i < len → j < k.wd → objCell ob ((k.base + o + i) * k.wd + j) = some (f i j) := by
  cases k with
  | cells wd l t =>
    obtain ⟨cs, h1, h2, h3, h4⟩ := elemsCols_spec hx
    rw [dropS_eq] at h3 h4
    refine ⟨cs, _, h1, h2, h4, fun i j hi hj => ?_⟩
    have := ho []
    simp only [SBlk.den, Blk.holds] at this
    subst this
    simp only [SBlk.wd] at hj
    have hlt : o * wd + (i * wd + j) < l.length := by
      simp only [List.length_drop] at h3
      have : (i + 1) * wd ≤ len * wd := Nat.mul_le_mul_right _ (by omega)
      rw [Nat.add_mul, Nat.one_mul] at this
      omega
    simp only [objCell, SBlk.base, SBlk.wd, Nat.zero_add, List.getElem?_toArray, denL_eq, List.getElem?_map, List.getElem?_drop, List.append_nil]
    rw [show (o + i) * wd + j = o * wd + (i * wd + j) by rw [Nat.add_mul, Nat.add_assoc]]
    simp [hlt]
  | tab t base N cols =>
    obtain ⟨hl, hx⟩ := hx
    obtain ⟨arr, lo, hi', rfl, h1, h2, -⟩ := ho []
    rw [winCols_eq] at hx
    refine ⟨_, fun i j => ((cols[j]?).map (·.get (o + i))).getD .nilIface, hx, by simp [SBlk.wd], ⟨?_, ?_, ?_⟩, fun i j hi hj => ?_⟩
    · intro c hc
      obtain ⟨d, hd, rfl⟩ := List.mem_map.1 hc
      exact winCol_len (by rw [(h1 d hd).1]; exact hl)
    · intro i j c hi hj
      rw [List.getElem?_map] at hj
      cases hd : cols[j]? with
      | none => rw [hd] at hj; cases hj
      | some d =>
        rw [hd] at hj
        simp at hj
        subst hj
        simp [winCol_get hi]
    · intro i j hi hj
      simp only [List.length_map] at hj
      simp only [List.getElem?_eq_getElem hj, Option.map_some, Option.getD_some]
      exact (h1 _ (List.getElem_mem hj)).2 _ (by omega)
    · simp only [SBlk.wd] at hj
      have := h2 (o + i) j cols[j] (by omega) (List.getElem?_eq_getElem hj)
      simp only [objCell, SBlk.base, SBlk.wd, List.getElem?_eq_getElem hj, Option.map_some, Option.getD_some]
      rw [Nat.add_assoc]
      exact this
  | map ks m st => exact hx.elim
  | obj o' => exact hx.elim

end
end Go.Sx

/- The loud operations, fifth part: what append comes to. -/
set_option linter.unusedVariables false
set_option linter.unusedSimpArgs false
namespace Go.Sx
open Classical

/-- The cells of columns, one element behind the other. -/
def flatV (f : Nat → Nat → Value) (wd : Nat) : Nat → List Value
  | 0 => []
  | n + 1 => flatV f wd n ++ (List.range wd).map (f n)

section
variable {P : Program} {F : List (Nat × Blk)} {h : List Ent} {w : World}

theorem flatV_len (f : Nat → Nat → Value) (wd : Nat) : ∀ n : Nat, (flatV f wd n).length = n * wd
  | 0 => by simp [flatV]
  | n + 1 => by simp [flatV, flatV_len f wd n, Nat.add_mul]
theorem flatV_get (f : Nat → Nat → Value) (wd : Nat) : ∀ {n i j : Nat}, i < n → j < wd → (flatV f wd n)[i * wd + j]? = some (f i j)
  | 0, _, _, hi, _ => by omega
  | n + 1, i, j, hi, hj => by
    rw [flatV]
    by_cases hin : i < n
    · have hlt : i * wd + j < n * wd := by
        have : (i + 1) * wd ≤ n * wd := Nat.mul_le_mul_right _ (by omega)
        rw [Nat.add_mul, Nat.one_mul] at this
        omega
      rw [List.getElem?_append_left (by rw [flatV_len]; exact hlt)]
      exact flatV_get f wd hin hj
    · have : i = n := by omega
      subst this
      rw [List.getElem?_append_right (by rw [flatV_len]; omega), flatV_len]
      simp [hj]
theorem div_form {wd x : Nat} (hw : 0 < wd) : ∃ i j, x = i * wd + j ∧ j < wd :=
  ⟨x / wd, x % wd, by rw [Nat.mul_comm]; exact (Nat.div_add_mod x wd).symm, Nat.mod_lt _ hw⟩
theorem form_lt {wd i j n : Nat} (hj : j < wd) : i * wd + j < n * wd ↔ i < n := by
  constructor
  · intro hl
    rcases Nat.lt_or_ge i n with h | h
    · exact h
    · have : n * wd ≤ i * wd := Nat.mul_le_mul_right _ h
      omega
  · intro hi
    have : (i + 1) * wd ≤ n * wd := Nat.mul_le_mul_right _ (by omega)
    rw [Nat.add_mul, Nat.one_mul] at this
    omega

theorem run_firstCells_slice {b x n m c : Nat} {o : Obj} {wd : Nat} {f : Nat → Nat → Value} (ho : w.heap[b]? = some o)
    (hc : ∀ i j, i < n → j < wd → objCell o (x + i * wd + j) = some (f i j)) (hw : 0 < wd) :
    (Builtin.firstCells wd n (.slice (some ⟨b, x, none⟩) m c)).run P w = .ok (flatV f wd n).toArray w := by
  simp only [Builtin.firstCells]
  refine run_loadCells (flatV_len f wd n) fun y hy => ?_
  obtain ⟨i, j, rfl, hj⟩ := div_form (x := y) hw
  have hi := (form_lt hj).1 hy
  rw [flatV_get f wd hi hj]
  refine cell_obj ho ?_
  rw [← Nat.add_assoc]
  exact hc i j hi hj

/-- An array behind stores one behind the other. -/
def wrA (arr : Array Value) (x : Nat) : List Value → Array Value
  | [] => arr
  | v :: r => wrA (arr.setIfInBounds x v) (x + 1) r
theorem wrA_get : ∀ (vs : List Value) (arr : Array Value) (x y : Nat), x + vs.length ≤ arr.size → (wrA arr x vs)[y]? = if x ≤ y ∧ y < x + vs.length then vs[y - x]? else arr[y]?
  | [], arr, x, y, _ => by simp [wrA]; intro h1 h2; omega
  | v :: r, arr, x, y, hl => by
    simp only [List.length_cons] at hl ⊢
    rw [wrA, wrA_get r _ (x + 1) y (by simp; omega)]
    by_cases h1 : x + 1 ≤ y ∧ y < x + 1 + r.length
    · rw [if_pos h1, if_pos (by omega)]
      obtain ⟨d, hd⟩ : ∃ d, y - x = d + 1 := ⟨y - x - 1, by omega⟩
      rw [hd, show y - (x + 1) = d by omega]
      simp
    · rw [if_neg h1]
      by_cases h2 : y = x
      · subst h2
        rw [if_pos (by omega), Array.getElem?_setIfInBounds_self, if_pos (by omega)]
        simp
      · rw [if_neg (by omega), Array.getElem?_setIfInBounds_ne (Ne.symm h2)]
theorem wrA_size : ∀ (vs : List Value) (arr : Array Value) (x : Nat), (wrA arr x vs).size = arr.size
  | [], _, _ => rfl
  | v :: r, arr, x => by rw [wrA, wrA_size r]; simp

theorem run_storeList {b x lo hi : Nat} {t : TypeId} : ∀ (vs : List Value) (arr : Array Value) (d : Nat) (w : World), w.heap[b]? = some (.cells arr t (lo, hi)) → x + d + vs.length ≤ arr.size →
    (∀ y, x + d ≤ y → y < x + d + vs.length → ¬ (lo ≤ y ∧ y < hi)) → (∀ v ∈ vs, v.oneCell' = true) →
    ∃ w', (storeCells ⟨b, x, none⟩ vs d).run P w = .ok () w' ∧ w'.heap[b]? = some (.cells (wrA arr (x + d) vs) t (lo, hi)) ∧ (∀ y, y ≠ b → w'.heap[y]? = w.heap[y]?) ∧ Rest w w'
  | [], arr, d, w, ho, _, _, _ => ⟨w, rfl, ho, fun _ _ => rfl, Rest.refl w⟩
  | v :: vs, arr, d, w, ho, hl, hf, hv => by
    simp only [List.length_cons] at hl hf
    have hfz : objFrozen (.cells arr t (lo, hi)) (x + d) = false := by
      have := hf (x + d) (by omega) (by omega)
      simp only [objFrozen]
      by_cases h1 : lo ≤ x + d <;> by_cases h2 : x + d < hi <;> simp [h1, h2]
      exact this ⟨h1, h2⟩
    have hsome : (objCell (.cells arr t (lo, hi)) (x + d)).isSome = true := by
      have : x + d < arr.size := by omega
      simp [objCell, this]
    obtain ⟨r1, r2, r3, r4⟩ := run_store1 (P := P) (x := x + d) (v := v) ho hsome hfz (hv v (by simp))
    obtain ⟨w', e1, e2, e3, e4⟩ := run_storeList (x := x) vs (arr.setIfInBounds (x + d) v) (d + 1) _ r2 (by rw [Array.size_setIfInBounds]; omega) (fun y h1 h2 => hf y (by omega) (by omega)) (fun u hu => hv u (by simp [hu]))
    refine ⟨w', ?_, e2, fun y hy => (e3 y hy).trans (r3 y hy), r4.trans e4⟩
    simp only [storeCells, Sem.run_bind, addr_add, r1, Result.andThen_ok]
    exact e1

theorem growBy_le (nl : Nat) : ∀ (r c : Nat), Builtin.growBy nl r c ≤ max c (nl + nl / 4 + 192)
  | 0, c => by simp [Builtin.growBy]; omega
  | r + 1, c => by
    rw [Builtin.growBy]
    split
    · omega
    · have := growBy_le nl r (c + (c + 768) / 4)
      omega
theorem nextcap_le {need cap : Nat} (hn : cap < need) : Builtin.nextslicecap need cap ≤ need + need / 4 + 512 := by
  unfold Builtin.nextslicecap
  split
  · omega
  · split
    · omega
    · have := growBy_le need 4 cap
      omega

theorem run_append_grow {ts : Array TypeId} {tt t e : TypeId} {args : Array Value} {inf : TypeInfo} {z vx : Value} {base : Option Addr} {sLen sCap n : Nat} {old new : Array Value}
    (ht : ts[0]? = some t) (hts : ∀ t1, ts[1]? = some t1 → ∃ d, P.underlying t1 = some d ∧ ∀ k, d ≠ .int k) (ha : args[0]? = some (.slice base sLen sCap)) (hb : args[1]? = some vx) (hu : P.underlying t = some (.slice e)) (hinf : P.info? e = some inf)
    (hz : inf.zero = some z) (hn : (Builtin.lenOf vx).run P w = .ok n w) (hgrow : sCap < sLen + n) (hsz : (sLen + n) * inf.bytes ≤ 140737488355328) (hby : inf.bytes ≤ 1048576) (hby0 : 1 ≤ inf.bytes)
    (hold : ∀ d, (Builtin.firstCells inf.size sLen (.slice base sLen sCap)).run P { w with drawn := d } = .ok old { w with drawn := d }) (hnew : ∀ d, (Builtin.firstCells inf.size n vx).run P { w with drawn := d } = .ok new { w with drawn := d }) :
    ∃ cap', sLen + n ≤ cap' ∧ (Builtin.append_ ts tt args).run P w = .ok (.slice (some ⟨w.heap.size, 0, none⟩) (sLen + n) cap')
      { w with drawn := w.drawn + 1, heap := w.heap.push (.cells (old ++ new ++ Builtin.zeroCells z.cells (cap' - (sLen + n))) e) } := by
  refine ⟨(sLen + n) + (w.tape w.drawn (.appendCap (sLen + n) sCap e)) % (2 ^ 63 - (sLen + n)), by omega, ?_⟩
  have hz0 : (∃ t1, ts[1]? = some t1 ∧ ∃ d, P.underlying t1 = some d ∧ ∀ k, d ≠ .int k) ∨ ts[1]? = none := by
    cases h1 : ts[1]? with
    | none => exact .inr rfl
    | some t1 => exact .inl ⟨t1, rfl, hts t1 h1⟩
  have hcap : ¬ ((Builtin.nextslicecap (sLen + n) sCap) * inf.bytes > 2 ^ 48) := by
    have h1 := nextcap_le (need := sLen + n) (cap := sCap) hgrow
    have h2 : Builtin.nextslicecap (sLen + n) sCap * inf.bytes ≤ ((sLen + n) + (sLen + n) / 4 + 512) * inf.bytes := Nat.mul_le_mul_right _ h1
    have h3 : ((sLen + n) + (sLen + n) / 4 + 512) * inf.bytes = (sLen + n) * inf.bytes + (sLen + n) / 4 * inf.bytes + 512 * inf.bytes := by rw [Nat.add_mul, Nat.add_mul]
    have h4 : (sLen + n) / 4 * inf.bytes * 4 ≤ (sLen + n) * inf.bytes := by
      rw [Nat.mul_assoc, Nat.mul_comm inf.bytes 4, ← Nat.mul_assoc]
      exact Nat.mul_le_mul_right _ (Nat.div_mul_le_self _ _)
    omega
  have hask : ∀ m (w : World), (askRoom m).run P w = .ok () w := fun m w => run_askRoom P w m
  have hch : ∀ (w : World), (choose (.appendCap (sLen + n) sCap e)).run P w = .ok ((sLen + n) + (w.tape w.drawn (.appendCap (sLen + n) sCap e)) % (2 ^ 63 - (sLen + n))) { w with drawn := w.drawn + 1 } := fun w => by
    rw [run_choose]
    rfl
  have hz' : ∀ w, (zeroValue e).run P w = .ok z w := fun w => by simp [zeroValue, run_typeInfo' hinf, hz]
  have hb0 : ¬ inf.bytes = 0 := by omega
  rcases hz0 with ⟨t1, h1, d, hd, hdi⟩ | h1
  · cases d <;> first
      | exact absurd rfl (hdi _)
      | (simp only [Builtin.append_, ht, ha, hb, h1, Sem.run_bind, run_underlying' hu, run_underlying' hd, Result.andThen_ok, run_sizeOf' hinf, Sem.run_pure, Bool.false_eq_true, if_false, hn,
          if_neg (show ¬ sLen + n ≤ sCap by omega), run_typeInfo' hinf, false_or, hb0, and_false, hcap, hch, hask, hold, hnew, Bool.not_false, if_true, hz', newRow, run_newObj]
         done)
  · simp only [Builtin.append_, ht, ha, hb, h1, Sem.run_bind, run_underlying' hu, Result.andThen_ok, run_sizeOf' hinf, Sem.run_pure, Bool.false_eq_true, if_false, hn,
          if_neg (show ¬ sLen + n ≤ sCap by omega), run_typeInfo' hinf, false_or, hb0, and_false, hcap, hch, hask, hold, hnew, Bool.not_false, if_true, hz', newRow, run_newObj]

theorem run_append_room {ts : Array TypeId} {tt t e : TypeId} {args : Array Value} {inf : TypeInfo} {vx : Value} {b x sLen sCap n : Nat} {new : Array Value}
    (ht : ts[0]? = some t) (hts : ∀ t1, ts[1]? = some t1 → ∃ d, P.underlying t1 = some d ∧ ∀ k, d ≠ .int k) (ha : args[0]? = some (.slice (some ⟨b, x, none⟩) sLen sCap)) (hb : args[1]? = some vx) (hu : P.underlying t = some (.slice e)) (hinf : P.info? e = some inf)
    (hn : (Builtin.lenOf vx).run P w = .ok n w) (hroom : sLen + n ≤ sCap) (hnew : (Builtin.firstCells inf.size n vx).run P w = .ok new w) :
    (Builtin.append_ ts tt args).run P w = ((storeCells ⟨b, x + sLen * inf.size, none⟩ new.toList).run P w).andThen fun _ w' => .ok (.slice (some ⟨b, x, none⟩) (sLen + n) sCap) w' := by
  have hz0 : (∃ t1, ts[1]? = some t1 ∧ ∃ d, P.underlying t1 = some d ∧ ∀ k, d ≠ .int k) ∨ ts[1]? = none := by
    cases h1 : ts[1]? with
    | none => exact .inr rfl
    | some t1 => exact .inl ⟨t1, rfl, hts t1 h1⟩
  rcases hz0 with ⟨t1, h1, d, hd, hdi⟩ | h1
  · cases d <;> first
      | exact absurd rfl (hdi _)
      | (simp only [Builtin.append_, ht, ha, hb, h1, Sem.run_bind, run_underlying' hu, run_underlying' hd, Result.andThen_ok, run_sizeOf' hinf, Sem.run_pure, Bool.false_eq_true, if_false, hn,
          if_pos hroom, hnew, Bool.not_false, if_true, addr_add]
         done)
  · simp only [Builtin.append_, ht, ha, hb, h1, Sem.run_bind, run_underlying' hu, Result.andThen_ok, run_sizeOf' hinf, Sem.run_pure, Bool.false_eq_true, if_false, hn,
          if_pos hroom, hnew, Bool.not_false, if_true, addr_add]

/-- nothing appended to nothing. -/
theorem run_append_none {ts : Array TypeId} {tt t e : TypeId} {args : Array Value} {inf : TypeInfo} {vx : Value} {sCap : Nat} {new : Array Value}
    (ht : ts[0]? = some t) (hts : ∀ t1, ts[1]? = some t1 → ∃ d, P.underlying t1 = some d ∧ ∀ k, d ≠ .int k) (ha : args[0]? = some (.slice none 0 sCap)) (hb : args[1]? = some vx) (hu : P.underlying t = some (.slice e)) (hinf : P.info? e = some inf)
    (hn : (Builtin.lenOf vx).run P w = .ok 0 w) (hnew : (Builtin.firstCells inf.size 0 vx).run P w = .ok new w) :
    (Builtin.append_ ts tt args).run P w = .ok (.slice none 0 sCap) w := by
  have hz0 : (∃ t1, ts[1]? = some t1 ∧ ∃ d, P.underlying t1 = some d ∧ ∀ k, d ≠ .int k) ∨ ts[1]? = none := by
    cases h1 : ts[1]? with
    | none => exact .inr rfl
    | some t1 => exact .inl ⟨t1, rfl, hts t1 h1⟩
  rcases hz0 with ⟨t1, h1, d, hd, hdi⟩ | h1
  · cases d <;> first
      | exact absurd rfl (hdi _)
      | (simp only [Builtin.append_, ht, ha, hb, h1, Sem.run_bind, run_underlying' hu, run_underlying' hd, Result.andThen_ok, run_sizeOf' hinf, Sem.run_pure, Bool.false_eq_true, if_false, hn,
          if_pos (show 0 + 0 ≤ sCap by omega), hnew, Bool.not_false, if_true]
         done)
  · simp only [Builtin.append_, ht, ha, hb, h1, Sem.run_bind, run_underlying' hu, Result.andThen_ok, run_sizeOf' hinf, Sem.run_pure, Bool.false_eq_true, if_false, hn,
          if_pos (show 0 + 0 ≤ sCap by omega), hnew, Bool.not_false, if_true]

end
end Go.Sx

/- The loud operations, sixth part: append, symbolically. -/
set_option linter.unusedVariables false
set_option linter.unusedSimpArgs false
namespace Go.Sx
open Classical

def SBlk.isCells : SBlk → Bool
  | .cells _ _ _ => true
  | _ => false
def SBlk.ty : SBlk → TypeId
  | .cells _ _ t => t
  | .tab t _ _ _ => t
  | _ => 0
noncomputable def xsrc (h : List Ent) (x : SV) (K : Bool → Nat → List Col → Prop) : Prop :=
  match x with
  | .slc m o len _ => (match entAt h m with
    | none => False
    | some e => match e.blk with
      | none => False
      | some (_, k) => srcCols (locs h) k o len (K k.isCells len))
  | .val (.string s) => K false s.size [.ints .u8 (s.data.toList.map fun b => (b.toNat : Int))]
  | _ => False

def lenC : List Col → Nat
  | [] => 0
  | _ :: r => lenC r + 1
def zKinds : List Value → List Col → Bool
  | [], [] => true
  | .int k _ :: vs, .ints k' _ :: cs => kEqB k' k && zKinds vs cs
  | .bool _ :: vs, .bools _ :: cs => zKinds vs cs
  | v :: vs, .raws _ :: cs => v.oneCell' && zKinds vs cs
  | _, _ => false

def capOk (k : SBlk) (o len cap : Nat) (A : Prop) : Prop :=
  match k with
  | .tab _ _ N _ => (len ≤ cap ∧ o + cap ≤ N) ∧ A
  | .cells _ _ _ => bif Nat.beq len cap then A else False
  | _ => False

noncomputable def xgrow (h : List Ent) (e : TypeId) (bytes n : Nat) (cs : List Col) (K : SV → List Ent → Prop) : Prop :=
  n * bytes ≤ 140737488355328 ∧ ∀ b cap', n ≤ cap' → spareK (cap' - n) cs fun cs' => appK h (.own b (.tab e 0 cap' cs')) fun h' => K (.slc (lenE h) 0 n cap') h'

noncomputable def xapp (h : List Ent) (e : TypeId) (bytes : Nat) (z : List Value) (s : SV) (lit : Bool) (n : Nat) (cs : List Col) (K : SV → List Ent → Prop) : Prop :=
  match s with
  | .slc m o len cap => (match entAt h m with
    | some (.own b0 k) => bif Nat.beq k.ty e then capOk k o len cap (srcCols (locs h) k o len fun oc => catCols oc cs fun ec => bif zKinds z ec then
        (len + n) * bytes ≤ 140737488355328 ∧ ∀ b base cap', len + n ≤ cap' → (len + n ≤ cap → cap' = cap) → spareK (cap' - (len + n)) ec fun ec' => setK h m (.gone (b0, k.base, k.wd)) fun h1 => appK h1 (.own b (.tab e base cap' ec')) fun h2 => K (.slc (lenE h) 0 (len + n) cap') h2
        else False) else (cap < len + n ∧ capOk k o len cap (srcCols (locs h) k o len fun oc => catCols oc cs fun ec => bif zKinds z ec then
        (len + n) * bytes ≤ 140737488355328 ∧ ∀ b cap', len + n ≤ cap' → spareK (cap' - (len + n)) ec fun ec' => appK h (.own b (.tab e 0 cap' ec')) fun h2 => K (.slc (lenE h) 0 (len + n) cap') h2
        else False))
    | _ => False)
  | .val (.slice none 0 0) => bif zKinds z cs then (bif lit then (match n with | 0 => K (.val (.slice none 0 0)) h | n + 1 => xgrow h e bytes (n + 1) cs K) else (n = 0 → K (.val (.slice none 0 0)) h) ∧ (0 < n → xgrow h e bytes n cs K)) else False
  | .val (.slice (some ⟨_, _, none⟩) 0 cap) => cap < n ∧ bif zKinds z cs then xgrow h e bytes n cs K else False
  | _ => False

def notInt (P : Program) : List TypeId → Bool
  | [] => true
  | t :: _ => match P.underlying t with
    | none => false
    | some (.int _) => false
    | some _ => true

/-- Nothing is appended. -/
noncomputable def xapp00 (h : List Ent) (s : SV) (K : SV → List Ent → Prop) : Prop :=
  match s with
  | .slc m o len cap => len ≤ cap ∧ K (.slc m o len cap) h
  | .val (.slice none 0 0) => K (.val (.slice none 0 0)) h
  | .val (.slice (some a) len cap) => (match a.spot with | none => len ≤ cap ∧ K (.val (.slice (some a) len cap)) h | some _ => False)
  | _ => False

noncomputable def xappend (P : Program) (h : List Ent) (ts : List TypeId) (s x : SV) (K : SV → List Ent → Prop) : Prop :=
  match ts with
  | [] => False
  | t :: tr => bif notInt P tr then (match P.underlying t with
    | some (.slice e) => (match P.info? e with
      | none => False
      | some inf => match inf.zero with
        | none => False
        | some z => bif Nat.ble inf.bytes 1048576 && (Nat.ble 1 inf.bytes && (Nat.beq (lenV z.cells.toList) inf.size && (Nat.ble 1 inf.size && allOne z.cells.toList))) then
            (match x with
              | .val (.slice none 0 0) => xapp00 h s K
              | .val (.slice (some ⟨b, x0, none⟩) len _) => (match chunkAt h 0 with
                | some (_, L) => exCols z.cells.toList fun cs => rawTab L b x0 len cs ∧ (bif Nat.beq (lenC cs) inf.size then xapp h e inf.bytes z.cells.toList s false len cs K else False)
                | none => False)
              | .sl o len _ => (len = 0 → xapp00 h s K) ∧ (0 < len → ∃ b x0, o = some ⟨b, x0, none⟩ ∧ (match chunkAt h 0 with
                | some (_, L) => exCols z.cells.toList fun cs => rawTab L b x0 len cs ∧ (bif Nat.beq (lenC cs) inf.size then xapp h e inf.bytes z.cells.toList s false len cs K else False)
                | none => False))
              | x => xsrc h x fun lit n cs => bif Nat.beq (lenC cs) inf.size then xapp h e inf.bytes z.cells.toList s lit n cs K else False)
          else False)
    | _ => False) else False

section
variable {P : Program} {F : List (Nat × Blk)} {h : List Ent} {w : World} {K : SV → List Ent → Prop}

theorem lenC_eq : ∀ l : List Col, lenC l = l.length
  | [] => rfl
  | _ :: r => by simp [lenC, lenC_eq r]

theorem Ctx.drew (c : Ctx F h w) (d : Nat) : Ctx F h { w with drawn := d } := ⟨c.owns, c.ro⟩

theorem xsrc_spec (c : Ctx F h w) {x : SV} {v : Value} {K : Bool → Nat → List Col → Prop} (hv : x ≠ .top → Std h x v) (hx : xsrc h x K) :
    ∃ lit n cs f, K lit n cs ∧ ColsAre cs n f ∧ (Builtin.lenOf v).run P w = .ok n w ∧ ∀ wd, 0 < wd → cs.length = wd → ∀ d, (Builtin.firstCells wd n v).run P { w with drawn := d } = .ok (flatV f wd n).toArray { w with drawn := d } := by
  unfold xsrc at hx
  split at hx
  · rename_i m o len cap
    split at hx
    · exact hx.elim
    · rename_i e he
      split at hx
      · exact hx.elim
      · rename_i b k hb
        obtain ⟨⟨ob, hob, hk⟩, hloc⟩ := c.blk he hb
        obtain ⟨cs, f, h1, h2, h3, h4⟩ := srcCols_spec hk hx
        have hv' : v = .slice (some ⟨b, (k.base + o) * k.wd, none⟩) len cap := by
          have := hv (by simp) []
          simp only [den, hloc []] at this
          exact this.symm
        subst hv'
        refine ⟨_, len, cs, f, h1, h3, rfl, fun wd hw hcs d => ?_⟩
        have hwd : k.wd = wd := by rw [← h2, hcs]
        subst hwd
        refine run_firstCells_slice (o := ob) hob (fun i j hi hj => ?_) hw
        rw [← h4 i j hi hj, Nat.add_mul (k.base + o)]
  · rename_i s
    have hv' : v = .string s := (hv (by simp) []).symm
    subst hv'
    refine ⟨_, _, _, fun i _ => .int .u8 ((s.data.toList.map fun b => (b.toNat : Int)).getD i 0), hx, ⟨?_, ?_, ?_⟩, rfl, ?_⟩
    · intro c hc
      simp at hc
      subst hc
      simp [Col.len]
    · intro i j c hi hj
      cases j with
      | zero => simp at hj; subst hj; rfl
      | succ j => simp at hj
    · intro i j _ _; rfl
    · intro wd hw hcs d
      simp at hcs
      subst hcs
      simp only [Builtin.firstCells, Sem.run_pure]
      congr 1
      rw [ByteArray.extract_zero_size]
      apply Array.ext_getElem?
      intro y
      have hsz : s.size = s.data.size := rfl
      simp only [List.getElem?_toArray, Array.getElem?_map]
      by_cases hy : y < s.size
      · have := flatV_get (fun i _ => Value.int .u8 ((s.data.toList.map fun b => (b.toNat : Int)).getD i 0)) 1 (n := s.size) (i := y) (j := 0) hy (by omega)
        simp only [Nat.mul_one, Nat.add_zero] at this
        rw [this]
        have hy' : y < s.data.size := hy
        have e1 : s.data[y]? = some s.data[y] := Array.getElem?_eq_getElem hy'
        simp [List.getD, e1]
      · rw [List.getElem?_eq_none (by rw [flatV_len]; omega), Array.getElem?_eq_none (by omega)]
        rfl
  · exact hx.elim

theorem zKinds_spec : ∀ {z : List Value} {cs : List Col}, zKinds z cs = true → z.length = cs.length ∧ ∀ (j : Nat) (c : Col), cs[j]? = some c → ∃ v, z[j]? = some v ∧ fitsC c v
  | [], [], _ => ⟨rfl, by simp⟩
  | [], _ :: _, h => by simp [zKinds] at h
  | v :: vs, [], h => by cases v <;> simp [zKinds] at h
  | v :: vs, c :: cs, h => by
    have key : zKinds vs cs = true → fitsC c v →
        (v :: vs).length = (c :: cs).length ∧ ∀ (j : Nat) (d : Col), (c :: cs)[j]? = some d → ∃ u, (v :: vs)[j]? = some u ∧ fitsC d u := by
      intro h1 h2
      obtain ⟨h3, h4⟩ := zKinds_spec h1
      refine ⟨by simp [h3], fun j d hj => ?_⟩
      cases j with
      | zero => simp at hj; subst hj; exact ⟨v, rfl, h2⟩
      | succ j => simpa using h4 j d (by simpa using hj)
    cases c with
    | ints k xs =>
      cases v <;> simp [zKinds] at h
      have := kEqB_eq h.1
      subst this
      exact key h.2 ⟨_, rfl⟩
    | bools xs =>
      cases v <;> simp [zKinds] at h
      exact key h ⟨_, rfl⟩
    | raws xs =>
      have : zKinds vs cs = true := by
        cases v <;> simp [zKinds] at h <;> first | exact h.2 | exact h
      exact key this trivial

theorem notInt_spec {tr : List TypeId} {t1 : TypeId} (hn : notInt P tr = true) (h1 : tr[0]? = some t1) : ∃ d, P.underlying t1 = some d ∧ ∀ k, d ≠ .int k := by
  cases tr with
  | nil => cases h1
  | cons t r =>
    simp at h1
    subst h1
    simp only [notInt] at hn
    split at hn
    · cases hn
    · cases hn
    · rename_i d hd hu
      exact ⟨d, hu, fun k hk => hd k hk⟩

/-- The block that a growing append makes. -/
theorem grown_holds {e : TypeId} {wd n cap' : Nat} {cs cs' : List Col} {f g : Nat → Nat → Value} {z : Array Value} (hw : 0 < wd) (hz : z.size = wd) (hcs' : cs'.length = wd) (hle : n ≤ cap')
    (hc : ColsAre cs' (n + (cap' - n)) (fun i j => if i < n then f i j else g (i - n) j)) (hg : ∀ i j, j < wd → g i j = z[j]!) (ρ : List Loc) :
    ((SBlk.tab e 0 cap' cs').den ρ).holds (.cells ((flatV f wd n).toArray ++ Builtin.zeroCells z (cap' - n)) e (0, 0)) := by
  rw [show n + (cap' - n) = cap' by omega] at hc
  refine ⟨_, 0, 0, rfl, fun c hm => ⟨hc.len c hm, fun i hi => ?_⟩, fun i j c hi hj => ?_, fun x _ hx => by omega⟩
  · obtain ⟨j, hj⟩ := List.getElem?_of_mem hm
    rw [hc.get i j c hi hj]
    exact hc.one i j hi (List.getElem?_eq_some_iff.1 hj).1
  · have hjl : j < wd := by rw [← hcs']; exact (List.getElem?_eq_some_iff.1 hj).1
    rw [hc.get i j c hi hj, hcs', Nat.zero_add]
    by_cases hin : i < n
    · simp only [hin, if_true]
      rw [Array.getElem?_append_left (by simp [flatV_len]; exact (form_lt hjl).2 hin)]
      simpa using flatV_get f wd hin hjl
    · simp only [hin, if_false]
      have hsz : (flatV f wd n).toArray.size = n * wd := by simp [flatV_len]
      rw [Array.getElem?_append_right (by rw [hsz]; have := (form_lt (n := n) (i := i) hjl).1; omega), hsz]
      have hd : i * wd + j - n * wd = (i - n) * wd + j := by
        obtain ⟨d, rfl⟩ : ∃ d, i = n + d := ⟨i - n, by omega⟩
        rw [Nat.add_mul, show n + d - n = d by omega]; omega
      rw [hd]
      have hlt : (i - n) * wd + j < (cap' - n) * z.size := by rw [hz]; exact (form_lt hjl).2 (by omega)
      simp only [Builtin.zeroCells, Array.getElem?_map, Array.getElem?_range, hlt, if_true, Option.map_some]
      rw [hg _ j hjl, hz, Nat.mul_comm, Nat.mul_add_mod, Nat.mod_eq_of_lt hjl]


theorem swap_locs {n b b' : Nat} {k k' : SBlk} (he : entAt h n = some (.own b k)) (r : List Loc) :
    locs (h.set n (.gone (b, k.base, k.wd)) ++ [.own b' k']) ++ r = locs h ++ ((b', k'.base, k'.wd) :: r) := by
  have : locs (h.set n (.gone (b, k.base, k.wd))) = locs h := locs_set he rfl
  rw [locs_eq] at this
  simp [locs_eq, Ent.loc, this]
theorem swap_ro (c : Ctx F h w) {n b b' : Nat} {k k' : SBlk} (he : entAt h n = some (.own b k)) (b2 : Nat) (k2 : SBlk) (hm : Ent.ro b2 k2 ∈ h.set n (.gone (b, k.base, k.wd)) ++ [.own b' k']) :
    ∃ o, (b2, Blk.obj o) ∈ F ∧ ∀ r, (k2.den (locs (h.set n (.gone (b, k.base, k.wd)) ++ [.own b' k']) ++ r)).holds o := by
  rcases List.mem_append.1 hm with hm | hm
  · have : Ent.ro b2 k2 ∈ h := by
      rcases List.mem_or_eq_of_mem_set hm with hm | hm
      · exact hm
      · cases hm
    obtain ⟨o', h1, h2⟩ := c.ro b2 k2 this
    exact ⟨o', h1, fun r => by rw [swap_locs he]; exact h2 _⟩
  · simp at hm

/-- One position goes, its block stands at a new one. -/
theorem Ctx.swapIn (c : Ctx F h w) {n b : Nat} {k k' : SBlk} {o : Obj} {w' : World} (he : entAt h n = some (.own b k)) (ho : w'.heap[b]? = some o)
    (hk : ∀ r, (k'.den (locs h ++ r)).holds o) (hs : ∀ x, x ≠ b → w'.heap[x]? = w.heap[x]?) : Ctx F (h.set n (.gone (b, k.base, k.wd)) ++ [.own b k']) w' := by
  refine ⟨fun r => ?_, swap_ro c he⟩
  rw [swap_locs he, owned_append]
  obtain ⟨A, B, e1, e2⟩ := owned_split (ρ := locs h ++ ((b, k'.base, k'.wd) :: r)) he
  rw [e2]
  have h0 := c.owns ((b, k'.base, k'.wd) :: r)
  rw [e1, List.append_assoc, List.cons_append] at h0
  have h1 := Owns.write h0 ⟨o, ho, hk ((b, k'.base, k'.wd) :: r)⟩ hs
  refine h1.perm ?_
  simp only [Ent.blocks, owned, List.append_nil, List.append_assoc, List.nil_append, List.singleton_append]
  exact List.Perm.append_left A List.perm_middle.symm

/-- One position goes, a new block stands at a new one. -/
theorem Ctx.swapNew (c : Ctx F h w) {n b : Nat} {k k' : SBlk} {o : Obj} {d : Nat} (he : entAt h n = some (.own b k)) (hk : ∀ r, (k'.den (locs h ++ r)).holds o) :
    Ctx F (h.set n (.gone (b, k.base, k.wd)) ++ [.own w.heap.size k']) { w with drawn := d, heap := w.heap.push o } := by
  refine ⟨fun r => ?_, swap_ro c he⟩
  rw [swap_locs he, owned_append]
  obtain ⟨A, B, e1, e2⟩ := owned_split (ρ := locs h ++ ((w.heap.size, k'.base, k'.wd) :: r)) he
  rw [e2]
  have h0 := c.owns ((w.heap.size, k'.base, k'.wd) :: r)
  rw [e1, List.append_assoc, List.cons_append] at h0
  have h1 : Owns w ((A ++ B) ++ F) := h0.sub (by rw [List.append_assoc]; exact List.Sublist.append_left (List.sublist_cons_self _ _) A)
  have h2 := Owns.alloc h1 (hk ((w.heap.size, k'.base, k'.wd) :: r))
  have h3 : Owns { w with drawn := d, heap := w.heap.push o } ((A ++ B) ++ (w.heap.size, k'.den (locs h ++ ((w.heap.size, k'.base, k'.wd) :: r))) :: F) := h2
  simpa [Ent.blocks, owned] using h3

theorem get_bang {z : Array Value} {j : Nat} {v : Value} (hv : z.toList[j]? = some v) : z[j]! = v := by
  rw [Array.getElem?_toList] at hv
  rw [Array.getElem!_eq_getD, Array.getD_eq_getD_getElem?, hv]
  rfl

theorem capOk_spec {k : SBlk} {o len cap : Nat} {A : Prop} (hx : capOk k o len cap A) : A ∧ len ≤ cap := by
  cases k with
  | tab t base N cols => exact ⟨hx.2, hx.1.1⟩
  | cells wd l t => obtain ⟨h1, h2⟩ := bif_false hx; exact ⟨h2, by have := Nat.eq_of_beq_eq_true h1; omega⟩
  | map _ _ _ => exact hx.elim
  | obj _ => exact hx.elim

theorem flatV_app (f g : Nat → Nat → Value) (wd n : Nat) : ∀ m : Nat, flatV f wd n ++ flatV g wd m = flatV (fun i j => if i < n then f i j else g (i - n) j) wd (n + m)
  | 0 => by
    simp only [flatV, List.append_nil, Nat.add_zero]
    have : ∀ k, k ≤ n → flatV f wd k = flatV (fun i j => if i < n then f i j else g (i - n) j) wd k := by
      intro k
      induction k with
      | zero => intro _; rfl
      | succ k ih =>
        intro hk
        rw [flatV, flatV, ih (by omega)]
        congr 1
        apply List.map_congr_left
        intro j _
        simp [show k < n by omega]
    exact this n (Nat.le_refl _)
  | m + 1 => by
    rw [flatV, ← List.append_assoc, flatV_app f g wd n m, ← Nat.add_assoc, flatV]
    congr 1
    apply List.map_congr_left
    intro j _
    simp [show ¬ n + m < n by omega, show n + m - n = m by omega]

theorem srcCols_spec' {k : SBlk} {o len : Nat} {K : List Col → Prop} {ob : Obj} (ho : ∀ r, (k.den (locs h ++ r)).holds ob) (hx : srcCols (locs h) k o len K) :
    ∃ cs f, K cs ∧ cs.length = k.wd ∧ ColsAre cs len f ∧ (∀ i j, i < len → j < k.wd → objCell ob ((k.base + o + i) * k.wd + j) = some (f i j)) ∧
      ∀ t base N cols, k = .tab t base N cols → cs = winCols o len cols := by
  cases k with
  | cells wd l t =>
    obtain ⟨cs, f, h1, h2, h3, h4⟩ := srcCols_spec ho hx
    exact ⟨cs, f, h1, h2, h3, h4, fun _ _ _ _ h => by cases h⟩
  | tab t base N cols =>
    obtain ⟨cs, f, ⟨h0, h1⟩, h2, h3, h4⟩ := srcCols_spec (K := fun cs => cs = winCols o len cols ∧ K cs) ho ⟨hx.1, rfl, hx.2⟩
    exact ⟨cs, f, h1, h2, h3, h4, fun _ _ _ _ h => by cases h; exact h0⟩
  | map ks m st => exact hx.elim
  | obj o' => exact hx.elim

/-- The cells of a slice's block, those behind its length too. -/
theorem spare_cells {k : SBlk} {o len cap : Nat} {A : Prop} {ob : Obj} {e : TypeId} {oc ec : List Col} {fo : Nat → Nat → Value} (hk : ∀ r, (k.den (locs h ++ r)).holds ob) (hx : capOk k o len cap A) (hty : k.ty = e)
    (hocell : ∀ i j, i < len → j < k.wd → objCell ob ((k.base + o + i) * k.wd + j) = some (fo i j)) (hock : ∀ t base N cols, k = .tab t base N cols → oc = winCols o len cols)
    (heck : ∀ (j : Nat) (c e : Col), oc[j]? = some c → ec[j]? = some e → ∀ v, fitsC c v → fitsC e v) (hec : ec.length = oc.length) :
    ∃ arr lo hi, ob = .cells arr e (lo, hi) ∧ (∀ i j, i < len → j < k.wd → arr[(k.base + o + i) * k.wd + j]? = some (fo i j)) ∧
      (∀ i j, len ≤ i → i < cap → j < k.wd → ∃ v, arr[(k.base + o + i) * k.wd + j]? = some v ∧ v.oneCell' = true ∧ ∀ cc : Col, ec[j]? = some cc → fitsC cc v) ∧
      (∀ y, (k.base + o) * k.wd ≤ y → y < (k.base + o + cap) * k.wd → ¬ (lo ≤ y ∧ y < hi)) := by
  cases k with
  | cells wd l t =>
    obtain ⟨h1, -⟩ := bif_false hx
    have h1 := Nat.eq_of_beq_eq_true h1
    have := hk []
    simp only [SBlk.den, Blk.holds] at this
    subst this
    simp only [SBlk.ty] at hty
    subst hty
    exact ⟨_, 0, 0, rfl, hocell, fun i j h2 h3 => by omega, fun y _ _ => by omega⟩
  | tab t base N cols =>
    obtain ⟨⟨h1, h2⟩, -⟩ := hx
    obtain ⟨arr, lo, hi, rfl, h3, h4, h5⟩ := hk []
    simp only [SBlk.ty] at hty
    subst hty
    refine ⟨arr, lo, hi, rfl, hocell, fun i j h6 h7 hj => ?_, fun y h6 h7 => h5 y ?_ ?_⟩
    · simp only [SBlk.wd] at hj
      have hcj := List.getElem?_eq_getElem hj
      have := h4 (o + i) j cols[j] (by omega) hcj
      simp only [SBlk.base, SBlk.wd]
      rw [Nat.add_assoc]
      refine ⟨_, this, (h3 _ (List.getElem_mem hj)).2 _ (by omega), fun cc hcc => ?_⟩
      have hoc := hock t base N cols rfl
      rw [winCols_eq] at hoc
      exact heck j (winCol o len cols[j]) cc (by rw [hoc, List.getElem?_map, hcj]; rfl) hcc _ (fitsC_win (fitsC_get _ _))
    · simp only [SBlk.base, SBlk.wd] at h6
      have : base * cols.length ≤ (base + o) * cols.length := Nat.mul_le_mul_right _ (by omega)
      omega
    · simp only [SBlk.base, SBlk.wd] at h7
      have : (base + o + cap) * cols.length ≤ (base + N) * cols.length := Nat.mul_le_mul_right _ (by omega)
      omega
  | map _ _ _ => exact hx.elim
  | obj _ => exact hx.elim

/-- What append does with the block of the slice that it is given. -/
theorem xapp_core (c : Ctx F h w) {ts : Array TypeId} {tt e : TypeId} {args : Array Value} {s : SV} {vs : Value} {inf : TypeInfo} {z : Value} {lit : Bool} {n : Nat} {cs : List Col} {f : Nat → Nat → Value}
    (hs : s ≠ .top → Std h s vs) (k3 : z.cells.size = inf.size) (k4 : 1 ≤ inf.size) (k5 : allOne z.cells.toList = true)
    (hcf : ColsAre cs n f) (hcs : cs.length = inf.size)
    (hRoom : ∀ b x sLen sCap, vs = .slice (some ⟨b, x, none⟩) sLen sCap → sLen + n ≤ sCap → (Builtin.append_ ts tt args).run P w = ((storeCells ⟨b, x + sLen * inf.size, none⟩ (flatV f inf.size n)).run P w).andThen fun _ w' => .ok (.slice (some ⟨b, x, none⟩) (sLen + n) sCap) w')
    (hGrow : ∀ base sLen sCap old, vs = .slice base sLen sCap → sLen ≤ sCap → sCap < sLen + n → (sLen + n) * inf.bytes ≤ 140737488355328 → (∀ d, (Builtin.firstCells inf.size sLen (.slice base sLen sCap)).run P { w with drawn := d } = .ok old { w with drawn := d }) →
      ∃ cap', sLen + n ≤ cap' ∧ (Builtin.append_ ts tt args).run P w = .ok (.slice (some ⟨w.heap.size, 0, none⟩) (sLen + n) cap')
        { w with drawn := w.drawn + 1, heap := w.heap.push (.cells (old ++ (flatV f inf.size n).toArray ++ Builtin.zeroCells z.cells (cap' - (sLen + n))) e) })
    (hNone : n = 0 → vs = .slice none 0 0 → (Builtin.append_ ts tt args).run P w = .ok (.slice none 0 0) w)
    (hx : xapp h e inf.bytes z.cells.toList s lit n cs K) : Loud P F h w K (do pure (.value (← Builtin.append_ ts tt args))) := by
  have zgood : ∀ {cs : List Col}, zKinds z.cells.toList cs = true → cs.length = inf.size → (∀ (i j : Nat) (c : Col), cs[j]? = some c → fitsC c z.cells[j]!) ∧ ∀ (i j : Nat), j < cs.length → (z.cells[j]!).oneCell' = true := by
    intro cs hzk hcs
    obtain ⟨z1, z2⟩ := zKinds_spec hzk
    refine ⟨fun i j c hj => ?_, fun i j hj => ?_⟩
    · obtain ⟨v, hv, hf⟩ := z2 j c hj
      rw [get_bang hv]; exact hf
    · have hjl : j < z.cells.toList.length := by simp; omega
      have hv : z.cells.toList[j]? = some z.cells.toList[j] := List.getElem?_eq_getElem hjl
      rw [get_bang hv]
      exact allOne_spec k5 _ (List.getElem_mem hjl)
  unfold xapp at hx
  split at hx
  · rename_i m o len cap
    split at hx
    · rename_i b0 k he
      cases hb : Nat.beq k.ty e with
      | false =>
        rw [hb] at hx
        simp only [cond_false] at hx
        obtain ⟨⟨ob, hob, hk⟩, hloc⟩ := c.blk he rfl
        have hvs : vs = .slice (some ⟨b0, (k.base + o) * k.wd, none⟩) len cap := by
          have := hs (by simp) []
          simp only [den, hloc []] at this
          exact this.symm
        subst hvs
        obtain ⟨hcap, hx⟩ := hx
        obtain ⟨hsrc0, hlc⟩ := capOk_spec hx
        obtain ⟨oc, fo, hsrc, hoc, hofc, hocell, hock⟩ := srcCols_spec' hk hsrc0
        obtain ⟨ec, hcat, hec, hcl, hecf, heck⟩ := catCols_spec hsrc hofc hcf
        obtain ⟨hzk, hsz, hK⟩ := bif_false hcat
        have hwd : k.wd = inf.size := by omega
        have hecl : ec.length = inf.size := by omega
        have hold : ∀ d, (Builtin.firstCells inf.size len (.slice (some ⟨b0, (k.base + o) * k.wd, none⟩) len cap)).run P { w with drawn := d } = .ok (flatV fo inf.size len).toArray { w with drawn := d } := by
          intro d
          refine run_firstCells_slice (o := ob) hob (fun i j hi hj => ?_) (by omega)
          rw [← hocell i j hi (by omega), ← hwd, Nat.add_mul (k.base + o)]
        obtain ⟨cap', h1, h2⟩ := hGrow _ _ _ _ rfl hlc hcap hsz hold
        obtain ⟨g1, g2⟩ := zgood hzk hecl
        obtain ⟨ec', h3, h4, h5⟩ := spareK_spec (fun _ j => z.cells[j]!) (hK w.heap.size cap' h1) hecf (fun i j c _ hj => g1 i j c hj) (fun i j _ hj => g2 i j hj)
        have h3 := appK_iff h3
        have hflat : (flatV fo inf.size len).toArray ++ (flatV f inf.size n).toArray = (flatV (fun i j => if i < len then fo i j else f (i - len) j) inf.size (len + n)).toArray := by
          rw [← flatV_app]; simp
        rw [hflat] at h2
        refine ⟨_, _, _, .slice (some ⟨w.heap.size, 0, none⟩) (len + n) cap', _, h3, Ext.app _ _, (c.drew (w.drawn + 1)).push (o := .cells ((flatV (fun i j => if i < len then fo i j else f (i - len) j) inf.size (len + n)).toArray ++ Builtin.zeroCells z.cells (cap' - (len + n))) e) (fun r => ?_), ⟨rfl, rfl, rfl, by simp⟩, fun _ r => ?_, ?_, .inl rfl⟩
        · exact grown_holds (cs := ec) (by omega) k3 (by omega) h1 h5 (fun i j hj => rfl) _
        · simp only [den, loc_new, SBlk.base]
          simp
        · simp only [Sem.run_bind, h2, Result.andThen_ok, Sem.run_pure]
      | true =>
      rw [hb] at hx
      simp only [cond_true] at hx
      have hty := Nat.eq_of_beq_eq_true hb
      obtain ⟨⟨ob, hob, hk⟩, hloc⟩ := c.blk he rfl
      have hvs : vs = .slice (some ⟨b0, (k.base + o) * k.wd, none⟩) len cap := by
        have := hs (by simp) []
        simp only [den, hloc []] at this
        exact this.symm
      subst hvs
      obtain ⟨hsrc0, hlc⟩ := capOk_spec hx
      obtain ⟨oc, fo, hsrc, hoc, hofc, hocell, hock⟩ := srcCols_spec' hk hsrc0
      obtain ⟨ec, hcat, hec, hcl, hecf, heck⟩ := catCols_spec hsrc hofc hcf
      obtain ⟨hzk, hsz, hK⟩ := bif_false hcat
      have hwd : k.wd = inf.size := by omega
      have hecl : ec.length = inf.size := by omega
      by_cases hroom : len + n ≤ cap
      · -- there is room
        have hrun := hRoom _ _ _ _ rfl hroom
        obtain ⟨arr, lo, hi, hobe, hold, hspare, hfree⟩ := spare_cells hk hx hty hocell hock (fun j c e h1 h2 => heck j c e h1 h2) hec
        subst hobe
        have hg : ∀ i j, len + n + i < cap → j < k.wd → ∃ v, arr[(k.base + o + (len + n + i)) * k.wd + j]? = some v ∧ v.oneCell' = true ∧ ∀ cc : Col, ec[j]? = some cc → fitsC cc v := fun i j hi' hj => hspare (len + n + i) j (by omega) hi' hj
        obtain ⟨ec', h3, h4, h5⟩ := spareK_spec (fun i j => (arr[(k.base + o + (len + n + i)) * k.wd + j]?).getD .nilIface) (hK b0 (k.base + o) cap hroom fun _ => rfl) hecf (fun i j c hi' hj => by
          have hjl : j < k.wd := by have := (List.getElem?_eq_some_iff.1 hj).1; omega
          obtain ⟨v, e1, -, e3⟩ := hg i j (by omega) hjl
          rw [e1]; exact e3 c hj) (fun i j hi' hj => by
          obtain ⟨v, e1, e2, -⟩ := hg i j (by omega) (by omega)
          rw [e1]; exact e2)
        have h3 := appK_iff (setK_spec h3)
        rw [show len + n + (cap - (len + n)) = cap by omega] at h5
        -- the world behind the stores
        obtain ⟨w', e1, e2, e3, e4⟩ : ∃ w', (storeCells ⟨b0, (k.base + o) * k.wd + len * inf.size, none⟩ (flatV f inf.size n)).run P w = .ok () w' ∧
            w'.heap[b0]? = some (.cells (wrA arr ((k.base + o) * k.wd + len * inf.size) (flatV f inf.size n)) e (lo, hi)) ∧ (∀ y, y ≠ b0 → w'.heap[y]? = w.heap[y]?) ∧ Rest w w' := by
          by_cases hn : n = 0
          · subst hn
            exact ⟨w, rfl, by simpa [flatV, wrA] using hob, fun _ _ => rfl, Rest.refl w⟩
          · have hend : (k.base + o) * k.wd + len * inf.size + n * inf.size ≤ arr.size := by
              obtain ⟨v, e1, -⟩ := hspare (len + (n - 1)) (k.wd - 1) (by omega) (by omega) (by omega)
              have h6 := (Array.getElem?_eq_some_iff.1 e1).1
              rw [← hwd]
              have h7 : (k.base + o + (len + (n - 1))) * k.wd = (k.base + o) * k.wd + len * k.wd + (n - 1) * k.wd := by rw [Nat.add_mul, Nat.add_mul len, Nat.add_assoc]
              have h8 : n * k.wd = (n - 1) * k.wd + k.wd := by
                obtain ⟨m, rfl⟩ : ∃ m, n = m + 1 := ⟨n - 1, by omega⟩
                rw [Nat.add_mul, Nat.one_mul]; simp
              omega
            have := run_storeList (P := P) (x := (k.base + o) * k.wd + len * inf.size) (flatV f inf.size n) arr 0 w hob (by rw [flatV_len]; exact hend) (fun y h6 h7 => by
              rw [flatV_len, Nat.add_zero] at h7
              refine hfree y (by omega) ?_
              have h8 : (len + n) * k.wd ≤ cap * k.wd := Nat.mul_le_mul_right _ hroom
              have h9 : (k.base + o + cap) * k.wd = (k.base + o) * k.wd + cap * k.wd := Nat.add_mul _ _ _
              rw [Nat.add_mul] at h8
              rw [← hwd] at h7
              omega) (fun v hv => by
              obtain ⟨x, hx1⟩ := List.getElem?_of_mem hv
              have hxl := (List.getElem?_eq_some_iff.1 hx1).1
              rw [flatV_len] at hxl
              obtain ⟨i, j, rfl, hj⟩ := div_form (x := x) (wd := inf.size) (by omega)
              have hi' := (form_lt hj).1 hxl
              rw [flatV_get f inf.size hi' hj] at hx1
              cases hx1
              exact hcf.one i j hi' (by omega))
            simpa using this
        refine ⟨_, _, _, .slice (some ⟨b0, (k.base + o) * k.wd, none⟩) (len + n) cap, w', h3, ?_, c.swapIn he e2 (fun r => ?_) e3, e4, fun _ r => ?_, ?_, .inl rfl⟩
        · exact ⟨[(b0, k.base + o, ec'.length)], by have := swap_locs (b' := b0) (k' := .tab e (k.base + o) cap ec') he []; simpa [SBlk.base, SBlk.wd] using this⟩
        · have hwl : ec'.length = k.wd := by omega
          have hlast : (k.base + o) * k.wd + len * inf.size + (flatV f inf.size n).length ≤ arr.size ∨ n = 0 := by
            by_cases hn : n = 0
            · exact .inr hn
            · left
              obtain ⟨v, e1, -⟩ := hspare (len + (n - 1)) (k.wd - 1) (by omega) (by omega) (by omega)
              have h6 := (Array.getElem?_eq_some_iff.1 e1).1
              rw [flatV_len, ← hwd]
              have h7 : (k.base + o + (len + (n - 1))) * k.wd = (k.base + o) * k.wd + len * k.wd + (n - 1) * k.wd := by rw [Nat.add_mul, Nat.add_mul len, Nat.add_assoc]
              have h8 : n * k.wd = (n - 1) * k.wd + k.wd := by
                obtain ⟨m, rfl⟩ : ∃ m, n = m + 1 := ⟨n - 1, by omega⟩
                rw [Nat.add_mul, Nat.one_mul]; simp
              omega
          refine ⟨_, lo, hi, rfl, fun cc hm => ⟨h5.len cc hm, fun i hi' => ?_⟩, fun i j cc hi' hj => ?_, fun y h6 h7 => ?_⟩
          · obtain ⟨j, hj⟩ := List.getElem?_of_mem hm
            rw [h5.get i j cc hi' hj]
            exact h5.one i j hi' (List.getElem?_eq_some_iff.1 hj).1
          · have hjl : j < k.wd := by have := (List.getElem?_eq_some_iff.1 hj).1; omega
            rw [h5.get i j cc hi' hj, hwl]
            have hidx : (k.base + o + i) * k.wd + j = (k.base + o) * k.wd + (i * k.wd + j) := by rw [Nat.add_mul (k.base + o), Nat.add_assoc]
            by_cases hin : i < len
            · have h8 : i * k.wd + j < len * k.wd := (form_lt hjl).2 hin
              simp only [show i < len + n by omega, if_true, hin]
              rcases hlast with hlast | hn
              · rw [wrA_get _ _ _ _ hlast, if_neg (by rw [hidx, ← hwd]; omega)]
                exact hold i j hin hjl
              · subst hn
                simp only [flatV, wrA]
                exact hold i j hin hjl
            · by_cases hin2 : i < len + n
              · have hn : n ≠ 0 := by omega
                rcases hlast with hlast | hn'
                rotate_left
                · exact absurd hn' hn
                simp only [hin2, if_true, hin, if_false]
                have h8 : ¬ (i * k.wd + j < len * k.wd) := fun h => hin ((form_lt hjl).1 h)
                have h9 : i * k.wd + j < (len + n) * k.wd := (form_lt hjl).2 hin2
                rw [Nat.add_mul] at h9
                rw [wrA_get _ _ _ _ hlast, if_pos (by rw [hidx, flatV_len, ← hwd]; omega)]
                have hd : (k.base + o + i) * k.wd + j - ((k.base + o) * k.wd + len * inf.size) = (i - len) * inf.size + j := by
                  obtain ⟨d, rfl⟩ : ∃ d, i = len + d := ⟨i - len, by omega⟩
                  rw [hidx, ← hwd, Nat.add_mul len, show len + d - len = d by omega]; omega
                rw [hd, flatV_get f inf.size (by omega) (by omega)]
              · simp only [hin2, if_false]
                have h9 : ¬ (i * k.wd + j < (len + n) * k.wd) := fun h => hin2 ((form_lt hjl).1 h)
                rw [Nat.add_mul] at h9
                obtain ⟨v, q1, -⟩ := hg (i - (len + n)) j (by omega) hjl
                have he1 := q1
                rw [show len + n + (i - (len + n)) = i by omega] at q1
                rw [he1]
                rcases hlast with hlast | hn
                · rw [wrA_get _ _ _ _ hlast, if_neg (by rw [hidx, flatV_len, ← hwd]; omega), q1]; rfl
                · subst hn
                  simp only [flatV, wrA]
                  rw [q1]; rfl
          · rw [hwl] at h6 h7
            exact hfree y h6 h7
        · rw [swap_locs he]
          simp only [den, lenE_eq]
          rw [locAt_get, List.getElem?_append_right (by simp [locs_eq])]
          have h0 : h.length - (locs h).length = 0 := by simp [locs_eq]
          rw [h0]
          show Value.slice (some ⟨b0, ((k.base + o) + 0) * ec'.length, none⟩) _ _ = _
          rw [Nat.add_zero, show ec'.length = k.wd by omega]
        · simp only [Sem.run_bind, hrun, e1, Result.andThen_ok, Sem.run_pure]
      · -- it grows
        have hold : ∀ d, (Builtin.firstCells inf.size len (.slice (some ⟨b0, (k.base + o) * k.wd, none⟩) len cap)).run P { w with drawn := d } = .ok (flatV fo inf.size len).toArray { w with drawn := d } := by
          intro d
          refine run_firstCells_slice (o := ob) hob (fun i j hi hj => ?_) (by omega)
          rw [← hocell i j hi (by omega), ← hwd, Nat.add_mul (k.base + o)]
        obtain ⟨cap', h1, h2⟩ := hGrow _ _ _ _ rfl hlc (by omega) hsz hold
        obtain ⟨g1, g2⟩ := zgood hzk hecl
        obtain ⟨ec', h3, h4, h5⟩ := spareK_spec (fun _ j => z.cells[j]!) (hK w.heap.size 0 cap' h1 fun h => absurd h hroom) hecf (fun i j c _ hj => g1 i j c hj) (fun i j _ hj => g2 i j hj)
        have h3 := appK_iff (setK_spec h3)
        have hflat : (flatV fo inf.size len).toArray ++ (flatV f inf.size n).toArray = (flatV (fun i j => if i < len then fo i j else f (i - len) j) inf.size (len + n)).toArray := by
          rw [← flatV_app]; simp
        rw [hflat] at h2
        refine ⟨_, _, _, .slice (some ⟨w.heap.size, 0, none⟩) (len + n) cap', _, h3, ?_, c.swapNew (d := w.drawn + 1) (o := .cells ((flatV (fun i j => if i < len then fo i j else f (i - len) j) inf.size (len + n)).toArray ++ Builtin.zeroCells z.cells (cap' - (len + n))) e) he (fun r => ?_), ⟨rfl, rfl, rfl, by simp⟩, fun _ r => ?_, ?_, .inl rfl⟩
        · exact ⟨[(w.heap.size, 0, ec'.length)], by have := swap_locs (b' := w.heap.size) (k' := .tab e 0 cap' ec') he []; simpa [SBlk.base, SBlk.wd] using this⟩
        · exact grown_holds (cs := ec) (by omega) k3 (by omega) h1 h5 (fun i j hj => rfl) _
        · rw [swap_locs he]
          simp only [den, lenE_eq]
          rw [locAt_get, List.getElem?_append_right (by simp [locs_eq])]
          simp [locs_eq, SBlk.base]
        · simp only [Sem.run_bind, h2, Result.andThen_ok, Sem.run_pure]
    · exact hx.elim
  · obtain ⟨hzk, hx⟩ := bif_false hx
    have hvs : vs = .slice none 0 0 := (hs (by simp) []).symm
    subst hvs
    -- a new block made out of nothing
    have grow0 : 0 < n → xgrow h e inf.bytes n cs K → Loud P F h w K (do pure (.value (← Builtin.append_ ts tt args))) := by
      intro hn0 hg
      obtain ⟨hsz, hg⟩ := hg
      have hold : ∀ d, (Builtin.firstCells inf.size 0 (.slice none 0 0)).run P { w with drawn := d } = .ok #[] { w with drawn := d } := fun d => rfl
      obtain ⟨cap', h1, h2⟩ := hGrow _ _ _ _ rfl (Nat.le_refl _) (by omega) (by rw [Nat.zero_add]; exact hsz) hold
      simp only [Nat.zero_add] at h1 h2
      obtain ⟨g1, g2⟩ := zgood hzk hcs
      obtain ⟨cs', h3, h4, h5⟩ := spareK_spec (fun _ j => z.cells[j]!) (hg w.heap.size cap' h1) hcf (fun i j c _ hj => g1 i j c hj) (fun i j _ hj => g2 i j hj)
      have h3 := appK_iff h3
      refine ⟨_, _, _, .slice (some ⟨w.heap.size, 0, none⟩) n cap', _, h3, Ext.app _ _, (c.drew (w.drawn + 1)).push (o := .cells (#[] ++ (flatV f inf.size n).toArray ++ Builtin.zeroCells z.cells (cap' - n)) e) (fun r => ?_), ⟨rfl, rfl, rfl, by simp⟩, fun _ r => ?_, ?_, .inl rfl⟩
      · rw [Array.empty_append]
        exact grown_holds (cs := cs) (by omega) k3 (by rw [h4, hcs]) h1 h5 (fun i j hj => rfl) _
      · simp only [den, loc_new, SBlk.base]
        simp
      · simp only [Sem.run_bind, h2, Result.andThen_ok, Sem.run_pure]
    have none0 : n = 0 → K (.val (.slice none 0 0)) h → Loud P F h w K (do pure (.value (← Builtin.append_ ts tt args))) := by
      intro hn hk
      subst hn
      have hr := hNone rfl rfl
      refine ⟨_, _, _, .slice none 0 0, w, hk, Ext.refl _, c, Rest.refl _, fun _ r => rfl, ?_, .inl rfl⟩
      simp only [Sem.run_bind, hr, Result.andThen_ok, Sem.run_pure]
    cases lit with
    | true =>
      simp only [cond_true] at hx
      cases n with
      | zero => exact none0 rfl hx
      | succ n => exact grow0 (by omega) hx
    | false =>
      simp only [cond_false] at hx
      by_cases hn : n = 0
      · exact none0 hn (hx.1 hn)
      · exact grow0 (by omega) (hx.2 (by omega))
  · rename_i bR xR cap
    obtain ⟨hcap, hx⟩ := hx
    obtain ⟨hzk, hsz, hg⟩ := bif_false hx
    have hvs : vs = .slice (some ⟨bR, xR, none⟩) 0 cap := (hs (by simp) []).symm
    subst hvs
    have hold : ∀ d, (Builtin.firstCells inf.size 0 (.slice (some ⟨bR, xR, none⟩) 0 cap)).run P { w with drawn := d } = .ok #[] { w with drawn := d } := fun d => by simp [Builtin.firstCells, loadCells, loadCellsFrom]
    obtain ⟨cap', h1, h2⟩ := hGrow _ _ _ _ rfl (Nat.zero_le _) (by omega) (by rw [Nat.zero_add]; exact hsz) hold
    simp only [Nat.zero_add] at h1 h2
    obtain ⟨g1, g2⟩ := zgood hzk hcs
    obtain ⟨cs', h3, h4, h5⟩ := spareK_spec (fun _ j => z.cells[j]!) (hg w.heap.size cap' h1) hcf (fun i j c _ hj => g1 i j c hj) (fun i j _ hj => g2 i j hj)
    have h3 := appK_iff h3
    refine ⟨_, _, _, .slice (some ⟨w.heap.size, 0, none⟩) n cap', _, h3, Ext.app _ _, (c.drew (w.drawn + 1)).push (o := .cells (#[] ++ (flatV f inf.size n).toArray ++ Builtin.zeroCells z.cells (cap' - n)) e) (fun r => ?_), ⟨rfl, rfl, rfl, by simp⟩, fun _ r => ?_, ?_, .inl rfl⟩
    · rw [Array.empty_append]
      exact grown_holds (cs := cs) (by omega) k3 (by rw [h4, hcs]) h1 h5 (fun i j hj => rfl) _
    · simp only [den, loc_new, SBlk.base]
      simp
    · simp only [Sem.run_bind, h2, Result.andThen_ok, Sem.run_pure]
  · exact hx.elim

theorem xapp_sound (c : Ctx F h w) {ts : Array TypeId} {tt t e : TypeId} {args : Array Value} {s : SV} {vs vx : Value} {inf : TypeInfo} {z : Value} {lit : Bool} {n : Nat} {cs : List Col} {f : Nat → Nat → Value}
    (ha : args[0]? = some vs) (hb : args[1]? = some vx) (hs : s ≠ .top → Std h s vs) (ht0 : ts[0]? = some t) (ht1 : ∀ t1, ts[1]? = some t1 → ∃ d, P.underlying t1 = some d ∧ ∀ k, d ≠ .int k)
    (hu : P.underlying t = some (.slice e)) (hinf : P.info? e = some inf) (hz : inf.zero = some z) (k1 : inf.bytes ≤ 1048576) (k2 : 1 ≤ inf.bytes) (k3 : z.cells.size = inf.size) (k4 : 1 ≤ inf.size) (k5 : allOne z.cells.toList = true)
    (hcf : ColsAre cs n f) (hlen : (Builtin.lenOf vx).run P w = .ok n w) (hcs : cs.length = inf.size)
    (hnew : ∀ d, (Builtin.firstCells inf.size n vx).run P { w with drawn := d } = .ok (flatV f inf.size n).toArray { w with drawn := d })
    (hx : xapp h e inf.bytes z.cells.toList s lit n cs K) : Loud P F h w K (do pure (.value (← Builtin.append_ ts tt args))) :=
  xapp_core c hs k3 k4 k5 hcf hcs (fun b x sLen sCap hv hr => by subst hv; exact run_append_room (tt := tt) ht0 ht1 ha hb hu hinf hlen hr (hnew w.drawn))
    (fun base sLen sCap old hv _ hg hsz hold => by subst hv; exact run_append_grow (tt := tt) ht0 ht1 ha hb hu hinf hz hlen hg hsz k1 k2 hold hnew)
    (fun hn hv => by subst hn hv; exact run_append_none (tt := tt) ht0 ht1 ha hb hu hinf hlen (hnew w.drawn)) hx

theorem xapp00_sound (c : Ctx F h w) {ts : Array TypeId} {tt t e : TypeId} {args : Array Value} {s : SV} {vs : Value} {inf : TypeInfo} {ox : Option Addr} {cx : Nat}
    (ha : args[0]? = some vs) (hb : args[1]? = some (.slice ox 0 cx)) (hs : s ≠ .top → Std h s vs) (ht0 : ts[0]? = some t) (ht1 : ∀ t1, ts[1]? = some t1 → ∃ d, P.underlying t1 = some d ∧ ∀ k, d ≠ .int k)
    (hu : P.underlying t = some (.slice e)) (hinf : P.info? e = some inf) (hx : xapp00 h s K) : Loud P F h w K (do pure (.value (← Builtin.append_ ts tt args))) := by
  have hf0 : (Builtin.firstCells inf.size 0 (.slice ox 0 cx)).run P w = .ok #[] w := by
    cases ox with
    | none => simp [Builtin.firstCells]
    | some a => simp [Builtin.firstCells, loadCells, loadCellsFrom]
  unfold xapp00 at hx
  split at hx
  · rename_i m o len cap
    have hst := hs (by simp)
    have hvs : vs = .slice (some ⟨(locAt (locs h) m).1, ((locAt (locs h) m).2.1 + o) * (locAt (locs h) m).2.2, none⟩) len cap := by
      have := hst []
      simp only [List.append_nil, den] at this
      exact this.symm
    have hst' : Std h (.slc m o len cap) vs := hst
    subst hvs
    have hrun := run_append_room (w := w) (P := P) (tt := tt) (n := 0) (new := #[]) ht0 ht1 ha hb hu hinf rfl (by omega) hf0
    refine ⟨_, _, _, _, w, hx.2, Ext.refl _, c, Rest.refl _, fun _ => hst', ?_, .inl rfl⟩
    simp only [Sem.run_bind, hrun, Result.andThen_ok, storeCells, Sem.run_pure, Nat.add_zero]
  · have hvs : vs = .slice none 0 0 := (hs (by simp) []).symm
    subst hvs
    have hr := run_append_none (w := w) (P := P) (tt := tt) (new := #[]) ht0 ht1 ha hb hu hinf rfl hf0
    refine ⟨_, _, _, .slice none 0 0, w, hx, Ext.refl _, c, Rest.refl _, fun _ r => rfl, ?_, .inl rfl⟩
    simp only [Sem.run_bind, hr, Result.andThen_ok, Sem.run_pure]
  · rename_i a len cap
    have hvs : vs = .slice (some a) len cap := (hs (by simp) []).symm
    subst hvs
    split at hx
    · rename_i hsp
      obtain ⟨b, x, sp⟩ := a
      cases hsp
      have hrun := run_append_room (w := w) (P := P) (tt := tt) (n := 0) (new := #[]) ht0 ht1 ha hb hu hinf rfl (by omega) hf0
      refine ⟨_, _, _, _, w, hx.2, Ext.refl _, c, Rest.refl _, fun _ r => rfl, ?_, .inl rfl⟩
      simp only [Sem.run_bind, hrun, Result.andThen_ok, storeCells, Sem.run_pure, Nat.add_zero]
    · exact hx.elim
  · exact hx.elim

theorem rawTab_spec (c : Ctx F h w) {n b x len : Nat} {L : List (Nat × Blk)} {cs : List Col} (he : entAt h n = some (.chunk L)) (hr : rawTab L b x len cs) :
    ∃ ob, w.heap[b]? = some ob ∧ ∃ f, ColsAre cs len f ∧ ∀ i j, i < len → j < cs.length → objCell ob (x + i * cs.length + j) = some (f i j) := by
  rcases hr with ⟨t, base, N, cols, o, g1, g2, g3, rfl⟩ | ⟨g0, k, xs, rfl, g1, g2⟩ | ⟨g0, g3, g1, g2⟩
  rotate_left
  · obtain ⟨k0, m0, a0⟩ := g2 0 g0
    obtain ⟨ob, hob, hk0⟩ := c.chunk he m0
    refine ⟨ob, hob, fun i _ => .int k (xs.getD i 0), ⟨fun d hd => by rw [List.mem_singleton.1 hd]; exact g1, fun i j d hi hj => ?_, fun i j hi hj => rfl⟩, fun i j hi hj => ?_⟩
    · cases j with
      | zero => simp at hj; subst hj; rfl
      | succ j => simp at hj
    · obtain ⟨k1, m1, a1⟩ := g2 i hi
      obtain ⟨ob1, hob1, hk1⟩ := c.chunk he m1
      rw [hob] at hob1
      cases hob1
      have hj0 : j = 0 := by simp at hj; exact hj
      subst hj0
      rw [show x + i * [Col.ints k xs].length + 0 = x + i by simp]
      exact at_spec hk1 a1
  · obtain ⟨d0, hd0⟩ : ∃ d, cs[0]? = some d := ⟨cs[0], List.getElem?_eq_getElem g3⟩
    obtain ⟨⟨k0, m0, a0⟩, -⟩ := g2 0 0 d0 g0 hd0
    obtain ⟨ob, hob, hk0⟩ := c.chunk he m0
    refine ⟨ob, hob, fun i j => (cs[j]?.map fun d => d.get i).getD .nilIface, ⟨g1, fun i j d hi hj => by simp [hj], fun i j hi hj => ?_⟩, fun i j hi hj => ?_⟩
    · have hj2 := List.getElem?_eq_getElem hj
      simp only [hj2, Option.map_some, Option.getD_some]
      exact (g2 i j _ hi hj2).2
    · have hj2 := List.getElem?_eq_getElem hj
      obtain ⟨⟨k1, m1, a1⟩, -⟩ := g2 i j _ hi hj2
      obtain ⟨ob1, hob1, hk1⟩ := c.chunk he m1
      rw [hob] at hob1
      cases hob1
      simp only [hj2, Option.map_some, Option.getD_some]
      exact at_spec hk1 a1
  obtain ⟨ob, hob, arr, lo, hi, rfl, h1, h2, h3⟩ := c.chunk he g1
  have hwin : cols.map (winOf o len) = winCols o len cols := by
    rw [winCols_eq]
    exact List.map_congr_left fun d _ => by cases d <;> rfl
  rw [hwin]
  have hlen : (winCols o len cols).length = cols.length := by rw [winCols_eq, List.length_map]
  refine ⟨_, hob, fun i j => ((winCols o len cols)[j]?.map fun d => d.get i).getD .nilIface, ⟨fun d hd => ?_, fun i j d hi hj => by simp [hj], fun i j hi hj => ?_⟩, fun i j hi hj => ?_⟩
  · rw [winCols_eq] at hd
    obtain ⟨d', hd1, rfl⟩ := List.mem_map.1 hd
    exact winCol_len (by rw [(h1 d' hd1).1]; exact g3)
  · rw [hlen] at hj
    rw [winCols_eq, List.getElem?_map, List.getElem?_eq_getElem hj]
    simp only [Option.map_some, Option.getD_some]
    rw [winCol_get hi]
    exact (h1 _ (List.getElem_mem hj)).2 _ (by omega)
  · rw [hlen] at hj ⊢
    show objCell _ _ = some (((winCols o len cols)[j]?.map fun d => d.get i).getD .nilIface)
    rw [winCols_eq, List.getElem?_map, List.getElem?_eq_getElem hj]
    simp only [Option.map_some, Option.getD_some]
    rw [winCol_get hi]
    have := h2 (o + i) j _ (by omega) (List.getElem?_eq_getElem hj)
    simp only [objCell]
    rw [← this, g2]
    congr 1
    rw [← Nat.add_assoc, Nat.add_mul (base + o)]
theorem xappend_sound (c : Ctx F h w) {ts : Array TypeId} {tt : TypeId} {args : Array Value} {s x : SV} {vs vx : Value} (ha : args[0]? = some vs) (hb : args[1]? = some vx)
    (hs : s ≠ .top → Std h s vs) (hxx : x ≠ .top → Std h x vx) (hx : xappend P h ts.toList s x K) : Loud P F h w K (do pure (.value (← Builtin.append_ ts tt args))) := by
  unfold xappend at hx
  split at hx
  · exact hx.elim
  rename_i t tr hts
  have ht0 : ts[0]? = some t := by rw [← Array.getElem?_toList, hts]; rfl
  obtain ⟨hni, hx⟩ := bif_false hx
  have ht1 : ∀ t1, ts[1]? = some t1 → ∃ d, P.underlying t1 = some d ∧ ∀ k, d ≠ .int k := by
    intro t1 h1
    rw [← Array.getElem?_toList, hts] at h1
    exact notInt_spec hni (by simpa using h1)
  split at hx
  rotate_left
  · exact hx.elim
  rename_i e hu
  split at hx
  · exact hx.elim
  rename_i inf hinf
  split at hx
  · exact hx.elim
  rename_i z hz
  obtain ⟨hchk, hx⟩ := bif_false hx
  simp only [Bool.and_eq_true] at hchk
  obtain ⟨k1, k2, k3, k4, k5⟩ := hchk
  have k3 := Nat.eq_of_beq_eq_true k3
  rw [lenV_eq, Array.length_toList] at k3
  have k4 := Nat.le_of_ble_eq_true k4
  split at hx
  · have hvx : vx = .slice none 0 0 := (hxx (by simp) []).symm
    subst hvx
    exact xapp00_sound c ha hb hs ht0 ht1 hu hinf hx
  · rename_i b x0 len cap _ _
    have hvx : vx = .slice (some ⟨b, x0, none⟩) len cap := (hxx (by simp) []).symm
    subst hvx
    split at hx
    · rename_i nn L hc
      obtain ⟨-, he⟩ := chunkAt_spec hc
      rw [Nat.sub_zero] at he
      obtain ⟨cs, hr, hx⟩ := exCols_spec hx
      obtain ⟨hcs, hx⟩ := bif_false hx
      have hcs := Nat.eq_of_beq_eq_true hcs
      rw [lenC_eq] at hcs
      obtain ⟨ob, hob, f, hcf, hf⟩ := rawTab_spec c he hr
      exact xapp_sound c ha hb hs ht0 ht1 hu hinf hz (Nat.le_of_ble_eq_true k1) (Nat.le_of_ble_eq_true k2) k3 k4 k5 hcf rfl hcs (fun d => run_firstCells_slice (o := ob) hob (fun i j hi hj => by rw [← hcs] at hj ⊢; exact hf i j hi hj) (by omega)) hx
    · exact hx.elim
  · rename_i o len cap _ _
    have hvx : vx = .slice o len cap := (hxx (by simp) []).symm
    subst hvx
    by_cases hl : len = 0
    · subst hl
      exact xapp00_sound c ha hb hs ht0 ht1 hu hinf (hx.1 rfl)
    obtain ⟨b, x0, rfl, hx2⟩ := hx.2 (by omega)
    clear hx
    split at hx2
    · rename_i nn L hc
      obtain ⟨-, he⟩ := chunkAt_spec hc
      rw [Nat.sub_zero] at he
      obtain ⟨cs, hr, hx2⟩ := exCols_spec hx2
      obtain ⟨hcs, hx2⟩ := bif_false hx2
      have hcs := Nat.eq_of_beq_eq_true hcs
      rw [lenC_eq] at hcs
      obtain ⟨ob, hob, f, hcf, hf⟩ := rawTab_spec c he hr
      exact xapp_sound c ha hb hs ht0 ht1 hu hinf hz (Nat.le_of_ble_eq_true k1) (Nat.le_of_ble_eq_true k2) k3 k4 k5 hcf rfl hcs (fun d => run_firstCells_slice (o := ob) hob (fun i j hi hj => by rw [← hcs] at hj ⊢; exact hf i j hi hj) (by omega)) hx2
    · exact hx2.elim
  obtain ⟨lit, n, cs, f, hx, hcf, hlen, hfirst⟩ := xsrc_spec c hxx hx
  obtain ⟨hcs, hx⟩ := bif_false hx
  have hcs := Nat.eq_of_beq_eq_true hcs
  rw [lenC_eq] at hcs
  exact xapp_sound c ha hb hs ht0 ht1 hu hinf hz (Nat.le_of_ble_eq_true k1) (Nat.le_of_ble_eq_true k2) k3 k4 k5 hcf hlen hcs (hfirst inf.size (by omega) hcs) hx

end
end Go.Sx
