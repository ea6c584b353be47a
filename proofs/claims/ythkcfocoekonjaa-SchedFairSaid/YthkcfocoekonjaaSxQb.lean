/- The loud operations, eighth part: copy. -/
import Derived.Test.YthkcfocoekonjaaSxQ
set_option linter.unusedVariables false
set_option linter.unusedSimpArgs false
namespace Go.Sx
open Classical

def putCol (o n : Nat) (c d : Col) (K : Col → Prop) : Prop :=
  match c, d with
  | .ints k xs, .ints k' ys => kSame k k' (K (.ints k (xs.take o ++ ys.take n ++ xs.drop (o + n))))
  | .bools xs, .bools ys => K (.bools (xs.take o ++ ys.take n ++ xs.drop (o + n)))
  | .raws xs, .raws ys => K (.raws (xs.take o ++ ys.take n ++ xs.drop (o + n)))
  | _, _ => False
def putCols (o n : Nat) : List Col → List Col → (List Col → Prop) → Prop
  | [], [], K => K []
  | c :: cs, d :: ds, K => putCol o n c d fun e => putCols o n cs ds fun es => K (e :: es)
  | _, _, _ => False

noncomputable def xcopy (P : Program) (h : List Ent) (ts : List TypeId) (d s : SV) (K : SV → List Ent → Prop) : Prop :=
  match ts with
  | [] => False
  | t :: _ => match P.underlying t with
    | some (.slice e) => (match P.info? e with
      | none => False
      | some inf => match d, s with
        | .slc m o dl _, .slc m' o' sl _ => (match entAt h m, entAt h m' with
          | some (.own b (.tab t' base N cols)), some e' => (match e'.blk with
            | none => False
            | some (_, k') => srcCols (locs h) k' o' sl fun cs => bif Nat.beq (lenC cols) inf.size && (Nat.beq (lenC cs) inf.size && Nat.ble 1 inf.size) then
                o + dl ≤ N ∧ putCols o (min sl dl) cols cs fun cols' => setK h m (.own b (.tab t' base N cols')) fun h' => K (.val (.int .i64 ((min sl dl : Nat) : Int))) h'
              else False)
          | _, _ => False)
        | .slc _ _ _ _, .val (.slice none 0 _) => K (.val (.int .i64 0)) h
        | .val (.slice none 0 _), .slc _ _ _ _ => K (.val (.int .i64 0)) h
        | .val (.slice none 0 _), .val (.slice none 0 _) => K (.val (.int .i64 0)) h
        | _, _ => False)
    | _ => False

section
variable {P : Program} {F : List (Nat × Blk)} {h : List Ent} {w : World} {K : SV → List Ent → Prop}

theorem getD_put' {α : Type} (xs ys : List α) (d : α) {o n N : Nat} (hx : xs.length = N) (hN : o + n ≤ N) (hy : n ≤ ys.length) (i : Nat) :
    (xs.take o ++ ys.take n ++ xs.drop (o + n)).getD i d = if o ≤ i ∧ i < o + n then ys.getD (i - o) d else xs.getD i d := by
  simp only [List.getD]
  congr 1
  rw [List.append_assoc]
  by_cases h1 : i < o
  · rw [List.getElem?_append_left (by simp; omega), if_neg (by omega), List.getElem?_take, if_pos h1]
  · rw [List.getElem?_append_right (by simp; omega)]
    have e1 : i - (xs.take o).length = i - o := by simp; omega
    rw [e1]
    by_cases h2 : i < o + n
    · rw [List.getElem?_append_left (by simp; omega), if_pos (by omega), List.getElem?_take, if_pos (by omega)]
    · rw [List.getElem?_append_right (by simp; omega), if_neg (by omega), List.getElem?_drop]
      have e2 : (ys.take n).length = n := by rw [List.length_take]; omega
      rw [e2, show o + n + (i - o - n) = i by omega]

theorem putCol_spec {o n N m : Nat} {c d : Col} {K : Col → Prop} (hx : putCol o n c d K) (hc : c.len = N) (hN : o + n ≤ N) (hd : d.len = m) (hm : n ≤ m) :
    ∃ e, K e ∧ e.len = N ∧ ∀ i, e.get i = if o ≤ i ∧ i < o + n then d.get (i - o) else c.get i := by
  have len' : ∀ {α : Type} (xs ys : List α), xs.length = N → ys.length = m → (xs.take o ++ ys.take n ++ xs.drop (o + n)).length = N := by
    intro α xs ys h1 h2
    simp
    omega
  unfold putCol at hx
  split at hx
  · rename_i k xs k' ys
    obtain ⟨rfl, hk⟩ := kSame_iff hx
    refine ⟨_, hk, len' xs ys hc hd, fun i => ?_⟩
    simp only [Col.get]
    rw [getD_put' xs ys 0 hc hN (by simp only [Col.len] at hd; omega)]
    split <;> rfl
  · rename_i xs ys
    refine ⟨_, hx, len' xs ys hc hd, fun i => ?_⟩
    simp only [Col.get]
    rw [getD_put' xs ys false hc hN (by simp only [Col.len] at hd; omega)]
    split <;> rfl
  · rename_i xs ys
    refine ⟨_, hx, len' xs ys hc hd, fun i => ?_⟩
    simp only [Col.get]
    rw [getD_put' xs ys .nilIface hc hN (by simp only [Col.len] at hd; omega)]
  · exact hx.elim

theorem putCols_spec {o n N m : Nat} (hN : o + n ≤ N) (hm : n ≤ m) : ∀ {cs ds : List Col} {K : List Col → Prop}, putCols o n cs ds K → (∀ c ∈ cs, c.len = N) → (∀ d ∈ ds, d.len = m) →
    ∃ es, K es ∧ es.length = cs.length ∧ ∀ (j : Nat) (e : Col), es[j]? = some e → ∃ c d, cs[j]? = some c ∧ ds[j]? = some d ∧ e.len = N ∧ ∀ i, e.get i = if o ≤ i ∧ i < o + n then d.get (i - o) else c.get i
  | [], [], K, hx, _, _ => ⟨[], hx, rfl, fun j e h => by simp at h⟩
  | [], _ :: _, _, hx, _, _ => hx.elim
  | _ :: _, [], _, hx, _, _ => hx.elim
  | c :: cs, d :: ds, K, hx, hc, hd => by
    obtain ⟨e, h1, h2, h3⟩ := putCol_spec hx (hc c (by simp)) hN (hd d (by simp)) hm
    obtain ⟨es, h4, h5, h6⟩ := putCols_spec hN hm h1 (fun c hc' => hc c (by simp [hc'])) (fun d hd' => hd d (by simp [hd']))
    refine ⟨_, h4, by simp [h5], fun j e' hj => ?_⟩
    cases j with
    | zero => simp at hj; subst hj; exact ⟨c, d, rfl, rfl, h2, h3⟩
    | succ j => exact h6 j e' (by simpa using hj)

/-- A window of a table is written. -/
theorem win_write (c : Ctx F h w) {m b base N : Nat} {t' : TypeId} {cols cols' : List Col} (he : entAt h m = some (.own b (.tab t' base N cols))) {o n : Nat} {g : Nat → Nat → Value}
    (hN : o + n ≤ N) (hw : 0 < cols.length) (hl : cols'.length = cols.length)
    (hget : ∀ (j : Nat) (e : Col), cols'[j]? = some e → ∃ c, cols[j]? = some c ∧ e.len = N ∧ ∀ i, i < N → e.get i = if o ≤ i ∧ i < o + n then g (i - o) j else c.get i)
    (hone : ∀ i j, i < n → j < cols.length → (g i j).oneCell' = true) :
    ∃ w', (storeCells ⟨b, (base + o) * cols.length, none⟩ (flatV g cols.length n)).run P w = .ok () w' ∧ Ctx F (h.set m (.own b (.tab t' base N cols'))) w' ∧ Rest w w' := by
  obtain ⟨⟨ob, hob, hk⟩, hloc⟩ := c.blk he rfl
  obtain ⟨arr, lo, hi, rfl, h1, h2, h3⟩ := hk []
  have hbo : (base + o) * cols.length = base * cols.length + o * cols.length := Nat.add_mul _ _ _
  by_cases hn0 : n = 0
  · subst hn0
    refine ⟨w, rfl, c.set (k' := .tab t' base N cols') he rfl (by simp [SBlk.wd, hl]) hob (fun r => ?_) (fun _ _ => rfl), Rest.refl w⟩
    refine ⟨arr, lo, hi, rfl, fun cc hm => ?_, fun i j cc hi' hj => ?_, fun y h6 h7 => h3 y (by rwa [hl] at h6) (by rwa [hl] at h7)⟩
    · obtain ⟨j, hj⟩ := List.getElem?_of_mem hm
      obtain ⟨cj, q1, q2, q3⟩ := hget j cc hj
      refine ⟨q2, fun i hi' => ?_⟩
      rw [q3 i hi', if_neg (by omega)]
      exact (h1 cj (List.mem_of_getElem? q1)).2 i hi'
    · obtain ⟨cj, q1, q2, q3⟩ := hget j cc hj
      rw [q3 i hi', if_neg (by omega), hl]
      exact h2 i j cj hi' q1
  · have hsz : (base + o) * cols.length + n * cols.length ≤ arr.size := by
      have := h2 (o + (n - 1)) (cols.length - 1) cols[cols.length - 1] (by omega) (List.getElem?_eq_getElem (by omega))
      have h6 := (Array.getElem?_eq_some_iff.1 this).1
      have h7 : (base + (o + (n - 1))) * cols.length = (base + o) * cols.length + (n - 1) * cols.length := by rw [← Nat.add_assoc, Nat.add_mul]
      have h8 : n * cols.length = (n - 1) * cols.length + cols.length := by
        obtain ⟨m, rfl⟩ : ∃ m, n = m + 1 := ⟨n - 1, by omega⟩
        rw [Nat.add_mul, Nat.one_mul]; simp
      omega
    obtain ⟨w', r1, r2, r3, r4⟩ := run_storeList (P := P) (x := (base + o) * cols.length) (flatV g cols.length n) arr 0 w hob (by rw [flatV_len]; exact hsz) (fun y h6 h7 => by
        rw [flatV_len, Nat.add_zero] at h7
        refine h3 y ?_ ?_
        · have : base * cols.length ≤ (base + o) * cols.length := Nat.mul_le_mul_right _ (by omega)
          omega
        · have : (base + o + n) * cols.length ≤ (base + N) * cols.length := Nat.mul_le_mul_right _ (by omega)
          rw [Nat.add_mul (base + o)] at this
          omega) (fun v hv => by
        obtain ⟨x, hx1⟩ := List.getElem?_of_mem hv
        have hxl := (List.getElem?_eq_some_iff.1 hx1).1
        rw [flatV_len] at hxl
        obtain ⟨i, j, rfl, hj⟩ := div_form (x := x) (wd := cols.length) (by omega)
        rw [flatV_get _ _ ((form_lt hj).1 hxl) hj] at hx1
        cases hx1
        exact hone i j ((form_lt hj).1 hxl) hj)
    rw [Nat.add_zero] at r2
    refine ⟨w', r1, c.set (k' := .tab t' base N cols') he rfl (by simp [SBlk.wd, hl]) r2 (fun r => ?_) r3, r4⟩
    have hle : (base + o) * cols.length + (flatV g cols.length n).length ≤ arr.size := by rw [flatV_len]; exact hsz
    refine ⟨_, lo, hi, rfl, fun cc hm => ?_, fun i j cc hi' hj => ?_, fun y h6 h7 => h3 y (by rwa [hl] at h6) (by rwa [hl] at h7)⟩
    · obtain ⟨j, hj⟩ := List.getElem?_of_mem hm
      obtain ⟨cj, q1, q2, q3⟩ := hget j cc hj
      have hjl : j < cols.length := (List.getElem?_eq_some_iff.1 q1).1
      refine ⟨q2, fun i hi' => ?_⟩
      rw [q3 i hi']
      split
      · exact hone _ j (by omega) hjl
      · exact (h1 cj (List.mem_of_getElem? q1)).2 i hi'
    · obtain ⟨cj, q1, q2, q3⟩ := hget j cc hj
      have hjl : j < cols.length := (List.getElem?_eq_some_iff.1 q1).1
      rw [q3 i hi', hl]
      have hidx : (base + i) * cols.length + j = base * cols.length + (i * cols.length + j) := by rw [Nat.add_mul, Nat.add_assoc]
      by_cases hin : o ≤ i ∧ i < o + n
      · rw [if_pos hin]
        have g1 : i * cols.length + j < (o + n) * cols.length := (form_lt hjl).2 hin.2
        have g2 : ¬ (i * cols.length + j < o * cols.length) := fun h => by have := (form_lt hjl).1 h; omega
        rw [Nat.add_mul] at g1
        rw [wrA_get _ _ _ _ hle, if_pos (by rw [hidx, flatV_len]; omega)]
        have hd : (base + i) * cols.length + j - (base + o) * cols.length = (i - o) * cols.length + j := by
          obtain ⟨d, rfl⟩ : ∃ d, i = o + d := ⟨i - o, by omega⟩
          rw [hidx, hbo, Nat.add_mul o, show o + d - o = d by omega]; omega
        rw [hd, flatV_get _ _ (by omega) hjl]
      · rw [if_neg hin, wrA_get _ _ _ _ hle, if_neg ?_]
        · exact h2 i j cj hi' q1
        · rw [flatV_len, hidx, hbo]
          intro hh
          have h6 : ¬ (i * cols.length + j < o * cols.length) := by omega
          have h7 : i * cols.length + j < (o + n) * cols.length := by rw [Nat.add_mul]; omega
          have h8 := (form_lt hjl).1 h7
          have h9 : ¬ i < o := fun h => h6 ((form_lt hjl).2 h)
          omega

theorem xcopy_sound (c : Ctx F h w) {ts : Array TypeId} {tt : TypeId} {args : Array Value} {d s : SV} {vd vs : Value} (ha : args[0]? = some vd) (hb : args[1]? = some vs)
    (hd : d ≠ .top → Std h d vd) (hs : s ≠ .top → Std h s vs) (hx : xcopy P h ts.toList d s K) : Loud P F h w K (do pure (.value (← Builtin.copy_ ts tt args))) := by
  unfold xcopy at hx
  split at hx
  · exact hx.elim
  rename_i t tr hts
  have ht0 : ts[0]? = some t := by rw [← Array.getElem?_toList, hts]; rfl
  split at hx
  rotate_left
  · exact hx.elim
  rename_i e hu
  split at hx
  · exact hx.elim
  rename_i inf hinf
  have none_ : ∀ (n1 n2 : Nat) (a1 a2 : Option Addr) (c1 c2 : Nat), vd = .slice a1 n1 c1 → vs = .slice a2 n2 c2 → Nat.min n2 n1 = 0 → K (.val (.int .i64 0)) h → Loud P F h w K (do pure (.value (← Builtin.copy_ ts tt args))) := by
    intro n1 n2 a1 a2 c1 c2 e1 e2 hm hk
    refine ⟨_, h, _, .int .i64 0, w, hk, Ext.refl h, c, Rest.refl w, fun _ r => rfl, ?_, .inl rfl⟩
    subst e1 e2
    cases a1 <;> cases a2 <;> simp [Builtin.copy_, ht0, ha, hb, run_underlying' hu, run_sizeOf' hinf, Builtin.lenOf, Builtin.firstCells, hm, loadCells, goInt, loadCellsFrom, storeCells]
  split at hx
  · rename_i m o dl dc m' o' sl sc
    split at hx
    rotate_left
    · exact hx.elim
    rename_i b t' base N cols e' he he'
    split at hx
    · exact hx.elim
    rename_i b' k' hb'
    obtain ⟨⟨ob', hob', hk'⟩, hloc'⟩ := c.blk he' hb'
    obtain ⟨cs, f, hx, h2, h3, h4⟩ := srcCols_spec hk' hx
    obtain ⟨hchk, hN, hx⟩ := bif_false hx
    simp only [Bool.and_eq_true] at hchk
    have q1 := Nat.eq_of_beq_eq_true hchk.1
    have q2 := Nat.eq_of_beq_eq_true hchk.2.1
    have q3 := Nat.le_of_ble_eq_true hchk.2.2
    rw [lenC_eq] at q1 q2
    obtain ⟨⟨ob, hob, hk⟩, hloc⟩ := c.blk he rfl
    have hvd : vd = .slice (some ⟨b, (base + o) * cols.length, none⟩) dl dc := by
      have := hd (by simp) []
      simp only [den, hloc []] at this
      exact this.symm
    have hvs : vs = .slice (some ⟨b', (k'.base + o') * k'.wd, none⟩) sl sc := by
      have := hs (by simp) []
      simp only [den, hloc' []] at this
      exact this.symm
    have hlenc : ∀ cc ∈ cols, cc.len = N := fun cc hm => by
      obtain ⟨arr, lo, hi, _, h1, _, _⟩ := hk []
      exact (h1 cc hm).1
    obtain ⟨cols', hx, hl, hget⟩ := putCols_spec (m := sl) (by omega) (Nat.min_le_left _ _) hx hlenc h3.len
    have hx := setK_spec hx
    have hwd : k'.wd = cols.length := by rw [← h2, q2, q1]
    obtain ⟨w', r1, r2, r3⟩ := win_write (P := P) (g := f) c he (cols' := cols') (o := o) (n := min sl dl) (by omega) (by omega) hl (fun j e'' hj => by
        obtain ⟨c1, d1, g1, g2, g3, g4⟩ := hget j e'' hj
        refine ⟨c1, g1, g3, fun i hi => ?_⟩
        rw [g4]
        split
        · exact h3.get _ j d1 (by omega) g2
        · rfl) (fun i j hi hj => h3.one i j (by omega) (by omega))
    refine ⟨_, _, _, .int .i64 ((min sl dl : Nat) : Int), w', hx, Ext.set he (by simp [Ent.loc, SBlk.base, SBlk.wd, hl]), r2, r3, fun _ r => rfl, ?_, .inl rfl⟩
    have hfc := run_firstCells_slice (P := P) (w := w) (b := b') (x := (k'.base + o') * k'.wd) (n := min sl dl) (m := sl) (c := sc) (wd := k'.wd) (f := f) hob' (fun i j hi hj => by
      have := h4 i j (by omega) hj
      rw [← this, Nat.add_mul (k'.base + o')]) (by omega)
    rw [hvd] at ha
    rw [hvs] at hb
    have hsz : inf.size = k'.wd := by omega
    simp only [Builtin.copy_, ht0, ha, hb, Sem.run_bind, run_underlying' hu, Result.andThen_ok, Builtin.lenOf, Sem.run_pure, run_sizeOf' hinf, hsz]
    have hmin : Nat.min sl dl = min sl dl := rfl
    rw [hmin, hfc]
    simp only [Result.andThen_ok]
    rw [hwd, r1]
    rfl
  · rename_i m o dl dc sc
    have e1 := hd (by simp) []
    have e2 := hs (by simp) []
    exact none_ _ _ _ _ _ _ e1.symm e2.symm (by simp) hx
  · have e1 := hd (by simp) []
    have e2 := hs (by simp) []
    exact none_ _ _ _ _ _ _ e1.symm e2.symm (by simp) hx
  · have e1 := hd (by simp) []
    have e2 := hs (by simp) []
    exact none_ _ _ _ _ _ _ e1.symm e2.symm (by simp) hx
  · exact hx.elim
end
end Go.Sx
