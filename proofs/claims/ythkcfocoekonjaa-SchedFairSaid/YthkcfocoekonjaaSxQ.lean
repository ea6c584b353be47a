/- The loud operations, seventh part: clear, make, a string as bytes. -/
import Derived.Test.YthkcfocoekonjaaSxP
set_option linter.unusedVariables false
set_option linter.unusedSimpArgs false
namespace Go.Sx
open Classical

def zeroWin (o len : Nat) (z : Value) : Col → Col
  | .ints k xs => .ints k (xs.take o ++ List.replicate len (match z with | .int _ n => n | _ => 0) ++ xs.drop (o + len))
  | .bools xs => .bools (xs.take o ++ List.replicate len (match z with | .bool b => b | _ => false) ++ xs.drop (o + len))
  | .raws xs => .raws (xs.take o ++ List.replicate len z ++ xs.drop (o + len))
def zeroWins (o len : Nat) : List Value → List Col → List Col
  | z :: zs, c :: cs => zeroWin o len z c :: zeroWins o len zs cs
  | _, _ => []
def repCol (n : Nat) : Value → Col
  | .int k z => .ints k (List.replicate n z)
  | .bool b => .bools (List.replicate n b)
  | v => .raws (List.replicate n v)
def repCols (n : Nat) : List Value → List Col
  | [] => []
  | v :: r => repCol n v :: repCols n r

def xclear (P : Program) (h : List Ent) (t : TypeId) (x : SV) (K : SV → List Ent → Prop) : Prop :=
  match P.underlying t with
  | some (.slice e) => (match P.info? e with
    | none => False
    | some inf => match inf.zero with
      | none => False
      | some z => match x with
        | .slc m o len _ => (match entAt h m with
          | some (.own b (.tab t' base N cols)) => bif zKinds z.cells.toList cols && Nat.ble 1 (lenC cols) then
              o + len ≤ N ∧ setK h m (.own b (.tab t' base N (zeroWins o len z.cells.toList cols))) fun h' => K (.tup []) h' else False
          | _ => False)
        | .val (.slice none _ _) => K (.tup []) h
        | _ => False)
  | _ => False

def xmakeSlice (P : Program) (h : List Ent) (t : TypeId) (l c : SV) (K : SV → List Ent → Prop) : Prop :=
  match P.underlying t with
  | some (.slice e) => (match P.info? e with
    | none => False
    | some inf => match inf.zero with
      | none => False
      | some z => bif Nat.beq (lenV z.cells.toList) inf.size && (Nat.ble 1 inf.size && (Nat.ble 1 inf.bytes && allOne z.cells.toList)) then (match l, c with
        | .val (.int _ l), .val (.int _ c) => (0 ≤ l ∧ l ≤ c ∧ c * (inf.bytes : Int) ≤ 140737488355328) ∧
            ∀ b, appK h (.own b (.tab e 0 c.toNat (repCols c.toNat z.cells.toList))) fun h' => K (.slc (lenE h) 0 l.toNat c.toNat) h'
        | _, _ => False) else False)
  | _ => False

def bytesI (s : ByteArray) : List Int := s.data.toList.map fun b => (b.toNat : Int)
def xbytes (P : Program) (h : List Ent) (src dst : TypeId) (x : SV) (K : SV → List Ent → Prop) : Prop :=
  match P.underlying src, P.underlying dst with
  | some .string, some (.slice e) => bif isU8 P e then (match x with
    | .val (.string s) => ∀ b cap', s.size ≤ cap' → ∀ sp : List Int, sp.length = cap' - s.size → appK h (.own b (.tab e 0 cap' [.ints .u8 (bytesI s ++ sp)])) fun h' => K (.slc (lenE h) 0 s.size cap') h'
    | _ => False) else False
  | _, _ => False

section
variable {P : Program} {F : List (Nat × Blk)} {h : List Ent} {w : World} {K : SV → List Ent → Prop}

theorem getD_zw {α : Type} (xs : List α) (d a : α) {o len : Nat} (hl : o + len ≤ xs.length) (i : Nat) :
    (xs.take o ++ List.replicate len a ++ xs.drop (o + len)).getD i d = if o ≤ i ∧ i < o + len then a else xs.getD i d := by
  simp only [List.getD]
  have ht : (xs.take o).length = o := by simp; omega
  rcases Nat.lt_or_ge i o with h1 | h1
  · rw [if_neg (by omega), List.append_assoc, List.getElem?_append_left (by omega), List.getElem?_take, if_pos h1]
  · rcases Nat.lt_or_ge i (o + len) with h2 | h2
    · rw [if_pos ⟨h1, h2⟩, List.append_assoc, List.getElem?_append_right (by omega), List.getElem?_append_left (by simp; omega), List.getElem?_replicate, if_pos (by omega)]
      rfl
    · rw [if_neg (by omega), List.append_assoc, List.getElem?_append_right (by omega), List.getElem?_append_right (by simp; omega), List.getElem?_drop]
      have : o + len + (i - (List.take o xs).length - (List.replicate len a).length) = i := by simp only [List.length_replicate]; omega
      rw [this]

theorem zeroWin_spec {o len : Nat} {z : Value} {c : Col} (hz : fitsC c z) (hl : o + len ≤ c.len) :
    (zeroWin o len z c).len = c.len ∧ ∀ i, (zeroWin o len z c).get i = if o ≤ i ∧ i < o + len then z else c.get i := by
  cases c with
  | ints k xs =>
    obtain ⟨n, rfl⟩ := hz
    simp only [Col.len] at hl
    refine ⟨by simp [zeroWin, Col.len]; omega, fun i => ?_⟩
    simp only [zeroWin, Col.get]
    rw [getD_zw xs 0 n hl i]
    split <;> rfl
  | bools xs =>
    obtain ⟨n, rfl⟩ := hz
    simp only [Col.len] at hl
    refine ⟨by simp [zeroWin, Col.len]; omega, fun i => ?_⟩
    simp only [zeroWin, Col.get]
    rw [getD_zw xs false n hl i]
    split <;> rfl
  | raws xs =>
    simp only [Col.len] at hl
    refine ⟨by simp [zeroWin, Col.len]; omega, fun i => ?_⟩
    simp only [zeroWin, Col.get]
    rw [getD_zw xs _ z hl i]

theorem zeroWins_get {o len : Nat} : ∀ {zs : List Value} {cs : List Col} {j : Nat} {c' : Col}, (zeroWins o len zs cs)[j]? = some c' → ∃ z c, zs[j]? = some z ∧ cs[j]? = some c ∧ c' = zeroWin o len z c
  | [], cs, j, c', hj => by simp [zeroWins] at hj
  | z :: zs, [], j, c', hj => by simp [zeroWins] at hj
  | z :: zs, c :: cs, 0, c', hj => by simp [zeroWins] at hj; exact ⟨z, c, rfl, rfl, hj.symm⟩
  | z :: zs, c :: cs, j + 1, c', hj => by
    obtain ⟨z', d, h1, h2, h3⟩ := zeroWins_get (zs := zs) (cs := cs) (j := j) (by simpa [zeroWins] using hj)
    exact ⟨z', d, by simpa using h1, by simpa using h2, h3⟩
theorem zeroWins_len {o len : Nat} : ∀ {zs : List Value} {cs : List Col}, zs.length = cs.length → (zeroWins o len zs cs).length = cs.length
  | [], [], _ => rfl
  | [], _ :: _, h => by simp at h
  | _ :: _, [], h => by simp at h
  | z :: zs, c :: cs, h => by simp [zeroWins, zeroWins_len (zs := zs) (cs := cs) (by simpa using h)]

theorem zKinds_one : ∀ {z : List Value} {cs : List Col}, zKinds z cs = true → ∀ v ∈ z, v.oneCell' = true
  | [], [], _ => by simp
  | [], _ :: _, h => by simp [zKinds] at h
  | v :: vs, [], h => by cases v <;> simp [zKinds] at h
  | v :: vs, c :: cs, h => by
    have key : zKinds vs cs = true → v.oneCell' = true → ∀ u ∈ v :: vs, u.oneCell' = true := by
      intro h1 h2 u hu
      rcases List.mem_cons.1 hu with rfl | hu
      · exact h2
      · exact zKinds_one h1 u hu
    cases c with
    | ints k xs => cases v <;> simp [zKinds] at h; exact key h.2 rfl
    | bools xs => cases v <;> simp [zKinds] at h; exact key h rfl
    | raws xs =>
      have : zKinds vs cs = true ∧ v.oneCell' = true := by
        cases v <;> simp [zKinds] at h <;> first | exact ⟨h.2, h.1⟩ | exact ⟨h, rfl⟩
      exact key this.1 this.2

theorem zeroCells_list {z : Array Value} (hz : 0 < z.size) (n : Nat) : (Builtin.zeroCells z n).toList = flatV (fun _ j => z[j]!) z.size n := by
  apply List.ext_getElem?
  intro y
  simp only [Builtin.zeroCells, Array.toList_map, Array.toList_range, List.getElem?_map]
  by_cases hy : y < n * z.size
  · obtain ⟨i, j, rfl, hj⟩ := div_form (x := y) hz
    rw [flatV_get _ _ ((form_lt hj).1 hy) hj, List.getElem?_range hy]
    simp [Nat.mul_comm i, Nat.mul_add_mod, Nat.mod_eq_of_lt hj]
  · rw [List.getElem?_eq_none (by simp; omega), List.getElem?_eq_none (by rw [flatV_len]; omega)]
    rfl

theorem xclear_sound (c : Ctx F h w) {t : TypeId} {x : SV} {vx : Value} {ts : Array TypeId} {tt : TypeId} {args : Array Value} (ht : ts[0]? = some t) (ha : args[0]? = some vx)
    (hv : x ≠ .top → Std h x vx) (hx : xclear P h t x K) : Loud P F h w K (do pure (.value (← Builtin.clear_ ts tt args))) := by
  unfold xclear at hx
  split at hx
  · rename_i e hu
    split at hx
    · exact hx.elim
    rename_i inf hinf
    split at hx
    · exact hx.elim
    rename_i z hz
    split at hx
    · rename_i m o len cap
      split at hx
      · rename_i b t' base N cols he
        obtain ⟨hb, hN, hx⟩ := bif_false hx
        simp only [Bool.and_eq_true] at hb
        have hc1 := Nat.le_of_ble_eq_true hb.2
        rw [lenC_eq] at hc1
        have hx := setK_spec hx
        obtain ⟨⟨ob, hob, hk⟩, hloc⟩ := c.blk he rfl
        obtain ⟨arr, lo, hi, rfl, h1, h2, h3⟩ := hk []
        obtain ⟨z1, z2⟩ := zKinds_spec hb.1
        have z3 := zKinds_one hb.1
        have hvx : vx = .slice (some ⟨b, (base + o) * cols.length, none⟩) len cap := by
          have := hv (by simp) []
          simp only [den, hloc []] at this
          exact this.symm
        subst hvx
        have hzl : z.cells.size = cols.length := by simpa using z1
        have hz' : (zeroValue e).run P w = .ok z w := by simp [zeroValue, run_typeInfo' hinf, hz]
        have hzj : ∀ j, j < cols.length → z.cells.toList[j]? = some z.cells[j]! := fun j hj => by
          have : z.cells.toList[j]? = some (z.cells.toList[j]'(by simp; omega)) := List.getElem?_eq_getElem _
          rw [this, get_bang this]
        have hsz : len = 0 ∨ (base + o) * cols.length + len * cols.length ≤ arr.size := by
          by_cases hl : len = 0
          · exact .inl hl
          · right
            have := h2 (o + (len - 1)) (cols.length - 1) cols[cols.length - 1] (by omega) (List.getElem?_eq_getElem (by omega))
            have h6 := (Array.getElem?_eq_some_iff.1 this).1
            have h7 : (base + (o + (len - 1))) * cols.length = (base + o) * cols.length + (len - 1) * cols.length := by rw [← Nat.add_assoc, Nat.add_mul]
            have h8 : len * cols.length = (len - 1) * cols.length + cols.length := by
              obtain ⟨m, rfl⟩ : ∃ m, len = m + 1 := ⟨len - 1, by omega⟩
              rw [Nat.add_mul, Nat.one_mul]; simp
            omega
        obtain ⟨w', e1, e2, e3, e4⟩ : ∃ w', (Builtin.clear_ ts tt args).run P w = .ok (.tuple #[]) w' ∧
            w'.heap[b]? = some (.cells (wrA arr ((base + o) * cols.length) (flatV (fun _ j => z.cells[j]!) cols.length len)) t' (lo, hi)) ∧ (∀ y, y ≠ b → w'.heap[y]? = w.heap[y]?) ∧ Rest w w' := by
          rcases hsz with rfl | hsz
          · refine ⟨w, ?_, by simpa [flatV, wrA] using hob, fun _ _ => rfl, Rest.refl w⟩
            simp [Builtin.clear_, ht, ha, run_underlying' hu]
          · by_cases hl : len = 0
            · subst hl
              refine ⟨w, ?_, by simpa [flatV, wrA] using hob, fun _ _ => rfl, Rest.refl w⟩
              simp [Builtin.clear_, ht, ha, run_underlying' hu]
            · obtain ⟨w', r1, r2, r3, r4⟩ := run_storeList (P := P) (x := (base + o) * cols.length) (flatV (fun _ j => z.cells[j]!) cols.length len) arr 0 w hob (by rw [flatV_len]; exact hsz) (fun y h6 h7 => by
                rw [flatV_len, Nat.add_zero] at h7
                refine h3 y ?_ ?_
                · have : base * cols.length ≤ (base + o) * cols.length := Nat.mul_le_mul_right _ (by omega)
                  omega
                · have : (base + o + len) * cols.length ≤ (base + N) * cols.length := Nat.mul_le_mul_right _ (by omega)
                  rw [Nat.add_mul (base + o)] at this
                  omega) (fun v hv => by
                obtain ⟨x, hx1⟩ := List.getElem?_of_mem hv
                have hxl := (List.getElem?_eq_some_iff.1 hx1).1
                rw [flatV_len] at hxl
                obtain ⟨i, j, rfl, hj⟩ := div_form (x := x) (wd := cols.length) (by omega)
                rw [flatV_get _ _ ((form_lt hj).1 hxl) hj] at hx1
                cases hx1
                exact z3 _ (List.mem_of_getElem? (hzj j hj)))
              refine ⟨w', ?_, by simpa using r2, r3, r4⟩
              obtain ⟨l, rfl⟩ : ∃ l, len = l + 1 := ⟨len - 1, by omega⟩
              simp only [Builtin.clear_, ht, ha, Sem.run_bind, run_underlying' hu, Result.andThen_ok, hz', zeroCells_list (z := z.cells) (by omega), hzl, r1, Sem.run_pure]
        refine ⟨_, _, _, .tuple #[], w', hx, Ext.set he (by simp [Ent.loc, SBlk.base, SBlk.wd, zeroWins_len (zs := z.cells.toList) z1]), c.set (k' := .tab t' base N (zeroWins o len z.cells.toList cols)) he rfl (by simp [SBlk.wd, zeroWins_len (zs := z.cells.toList) z1]) e2 (fun r => ?_) e3, e4, fun _ r => rfl, ?_, .inl rfl⟩
        · refine ⟨_, lo, hi, rfl, fun cc hm => ?_, fun i j cc hi' hj => ?_, fun y h6 h7 => h3 y (by rwa [zeroWins_len (zs := z.cells.toList) z1] at h6) (by rwa [zeroWins_len (zs := z.cells.toList) z1] at h7)⟩
          · obtain ⟨j, hj⟩ := List.getElem?_of_mem hm
            obtain ⟨zj, cj, q1, q2, rfl⟩ := zeroWins_get hj
            obtain ⟨v, q3, q4⟩ := z2 j cj q2
            rw [q1] at q3
            cases q3
            have hcl := h1 cj (List.mem_of_getElem? q2)
            obtain ⟨q5, q6⟩ := zeroWin_spec (o := o) (len := len) q4 (by rw [hcl.1]; exact hN)
            refine ⟨by rw [q5]; exact hcl.1, fun i hi' => ?_⟩
            rw [q6]
            split
            · exact z3 _ (List.mem_of_getElem? q1)
            · exact hcl.2 i hi'
          · obtain ⟨zj, cj, q1, q2, rfl⟩ := zeroWins_get hj
            obtain ⟨v, q3, q4⟩ := z2 j cj q2
            rw [q1] at q3
            cases q3
            have hcl := h1 cj (List.mem_of_getElem? q2)
            obtain ⟨q5, q6⟩ := zeroWin_spec (o := o) (len := len) q4 (by rw [hcl.1]; exact hN)
            have hjl : j < cols.length := (List.getElem?_eq_some_iff.1 q2).1
            rw [q6, zeroWins_len (zs := z.cells.toList) z1]
            have hidx : (base + i) * cols.length + j = base * cols.length + (i * cols.length + j) := by rw [Nat.add_mul, Nat.add_assoc]
            have hbo : (base + o) * cols.length = base * cols.length + o * cols.length := Nat.add_mul _ _ _
            by_cases hin : o ≤ i ∧ i < o + len
            · rw [if_pos hin]
              have hle : (base + o) * cols.length + (flatV (fun _ j => z.cells[j]!) cols.length len).length ≤ arr.size := by
                rw [flatV_len]; rcases hsz with h | h <;> omega
              have g1 : i * cols.length + j < (o + len) * cols.length := (form_lt hjl).2 hin.2
              have g2 : ¬ (i * cols.length + j < o * cols.length) := fun h => by have := (form_lt hjl).1 h; omega
              rw [Nat.add_mul] at g1
              rw [wrA_get _ _ _ _ hle, if_pos (by rw [hidx, flatV_len]; omega)]
              have hd : (base + i) * cols.length + j - (base + o) * cols.length = (i - o) * cols.length + j := by
                obtain ⟨d, rfl⟩ : ∃ d, i = o + d := ⟨i - o, by omega⟩
                rw [hidx, hbo, Nat.add_mul o, show o + d - o = d by omega]; omega
              rw [hd, flatV_get _ _ (by omega) hjl]
              have := hzj j hjl
              rw [q1] at this
              exact this.symm
            · rw [if_neg hin]
              rcases hsz with hl0 | hsz
              · subst hl0
                simp only [flatV, wrA]
                exact h2 i j cj hi' q2
              · have hle : (base + o) * cols.length + (flatV (fun _ j => z.cells[j]!) cols.length len).length ≤ arr.size := by
                  rw [flatV_len]; exact hsz
                rw [wrA_get _ _ _ _ hle, if_neg ?_]
                · exact h2 i j cj hi' q2
                · rw [flatV_len, hidx, hbo]
                  intro hh
                  apply hin
                  have g1 : i * cols.length + j < (o + len) * cols.length := by rw [Nat.add_mul]; omega
                  have g2 : ¬ (i * cols.length + j < o * cols.length) := by omega
                  exact ⟨by rcases Nat.lt_or_ge i o with h | h; exact absurd ((form_lt hjl).2 h) g2; exact h, (form_lt hjl).1 g1⟩
        · simp only [Sem.run_bind, e1, Result.andThen_ok, Sem.run_pure]
      · exact hx.elim
    · have hvx : vx = _ := (hv (by simp) []).symm
      subst hvx
      refine ⟨_, _, _, .tuple #[], w, hx, Ext.refl _, c, Rest.refl _, fun _ r => rfl, ?_, .inl rfl⟩
      simp [Builtin.clear_, ht, ha, run_underlying' hu, den]
    · exact hx.elim
  · exact hx.elim

theorem repCol_spec (n : Nat) (v : Value) : (repCol n v).len = n ∧ ∀ i, i < n → (repCol n v).get i = v := by
  cases v <;> refine ⟨by simp [repCol, Col.len], fun i hi => ?_⟩ <;> simp [repCol, Col.get, List.getD, hi]
theorem repCols_eq (n : Nat) : ∀ l : List Value, repCols n l = l.map (repCol n)
  | [] => rfl
  | _ :: r => by simp [repCols, repCols_eq n r]

theorem repTab_holds {e : TypeId} {z : Array Value} {n : Nat} (hz : 0 < z.size) (ho : allOne z.toList = true) (ρ : List Loc) :
    ((SBlk.tab e 0 n (repCols n z.toList)).den ρ).holds (.cells ((Array.range (n * z.size)).map (z[· % z.size]!)) e (0, 0)) := by
  refine ⟨_, 0, 0, rfl, fun c hm => ?_, fun i j c hi hj => ?_, fun x _ hx => by omega⟩
  · rw [repCols_eq] at hm
    obtain ⟨v, hv, rfl⟩ := List.mem_map.1 hm
    obtain ⟨h1, h2⟩ := repCol_spec n v
    exact ⟨h1, fun i hi => by rw [h2 i hi]; exact allOne_spec ho v hv⟩
  · rw [repCols_eq, List.getElem?_map] at hj
    cases hv : z.toList[j]? with
    | none => rw [hv] at hj; cases hj
    | some v =>
      rw [hv] at hj
      simp at hj
      subst hj
      rw [(repCol_spec n v).2 i hi]
      have hjl : j < z.size := by simpa using (List.getElem?_eq_some_iff.1 hv).1
      have hlen : (repCols n z.toList).length = z.size := by rw [repCols_eq]; simp
      rw [hlen, Nat.zero_add, Array.getElem?_map, Array.getElem?_range, if_pos ((form_lt hjl).2 hi)]
      simp only [Option.map_some, Nat.mul_comm i, Nat.mul_add_mod, Nat.mod_eq_of_lt hjl]
      rw [get_bang hv]

theorem xmakeSlice_sound (c : Ctx F h w) {t : TypeId} {l cp : SV} {vl vc : Value} (hl : l ≠ .top → Std h l vl) (hc : cp ≠ .top → Std h cp vc) (hx : xmakeSlice P h t l cp K) :
    Loud P F h w K (do pure (.value (← Instr.makeSlice t vl vc))) := by
  unfold xmakeSlice at hx
  split at hx
  · rename_i e hu
    split at hx
    · exact hx.elim
    rename_i inf hinf
    split at hx
    · exact hx.elim
    rename_i z hz
    obtain ⟨hb, hx1⟩ := bif_false hx
    clear hx
    simp only [Bool.and_eq_true] at hb
    obtain ⟨k1, k2, k3, k4⟩ := hb
    have k1 := Nat.eq_of_beq_eq_true k1
    have k2 := Nat.le_of_ble_eq_true k2
    have k3 := Nat.le_of_ble_eq_true k3
    rw [lenV_eq, Array.length_toList] at k1
    split at hx1
    · rename_i kl l kc cp
      obtain ⟨⟨h1, h2, h3⟩, hx2⟩ := hx1
      have e1 : vl = .int kl l := (hl (by simp) []).symm
      have e2 : vc = .int kc cp := (hc (by simp) []).symm
      subst e1 e2
      have hz' : ∀ w, (zeroValue e).run P w = .ok z w := fun w => by simp [zeroValue, run_typeInfo' hinf, hz]
      have hcp : cp ≤ 140737488355328 := by
        have : cp * 1 ≤ cp * (inf.bytes : Int) := Int.mul_le_mul_of_nonneg_left (by omega) (by omega)
        omega
      have wr : ∀ x : Int, 0 ≤ x → x ≤ 140737488355328 → IntKind.i64.wrap x = x := fun x h0 h1 => by
        unfold IntKind.wrap IntKind.bits IntKind.signed
        simp only [Bool.true_and]
        rw [Int.emod_eq_of_lt h0 (by omega)]
        rw [if_neg (by simp; omega)]
      have hbig : ¬ ((inf.bytes : Int) * cp > 2 ^ 48) := by rw [Int.mul_comm]; omega
      refine push_loud (o := .cells ((Array.range (cp.toNat * z.cells.size)).map (z.cells[· % z.cells.size]!)) e) (v := .slice (some ⟨w.heap.size, 0, none⟩) l.toNat cp.toNat) c (fun r => repTab_holds (by omega) k4 _) hx2 (fun r => ?_) ?_
      · simp only [den, loc_new, SBlk.base]; simp
      · have t1 : ¬ cp < 0 := by omega
        have t2 : ¬ l < 0 := by omega
        have t3 : ¬ l > cp := by omega
        simp only [Instr.makeSlice, Sem.run_bind, run_underlying' hu, Result.andThen_ok, asInt, asIntOf, Sem.run_pure, run_typeInfo' hinf, wr l h1 (by omega), wr cp (by omega) hcp]
        simp only [t1, t2, t3, hbig, decide_false, Bool.or_false, Bool.false_eq_true, if_false, Sem.run_bind, run_askRoom, Result.andThen_ok, run_sizeOf' hinf, ← k1]
        by_cases h0 : cp.toNat * z.cells.size = 0
        · simp only [h0, if_true, Sem.run_pure, Result.andThen_ok, newRow, Sem.run_bind, run_newObj]
          rw [show Array.range 0 = #[] from rfl, Array.map_empty, Array.map_empty]
        · simp only [h0, if_false, Sem.run_bind, hz', Sem.run_pure, Result.andThen_ok, newRow, run_newObj]
    · exact hx1.elim
  · exact hx.elim

theorem modify_push {α : Type} (a : Array α) (x : α) (f : α → α) : (a.push x).modify a.size f = a.push (f x) := by
  apply Array.ext_getElem?
  intro i
  rw [Array.getElem?_modify, Array.getElem?_push, Array.getElem?_push]
  by_cases h : i = a.size
  · subst h; simp
  · rw [if_neg (Ne.symm h), if_neg h, if_neg h]

theorem xbytes_sound (c : Ctx F h w) {src dst : TypeId} {x : SV} {v : Value} (hv : x ≠ .top → Std h x v) (hx : xbytes P h src dst x K) : Loud P F h w K (do pure (.value (← convert src dst v))) := by
  unfold xbytes at hx
  split at hx
  · rename_i e hs hd
    obtain ⟨hu8, hx1⟩ := bif_false hx
    clear hx
    have hu8 := isU8_spec hu8
    split at hx1
    · rename_i s
      have hv' : v = .string s := (hv (by simp) []).symm
      subst hv'
      obtain ⟨cap, hcap, hch⟩ : ∃ cap, s.size ≤ cap ∧ (choose (.appendCap s.size 0 e)).run P w = .ok cap { w with drawn := w.drawn + 1 } := ⟨_, Nat.le_add_right _ _, by rw [run_choose]; rfl⟩
      have hx := appK_iff (hx1 w.heap.size cap hcap (List.replicate (cap - s.size) 0) (by simp))
      have hlen : ∀ (a : Array Value), a.size = (s.data.map fun (b : UInt8) => Value.int .u8 (b.toNat : Int)).size + (cap - s.size) → a.size = cap := fun a h => by
        rw [h]; simp; have : s.size = s.data.size := rfl; omega
      have hrun : (convert src dst (.string s)).run P w = .ok (.slice (some ⟨w.heap.size, 0, none⟩) s.size cap)
          { w with drawn := w.drawn + 1, heap := w.heap.push (.cells ((s.data.map fun (b : UInt8) => Value.int .u8 (b.toNat : Int)) ++ Array.replicate (cap - s.size) (Value.int .u8 0)) e (cap, cap + 1)) } := by
        have hsz : ((s.data.map fun (b : UInt8) => Value.int .u8 (b.toNat : Int)) ++ Array.replicate (cap - s.size) (Value.int .u8 0)).size = cap := hlen _ (by simp)
        simp only [convert, Sem.run_bind, run_underlying' hs, run_underlying' hd, run_underlying' hu8, Result.andThen_ok, Conv.stringToBytes, hch, newRow, run_newObj, Sem.run_pure, markStringish, run_shape]
        simp only [World.shape?, Array.getElem?_push_size, hsz, Sem.run_bind, run_freeze, Result.andThen_ok, Sem.run_pure]
        have hcs : s.size + (cap - s.size) = cap := by omega
        simp only [World.freeze, Nat.one_ne_zero, if_false, modify_push]
        simp
      refine ⟨_, _, _, .slice (some ⟨w.heap.size, 0, none⟩) s.size cap, _, hx, Ext.app _ _, (c.drew (w.drawn + 1)).push (o := .cells ((s.data.map fun (b : UInt8) => Value.int .u8 (b.toNat : Int)) ++ Array.replicate (cap - s.size) (Value.int .u8 0)) e (cap, cap + 1)) (fun r => ?_), ⟨rfl, rfl, rfl, by simp⟩, fun _ r => ?_, by simp only [Sem.run_bind, hrun, Result.andThen_ok, Sem.run_pure], .inl rfl⟩
      · have hss : s.size = s.data.size := rfl
        have hl : (bytesI s ++ List.replicate (cap - s.size) 0).length = cap := by simp [bytesI]; omega
        refine ⟨_, cap, cap + 1, rfl, fun cc hm => ?_, fun i j cc hi hj => ?_, fun x _ hx => by simp at hx; omega⟩
        · simp at hm; subst hm; exact ⟨hl, fun i _ => rfl⟩
        · cases j with
          | succ j => simp at hj
          | zero =>
            simp at hj; subst hj
            simp only [List.length_singleton, Nat.zero_add, Nat.mul_one, Nat.add_zero, Col.get]
            by_cases hin : i < s.data.size
            · rw [Array.getElem?_append_left (by simpa using hin), getD_app1 _ _ _ (by simpa [bytesI] using hin)]
              have e1 : s.data[i]? = some s.data[i] := Array.getElem?_eq_getElem hin
              simp [bytesI, List.getD, e1]
            · rw [Array.getElem?_append_right (by simp; omega)]
              have : (bytesI s ++ List.replicate (cap - s.size) 0).getD i 0 = 0 := by
                have := getD_app2 (bytesI s) (List.replicate (cap - s.size) 0) 0 (i - s.data.size)
                rw [show (bytesI s).length + (i - s.data.size) = i by simp [bytesI]; omega] at this
                rw [this]
                simp [List.getD, List.getElem?_replicate]
                split <;> rfl
              rw [this]
              have hd : i - s.size < cap - s.size := by omega
              simp [Array.getElem?_replicate, hd]
      · simp only [den, loc_new, SBlk.base]; simp
    · exact hx1.elim
  · exact hx.elim

/-- A list of bytes that was written out as constants, turned into its own type: the block is marked behind its last cell. -/
noncomputable def xmark (P : Program) (h : List Ent) (src dst : TypeId) (x : SV) (K : SV → List Ent → Prop) : Prop :=
  match P.underlying src, P.underlying dst with
  | some (.slice _), some (.slice e) => bif Nat.beq src dst && isU8 P e then (match x with
    | .slc n o len cap => (match entAt h n with
      | some (.own b (.cells wd l t)) => bif Nat.beq wd 1 then srcCols (locs h) (.cells 1 l t) 0 (lenS l) fun cols => setK h n (.own b (.tab t 0 (lenS l) cols)) fun h' => K (.slc n o len cap) h' else False
      | _ => False)
    | _ => False) else False
  | _, _ => False

theorem lenS_len : ∀ l : List SV, lenS l = l.length
  | [] => rfl
  | _ :: r => by simp [lenS, lenS_len r]

theorem xmark_sound (c : Ctx F h w) {src dst : TypeId} {x : SV} {v : Value} (hv : x ≠ .top → Std h x v) (hx : xmark P h src dst x K) : Loud P F h w K (do pure (.value (← convert src dst v))) := by
  unfold xmark at hx
  split at hx
  · rename_i e0 e hs hd
    obtain ⟨hb, hx1⟩ := bif_false hx
    clear hx
    simp only [Bool.and_eq_true] at hb
    have hsd := Nat.eq_of_beq_eq_true hb.1
    have hu8 := isU8_spec hb.2
    split at hx1
    · rename_i n o len cap
      split at hx1
      · rename_i b wd l t he
        obtain ⟨hw1, hx⟩ := bif_false hx1
        clear hx1
        have := Nat.eq_of_beq_eq_true hw1
        subst this
        obtain ⟨⟨ob, hob, hk⟩, hloc⟩ := c.blk he rfl
        obtain ⟨cols, f, k1, k2, k3, k4⟩ := srcCols_spec hk hx
        have k1 := setK_spec k1
        have hv' : v = .slice (some ⟨b, (0 + o) * 1, none⟩) len cap := by
          have := hv (by simp) []
          simp only [den, hloc [], SBlk.base, SBlk.wd] at this
          exact this.symm
        have hobj : ob = .cells (denL (locs h) l).toArray t (0, 0) := by have := hk []; simpa [SBlk.den, Blk.holds] using this
        have hsize : (denL (locs h) l).toArray.size = l.length := by simp [denL_eq]
        let N := l.length
        let w' : World := { w with heap := w.heap.modify b fun | .cells c elem (lo, hi) => .cells c elem (if lo == hi then (N, N + 1) else (min lo N, max hi (N + 1))) | o => o }
        have hw' : w'.heap[b]? = some (.cells (denL (locs h) l).toArray t (N, N + 1)) := by
          simp only [w', Array.getElem?_modify, if_true, hob, Option.map_some, hobj]
          simp
        have hrun : (convert src dst v).run P w = .ok v w' := by
          subst hv' hsd
          have hsh : w.shape? b = some (t, N) := by simp only [World.shape?, hob, hobj]; simp [denL_eq, N]
          simp only [convert, Sem.run_bind, run_underlying' hs, run_underlying' hu8, Result.andThen_ok]
          rw [hs] at hd
          cases hd
          simp only [run_underlying' hu8, Result.andThen_ok, beq_self_eq_true, markStringish, Sem.run_bind, run_shape, hsh, run_freeze, Sem.run_pure, World.freeze, Nat.one_ne_zero, if_false]
          rfl
        refine ⟨_, _, _, v, w', k1, Ext.set he (by simp [Ent.loc, SBlk.base, SBlk.wd, k2]), c.set (k' := .tab t 0 (lenS l) cols) he rfl (by simp [SBlk.wd, k2]) hw' (fun r => ?_) (fun y hy => ?_), ⟨rfl, rfl, rfl, by simp [w']⟩, fun _ => ?_, by simp only [Sem.run_bind, hrun, Result.andThen_ok, Sem.run_pure], .inl rfl⟩
        · refine ⟨_, _, _, rfl, fun cc hm => ?_, fun i j cc hi hj => ?_, fun x _ hx => ?_⟩
          · rw [lenS_len]
            refine ⟨by rw [k3.len cc hm, lenS_len], fun i hi => ?_⟩
            obtain ⟨j, hj⟩ := List.getElem?_of_mem hm
            rw [k3.get i j cc (by rw [lenS_len]; exact hi) hj]
            exact k3.one i j (by rw [lenS_len]; exact hi) (List.getElem?_eq_some_iff.1 hj).1
          · have hj' := (List.getElem?_eq_some_iff.1 hj).1
            have := k4 i j hi (by rw [← k2]; exact hj')
            rw [k3.get i j cc hi hj]
            rw [hobj] at this
            simp only [objCell, SBlk.base, SBlk.wd, Nat.zero_add] at this
            rw [k2]
            simpa [SBlk.wd] using this
          · rw [k2, lenS_len] at hx
            simp only [SBlk.wd, Nat.zero_add, Nat.mul_one] at hx
            simp only [N]
            omega
        · simp only [w', Array.getElem?_modify]
          rw [if_neg (Ne.symm hy)]
        · exact (hv (by simp)).ext (Ext.set he (by simp [Ent.loc, SBlk.base, SBlk.wd, k2]))
      · exact hx1.elim
    · exact hx1.elim
  · exact hx.elim

end
end Go.Sx
