/- The loud operations, seventh part: clear, make, a string as bytes. -/
import Derived.Test.YtpjikjhaljennaaSxP
import Derived.Lib.AppendZerosOnto
import Derived.Laws.AppendOwn
import Derived.Lib.Overlaps
set_option linter.unusedVariables false
set_option linter.unusedSimpArgs false
namespace Go.Sx
open Classical

def zeroWin (o len : Nat) (z : Value) : Col → Col
  | .ints k xs => .ints k (xs.take o ++ List.replicate len (match z with | .int _ n => n | _ => 0) ++ xs.drop (o + len))
  | .bools xs => .bools (xs.take o ++ List.replicate len (match z with | .bool b => b | _ => false) ++ xs.drop (o + len))
  | .raws xs => .raws (xs.take o ++ List.replicate len z ++ xs.drop (o + len))
def zeroWins (o len : Nat) : List Value → List Col → List Col
  | z :: zs, c :: cs => zeroWin o len z c :: zeroWins o len zs cs
  | _, _ => []
def repCol (n : Nat) : Value → Col
  | .int k z => .ints k (List.replicate n z)
  | .bool b => .bools (List.replicate n b)
  | v => .raws (List.replicate n v)
def repCols (n : Nat) : List Value → List Col
  | [] => []
  | v :: r => repCol n v :: repCols n r

def xclear (P : Program) (h : List Ent) (t : TypeId) (x : SV) (K : SV → List Ent → Prop) : Prop :=
  match P.underlying t with
  | some (.slice e) => (match P.info? e with
    | none => False
    | some inf => match inf.zero with
      | none => False
      | some z => match x with
        | .slc m o len _ => (match entAt h m with
          | some (.own b (.tab t' base N cols)) => bif zKinds z.cells.toList cols && Nat.ble 1 (lenC cols) then
              o + len ≤ N ∧ setK h m (.own b (.tab t' base N (zeroWins o len z.cells.toList cols))) fun h' => K (.tup []) h' else False
          | _ => False)
        | .val (.slice none _ _) => K (.tup []) h
        | _ => False)
  | _ => False

def xmakeSlice (P : Program) (h : List Ent) (t : TypeId) (l c : SV) (K : SV → List Ent → Prop) : Prop :=
  match P.underlying t with
  | some (.slice e) => (match P.info? e with
    | none => False
    | some inf => match inf.zero with
      | none => False
      | some z => bif Nat.beq (lenV z.cells.toList) inf.size && (Nat.ble 1 inf.size && (Nat.ble 1 inf.bytes && allOne z.cells.toList)) then (match l, c with
        | .val (.int _ l), .val (.int _ c) => (0 ≤ l ∧ l ≤ c ∧ c * (inf.bytes : Int) ≤ 140737488355328) ∧
            ∀ b, appK h (.own b (.tab e 0 c.toNat (repCols c.toNat z.cells.toList))) fun h' => K (.slc (lenE h) 0 l.toNat c.toNat) h'
        | _, _ => False) else False)
  | _ => False

def bytesI (s : ByteArray) : List Int := s.data.toList.map fun b => (b.toNat : Int)
def xbytes (P : Program) (h : List Ent) (src dst : TypeId) (x : SV) (K : SV → List Ent → Prop) : Prop :=
  match P.underlying src, P.underlying dst with
  | some .string, some (.slice e) => bif isU8 P e then (match x with
    | .val (.string s) => ∀ b cap', s.size ≤ cap' → ∀ sp : List Int, sp.length = cap' - s.size → appK h (.own b (.tab e 0 cap' [.ints .u8 (bytesI s ++ sp)])) fun h' => K (.slc (lenE h) 0 s.size cap') h'
    | _ => False) else False
  | _, _ => False

section
variable {P : Program} {F : List (Nat × Blk)} {h : List Ent} {w : World} {K : SV → List Ent → Prop}

theorem getD_zw {α : Type} (xs : List α) (d a : α) {o len : Nat} (hl : o + len ≤ xs.length) (i : Nat) :
    (xs.take o ++ List.replicate len a ++ xs.drop (o + len)).getD i d = if o ≤ i ∧ i < o + len then a else xs.getD i d := by
  simp only [List.getD]
  have ht : (xs.take o).length = o := by simp; omega
  rcases Nat.lt_or_ge i o with h1 | h1
  · rw [if_neg (by omega), List.append_assoc, List.getElem?_append_left (by omega), List.getElem?_take, if_pos h1]
  · rcases Nat.lt_or_ge i (o + len) with h2 | h2
    · rw [if_pos ⟨h1, h2⟩, List.append_assoc, List.getElem?_append_right (by omega), List.getElem?_append_left (by simp; omega), List.getElem?_replicate, if_pos (by omega)]
      rfl
    · rw [if_neg (by omega), List.append_assoc, List.getElem?_append_right (by omega), List.getElem?_append_right (by simp; omega), List.getElem?_drop]
      have : o + len + (i - (List.take o xs).length - (List.replicate len a).length) = i := by simp only [List.length_replicate]; omega
      rw [this]

theorem zeroWin_spec {o len : Nat} {z : Value} {c : Col} (hz : fitsC c z) (hl : o + len ≤ c.len) :
    (zeroWin o len z c).len = c.len ∧ ∀ i, (zeroWin o len z c).get i = if o ≤ i ∧ i < o + len then z else c.get i := by
  cases c with
  | ints k xs =>
    obtain ⟨n, rfl⟩ := hz
    simp only [Col.len] at hl
    refine ⟨by simp [zeroWin, Col.len]; omega, fun i => ?_⟩
    simp only [zeroWin, Col.get]
    rw [getD_zw xs 0 n hl i]
    split <;> rfl
  | bools xs =>
    obtain ⟨n, rfl⟩ := hz
    simp only [Col.len] at hl
    refine ⟨by simp [zeroWin, Col.len]; omega, fun i => ?_⟩
    simp only [zeroWin, Col.get]
    rw [getD_zw xs false n hl i]
    split <;> rfl
  | raws xs =>
    simp only [Col.len] at hl
    refine ⟨by simp [zeroWin, Col.len]; omega, fun i => ?_⟩
    simp only [zeroWin, Col.get]
    rw [getD_zw xs _ z hl i]

theorem zeroWins_get {o len : Nat} : ∀ {zs : List Value} {cs : List Col} {j : Nat} {c' : Col}, (zeroWins o len zs cs)[j]? = some c' → ∃ z c, zs[j]? = some z ∧ cs[j]? = some c ∧ c' = zeroWin o len z c
  | [], cs, j, c', hj => by simp [zeroWins] at hj
  | z :: zs, [], j, c', hj => by simp [zeroWins] at hj
  | z :: zs, c :: cs, 0, c', hj => by simp [zeroWins] at hj; exact ⟨z, c, rfl, rfl, hj.symm⟩
  | z :: zs, c :: cs, j + 1, c', hj => by
    obtain ⟨z', d, h1, h2, h3⟩ := zeroWins_get (zs := zs) (cs := cs) (j := j) (by simpa [zeroWins] using hj)
    exact ⟨z', d, by simpa using h1, by simpa using h2, h3⟩
theorem zeroWins_len {o len : Nat} : ∀ {zs : List Value} {cs : List Col}, zs.length = cs.length → (zeroWins o len zs cs).length = cs.length
  | [], [], _ => rfl
  | [], _ :: _, h => by simp at h
  | _ :: _, [], h => by simp at h
  | z :: zs, c :: cs, h => by simp [zeroWins, zeroWins_len (zs := zs) (cs := cs) (by simpa using h)]

theorem zKinds_one : ∀ {z : List Value} {cs : List Col}, zKinds z cs = true → ∀ v ∈ z, v.oneCell' = true
  | [], [], _ => by simp
  | [], _ :: _, h => by simp [zKinds] at h
  | v :: vs, [], h => by cases v <;> simp [zKinds] at h
  | v :: vs, c :: cs, h => by
    have key : zKinds vs cs = true → v.oneCell' = true → ∀ u ∈ v :: vs, u.oneCell' = true := by
      intro h1 h2 u hu
      rcases List.mem_cons.1 hu with rfl | hu
      · exact h2
      · exact zKinds_one h1 u hu
    cases c with
    | ints k xs => cases v <;> simp [zKinds] at h; exact key h.2 rfl
    | bools xs => cases v <;> simp [zKinds] at h; exact key h rfl
    | raws xs =>
      have : zKinds vs cs = true ∧ v.oneCell' = true := by
        cases v <;> simp [zKinds] at h <;> first | exact ⟨h.2, h.1⟩ | exact ⟨h, rfl⟩
      exact key this.1 this.2

theorem zeroCells_list {z : Array Value} (hz : 0 < z.size) (n : Nat) : (Builtin.zeroCells z n).toList = flatV (fun _ j => z[j]!) z.size n := by
  apply List.ext_getElem?
  intro y
  simp only [Builtin.zeroCells, Array.toList_map, Array.toList_range, List.getElem?_map]
  by_cases hy : y < n * z.size
  · obtain ⟨i, j, rfl, hj⟩ := div_form (x := y) hz
    rw [flatV_get _ _ ((form_lt hj).1 hy) hj, List.getElem?_range hy]
    simp [Nat.mul_comm i, Nat.mul_add_mod, Nat.mod_eq_of_lt hj]
  · rw [List.getElem?_eq_none (by simp; omega), List.getElem?_eq_none (by rw [flatV_len]; omega)]
    rfl

theorem xclear_sound (c : Ctx F h w) {t : TypeId} {x : SV} {vx : Value} {ts : Array TypeId} {tt : TypeId} {args : Array Value} (ht : ts[0]? = some t) (ha : args[0]? = some vx)
    (hv : x ≠ .top → Std h x vx) (hx : xclear P h t x K) : Loud P F h w K (do pure (.value (← Builtin.clear_ ts tt args))) := by
  unfold xclear at hx
  split at hx
  · rename_i e hu
    split at hx
    · exact hx.elim
    rename_i inf hinf
    split at hx
    · exact hx.elim
    rename_i z hz
    split at hx
    · rename_i m o len cap
      split at hx
      · rename_i b t' base N cols he
        obtain ⟨hb, hN, hx⟩ := bif_false hx
        simp only [Bool.and_eq_true] at hb
        have hc1 := Nat.le_of_ble_eq_true hb.2
        rw [lenC_eq] at hc1
        have hx := setK_spec hx
        obtain ⟨⟨ob, hob, hk⟩, hloc⟩ := c.blk he rfl
        obtain ⟨arr, lo, hi, rfl, h1, h2, h3⟩ := hk []
        obtain ⟨z1, z2⟩ := zKinds_spec hb.1
        have z3 := zKinds_one hb.1
        have hvx : vx = .slice (some ⟨b, (base + o) * cols.length, none⟩) len cap := by
          have := hv (by simp) []
          simp only [den, hloc []] at this
          exact this.symm
        subst hvx
        have hzl : z.cells.size = cols.length := by simpa using z1
        have hz' : (zeroValue e).run P w = .ok z w := by simp [zeroValue, run_typeInfo' hinf, hz]
        have hzj : ∀ j, j < cols.length → z.cells.toList[j]? = some z.cells[j]! := fun j hj => by
          have : z.cells.toList[j]? = some (z.cells.toList[j]'(by simp; omega)) := List.getElem?_eq_getElem _
          rw [this, get_bang this]
        have hsz : len = 0 ∨ (base + o) * cols.length + len * cols.length ≤ arr.size := by
          by_cases hl : len = 0
          · exact .inl hl
          · right
            have := h2 (o + (len - 1)) (cols.length - 1) cols[cols.length - 1] (by omega) (List.getElem?_eq_getElem (by omega))
            have h6 := (Array.getElem?_eq_some_iff.1 this).1
            have h7 : (base + (o + (len - 1))) * cols.length = (base + o) * cols.length + (len - 1) * cols.length := by rw [← Nat.add_assoc, Nat.add_mul]
            have h8 : len * cols.length = (len - 1) * cols.length + cols.length := by
              obtain ⟨m, rfl⟩ : ∃ m, len = m + 1 := ⟨len - 1, by omega⟩
              rw [Nat.add_mul, Nat.one_mul]; simp
            omega
        obtain ⟨w', e1, e2, e3, e4⟩ : ∃ w', (Builtin.clear_ ts tt args).run P w = .ok (.tuple #[]) w' ∧
            w'.heap[b]? = some (.cells (wrA arr ((base + o) * cols.length) (flatV (fun _ j => z.cells[j]!) cols.length len)) t' (lo, hi)) ∧ (∀ y, y ≠ b → w'.heap[y]? = w.heap[y]?) ∧ Rest w w' := by
          rcases hsz with rfl | hsz
          · refine ⟨w, ?_, by simpa [flatV, wrA] using hob, fun _ _ => rfl, Rest.refl w⟩
            simp [Builtin.clear_, ht, ha, run_underlying' hu]
          · by_cases hl : len = 0
            · subst hl
              refine ⟨w, ?_, by simpa [flatV, wrA] using hob, fun _ _ => rfl, Rest.refl w⟩
              simp [Builtin.clear_, ht, ha, run_underlying' hu]
            · obtain ⟨w', r1, r2, r3, r4⟩ := run_storeList (P := P) (x := (base + o) * cols.length) (flatV (fun _ j => z.cells[j]!) cols.length len) arr 0 w hob (by rw [flatV_len]; exact hsz) (fun y h6 h7 => by
                rw [flatV_len, Nat.add_zero] at h7
                refine h3 y ?_ ?_
                · have : base * cols.length ≤ (base + o) * cols.length := Nat.mul_le_mul_right _ (by omega)
                  omega
                · have : (base + o + len) * cols.length ≤ (base + N) * cols.length := Nat.mul_le_mul_right _ (by omega)
                  rw [Nat.add_mul (base + o)] at this
                  omega) (fun v hv => by
                obtain ⟨x, hx1⟩ := List.getElem?_of_mem hv
                have hxl := (List.getElem?_eq_some_iff.1 hx1).1
                rw [flatV_len] at hxl
                obtain ⟨i, j, rfl, hj⟩ := div_form (x := x) (wd := cols.length) (by omega)
                rw [flatV_get _ _ ((form_lt hj).1 hxl) hj] at hx1
                cases hx1
                exact z3 _ (List.mem_of_getElem? (hzj j hj)))
              refine ⟨w', ?_, by simpa using r2, r3, r4⟩
              obtain ⟨l, rfl⟩ : ∃ l, len = l + 1 := ⟨len - 1, by omega⟩
              simp only [Builtin.clear_, ht, ha, Sem.run_bind, run_underlying' hu, Result.andThen_ok, hz', zeroCells_list (z := z.cells) (by omega), hzl, r1, Sem.run_pure]
        refine ⟨_, _, _, .tuple #[], w', hx, Ext.set he (by simp [Ent.loc, SBlk.base, SBlk.wd, zeroWins_len (zs := z.cells.toList) z1]), c.set (k' := .tab t' base N (zeroWins o len z.cells.toList cols)) he rfl (by simp [SBlk.wd, zeroWins_len (zs := z.cells.toList) z1]) e2 (fun r => ?_) e3, e4, fun _ r => rfl, ?_, .inl rfl⟩
        · refine ⟨_, lo, hi, rfl, fun cc hm => ?_, fun i j cc hi' hj => ?_, fun y h6 h7 => h3 y (by rwa [zeroWins_len (zs := z.cells.toList) z1] at h6) (by rwa [zeroWins_len (zs := z.cells.toList) z1] at h7)⟩
          · obtain ⟨j, hj⟩ := List.getElem?_of_mem hm
            obtain ⟨zj, cj, q1, q2, rfl⟩ := zeroWins_get hj
            obtain ⟨v, q3, q4⟩ := z2 j cj q2
            rw [q1] at q3
            cases q3
            have hcl := h1 cj (List.mem_of_getElem? q2)
            obtain ⟨q5, q6⟩ := zeroWin_spec (o := o) (len := len) q4 (by rw [hcl.1]; exact hN)
            refine ⟨by rw [q5]; exact hcl.1, fun i hi' => ?_⟩
            rw [q6]
            split
            · exact z3 _ (List.mem_of_getElem? q1)
            · exact hcl.2 i hi'
          · obtain ⟨zj, cj, q1, q2, rfl⟩ := zeroWins_get hj
            obtain ⟨v, q3, q4⟩ := z2 j cj q2
            rw [q1] at q3
            cases q3
            have hcl := h1 cj (List.mem_of_getElem? q2)
            obtain ⟨q5, q6⟩ := zeroWin_spec (o := o) (len := len) q4 (by rw [hcl.1]; exact hN)
            have hjl : j < cols.length := (List.getElem?_eq_some_iff.1 q2).1
            rw [q6, zeroWins_len (zs := z.cells.toList) z1]
            have hidx : (base + i) * cols.length + j = base * cols.length + (i * cols.length + j) := by rw [Nat.add_mul, Nat.add_assoc]
            have hbo : (base + o) * cols.length = base * cols.length + o * cols.length := Nat.add_mul _ _ _
            by_cases hin : o ≤ i ∧ i < o + len
            · rw [if_pos hin]
              have hle : (base + o) * cols.length + (flatV (fun _ j => z.cells[j]!) cols.length len).length ≤ arr.size := by
                rw [flatV_len]; rcases hsz with h | h <;> omega
              have g1 : i * cols.length + j < (o + len) * cols.length := (form_lt hjl).2 hin.2
              have g2 : ¬ (i * cols.length + j < o * cols.length) := fun h => by have := (form_lt hjl).1 h; omega
              rw [Nat.add_mul] at g1
              rw [wrA_get _ _ _ _ hle, if_pos (by rw [hidx, flatV_len]; omega)]
              have hd : (base + i) * cols.length + j - (base + o) * cols.length = (i - o) * cols.length + j := by
                obtain ⟨d, rfl⟩ : ∃ d, i = o + d := ⟨i - o, by omega⟩
                rw [hidx, hbo, Nat.add_mul o, show o + d - o = d by omega]; omega
              rw [hd, flatV_get _ _ (by omega) hjl]
              have := hzj j hjl
              rw [q1] at this
              exact this.symm
            · rw [if_neg hin]
              rcases hsz with hl0 | hsz
              · subst hl0
                simp only [flatV, wrA]
                exact h2 i j cj hi' q2
              · have hle : (base + o) * cols.length + (flatV (fun _ j => z.cells[j]!) cols.length len).length ≤ arr.size := by
                  rw [flatV_len]; exact hsz
                rw [wrA_get _ _ _ _ hle, if_neg ?_]
                · exact h2 i j cj hi' q2
                · rw [flatV_len, hidx, hbo]
                  intro hh
                  apply hin
                  have g1 : i * cols.length + j < (o + len) * cols.length := by rw [Nat.add_mul]; omega
                  have g2 : ¬ (i * cols.length + j < o * cols.length) := by omega
                  exact ⟨by rcases Nat.lt_or_ge i o with h | h; exact absurd ((form_lt hjl).2 h) g2; exact h, (form_lt hjl).1 g1⟩
        · simp only [Sem.run_bind, e1, Result.andThen_ok, Sem.run_pure]
      · exact hx.elim
    · have hvx : vx = _ := (hv (by simp) []).symm
      subst hvx
      refine ⟨_, _, _, .tuple #[], w, hx, Ext.refl _, c, Rest.refl _, fun _ r => rfl, ?_, .inl rfl⟩
      simp [Builtin.clear_, ht, ha, run_underlying' hu, den]
    · exact hx.elim
  · exact hx.elim

theorem repCol_spec (n : Nat) (v : Value) : (repCol n v).len = n ∧ ∀ i, i < n → (repCol n v).get i = v := by
  cases v <;> refine ⟨by simp [repCol, Col.len], fun i hi => ?_⟩ <;> simp [repCol, Col.get, List.getD, hi]
theorem repCols_eq (n : Nat) : ∀ l : List Value, repCols n l = l.map (repCol n)
  | [] => rfl
  | _ :: r => by simp [repCols, repCols_eq n r]

theorem repTab_holds {e : TypeId} {z : Array Value} {n : Nat} (hz : 0 < z.size) (ho : allOne z.toList = true) (ρ : List Loc) :
    ((SBlk.tab e 0 n (repCols n z.toList)).den ρ).holds (.cells ((Array.range (n * z.size)).map (z[· % z.size]!)) e (0, 0)) := by
  refine ⟨_, 0, 0, rfl, fun c hm => ?_, fun i j c hi hj => ?_, fun x _ hx => by omega⟩
  · rw [repCols_eq] at hm
    obtain ⟨v, hv, rfl⟩ := List.mem_map.1 hm
    obtain ⟨h1, h2⟩ := repCol_spec n v
    exact ⟨h1, fun i hi => by rw [h2 i hi]; exact allOne_spec ho v hv⟩
  · rw [repCols_eq, List.getElem?_map] at hj
    cases hv : z.toList[j]? with
    | none => rw [hv] at hj; cases hj
    | some v =>
      rw [hv] at hj
      simp at hj
      subst hj
      rw [(repCol_spec n v).2 i hi]
      have hjl : j < z.size := by simpa using (List.getElem?_eq_some_iff.1 hv).1
      have hlen : (repCols n z.toList).length = z.size := by rw [repCols_eq]; simp
      rw [hlen, Nat.zero_add, Array.getElem?_map, Array.getElem?_range, if_pos ((form_lt hjl).2 hi)]
      simp only [Option.map_some, Nat.mul_comm i, Nat.mul_add_mod, Nat.mod_eq_of_lt hjl]
      rw [get_bang hv]

theorem xmakeSlice_sound (c : Ctx F h w) {t : TypeId} {l cp : SV} {vl vc : Value} (hl : l ≠ .top → Std h l vl) (hc : cp ≠ .top → Std h cp vc) (hx : xmakeSlice P h t l cp K) :
    Loud P F h w K (do pure (.value (← Instr.makeSlice t vl vc))) := by
  unfold xmakeSlice at hx
  split at hx
  · rename_i e hu
    split at hx
    · exact hx.elim
    rename_i inf hinf
    split at hx
    · exact hx.elim
    rename_i z hz
    obtain ⟨hb, hx1⟩ := bif_false hx
    clear hx
    simp only [Bool.and_eq_true] at hb
    obtain ⟨k1, k2, k3, k4⟩ := hb
    have k1 := Nat.eq_of_beq_eq_true k1
    have k2 := Nat.le_of_ble_eq_true k2
    have k3 := Nat.le_of_ble_eq_true k3
    rw [lenV_eq, Array.length_toList] at k1
    split at hx1
    · rename_i kl l kc cp
      obtain ⟨⟨h1, h2, h3⟩, hx2⟩ := hx1
      have e1 : vl = .int kl l := (hl (by simp) []).symm
      have e2 : vc = .int kc cp := (hc (by simp) []).symm
      subst e1 e2
      have hz' : ∀ w, (zeroValue e).run P w = .ok z w := fun w => by simp [zeroValue, run_typeInfo' hinf, hz]
      have hcp : cp ≤ 140737488355328 := by
        have : cp * 1 ≤ cp * (inf.bytes : Int) := Int.mul_le_mul_of_nonneg_left (by omega) (by omega)
        omega
      have wr : ∀ x : Int, 0 ≤ x → x ≤ 140737488355328 → IntKind.i64.wrap x = x := fun x h0 h1 => by
        unfold IntKind.wrap IntKind.bits IntKind.signed
        simp only [Bool.true_and]
        rw [Int.emod_eq_of_lt h0 (by omega)]
        rw [if_neg (by simp; omega)]
      have hbig : ¬ ((inf.bytes : Int) * cp > 2 ^ 48) := by rw [Int.mul_comm]; omega
      refine push_loud (o := .cells ((Array.range (cp.toNat * z.cells.size)).map (z.cells[· % z.cells.size]!)) e) (v := .slice (some ⟨w.heap.size, 0, none⟩) l.toNat cp.toNat) c (fun r => repTab_holds (by omega) k4 _) hx2 (fun r => ?_) ?_
      · simp only [den, loc_new, SBlk.base]; simp
      · have t1 : ¬ cp < 0 := by omega
        have t2 : ¬ l < 0 := by omega
        have t3 : ¬ l > cp := by omega
        simp only [Instr.makeSlice, Sem.run_bind, run_underlying' hu, Result.andThen_ok, asInt, asIntOf, Sem.run_pure, run_typeInfo' hinf, wr l h1 (by omega), wr cp (by omega) hcp]
        simp only [t1, t2, t3, hbig, decide_false, Bool.or_false, Bool.false_eq_true, if_false, Sem.run_bind, run_askRoom, Result.andThen_ok, run_sizeOf' hinf, ← k1]
        by_cases h0 : cp.toNat * z.cells.size = 0
        · simp only [h0, if_true, Sem.run_pure, Result.andThen_ok, newRow, Sem.run_bind, run_newObj]
          rw [show Array.range 0 = #[] from rfl, Array.map_empty, Array.map_empty]
        · simp only [h0, if_false, Sem.run_bind, hz', Sem.run_pure, Result.andThen_ok, newRow, run_newObj]
    · exact hx1.elim
  · exact hx.elim

theorem modify_push {α : Type} (a : Array α) (x : α) (f : α → α) : (a.push x).modify a.size f = a.push (f x) := by
  apply Array.ext_getElem?
  intro i
  rw [Array.getElem?_modify, Array.getElem?_push, Array.getElem?_push]
  by_cases h : i = a.size
  · subst h; simp
  · rw [if_neg (Ne.symm h), if_neg h, if_neg h]

theorem xbytes_sound (c : Ctx F h w) {src dst : TypeId} {x : SV} {v : Value} (hv : x ≠ .top → Std h x v) (hx : xbytes P h src dst x K) : Loud P F h w K (do pure (.value (← convert src dst v))) := by
  unfold xbytes at hx
  split at hx
  · rename_i e hs hd
    obtain ⟨hu8, hx1⟩ := bif_false hx
    clear hx
    have hu8 := isU8_spec hu8
    split at hx1
    · rename_i s
      have hv' : v = .string s := (hv (by simp) []).symm
      subst hv'
      obtain ⟨cap, hcap, hch⟩ : ∃ cap, s.size ≤ cap ∧ (choose (.appendCap s.size 0 e)).run P w = .ok cap { w with drawn := w.drawn + 1 } := ⟨_, Nat.le_add_right _ _, by rw [run_choose]; rfl⟩
      have hx := appK_iff (hx1 w.heap.size cap hcap (List.replicate (cap - s.size) 0) (by simp))
      have hlen : ∀ (a : Array Value), a.size = (s.data.map fun (b : UInt8) => Value.int .u8 (b.toNat : Int)).size + (cap - s.size) → a.size = cap := fun a h => by
        rw [h]; simp; have : s.size = s.data.size := rfl; omega
      have hrun : (convert src dst (.string s)).run P w = .ok (.slice (some ⟨w.heap.size, 0, none⟩) s.size cap)
          { w with drawn := w.drawn + 1, heap := w.heap.push (.cells ((s.data.map fun (b : UInt8) => Value.int .u8 (b.toNat : Int)) ++ Array.replicate (cap - s.size) (Value.int .u8 0)) e (cap, cap + 1)) } := by
        have hsz : ((s.data.map fun (b : UInt8) => Value.int .u8 (b.toNat : Int)) ++ Array.replicate (cap - s.size) (Value.int .u8 0)).size = cap := hlen _ (by simp)
        simp only [convert, Sem.run_bind, run_underlying' hs, run_underlying' hd, run_underlying' hu8, Result.andThen_ok, Conv.stringToBytes, hch, newRow, run_newObj, Sem.run_pure, markStringish, run_shape]
        simp only [World.shape?, Array.getElem?_push_size, hsz, Sem.run_bind, run_freeze, Result.andThen_ok, Sem.run_pure]
        have hcs : s.size + (cap - s.size) = cap := by omega
        simp only [World.freeze, Nat.one_ne_zero, if_false, modify_push]
        simp
      refine ⟨_, _, _, .slice (some ⟨w.heap.size, 0, none⟩) s.size cap, _, hx, Ext.app _ _, (c.drew (w.drawn + 1)).push (o := .cells ((s.data.map fun (b : UInt8) => Value.int .u8 (b.toNat : Int)) ++ Array.replicate (cap - s.size) (Value.int .u8 0)) e (cap, cap + 1)) (fun r => ?_), ⟨rfl, rfl, rfl, by simp⟩, fun _ r => ?_, by simp only [Sem.run_bind, hrun, Result.andThen_ok, Sem.run_pure], .inl rfl⟩
      · have hss : s.size = s.data.size := rfl
        have hl : (bytesI s ++ List.replicate (cap - s.size) 0).length = cap := by simp [bytesI]; omega
        refine ⟨_, cap, cap + 1, rfl, fun cc hm => ?_, fun i j cc hi hj => ?_, fun x _ hx => by simp at hx; omega⟩
        · simp at hm; subst hm; exact ⟨hl, fun i _ => rfl⟩
        · cases j with
          | succ j => simp at hj
          | zero =>
            simp at hj; subst hj
            simp only [List.length_singleton, Nat.zero_add, Nat.mul_one, Nat.add_zero, Col.get]
            by_cases hin : i < s.data.size
            · rw [Array.getElem?_append_left (by simpa using hin), getD_app1 _ _ _ (by simpa [bytesI] using hin)]
              have e1 : s.data[i]? = some s.data[i] := Array.getElem?_eq_getElem hin
              simp [bytesI, List.getD, e1]
            · rw [Array.getElem?_append_right (by simp; omega)]
              have : (bytesI s ++ List.replicate (cap - s.size) 0).getD i 0 = 0 := by
                have := getD_app2 (bytesI s) (List.replicate (cap - s.size) 0) 0 (i - s.data.size)
                rw [show (bytesI s).length + (i - s.data.size) = i by simp [bytesI]; omega] at this
                rw [this]
                simp [List.getD, List.getElem?_replicate]
                split <;> rfl
              rw [this]
              have hd : i - s.size < cap - s.size := by omega
              simp [Array.getElem?_replicate, hd]
      · simp only [den, loc_new, SBlk.base]; simp
    · exact hx1.elim
  · exact hx.elim

/-- A list of bytes that was written out as constants, turned into its own type: the block is marked behind its last cell. -/
noncomputable def xmark (P : Program) (h : List Ent) (src dst : TypeId) (x : SV) (K : SV → List Ent → Prop) : Prop :=
  match P.underlying src, P.underlying dst with
  | some (.slice _), some (.slice e) => bif Nat.beq src dst && isU8 P e then (match x with
    | .slc n o len cap => (match entAt h n with
      | some (.own b (.cells wd l t)) => bif Nat.beq wd 1 then srcCols (locs h) (.cells 1 l t) 0 (lenS l) fun cols => setK h n (.own b (.tab t 0 (lenS l) cols)) fun h' => K (.slc n o len cap) h' else False
      | _ => False)
    | _ => False) else False
  | _, _ => False

theorem lenS_len : ∀ l : List SV, lenS l = l.length
  | [] => rfl
  | _ :: r => by simp [lenS, lenS_len r]

theorem xmark_sound (c : Ctx F h w) {src dst : TypeId} {x : SV} {v : Value} (hv : x ≠ .top → Std h x v) (hx : xmark P h src dst x K) : Loud P F h w K (do pure (.value (← convert src dst v))) := by
  unfold xmark at hx
  split at hx
  · rename_i e0 e hs hd
    obtain ⟨hb, hx1⟩ := bif_false hx
    clear hx
    simp only [Bool.and_eq_true] at hb
    have hsd := Nat.eq_of_beq_eq_true hb.1
    have hu8 := isU8_spec hb.2
    split at hx1
    · rename_i n o len cap
      split at hx1
      · rename_i b wd l t he
        obtain ⟨hw1, hx⟩ := bif_false hx1
        clear hx1
        have := Nat.eq_of_beq_eq_true hw1
        subst this
        obtain ⟨⟨ob, hob, hk⟩, hloc⟩ := c.blk he rfl
        obtain ⟨cols, f, k1, k2, k3, k4⟩ := srcCols_spec hk hx
        have k1 := setK_spec k1
        have hv' : v = .slice (some ⟨b, (0 + o) * 1, none⟩) len cap := by
          have := hv (by simp) []
          simp only [den, hloc [], SBlk.base, SBlk.wd] at this
          exact this.symm
        have hobj : ob = .cells (denL (locs h) l).toArray t (0, 0) := by have := hk []; simpa [SBlk.den, Blk.holds] using this
        have hsize : (denL (locs h) l).toArray.size = l.length := by simp [denL_eq]
        let N := l.length
        let w' : World := { w with heap := w.heap.modify b fun | .cells c elem (lo, hi) => .cells c elem (if lo == hi then (N, N + 1) else (min lo N, max hi (N + 1))) | o => o }
        have hw' : w'.heap[b]? = some (.cells (denL (locs h) l).toArray t (N, N + 1)) := by
          simp only [w', Array.getElem?_modify, if_true, hob, Option.map_some, hobj]
          simp
        have hrun : (convert src dst v).run P w = .ok v w' := by
          subst hv' hsd
          have hsh : w.shape? b = some (t, N) := by simp only [World.shape?, hob, hobj]; simp [denL_eq, N]
          simp only [convert, Sem.run_bind, run_underlying' hs, run_underlying' hu8, Result.andThen_ok]
          rw [hs] at hd
          cases hd
          simp only [run_underlying' hu8, Result.andThen_ok, beq_self_eq_true, markStringish, Sem.run_bind, run_shape, hsh, run_freeze, Sem.run_pure, World.freeze, Nat.one_ne_zero, if_false]
          rfl
        refine ⟨_, _, _, v, w', k1, Ext.set he (by simp [Ent.loc, SBlk.base, SBlk.wd, k2]), c.set (k' := .tab t 0 (lenS l) cols) he rfl (by simp [SBlk.wd, k2]) hw' (fun r => ?_) (fun y hy => ?_), ⟨rfl, rfl, rfl, by simp [w']⟩, fun _ => ?_, by simp only [Sem.run_bind, hrun, Result.andThen_ok, Sem.run_pure], .inl rfl⟩
        · refine ⟨_, _, _, rfl, fun cc hm => ?_, fun i j cc hi hj => ?_, fun x _ hx => ?_⟩
          · rw [lenS_len]
            refine ⟨by rw [k3.len cc hm, lenS_len], fun i hi => ?_⟩
            obtain ⟨j, hj⟩ := List.getElem?_of_mem hm
            rw [k3.get i j cc (by rw [lenS_len]; exact hi) hj]
            exact k3.one i j (by rw [lenS_len]; exact hi) (List.getElem?_eq_some_iff.1 hj).1
          · have hj' := (List.getElem?_eq_some_iff.1 hj).1
            have := k4 i j hi (by rw [← k2]; exact hj')
            rw [k3.get i j cc hi hj]
            rw [hobj] at this
            simp only [objCell, SBlk.base, SBlk.wd, Nat.zero_add] at this
            rw [k2]
            simpa [SBlk.wd] using this
          · rw [k2, lenS_len] at hx
            simp only [SBlk.wd, Nat.zero_add, Nat.mul_one] at hx
            simp only [N]
            omega
        · simp only [w', Array.getElem?_modify]
          rw [if_neg (Ne.symm hy)]
        · exact (hv (by simp)).ext (Ext.set he (by simp [Ent.loc, SBlk.base, SBlk.wd, k2]))
      · exact hx1.elim
    · exact hx1.elim
  · exact hx.elim

end
end Go.Sx

/- The loud operations, eighth part: copy. -/
set_option linter.unusedVariables false
set_option linter.unusedSimpArgs false
namespace Go.Sx
open Classical

def putCol (o n : Nat) (c d : Col) (K : Col → Prop) : Prop :=
  match c, d with
  | .ints k xs, .ints k' ys => kSame k k' (K (.ints k (xs.take o ++ ys.take n ++ xs.drop (o + n))))
  | .bools xs, .bools ys => K (.bools (xs.take o ++ ys.take n ++ xs.drop (o + n)))
  | .raws xs, .raws ys => K (.raws (xs.take o ++ ys.take n ++ xs.drop (o + n)))
  | _, _ => False
def putCols (o n : Nat) : List Col → List Col → (List Col → Prop) → Prop
  | [], [], K => K []
  | c :: cs, d :: ds, K => putCol o n c d fun e => putCols o n cs ds fun es => K (e :: es)
  | _, _, _ => False

noncomputable def xcopy (P : Program) (h : List Ent) (ts : List TypeId) (d s : SV) (K : SV → List Ent → Prop) : Prop :=
  match ts with
  | [] => False
  | t :: _ => match P.underlying t with
    | some (.slice e) => (match P.info? e with
      | none => False
      | some inf => match d, s with
        | .slc m o dl _, .slc m' o' sl _ => (match entAt h m, entAt h m' with
          | some (.own b (.tab t' base N cols)), some e' => (match e'.blk with
            | none => False
            | some (_, k') => srcCols (locs h) k' o' sl fun cs => bif Nat.beq (lenC cols) inf.size && (Nat.beq (lenC cs) inf.size && Nat.ble 1 inf.size) then
                o + dl ≤ N ∧ putCols o (min sl dl) cols cs fun cols' => setK h m (.own b (.tab t' base N cols')) fun h' => K (.val (.int .i64 ((min sl dl : Nat) : Int))) h'
              else False)
          | _, _ => False)
        | .slc _ _ _ _, .val (.slice none 0 _) => K (.val (.int .i64 0)) h
        | .val (.slice none 0 _), .slc _ _ _ _ => K (.val (.int .i64 0)) h
        | .val (.slice none 0 _), .val (.slice none 0 _) => K (.val (.int .i64 0)) h
        | .slc m o dl _, .val (.slice (some ⟨bR, xR, none⟩) sl _) => (match entAt h m, chunkAt h 0, inf.zero with
          | some (.own b (.tab t' base N cols)), some (_, L), some z => (sl = 0 → K (.val (.int .i64 0)) h) ∧ (0 < sl → exCols z.cells.toList fun cs => rawTab L bR xR sl cs ∧ (bif Nat.beq (lenC cols) inf.size && (Nat.beq (lenC cs) inf.size && Nat.ble 1 inf.size) then
                o + dl ≤ N ∧ putCols o (min sl dl) cols cs fun cols' => setK h m (.own b (.tab t' base N cols')) fun h' => K (.val (.int .i64 ((min sl dl : Nat) : Int))) h'
              else False))
          | _, _, _ => False)
        | _, _ => False)
    | _ => False

section
variable {P : Program} {F : List (Nat × Blk)} {h : List Ent} {w : World} {K : SV → List Ent → Prop}

theorem getD_put' {α : Type} (xs ys : List α) (d : α) {o n N : Nat} (hx : xs.length = N) (hN : o + n ≤ N) (hy : n ≤ ys.length) (i : Nat) :
    (xs.take o ++ ys.take n ++ xs.drop (o + n)).getD i d = if o ≤ i ∧ i < o + n then ys.getD (i - o) d else xs.getD i d := by
  simp only [List.getD]
  congr 1
  rw [List.append_assoc]
  by_cases h1 : i < o
  · rw [List.getElem?_append_left (by simp; omega), if_neg (by omega), List.getElem?_take, if_pos h1]
  · rw [List.getElem?_append_right (by simp; omega)]
    have e1 : i - (xs.take o).length = i - o := by simp; omega
    rw [e1]
    by_cases h2 : i < o + n
    · rw [List.getElem?_append_left (by simp; omega), if_pos (by omega), List.getElem?_take, if_pos (by omega)]
    · rw [List.getElem?_append_right (by simp; omega), if_neg (by omega), List.getElem?_drop]
      have e2 : (ys.take n).length = n := by rw [List.length_take]; omega
      rw [e2, show o + n + (i - o - n) = i by omega]

theorem putCol_spec {o n N m : Nat} {c d : Col} {K : Col → Prop} (hx : putCol o n c d K) (hc : c.len = N) (hN : o + n ≤ N) (hd : d.len = m) (hm : n ≤ m) :
    ∃ e, K e ∧ e.len = N ∧ ∀ i, e.get i = if o ≤ i ∧ i < o + n then d.get (i - o) else c.get i := by
  have len' : ∀ {α : Type} (xs ys : List α), xs.length = N → ys.length = m → (xs.take o ++ ys.take n ++ xs.drop (o + n)).length = N := by
    intro α xs ys h1 h2
    simp
    omega
  unfold putCol at hx
  split at hx
  · rename_i k xs k' ys
    obtain ⟨rfl, hk⟩ := kSame_iff hx
    refine ⟨_, hk, len' xs ys hc hd, fun i => ?_⟩
    simp only [Col.get]
    rw [getD_put' xs ys 0 hc hN (by simp only [Col.len] at hd; omega)]
    split <;> rfl
  · rename_i xs ys
    refine ⟨_, hx, len' xs ys hc hd, fun i => ?_⟩
    simp only [Col.get]
    rw [getD_put' xs ys false hc hN (by simp only [Col.len] at hd; omega)]
    split <;> rfl
  · rename_i xs ys
    refine ⟨_, hx, len' xs ys hc hd, fun i => ?_⟩
    simp only [Col.get]
    rw [getD_put' xs ys .nilIface hc hN (by simp only [Col.len] at hd; omega)]
  · exact hx.elim

theorem putCols_spec {o n N m : Nat} (hN : o + n ≤ N) (hm : n ≤ m) : ∀ {cs ds : List Col} {K : List Col → Prop}, putCols o n cs ds K → (∀ c ∈ cs, c.len = N) → (∀ d ∈ ds, d.len = m) →
    ∃ es, K es ∧ es.length = cs.length ∧ ∀ (j : Nat) (e : Col), es[j]? = some e → ∃ c d, cs[j]? = some c ∧ ds[j]? = some d ∧ e.len = N ∧ ∀ i, e.get i = if o ≤ i ∧ i < o + n then d.get (i - o) else c.get i
  | [], [], K, hx, _, _ => ⟨[], hx, rfl, fun j e h => by simp at h⟩
  | [], _ :: _, _, hx, _, _ => hx.elim
  | _ :: _, [], _, hx, _, _ => hx.elim
  | c :: cs, d :: ds, K, hx, hc, hd => by
    obtain ⟨e, h1, h2, h3⟩ := putCol_spec hx (hc c (by simp)) hN (hd d (by simp)) hm
    obtain ⟨es, h4, h5, h6⟩ := putCols_spec hN hm h1 (fun c hc' => hc c (by simp [hc'])) (fun d hd' => hd d (by simp [hd']))
    refine ⟨_, h4, by simp [h5], fun j e' hj => ?_⟩
    cases j with
    | zero => simp at hj; subst hj; exact ⟨c, d, rfl, rfl, h2, h3⟩
    | succ j => exact h6 j e' (by simpa using hj)

/-- A window of a table is written. -/
theorem win_write (c : Ctx F h w) {m b base N : Nat} {t' : TypeId} {cols cols' : List Col} (he : entAt h m = some (.own b (.tab t' base N cols))) {o n : Nat} {g : Nat → Nat → Value}
    (hN : o + n ≤ N) (hw : 0 < cols.length) (hl : cols'.length = cols.length)
    (hget : ∀ (j : Nat) (e : Col), cols'[j]? = some e → ∃ c, cols[j]? = some c ∧ e.len = N ∧ ∀ i, i < N → e.get i = if o ≤ i ∧ i < o + n then g (i - o) j else c.get i)
    (hone : ∀ i j, i < n → j < cols.length → (g i j).oneCell' = true) :
    ∃ w', (storeCells ⟨b, (base + o) * cols.length, none⟩ (flatV g cols.length n)).run P w = .ok () w' ∧ Ctx F (h.set m (.own b (.tab t' base N cols'))) w' ∧ Rest w w' := by
  obtain ⟨⟨ob, hob, hk⟩, hloc⟩ := c.blk he rfl
  obtain ⟨arr, lo, hi, rfl, h1, h2, h3⟩ := hk []
  have hbo : (base + o) * cols.length = base * cols.length + o * cols.length := Nat.add_mul _ _ _
  by_cases hn0 : n = 0
  · subst hn0
    refine ⟨w, rfl, c.set (k' := .tab t' base N cols') he rfl (by simp [SBlk.wd, hl]) hob (fun r => ?_) (fun _ _ => rfl), Rest.refl w⟩
    refine ⟨arr, lo, hi, rfl, fun cc hm => ?_, fun i j cc hi' hj => ?_, fun y h6 h7 => h3 y (by rwa [hl] at h6) (by rwa [hl] at h7)⟩
    · obtain ⟨j, hj⟩ := List.getElem?_of_mem hm
      obtain ⟨cj, q1, q2, q3⟩ := hget j cc hj
      refine ⟨q2, fun i hi' => ?_⟩
      rw [q3 i hi', if_neg (by omega)]
      exact (h1 cj (List.mem_of_getElem? q1)).2 i hi'
    · obtain ⟨cj, q1, q2, q3⟩ := hget j cc hj
      rw [q3 i hi', if_neg (by omega), hl]
      exact h2 i j cj hi' q1
  · have hsz : (base + o) * cols.length + n * cols.length ≤ arr.size := by
      have := h2 (o + (n - 1)) (cols.length - 1) cols[cols.length - 1] (by omega) (List.getElem?_eq_getElem (by omega))
      have h6 := (Array.getElem?_eq_some_iff.1 this).1
      have h7 : (base + (o + (n - 1))) * cols.length = (base + o) * cols.length + (n - 1) * cols.length := by rw [← Nat.add_assoc, Nat.add_mul]
      have h8 : n * cols.length = (n - 1) * cols.length + cols.length := by
        obtain ⟨m, rfl⟩ : ∃ m, n = m + 1 := ⟨n - 1, by omega⟩
        rw [Nat.add_mul, Nat.one_mul]; simp
      omega
    obtain ⟨w', r1, r2, r3, r4⟩ := run_storeList (P := P) (x := (base + o) * cols.length) (flatV g cols.length n) arr 0 w hob (by rw [flatV_len]; exact hsz) (fun y h6 h7 => by
        rw [flatV_len, Nat.add_zero] at h7
        refine h3 y ?_ ?_
        · have : base * cols.length ≤ (base + o) * cols.length := Nat.mul_le_mul_right _ (by omega)
          omega
        · have : (base + o + n) * cols.length ≤ (base + N) * cols.length := Nat.mul_le_mul_right _ (by omega)
          rw [Nat.add_mul (base + o)] at this
          omega) (fun v hv => by
        obtain ⟨x, hx1⟩ := List.getElem?_of_mem hv
        have hxl := (List.getElem?_eq_some_iff.1 hx1).1
        rw [flatV_len] at hxl
        obtain ⟨i, j, rfl, hj⟩ := div_form (x := x) (wd := cols.length) (by omega)
        rw [flatV_get _ _ ((form_lt hj).1 hxl) hj] at hx1
        cases hx1
        exact hone i j ((form_lt hj).1 hxl) hj)
    rw [Nat.add_zero] at r2
    refine ⟨w', r1, c.set (k' := .tab t' base N cols') he rfl (by simp [SBlk.wd, hl]) r2 (fun r => ?_) r3, r4⟩
    have hle : (base + o) * cols.length + (flatV g cols.length n).length ≤ arr.size := by rw [flatV_len]; exact hsz
    refine ⟨_, lo, hi, rfl, fun cc hm => ?_, fun i j cc hi' hj => ?_, fun y h6 h7 => h3 y (by rwa [hl] at h6) (by rwa [hl] at h7)⟩
    · obtain ⟨j, hj⟩ := List.getElem?_of_mem hm
      obtain ⟨cj, q1, q2, q3⟩ := hget j cc hj
      have hjl : j < cols.length := (List.getElem?_eq_some_iff.1 q1).1
      refine ⟨q2, fun i hi' => ?_⟩
      rw [q3 i hi']
      split
      · exact hone _ j (by omega) hjl
      · exact (h1 cj (List.mem_of_getElem? q1)).2 i hi'
    · obtain ⟨cj, q1, q2, q3⟩ := hget j cc hj
      have hjl : j < cols.length := (List.getElem?_eq_some_iff.1 q1).1
      rw [q3 i hi', hl]
      have hidx : (base + i) * cols.length + j = base * cols.length + (i * cols.length + j) := by rw [Nat.add_mul, Nat.add_assoc]
      by_cases hin : o ≤ i ∧ i < o + n
      · rw [if_pos hin]
        have g1 : i * cols.length + j < (o + n) * cols.length := (form_lt hjl).2 hin.2
        have g2 : ¬ (i * cols.length + j < o * cols.length) := fun h => by have := (form_lt hjl).1 h; omega
        rw [Nat.add_mul] at g1
        rw [wrA_get _ _ _ _ hle, if_pos (by rw [hidx, flatV_len]; omega)]
        have hd : (base + i) * cols.length + j - (base + o) * cols.length = (i - o) * cols.length + j := by
          obtain ⟨d, rfl⟩ : ∃ d, i = o + d := ⟨i - o, by omega⟩
          rw [hidx, hbo, Nat.add_mul o, show o + d - o = d by omega]; omega
        rw [hd, flatV_get _ _ (by omega) hjl]
      · rw [if_neg hin, wrA_get _ _ _ _ hle, if_neg ?_]
        · exact h2 i j cj hi' q1
        · rw [flatV_len, hidx, hbo]
          intro hh
          have h6 : ¬ (i * cols.length + j < o * cols.length) := by omega
          have h7 : i * cols.length + j < (o + n) * cols.length := by rw [Nat.add_mul]; omega
          have h8 := (form_lt hjl).1 h7
          have h9 : ¬ i < o := fun h => h6 ((form_lt hjl).2 h)
          omega

theorem xcopy_sound (c : Ctx F h w) {ts : Array TypeId} {tt : TypeId} {args : Array Value} {d s : SV} {vd vs : Value} (ha : args[0]? = some vd) (hb : args[1]? = some vs)
    (hd : d ≠ .top → Std h d vd) (hs : s ≠ .top → Std h s vs) (hx : xcopy P h ts.toList d s K) : Loud P F h w K (do pure (.value (← Builtin.copy_ ts tt args))) := by
  unfold xcopy at hx
  split at hx
  · exact hx.elim
  rename_i t tr hts
  have ht0 : ts[0]? = some t := by rw [← Array.getElem?_toList, hts]; rfl
  split at hx
  rotate_left
  · exact hx.elim
  rename_i e hu
  split at hx
  · exact hx.elim
  rename_i inf hinf
  have none_ : ∀ (n1 n2 : Nat) (a1 a2 : Option Addr) (c1 c2 : Nat), vd = .slice a1 n1 c1 → vs = .slice a2 n2 c2 → Nat.min n2 n1 = 0 → K (.val (.int .i64 0)) h → Loud P F h w K (do pure (.value (← Builtin.copy_ ts tt args))) := by
    intro n1 n2 a1 a2 c1 c2 e1 e2 hm hk
    refine ⟨_, h, _, .int .i64 0, w, hk, Ext.refl h, c, Rest.refl w, fun _ r => rfl, ?_, .inl rfl⟩
    subst e1 e2
    cases a1 <;> cases a2 <;> simp [Builtin.copy_, ht0, ha, hb, run_underlying' hu, run_sizeOf' hinf, Builtin.lenOf, Builtin.firstCells, hm, loadCells, goInt, loadCellsFrom, storeCells]
  have core : ∀ (m o dl dc sl sc b base N b' x0 : Nat) (t' : TypeId) (cols cs : List Col) (ob' : Obj) (f : Nat → Nat → Value), d = .slc m o dl dc → vs = .slice (some ⟨b', x0, none⟩) sl sc → entAt h m = some (.own b (.tab t' base N cols)) →
      w.heap[b']? = some ob' → ColsAre cs sl f → (∀ i j, i < sl → j < cs.length → objCell ob' (x0 + i * cs.length + j) = some (f i j)) → cols.length = inf.size → cs.length = inf.size → 1 ≤ inf.size → o + dl ≤ N →
      putCols o (min sl dl) cols cs (fun cols' => setK h m (.own b (.tab t' base N cols')) fun h' => K (.val (.int .i64 ((min sl dl : Nat) : Int))) h') → Loud P F h w K (do pure (.value (← Builtin.copy_ ts tt args))) := by
    intro m o dl dc sl sc b base N b' x0 t' cols cs ob' f ed hvs he hob' h3 h4 q1 q2 q3 hN hcp
    subst ed
    obtain ⟨⟨ob, hob, hk⟩, hloc⟩ := c.blk he rfl
    have hvd : vd = .slice (some ⟨b, (base + o) * cols.length, none⟩) dl dc := by
      have := hd (by simp) []
      simp only [den, hloc []] at this
      exact this.symm
    have hlenc : ∀ cc ∈ cols, cc.len = N := fun cc hm => by
      obtain ⟨arr, lo, hi, _, h1, _, _⟩ := hk []
      exact (h1 cc hm).1
    obtain ⟨cols', hk1, hl, hget⟩ := putCols_spec (m := sl) (by omega) (Nat.min_le_left _ _) hcp hlenc h3.len
    have hk1 := setK_spec hk1
    obtain ⟨w', r1, r2, r3⟩ := win_write (P := P) (g := f) c he (cols' := cols') (o := o) (n := min sl dl) (by omega) (by omega) hl (fun j e'' hj => by
        obtain ⟨c1, d1, g1, g2, g3, g4⟩ := hget j e'' hj
        refine ⟨c1, g1, g3, fun i hi => ?_⟩
        rw [g4]
        split
        · exact h3.get _ j d1 (by omega) g2
        · rfl) (fun i j hi hj => h3.one i j (by omega) (by omega))
    refine ⟨_, _, _, .int .i64 ((min sl dl : Nat) : Int), w', hk1, Ext.set he (by simp [Ent.loc, SBlk.base, SBlk.wd, hl]), r2, r3, fun _ r => rfl, ?_, .inl rfl⟩
    have hfc := run_firstCells_slice (P := P) (w := w) (b := b') (x := x0) (n := min sl dl) (m := sl) (c := sc) (wd := cs.length) (f := f) hob' (fun i j hi hj => h4 i j (by omega) hj) (by omega)
    rw [hvd] at ha
    rw [hvs] at hb
    have hsz : inf.size = cs.length := by omega
    simp only [Builtin.copy_, ht0, ha, hb, Sem.run_bind, run_underlying' hu, Result.andThen_ok, Builtin.lenOf, Sem.run_pure, run_sizeOf' hinf, hsz]
    have hmin : Nat.min sl dl = min sl dl := rfl
    rw [hmin, hfc]
    simp only [Result.andThen_ok]
    have hwd : cs.length = cols.length := by omega
    rw [hwd, r1]
    rfl
  split at hx
  · rename_i m o dl dc m' o' sl sc
    split at hx
    rotate_left
    · exact hx.elim
    rename_i b t' base N cols e' he he'
    split at hx
    · exact hx.elim
    rename_i b' k' hb'
    obtain ⟨⟨ob', hob', hk'⟩, hloc'⟩ := c.blk he' hb'
    obtain ⟨cs, f, hx, h2, h3, h4⟩ := srcCols_spec hk' hx
    obtain ⟨hchk, hN, hx⟩ := bif_false hx
    simp only [Bool.and_eq_true] at hchk
    have q1 := Nat.eq_of_beq_eq_true hchk.1
    have q2 := Nat.eq_of_beq_eq_true hchk.2.1
    have q3 := Nat.le_of_ble_eq_true hchk.2.2
    rw [lenC_eq] at q1 q2
    have hvs : vs = .slice (some ⟨b', (k'.base + o') * k'.wd, none⟩) sl sc := by
      have := hs (by simp) []
      simp only [den, hloc' []] at this
      exact this.symm
    exact core m o dl dc sl sc b base N b' _ t' cols cs ob' f rfl hvs he hob' h3 (fun i j hi hj => by
      rw [h2] at hj ⊢
      have := h4 i j hi hj
      rw [← this, Nat.add_mul (k'.base + o')]) q1 q2 q3 hN hx
  · rename_i m o dl dc sc
    have e1 := hd (by simp) []
    have e2 := hs (by simp) []
    exact none_ _ _ _ _ _ _ e1.symm e2.symm (by simp) hx
  · have e1 := hd (by simp) []
    have e2 := hs (by simp) []
    exact none_ _ _ _ _ _ _ e1.symm e2.symm (by simp) hx
  · have e1 := hd (by simp) []
    have e2 := hs (by simp) []
    exact none_ _ _ _ _ _ _ e1.symm e2.symm (by simp) hx
  · rename_i m o dl dc bR xR sl sc
    split at hx
    · rename_i b t' base N cols nn L z he hc hz
      have hvs : vs = .slice (some ⟨bR, xR, none⟩) sl sc := (hs (by simp) []).symm
      obtain ⟨-, hch⟩ := chunkAt_spec hc
      rw [Nat.sub_zero] at hch
      by_cases hsl : sl = 0
      · subst hsl
        have e1 := hd (by simp) []
        exact none_ _ _ _ _ _ _ e1.symm hvs (by simp) (hx.1 rfl)
      · obtain ⟨cs, hr, hx2⟩ := exCols_spec (hx.2 (by omega))
        obtain ⟨hchk, hN, hx3⟩ := bif_false hx2
        simp only [Bool.and_eq_true] at hchk
        have q1 := Nat.eq_of_beq_eq_true hchk.1
        have q2 := Nat.eq_of_beq_eq_true hchk.2.1
        have q3 := Nat.le_of_ble_eq_true hchk.2.2
        rw [lenC_eq] at q1 q2
        obtain ⟨ob', hob', f, hcf, hf⟩ := rawTab_spec c hch hr
        exact core m o dl dc sl sc b base N bR xR t' cols cs ob' f rfl hvs he hob' hcf hf q1 q2 q3 hN hx3
    · exact hx.elim
  · exact hx.elim
end
end Go.Sx

/- The loud operations, ninth part: append of zero values where there is no room; the old block stays. -/
set_option linter.unusedVariables false
set_option linter.unusedSimpArgs false
namespace Go.Sx
open Classical

noncomputable def xapp0 (P : Program) (h : List Ent) (ts : List TypeId) (s x : SV) (K : SV → List Ent → Prop) : Prop :=
  match ts with
  | [t, tn] => (match P.underlying t, P.underlying tn with
    | some (.slice e), some (.int _) => (match P.info? e with
      | none => False
      | some inf => match inf.zero with
        | none => False
        | some z => bif Nat.ble inf.bytes 1048576 && (Nat.ble 1 inf.bytes && (Nat.beq (lenV z.cells.toList) inf.size && (Nat.ble 1 inf.size && allOne z.cells.toList))) then
            (match x with
            | .val (.int _ k) => (0 ≤ k ∧ k.toNat * inf.bytes ≤ 140737488355328) ∧ (bif Nat.beq (lenC (repCols k.toNat z.cells.toList)) inf.size then xapp h e inf.bytes z.cells.toList s false k.toNat (repCols k.toNat z.cells.toList) K else False)
            | _ => False)
          else False)
    | _, _ => False)
  | _ => False

section
variable {P : Program} {F : List (Nat × Blk)} {h : List Ent} {w : World} {K : SV → List Ent → Prop}

theorem repCols_are {z : Array Value} {n : Nat} (h1 : allOne z.toList = true) : ColsAre (repCols n z.toList) n (fun _ j => z[j]!) := by
  have hrep : ∀ v, (repCol n v).len = n ∧ ∀ i, i < n → (repCol n v).get i = v := by
    intro v
    cases v <;> refine ⟨by simp [repCol, Col.len], fun i hi => ?_⟩ <;> simp [repCol, Col.get, List.getD, List.getElem?_replicate, hi]
  refine ⟨fun c hc => ?_, fun i j c hi hj => ?_, fun i j hi hj => ?_⟩
  · rw [repCols_eq] at hc
    obtain ⟨v, _, rfl⟩ := List.mem_map.1 hc
    exact (hrep v).1
  · rw [repCols_eq, List.getElem?_map] at hj
    cases hv : z.toList[j]? with
    | none => rw [hv] at hj; cases hj
    | some v =>
      rw [hv] at hj
      simp at hj
      subst hj
      rw [(hrep v).2 i hi, get_bang hv]
  · rw [repCols_eq, List.length_map] at hj
    have hv : z.toList[j]? = some z.toList[j] := List.getElem?_eq_getElem hj
    rw [get_bang hv]
    exact allOne_spec h1 _ (List.getElem_mem hj)

theorem run_append_room_zeros {t tn tt e : TypeId} {kn kq : IntKind} {inf : TypeInfo} {z : Value} {b x sLen sCap kk : Nat} (hu : P.underlying t = some (.slice e)) (hun : P.underlying tn = some (.int kn)) (hinf : P.info? e = some inf) (hz : inf.zero = some z)
    (hby0 : 1 ≤ inf.bytes) (hkb : kk * inf.bytes ≤ 140737488355328) (hroom : sLen + kk ≤ sCap) :
    (Builtin.append_ #[t, tn] tt #[.slice (some ⟨b, x, none⟩) sLen sCap, .int kq (kk : Int)]).run P w =
      ((storeCells ⟨b, x + sLen * inf.size, none⟩ (if kk * inf.size = 0 then (#[] : Array Value) else Builtin.zeroCells z.cells kk).toList).run P w).andThen fun _ w' => .ok (.slice (some ⟨b, x, none⟩) (sLen + kk) sCap) w' := by
  have hle1 : kk ≤ kk * inf.bytes := Nat.le_mul_of_pos_right _ hby0
  have hw : IntKind.i64.wrap (kk : Int) = kk := by rw [IntKind.wrap_i64]; omega
  have hneg : ¬ ((kk : Int) < 0) := by omega
  have h48i : ¬ ((kk : Int) * (inf.bytes : Int) > 2 ^ 48) := by
    rw [← Int.natCast_mul]
    omega
  have hz' : ∀ w, (zeroValue e).run P w = .ok z w := fun w => by simp [zeroValue, run_typeInfo' hinf, hz]
  have e0 : (#[t, tn] : Array TypeId)[0]? = some t := rfl
  have e1 : (#[t, tn] : Array TypeId)[1]? = some tn := rfl
  have e2 : (#[.slice (some ⟨b, x, none⟩) sLen sCap, .int kq (kk : Int)] : Array Value)[0]? = some (.slice (some ⟨b, x, none⟩) sLen sCap) := rfl
  have e3 : (#[.slice (some ⟨b, x, none⟩) sLen sCap, .int kq (kk : Int)] : Array Value)[1]? = some (.int kq (kk : Int)) := rfl
  have e4 : ∀ w, (asInt (.int kq (kk : Int))).run P w = .ok (kk : Int) w := fun w => rfl
  by_cases h0 : kk * inf.size = 0
  · simp only [Builtin.append_, e0, e1, e2, e3, e4, Sem.run_bind, run_underlying' hu, run_underlying' hun, Result.andThen_ok, run_sizeOf' hinf, run_typeInfo' hinf, Sem.run_pure, if_true, hw, hneg, h48i, if_false, Int.toNat_natCast, if_pos hroom, Bool.not_true, Bool.false_eq_true, h0, addr_add]
  · simp only [Builtin.append_, e0, e1, e2, e3, e4, Sem.run_bind, run_underlying' hu, run_underlying' hun, Result.andThen_ok, run_sizeOf' hinf, run_typeInfo' hinf, Sem.run_pure, if_true, hw, hneg, h48i, if_false, Int.toNat_natCast, if_pos hroom, Bool.not_true, Bool.false_eq_true, h0, hz', addr_add]
theorem run_append_none_zeros {t tn tt e : TypeId} {kn kq : IntKind} {inf : TypeInfo} (hu : P.underlying t = some (.slice e)) (hun : P.underlying tn = some (.int kn)) (hinf : P.info? e = some inf) :
    (Builtin.append_ #[t, tn] tt #[.slice none 0 0, .int kq ((0 : Nat) : Int)]).run P w = .ok (.slice none 0 0) w := by
  have hw : IntKind.i64.wrap ((0 : Nat) : Int) = 0 := by rw [IntKind.wrap_i64]; omega
  have hneg : ¬ ((0 : Int) < 0) := by omega
  have h48i : ¬ ((0 : Int) * (inf.bytes : Int) > 2 ^ 48) := by rw [Int.zero_mul]; omega
  have h0 : 0 * inf.size = 0 := Nat.zero_mul _
  have e0 : (#[t, tn] : Array TypeId)[0]? = some t := rfl
  have e1 : (#[t, tn] : Array TypeId)[1]? = some tn := rfl
  have e2 : (#[.slice none 0 0, .int kq ((0 : Nat) : Int)] : Array Value)[0]? = some (.slice none 0 0) := rfl
  have e3 : (#[.slice none 0 0, .int kq ((0 : Nat) : Int)] : Array Value)[1]? = some (.int kq ((0 : Nat) : Int)) := rfl
  have e4 : ∀ w, (asInt (.int kq ((0 : Nat) : Int))).run P w = .ok ((0 : Nat) : Int) w := fun w => rfl
  have e5 : (0 : Int).toNat = 0 := rfl
  simp only [Builtin.append_, e0, e1, e2, e3, e4, Sem.run_bind, run_underlying' hu, run_underlying' hun, Result.andThen_ok, run_sizeOf' hinf, run_typeInfo' hinf, Sem.run_pure, if_true, hw, hneg, h48i, if_false, e5, if_pos (Nat.le_refl (0 + 0)), Bool.not_true, Bool.false_eq_true, h0]
theorem xapp0_sound (c : Ctx F h w) {ts : Array TypeId} {tt : TypeId} {args : Array Value} {s x : SV} {vs vx : Value} (ha : args.toList = [vs, vx])
    (hs : s ≠ .top → Std h s vs) (hxx : x ≠ .top → Std h x vx) (hx : xapp0 P h ts.toList s x K) : Loud P F h w K (do pure (.value (← Builtin.append_ ts tt args))) := by
  have hargs : args = #[vs, vx] := by rw [← Array.toArray_toList (xs := args), ha]
  unfold xapp0 at hx
  split at hx
  rotate_left
  · exact hx.elim
  rename_i t tn hts
  have hts' : ts = #[t, tn] := by rw [← Array.toArray_toList (xs := ts), hts]
  subst hts' hargs
  clear hts
  split at hx
  rotate_left
  · exact hx.elim
  rename_i e kn hu hun
  split at hx
  · exact hx.elim
  rename_i inf hinf
  split at hx
  · exact hx.elim
  rename_i z hz
  obtain ⟨hchk, hx⟩ := bif_false hx
  simp only [Bool.and_eq_true] at hchk
  obtain ⟨k1, k2, k3, k4, k5⟩ := hchk
  have k1 := Nat.le_of_ble_eq_true k1
  have k2 := Nat.le_of_ble_eq_true k2
  have k3 := Nat.eq_of_beq_eq_true k3
  rw [lenV_eq, Array.length_toList] at k3
  have k4 := Nat.le_of_ble_eq_true k4
  split at hx
  rotate_left
  · exact hx.elim
  rename_i kq k _
  obtain ⟨⟨hk0, hkb⟩, hx⟩ := hx
  obtain ⟨hcs, hx⟩ := bif_false hx
  have hcs := Nat.eq_of_beq_eq_true hcs
  rw [lenC_eq] at hcs
  have hvx : vx = .int kq k := (hxx (by simp) []).symm
  obtain ⟨kk, hkk⟩ : ∃ kk : Nat, k = kk := ⟨k.toNat, by omega⟩
  subst hkk
  simp only [Int.toNat_natCast] at hx hkb hcs
  subst hvx
  have hle1 : kk ≤ kk * inf.bytes := Nat.le_mul_of_pos_right _ k2
  have hflat : (Builtin.zeroCells z.cells kk).toList = flatV (fun _ j => z.cells[j]!) inf.size kk := by
    rw [zeroCells_list (by omega), k3]
  have hzz : (if kk * inf.size = 0 then (#[] : Array Value) else Builtin.zeroCells z.cells kk).toList = flatV (fun _ j => z.cells[j]!) inf.size kk := by
    split
    · rename_i h0
      have : kk = 0 := by
        rcases Nat.mul_eq_zero.1 h0 with h | h <;> omega
      subst this
      rfl
    · exact hflat
  exact xapp_core (tt := tt) c hs k3 k4 k5 (repCols_are k5) hcs
    (fun b x sLen sCap hv hr => by subst hv; exact (run_append_room_zeros (kq := kq) hu hun hinf hz k2 hkb hr).trans (by rw [hzz]))
    (fun base sLen sCap old hv hl hg hsz hold => by
      subst hv
      have hcapfit : Builtin.nextslicecap (sLen + kk) sCap * inf.bytes ≤ 281474976710656 := by
        have h1 := nextcap_le (need := sLen + kk) (cap := sCap) (by omega)
        have h2 : Builtin.nextslicecap (sLen + kk) sCap * inf.bytes ≤ ((sLen + kk) + (sLen + kk) / 4 + 512) * inf.bytes := Nat.mul_le_mul_right _ h1
        have h3 : ((sLen + kk) + (sLen + kk) / 4 + 512) * inf.bytes = (sLen + kk) * inf.bytes + (sLen + kk) / 4 * inf.bytes + 512 * inf.bytes := by rw [Nat.add_mul, Nat.add_mul]
        have h4 : (sLen + kk) / 4 * inf.bytes * 4 ≤ (sLen + kk) * inf.bytes := by
          rw [Nat.mul_assoc, Nat.mul_comm inf.bytes 4, ← Nat.mul_assoc]
          exact Nat.mul_le_mul_right _ (Nat.div_mul_le_self _ _)
        omega
      have hle2 : sLen + kk ≤ (sLen + kk) * inf.bytes := Nat.le_mul_of_pos_right _ k2
      have ho := hold (w.drawn + 1)
      obtain ⟨olds, rfl⟩ : ∃ l : List Value, old = l.toArray := ⟨old.toList, by simp⟩
      refine ⟨_, grownCap_ge w (sLen + kk) sCap e, (Lib.run_append_grow_zeros (P := P) w t tn tt e inf z kq kn hu hun hinf hz base sLen sCap _ ho kk (by omega) (by omega) (by omega) (by omega) (by omega) hcapfit).trans ?_⟩
      have hfa : (flatV (fun _ j => z.cells[j]!) inf.size kk).toArray = Builtin.zeroCells z.cells kk := by rw [← hflat]
      rw [hfa]; rfl)
    (fun hn hv => by
      subst hn hv
      exact run_append_none_zeros hu hun hinf) hx
end
end Go.Sx

/- A call into the model's row for slices.overlaps: two blocks apart. -/
set_option linter.unusedVariables false
set_option linter.unusedSimpArgs false
namespace Go.Sx
open Classical

def IsOverlaps (P : Program) (g : FuncId) (tS : TypeId) : Prop :=
  ∃ fn tR, P.funcs[g]? = some fn ∧ (fn.name == "runtime.NumGoroutine") = false ∧ fn.body.isNone = true ∧ Extern.findNext fn = none ∧ Extern.find fn = some (Extern.SlicesOverlaps.overlaps #[tS, tS] #[tR])

def noBody (P : Program) (g : FuncId) : Bool :=
  match P.funcs[g]? with
  | some fn => fn.body.isNone
  | none => false

def xoverlaps (P : Program) (h : List Ent) (g : FuncId) (ts : List TypeId) (args : List SV) (K : SV → List Ent → Prop) : Prop :=
  match ts, args with
  | tS :: _, [.slc m o l c, .slc m' o' l' c'] => bif Nat.beq m m' then False else
    (match P.underlying tS with
    | some (.slice e) => (match P.info? e with
      | none => False
      | some _ => (match entAt h m, entAt h m' with
        | some (.own _ (.cells _ _ _)), some (.own _ (.tab _ _ N cols)) => IsOverlaps P g tS ∧ 0 < N ∧ bif Nat.ble 1 (lenC cols) then K .ff h else False
        | _, _ => False))
    | _ => False)
  | _, _ => False

section
variable {P : Program} {F : List (Nat × Blk)} {h : List Ent} {w : World} {K : SV → List Ent → Prop}

theorem own_apart (c : Ctx F h w) {m m' b b' : Nat} {k k' : SBlk} (h1 : entAt h m = some (.own b k)) (h2 : entAt h m' = some (.own b' k')) (hne : m ≠ m') : b ≠ b' := by
  rintro rfl
  obtain ⟨A, B, e1, e2⟩ := owned_split (ρ := locs h ++ []) h1
  have hn := (c.owns []).2
  rw [e1] at hn
  have hm : (b, k'.den (locs h ++ [])) ∈ A ++ B := by
    have := e2 (.gone (0, 0, 0))
    simp only [Ent.blocks, List.append_nil] at this ⊢
    rw [← this]
    refine owned_mem ?_
    have h3 : (h.set m (.gone (0, 0, 0)))[m']? = some (.own b k') := by
      rw [List.getElem?_set_ne hne]; exact entAt_get h2
    have := List.mem_of_getElem? h3
    simpa using this
  simp only [List.append_assoc, List.cons_append, List.map_append, List.map_cons] at hn
  have h4 := (List.perm_middle.nodup_iff).1 hn
  have h5 := (List.nodup_cons.1 h4).1
  apply h5
  have := List.mem_map_of_mem (f := Prod.fst) hm
  simp only [List.map_append, List.mem_append] at this ⊢
  rcases this with h | h
  · exact .inl h
  · exact .inr (.inl h)

theorem xoverlaps_sound (c : Ctx F h w) {g : FuncId} {ts : List TypeId} {args : List SV} {vs : Array Value} (ha : StdL h args vs.toList) (hx : xoverlaps P h g ts args K) : Loud P F h w K (callFunc g vs) := by
  unfold xoverlaps at hx
  split at hx
  rotate_left
  · exact hx.elim
  rename_i tS tr m o l cp m' o' l' c'
  cases hb : Nat.beq m m' with
  | true => rw [hb] at hx; exact hx.elim
  | false =>
    rw [hb] at hx
    simp only [cond_false] at hx
    have hne : m ≠ m' := by rintro rfl; simp at hb
    split at hx
    rotate_left
    · exact hx.elim
    rename_i e hu
    split at hx
    · exact hx.elim
    rename_i inf hinf
    split at hx
    rotate_left
    · exact hx.elim
    rename_i b wd lst t b' t' base N cols he he'
    obtain ⟨⟨fn, tR, q1, q2, q3, q4, q5⟩, hN, hx⟩ := hx
    obtain ⟨hwd, hx⟩ := bif_false hx
    have hwd := Nat.le_of_ble_eq_true hwd
    rw [lenC_eq] at hwd
    obtain ⟨⟨ob, hob, hk⟩, hloc⟩ := c.blk he rfl
    obtain ⟨⟨ob', hob', hk'⟩, hloc'⟩ := c.blk he' rfl
    have hk0 := hk []
    simp only [SBlk.den, Blk.holds] at hk0
    subst hk0
    obtain ⟨arr, lo, hi, rfl, h1, h2, h3⟩ := hk' []
    have harr : arr.size ≠ 0 := by
      have := h2 0 0 cols[0] hN (List.getElem?_eq_getElem (by omega))
      have := (Array.getElem?_eq_some_iff.1 this).1
      omega
    have hv : ∃ v1 v2, vs = #[v1, v2] ∧ Std h (.slc m o l cp) v1 ∧ Std h (.slc m' o' l' c') v2 := by
      have hl := ha []
      simp only [denL] at hl
      refine ⟨_, _, by rw [← Array.toArray_toList (xs := vs), ← hl], fun r => ?_, fun r => ?_⟩
      · have := ha r; rw [← hl] at this; simp only [denL, List.cons.injEq] at this; exact this.1
      · have := ha r; rw [← hl] at this; simp only [denL, List.cons.injEq] at this; exact this.2.1
    obtain ⟨v1, v2, rfl, s1, s2⟩ := hv
    have e1 : v1 = .slice (some ⟨b, (0 + o) * wd, none⟩) l cp := by
      have := s1 []
      simp only [den, hloc [], SBlk.base, SBlk.wd] at this
      exact this.symm
    have e2 : v2 = .slice (some ⟨b', (base + o') * cols.length, none⟩) l' c' := by
      have := s2 []
      simp only [den, hloc' [], SBlk.base, SBlk.wd] at this
      exact this.symm
    subst e1 e2
    have hsz : (Go.sizeOf e).run P w = .ok inf.size w := run_sizeOf' hinf
    have hrun := Lib.run_overlaps_apart (P := P) w tS tR e hu inf.size (fun w => run_sizeOf' hinf) ⟨b, (0 + o) * wd, none⟩ ⟨b', (base + o') * cols.length, none⟩ l cp l' c' (own_apart c he he' hne) t t' _ arr.size
      (by simp only [World.shape?, hob]; rfl) (by simp only [World.shape?, hob']) harr (by simp [World.frozen?, hob]) (by simp [World.frozen?, hob])
    refine ⟨.ff, h, _, .bool false, w, hx, Ext.refl h, c, Rest.refl w, fun _ r => rfl, ?_, .inl rfl⟩
    rw [run_callFunc_extern q1 q2 q3 q4 q5, hrun]
    rfl
end
end Go.Sx

/- Ranging over a map: while the loop runs the map's entries and the iterator lie open. -/
set_option linter.unusedVariables false
set_option linter.unusedSimpArgs false
namespace Go.Sx
open Classical

/-- The first map whose entries lie open. -/
def openMap : List Ent → Nat → Option (Nat × Nat × List MapEntry × Nat)
  | [], _ => none
  | e :: r, n => match openMap r (n + 1) with
    | some q => some q
    | none => match e with
      | .own b (.obj (.map es clock)) => some (n, b, es.toList, clock)
      | _ => none

def xrange (P : Program) (h : List Ent) (t : TypeId) (x : SV) (K : SV → List Ent → Prop) : Prop :=
  match P.underlying t with
  | some (.map _ _) => (match x with
    | .mp n => (match entAt h n with
      | some (.own b (.map ks m _)) => ∀ (es : List MapEntry) (clock : Nat), GoodMap ks ⟨es⟩ clock → m = getM es → ∀ bi, setK h n (.own b (.obj (.map ⟨es⟩ clock))) fun h1 => appK h1 (.own bi (.obj (.mapIter (some b) clock #[] clock))) fun h' => K (.ptr (lenE h1) 0 0) h'
      | _ => False)
    | .val (.map none) => ∀ bi, appK h (.own bi (.obj (.mapIter none 0 #[] 0))) fun h' => K (.ptr (lenE h) 0 0) h'
    | _ => False)
  | _ => False

def xnext (h : List Ent) (it : SV) (K : SV → List Ent → Prop) : Prop :=
  match it with
  | .ptr p i j => bif Nat.beq i 0 && Nat.beq j 0 then (match entAt h p with
    | some (.own bi (.obj (.mapIter none _ _ _))) => K (.tup [.ff]) h
    | some (.own bi (.obj (.mapIter (some b) since seen last))) => (match openMap h 0 with
      | some (_, b', es, clock) => b' = b ∧ (seen.toList = [] ∨ es = [] ∨ ∃ e ∈ es, e.born < last) ∧
          ((∀ e ∈ es, e.born < since → e.born ∈ seen.toList) → K (.tup [.ff]) h) ∧
          ∀ e ∈ es, e.born ∉ seen.toList → setK h p (.own bi (.obj (.mapIter (some b) since ⟨seen.toList ++ [e.born]⟩ clock))) fun h' => K (.tup [.tt, .val e.key, .val e.val]) h'
      | none => False)
    | _ => False) else False
  | _ => False

def xentry (h : List Ent) (it : SV) (K : SV → List Ent → Prop) : Prop :=
  match it with
  | .ptr p i j => bif Nat.beq i 0 && Nat.beq j 0 then (match entAt h p with
    | some (.own bi (.obj (.mapIter (some b) since seen last))) => (match openMap h 0 with
      | some (_, b', es, clock) => b' = b ∧ clock = last ∧ (es.map (·.born)).Nodup ∧ ∃ e, e ∈ es ∧ seen.toList.getLast? = some e.born ∧ K (.tup [.val e.key, .val e.val]) h
      | none => False)
    | _ => False) else False
  | _ => False

/-- Deleting in a map that lies open. -/
noncomputable def xdelete' (P : Program) (h : List Ent) (t : TypeId) (m k : SV) (K : SV → List Ent → Prop) : Prop :=
  match m with
  | .mp n => (match entAt h n with
    | some (.own b (.obj (.map es clock))) => (match P.underlying t with
      | some (.map kt _) => (match ksOf P kt with
        | some ks => bif keyOk P kt ks then (match keyVal ks k with
          | some key => (∀ e ∈ es.toList, ks.is e.key) ∧ (es.toList.map (·.key)).Nodup ∧
              setK h n (.own b (.obj (.map ⟨es.toList.filter fun e => decide (e.key ≠ key)⟩ clock))) fun h' => K (.tup []) h'
          | none => False) else False
        | none => False)
      | _ => False)
    | _ => xdelete P h t m k K)
  | _ => xdelete P h t m k K

section
variable {P : Program} {F : List (Nat × Blk)} {h : List Ent} {w : World} {K : SV → List Ent → Prop}

theorem openMap_spec : ∀ {h : List Ent} {i n b : Nat} {es : List MapEntry} {clock : Nat}, openMap h i = some (n, b, es, clock) → i ≤ n ∧ entAt h (n - i) = some (.own b (.obj (.map ⟨es⟩ clock)))
  | [], _, _, _, _, _, hx => by cases hx
  | e :: r, i, n, b, es, clock, hx => by
    have other : openMap r (i + 1) = some (n, b, es, clock) → i ≤ n ∧ entAt (e :: r) (n - i) = some (.own b (.obj (.map ⟨es⟩ clock))) := fun hx => by
      obtain ⟨h1, h2⟩ := openMap_spec hx
      refine ⟨by omega, ?_⟩
      rw [show n - i = (n - (i + 1)) + 1 by omega]
      exact h2
    unfold openMap at hx
    split at hx
    · rename_i q hq
      rw [← hq] at hx
      exact other hx
    · split at hx
      · simp only [Option.some.injEq, Prod.mk.injEq] at hx
        obtain ⟨rfl, rfl, rfl, rfl⟩ := hx
        exact ⟨Nat.le_refl _, by simp [entAt]⟩
      · cases hx

theorem Ctx.obj (c : Ctx F h w) {n b : Nat} {o : Obj} (he : entAt h n = some (.own b (.obj o))) : w.heap[b]? = some o ∧ ∀ r, locAt (locs h ++ r) n = (b, 0, 1) := by
  obtain ⟨⟨o', ho, hk⟩, hl⟩ := c.blk he rfl
  have := hk []
  simp only [SBlk.den, Blk.holds] at this
  subst this
  exact ⟨ho, hl⟩

theorem Ctx.setObj (c : Ctx F h w) {n b : Nat} {k k' : SBlk} {o o' : Obj} (he : entAt h n = some (.own b k)) (ho : w.heap[b]? = some o) (h1 : k'.base = k.base) (h2 : k'.wd = k.wd)
    (hk : ∀ r, (k'.den (locs h ++ r)).holds o') : Ctx F (h.set n (.own b k')) { w with heap := w.heap.setIfInBounds b o' } := by
  have hlt := (Array.getElem?_eq_some_iff.1 ho).1
  refine c.set he h1 h2 (o := o') (by simp [hlt]) hk (fun x hx => ?_)
  rw [Array.getElem?_setIfInBounds_ne (Ne.symm hx)]

theorem xrange_sound (c : Ctx F h w) {t : TypeId} {x : SV} {v : Value} (hv : x ≠ .top → Std h x v) (hx : xrange P h t x K) : Loud P F h w K (do pure (.value (← Instr.range t v))) := by
  unfold xrange at hx
  split at hx
  rotate_left
  · exact hx.elim
  rename_i kt et hu
  split at hx
  · rename_i n
    split at hx
    rotate_left
    · exact hx.elim
    rename_i b ks m st he
    obtain ⟨es, clock, h1, h2, h3, h4⟩ := c.map he
    have hvm : v = .map (some b) := by
      have := hv (by simp) []
      simp only [den, (c.blk he rfl).2 []] at this
      exact this.symm
    subst hvm
    have hx := appK_iff (setK_spec (hx es.toList clock h2 (funext h3) w.heap.size))
    have c1 : Ctx F (h.set n (.own b (.obj (.map es clock)))) w := by
      refine c.set (k' := .obj (.map es clock)) he rfl rfl (o := .map es clock) h1 (fun r => rfl) (fun x hx => rfl)
    have c2 := c1.push (blk := .obj (.mapIter (some b) clock #[] clock)) (o := .mapIter (some b) clock #[] clock) fun r => rfl
    refine ⟨_, _, _, .pointer (some ⟨w.heap.size, 0, none⟩), _, hx, (Ext.set (e' := .own b (.obj (.map ⟨es.toList⟩ clock))) he rfl).trans (Ext.app _ _), c2, ⟨rfl, rfl, rfl, by simp⟩, fun _ r => ?_, ?_, .inl rfl⟩
    · simp only [den, loc_new]
      rfl
    · simp only [Instr.range, Sem.run_bind, run_underlying' hu, Result.andThen_ok, run_getObj_map h1, Sem.run_pure, run_newObj]
  · have hvm : v = .map none := (hv (by simp) []).symm
    subst hvm
    have hx := appK_iff (hx w.heap.size)
    have c2 := c.push (blk := .obj (.mapIter none 0 #[] 0)) (o := .mapIter none 0 #[] 0) fun r => rfl
    refine ⟨_, _, _, .pointer (some ⟨w.heap.size, 0, none⟩), _, hx, Ext.app _ _, c2, ⟨rfl, rfl, rfl, by simp⟩, fun _ r => ?_, ?_, .inl rfl⟩
    · simp only [den, loc_new]
      rfl
    · simp only [Instr.range, Sem.run_bind, run_underlying' hu, Result.andThen_ok, Sem.run_pure, run_newObj]
  · exact hx.elim

theorem run_getObj {b : Nat} {o : Obj} (hb : w.heap[b]? = some o) (hn : ∀ c t f, o ≠ .cells c t f) : (getObj b).run P w = .ok o w := by
  cases o <;> first | exact absurd rfl (hn _ _ _) | simp [getObj, Sem.run, hb]

theorem iter_val (c : Ctx F h w) {p bi i j : Nat} {o : Obj} {v : Value} (hi : i = 0) (hj : j = 0) (he : entAt h p = some (.own bi (.obj o))) (hv : Std h (.ptr p i j) v) : v = .pointer (some ⟨bi, 0, none⟩) := by
  subst hi hj
  have := hv []
  simp only [den, (c.obj he).2 []] at this
  exact this.symm

theorem xnext_sound (c : Ctx F h w) {t : TypeId} {x : SV} {v : Value} (hv : x ≠ .top → Std h x v) (hx : xnext h x K) : Loud P F h w K (do pure (.value (← Instr.next v false t))) := by
  unfold xnext at hx
  split at hx
  rotate_left
  · exact hx.elim
  rename_i p i j
  obtain ⟨hij, hx⟩ := bif_false hx
  obtain ⟨hi, hj⟩ := (Bool.and_eq_true _ _).mp hij
  have hi := Nat.eq_of_beq_eq_true hi
  have hj := Nat.eq_of_beq_eq_true hj
  have hv := hv (by simp)
  split at hx
  · rename_i bi a1 a2 a3 he
    have hvv := iter_val c hi hj he hv
    subst hvv
    refine ⟨_, _, _, .tuple #[.bool false], w, hx, Ext.refl _, c, Rest.refl _, fun _ r => rfl, ?_, .inl rfl⟩
    simp only [Instr.next, Sem.run_bind, run_getObj (c.obj he).1 (by simp), Result.andThen_ok, Sem.run_pure]
  · rename_i bi b since seen last he
    have hvv := iter_val c hi hj he hv
    subst hvv
    split at hx
    rotate_left
    · exact hx.elim
    rename_i n b' es clock ho
    obtain ⟨h1, h2⟩ := openMap_spec ho
    rw [Nat.sub_zero] at h2
    obtain ⟨rfl, hsafe, hover, hstep⟩ := hx
    have hm := (c.obj h2).1
    have hit := (c.obj he).1
    have hcond : (!seen.isEmpty && !(⟨es⟩ : Array MapEntry).isEmpty && (⟨es⟩ : Array MapEntry).all (·.born ≥ last)) = false := by
      rcases hsafe with h | h | ⟨e, he1, he2⟩
      · have : seen = #[] := by cases seen; simp at h; subst h; rfl
        subst this; rfl
      · subst h; simp
      · have : (⟨es⟩ : Array MapEntry).all (·.born ≥ last) = false := by
          rw [Bool.eq_false_iff]
          intro hh
          have := (List.all_eq_true.1 (by simpa using hh : es.all (fun x => decide (x.born ≥ last)) = true)) e he1
          simp at this
          omega
        rw [this]; simp
    let left := (⟨es⟩ : Array MapEntry).filter fun e => !seen.contains e.born
    let old := left.filter (·.born < since)
    let new := left.filter (·.born ≥ since)
    let cand : Array (Option MapEntry) := (if old.isEmpty then #[none] else #[]) ++ (old ++ new).map some
    have hcs : 0 < cand.size := by
      show 0 < ((if old.isEmpty then #[none] else #[]) ++ (old ++ new).map some : Array (Option MapEntry)).size
      split
      · simp; omega
      · rename_i hne
        have : 0 < old.size := by
          rcases Nat.eq_zero_or_pos old.size with h | h
          · exact absurd (by simp [Array.isEmpty, h]) hne
          · exact h
        simp; omega
    have hmemL : ∀ e, e ∈ old ++ new → e ∈ es ∧ e.born ∉ seen.toList := by
      intro e hm'
      have : e ∈ left := by
        rcases Array.mem_append.1 hm' with h | h
        · exact (Array.mem_filter.1 h).1
        · exact (Array.mem_filter.1 h).1
      obtain ⟨k1, k2⟩ := Array.mem_filter.1 this
      refine ⟨by simpa using k1, ?_⟩
      simp at k2
      simpa using k2
    obtain ⟨i, d, hch, hlt⟩ : ∃ i d, (choose (.mapNext cand.size)).run P w = .ok i { w with drawn := d } ∧ i < cand.size := by
      rw [run_choose]
      by_cases hf : (Question.mapNext cand.size).forced = true
      · rw [if_pos hf]
        exact ⟨0, w.drawn, rfl, hcs⟩
      · rw [if_neg hf]
        exact ⟨_, _, rfl, Nat.mod_lt _ hcs⟩
    have run0 : ∀ (r : Sem Value), True → ∀ (x : Option MapEntry), cand[i]? = some x → (Instr.next (.pointer (some ⟨bi, 0, none⟩)) false t).run P w = ((match x with
        | some e => do
          setObj bi (.mapIter (some b') since (seen.push e.born) clock)
          pure (.tuple #[.bool true, e.key, e.val])
        | none => pure (.tuple #[.bool false]) : Sem Value).run P { w with drawn := d }) := by
      intro _ _ x hxx
      have hch' : (choose (.mapNext ((if old.isEmpty then #[none] else #[]) ++ (old ++ new).map some : Array (Option MapEntry)).size)).run P w = .ok i { w with drawn := d } := hch
      have hxx' : ((if old.isEmpty then #[none] else #[]) ++ (old ++ new).map some : Array (Option MapEntry))[i]? = some x := hxx
      simp only [Instr.next, Sem.run_bind, run_getObj hit (by simp), Result.andThen_ok, run_getObj hm (by simp)]
      rw [if_neg (by rw [hcond]; simp)]
      simp only [Sem.run_bind, Sem.run_pure, Result.andThen_ok]
      rw [hch']
      simp only [Result.andThen_ok]
      have hget : ((if (Array.filter (fun x => decide (x.born < since)) (Array.filter (fun e => !seen.contains e.born) (⟨es⟩ : Array MapEntry))).isEmpty = true then #[none] else #[]) ++ Array.map some
          (Array.filter (fun x => decide (x.born < since)) (Array.filter (fun e => !seen.contains e.born) (⟨es⟩ : Array MapEntry)) ++ Array.filter (fun x => decide (x.born ≥ since)) (Array.filter (fun e => !seen.contains e.born) (⟨es⟩ : Array MapEntry))))[i]? = some x := hxx
      rw [hget]
      cases x <;> rfl
    obtain ⟨x, hxx⟩ : ∃ x, cand[i]? = some x := ⟨cand[i], by simp [hlt]⟩
    have hrun := run0 (pure .nilIface) trivial x hxx
    cases x with
    | none =>
      have hold : old.isEmpty = true := by
        have hmem : (none : Option MapEntry) ∈ cand := Array.mem_of_getElem? hxx
        have hmem : (none : Option MapEntry) ∈ ((if old.isEmpty then #[none] else #[]) ++ (old ++ new).map some : Array (Option MapEntry)) := hmem
        rcases Array.mem_append.1 hmem with h | h
        · by_cases ho : old.isEmpty = true
          · exact ho
          · rw [if_neg ho] at h; simp at h
        · simp at h
      have hall : ∀ e ∈ es, e.born < since → e.born ∈ seen.toList := by
        intro e he1 he2
        by_cases hs : e.born ∈ seen.toList
        · exact hs
        · have : e ∈ old := by
            refine Array.mem_filter.2 ⟨Array.mem_filter.2 ⟨by simpa using he1, ?_⟩, by simpa using he2⟩
            simp
            simpa using hs
          have hsz : old.size = 0 := by simpa [Array.isEmpty] using hold
          have he0 := Array.eq_empty_of_size_eq_zero hsz
          rw [he0] at this
          simp at this
      refine ⟨_, _, _, .tuple #[.bool false], _, hover hall, Ext.refl _, c.drew d, ⟨rfl, rfl, rfl, Nat.le_refl _⟩, fun _ r => rfl, ?_, .inl rfl⟩
      simp only [Sem.run_bind, hrun, Sem.run_pure, Result.andThen_ok]
    | some e =>
      have hme : e ∈ old ++ new := by
        have hmem : (some e : Option MapEntry) ∈ cand := Array.mem_of_getElem? hxx
        have hmem : (some e : Option MapEntry) ∈ ((if old.isEmpty then #[none] else #[]) ++ (old ++ new).map some : Array (Option MapEntry)) := hmem
        rcases Array.mem_append.1 hmem with h | h
        · split at h <;> simp at h
        · simpa using h
      obtain ⟨k1, k2⟩ := hmemL e hme
      have hx := setK_spec (hstep e k1 k2)
      have hps : seen.push e.born = ⟨seen.toList ++ [e.born]⟩ := by cases seen; simp
      have c2 : Ctx F (h.set p (.own bi (.obj (.mapIter (some b') since ⟨seen.toList ++ [e.born]⟩ clock)))) { { w with drawn := d } with heap := w.heap.setIfInBounds bi (.mapIter (some b') since (seen.push e.born) clock) } := by
        rw [hps]
        exact (c.drew d).setObj (o' := .mapIter (some b') since ⟨seen.toList ++ [e.born]⟩ clock) he hit rfl rfl fun r => rfl
      refine ⟨_, _, _, .tuple #[.bool true, e.key, e.val], _, hx, Ext.set he rfl, c2, ⟨rfl, rfl, rfl, by simp⟩, fun _ r => by simp [den, denL], ?_, .inl rfl⟩
      have hso : (setObj bi (.mapIter (some b') since (seen.push e.born) clock)).run P { w with drawn := d } = .ok () { { w with drawn := d } with heap := w.heap.setIfInBounds bi (.mapIter (some b') since (seen.push e.born) clock) } :=
        run_setObj (w := { w with drawn := d }) hit (by simp)
      simp only [Sem.run_bind, hrun, hso, Sem.run_pure, Result.andThen_ok]
  · exact hx.elim

theorem find_born : ∀ {es : List MapEntry} {e : MapEntry}, e ∈ es → (es.map (·.born)).Nodup → es.find? (fun x => x.born == e.born) = some e
  | [], e, hm, _ => by simp at hm
  | x :: r, e, hm, hn => by
    simp only [List.map_cons, List.nodup_cons] at hn
    by_cases hx : x.born = e.born
    · rcases List.mem_cons.1 hm with rfl | hm
      · simp
      · exact absurd (by rw [hx]; exact List.mem_map_of_mem hm) hn.1
    · rcases List.mem_cons.1 hm with rfl | hm
      · exact absurd rfl hx
      · rw [List.find?_cons_of_neg (by simpa using hx)]
        exact find_born hm hn.2

theorem xentry_sound (c : Ctx F h w) {x : SV} {v : Value} (hv : x ≠ .top → Std h x v) (hx : xentry h x K) : Loud P F h w K (do pure (.value (← Instr.entry v))) := by
  unfold xentry at hx
  split at hx
  rotate_left
  · exact hx.elim
  rename_i p i j
  obtain ⟨hij, hx⟩ := bif_false hx
  obtain ⟨hi, hj⟩ := (Bool.and_eq_true _ _).mp hij
  have hi := Nat.eq_of_beq_eq_true hi
  have hj := Nat.eq_of_beq_eq_true hj
  have hv := hv (by simp)
  split at hx
  rotate_left
  · exact hx.elim
  rename_i bi b since seen last he
  have hvv := iter_val c hi hj he hv
  subst hvv
  split at hx
  rotate_left
  · exact hx.elim
  rename_i n b' es clock ho
  obtain ⟨h1, h2⟩ := openMap_spec ho
  rw [Nat.sub_zero] at h2
  obtain ⟨rfl, rfl, hn, e, he1, he2, hx⟩ := hx
  have hm := (c.obj h2).1
  have hit := (c.obj he).1
  have hback : seen.back? = some e.born := by
    cases seen
    simpa using he2
  have hfind : (⟨es⟩ : Array MapEntry).find? (fun x => x.born == e.born) = some e := by
    have := find_born he1 hn
    simpa using this
  refine ⟨_, _, _, .tuple #[e.key, e.val], w, hx, Ext.refl _, c, Rest.refl _, fun _ r => by simp [den, denL], ?_, .inl rfl⟩
  simp only [Instr.entry, Sem.run_bind, run_getObj hit (by simp), Result.andThen_ok, hback, run_getObj hm (by simp), bne_self_eq_false, Bool.false_eq_true, if_false, Sem.run_pure, hfind]

theorem xdelete'_sound (c : Ctx F h w) {t : TypeId} {ts : Array TypeId} {tt : TypeId} {args : Array Value} {m k : SV} {vm vk : Value} (ht : ts[0]? = some t) (ha : args[0]? = some vm) (hb : args[1]? = some vk)
    (hm : m ≠ .top → Std h m vm) (hk : k ≠ .top → Std h k vk) (hx : xdelete' P h t m k K) : Loud P F h w K (do pure (.value (← Builtin.delete_ ts tt args))) := by
  unfold xdelete' at hx
  split at hx
  rotate_left
  · exact xdelete_sound c ht ha hb hm hk hx
  rename_i n
  split at hx
  rotate_left
  · exact xdelete_sound c ht ha hb hm hk hx
  rename_i b es clock he
  split at hx
  rotate_left
  · exact hx.elim
  rename_i kt et hu
  split at hx
  rotate_left
  · exact hx.elim
  rename_i ks hks
  obtain ⟨hok, hx⟩ := bif_false hx
  split at hx
  rotate_left
  · exact hx.elim
  rename_i key hkv
  obtain ⟨hkeys, hnd, hx⟩ := hx
  have hx := setK_spec hx
  obtain ⟨hksk, hkd⟩ := keyVal_spec hkv
  have hkt : k ≠ .top := by
    rintro rfl
    cases ks with
    | one s => cases s <;> cases hkv
    | many l => cases hkv
  have hvk : vk = key := by rw [← hk hkt [], hkd]
  have hvm : vm = .map (some b) := by
    have := hm (by simp) []
    simp only [den, (c.blk he rfl).2 []] at this
    exact this.symm
  subst hvk hvm
  have h1 := (c.obj he).1
  have start : (Builtin.delete_ ts tt args).run P w = ((match findR vk es.toList 0 with
      | some (i, _) => setObj b (.map (es.eraseIdxIfInBounds i) clock)
      | none => setObj b (.map es clock) : Sem Unit).run P w).andThen fun _ w' => .ok (.tuple #[]) w' := by
    simp only [Builtin.delete_, ht, ha, hb, Sem.run_bind, run_underlying' hu, Result.andThen_ok, run_getObj_map h1]
    rw [show (10000 : Nat) = 9998 + 2 from rfl, run_check hok hksk, Result.andThen_ok, run_find hok hksk hkeys, Result.andThen_ok]
    cases findR vk es.toList 0 <;> simp
  have hset : ∀ o', (setObj b o').run P w = .ok () { w with heap := w.heap.setIfInBounds b o' } := fun o' => run_setObj h1 (by simp)
  have fin : ∀ es' : Array MapEntry, es'.toList = es.toList.filter (fun e => decide (e.key ≠ vk)) → (Builtin.delete_ ts tt args).run P w = .ok (.tuple #[]) { w with heap := w.heap.setIfInBounds b (.map es' clock) } →
      Loud P F h w K (do pure (.value (← Builtin.delete_ ts tt args))) := fun es' hes hr => by
    have hes' : es' = ⟨es.toList.filter (fun e => decide (e.key ≠ vk))⟩ := by rw [← hes]
    subst hes'
    refine ⟨_, _, _, .tuple #[], _, hx, Ext.set he rfl, c.setObj he h1 rfl rfl fun r => rfl, ⟨rfl, rfl, rfl, by simp⟩, fun _ r => rfl, ?_, .inl rfl⟩
    simp only [Sem.run_bind, hr, Result.andThen_ok, Sem.run_pure]
  cases hf : findR vk es.toList 0 with
  | some p =>
    obtain ⟨i, v0⟩ := p
    obtain ⟨p, e, q, h4, h5, h6, h7, h8⟩ := findR_some hf
    simp only [Nat.zero_add] at h5
    have hes : es = ⟨p ++ e :: q⟩ := by rw [← h4]
    subst hes
    subst h5
    have hq : ∀ x ∈ q, x.key ≠ vk := by
      intro x hx' hxk
      have := hnd
      simp only [List.map_append, List.map_cons, List.nodup_append, List.nodup_cons] at this
      exact this.2.1.1 (by rw [h6, ← hxk]; exact List.mem_map_of_mem hx')
    refine fin ⟨p ++ q⟩ ?_ ?_
    · show p ++ q = (p ++ e :: q).filter _
      rw [List.filter_append, List.filter_cons_of_neg (by simp [h6]), List.filter_eq_self.2 (fun x hx => by simp [h8 x hx]), List.filter_eq_self.2 (fun x hx => by simp [hq x hx])]
    · have her : ((⟨p ++ e :: q⟩ : Array MapEntry).eraseIdxIfInBounds p.length) = ⟨p ++ q⟩ := by
        apply Array.toList_inj.1
        simp [List.eraseIdx_append_of_length_le]
      simp only [start, hf, her, hset, Result.andThen_ok]
  | none =>
    have hn := findR_none hf
    refine fin es ?_ ?_
    · rw [List.filter_eq_self.2 (fun x hx => by simp [hn x hx])]
    · simp only [start, hf, hset, Result.andThen_ok]
end
end Go.Sx
