/- The loud operations, fifth part: what append comes to. -/
import Derived.Test.YthkcfocoekonjaaSxN
set_option linter.unusedVariables false
set_option linter.unusedSimpArgs false
namespace Go.Sx
open Classical

/-- The cells of columns, one element behind the other. -/
def flatV (f : Nat → Nat → Value) (wd : Nat) : Nat → List Value
  | 0 => []
  | n + 1 => flatV f wd n ++ (List.range wd).map (f n)

section
variable {P : Program} {F : List (Nat × Blk)} {h : List Ent} {w : World}

theorem flatV_len (f : Nat → Nat → Value) (wd : Nat) : ∀ n : Nat, (flatV f wd n).length = n * wd
  | 0 => by simp [flatV]
  | n + 1 => by simp [flatV, flatV_len f wd n, Nat.add_mul]
theorem flatV_get (f : Nat → Nat → Value) (wd : Nat) : ∀ {n i j : Nat}, i < n → j < wd → (flatV f wd n)[i * wd + j]? = some (f i j)
  | 0, _, _, hi, _ => by omega
  | n + 1, i, j, hi, hj => by
    rw [flatV]
    by_cases hin : i < n
    · have hlt : i * wd + j < n * wd := by
        have : (i + 1) * wd ≤ n * wd := Nat.mul_le_mul_right _ (by omega)
        rw [Nat.add_mul, Nat.one_mul] at this
        omega
      rw [List.getElem?_append_left (by rw [flatV_len]; exact hlt)]
      exact flatV_get f wd hin hj
    · have : i = n := by omega
      subst this
      rw [List.getElem?_append_right (by rw [flatV_len]; omega), flatV_len]
      simp [hj]
theorem div_form {wd x : Nat} (hw : 0 < wd) : ∃ i j, x = i * wd + j ∧ j < wd :=
  ⟨x / wd, x % wd, by rw [Nat.mul_comm]; exact (Nat.div_add_mod x wd).symm, Nat.mod_lt _ hw⟩
theorem form_lt {wd i j n : Nat} (hj : j < wd) : i * wd + j < n * wd ↔ i < n := by
  constructor
  · intro hl
    rcases Nat.lt_or_ge i n with h | h
    · exact h
    · have : n * wd ≤ i * wd := Nat.mul_le_mul_right _ h
      omega
  · intro hi
    have : (i + 1) * wd ≤ n * wd := Nat.mul_le_mul_right _ (by omega)
    rw [Nat.add_mul, Nat.one_mul] at this
    omega

theorem run_firstCells_slice {b x n m c : Nat} {o : Obj} {wd : Nat} {f : Nat → Nat → Value} (ho : w.heap[b]? = some o)
    (hc : ∀ i j, i < n → j < wd → objCell o (x + i * wd + j) = some (f i j)) (hw : 0 < wd) :
    (Builtin.firstCells wd n (.slice (some ⟨b, x, none⟩) m c)).run P w = .ok (flatV f wd n).toArray w := by
  simp only [Builtin.firstCells]
  refine run_loadCells (flatV_len f wd n) fun y hy => ?_
  obtain ⟨i, j, rfl, hj⟩ := div_form (x := y) hw
  have hi := (form_lt hj).1 hy
  rw [flatV_get f wd hi hj]
  refine cell_obj ho ?_
  rw [← Nat.add_assoc]
  exact hc i j hi hj

/-- An array behind stores one behind the other. -/
def wrA (arr : Array Value) (x : Nat) : List Value → Array Value
  | [] => arr
  | v :: r => wrA (arr.setIfInBounds x v) (x + 1) r
theorem wrA_get : ∀ (vs : List Value) (arr : Array Value) (x y : Nat), x + vs.length ≤ arr.size → (wrA arr x vs)[y]? = if x ≤ y ∧ y < x + vs.length then vs[y - x]? else arr[y]?
  | [], arr, x, y, _ => by simp [wrA]; intro h1 h2; omega
  | v :: r, arr, x, y, hl => by
    simp only [List.length_cons] at hl ⊢
    rw [wrA, wrA_get r _ (x + 1) y (by simp; omega)]
    by_cases h1 : x + 1 ≤ y ∧ y < x + 1 + r.length
    · rw [if_pos h1, if_pos (by omega)]
      obtain ⟨d, hd⟩ : ∃ d, y - x = d + 1 := ⟨y - x - 1, by omega⟩
      rw [hd, show y - (x + 1) = d by omega]
      simp
    · rw [if_neg h1]
      by_cases h2 : y = x
      · subst h2
        rw [if_pos (by omega), Array.getElem?_setIfInBounds_self, if_pos (by omega)]
        simp
      · rw [if_neg (by omega), Array.getElem?_setIfInBounds_ne (Ne.symm h2)]
theorem wrA_size : ∀ (vs : List Value) (arr : Array Value) (x : Nat), (wrA arr x vs).size = arr.size
  | [], _, _ => rfl
  | v :: r, arr, x => by rw [wrA, wrA_size r]; simp

theorem run_storeList {b x lo hi : Nat} {t : TypeId} : ∀ (vs : List Value) (arr : Array Value) (d : Nat) (w : World), w.heap[b]? = some (.cells arr t (lo, hi)) → x + d + vs.length ≤ arr.size →
    (∀ y, x + d ≤ y → y < x + d + vs.length → ¬ (lo ≤ y ∧ y < hi)) → (∀ v ∈ vs, v.oneCell' = true) →
    ∃ w', (storeCells ⟨b, x, none⟩ vs d).run P w = .ok () w' ∧ w'.heap[b]? = some (.cells (wrA arr (x + d) vs) t (lo, hi)) ∧ (∀ y, y ≠ b → w'.heap[y]? = w.heap[y]?) ∧ Rest w w'
  | [], arr, d, w, ho, _, _, _ => ⟨w, rfl, ho, fun _ _ => rfl, Rest.refl w⟩
  | v :: vs, arr, d, w, ho, hl, hf, hv => by
    simp only [List.length_cons] at hl hf
    have hfz : objFrozen (.cells arr t (lo, hi)) (x + d) = false := by
      have := hf (x + d) (by omega) (by omega)
      simp only [objFrozen]
      by_cases h1 : lo ≤ x + d <;> by_cases h2 : x + d < hi <;> simp [h1, h2]
      exact this ⟨h1, h2⟩
    have hsome : (objCell (.cells arr t (lo, hi)) (x + d)).isSome = true := by
      have : x + d < arr.size := by omega
      simp [objCell, this]
    obtain ⟨r1, r2, r3, r4⟩ := run_store1 (P := P) (x := x + d) (v := v) ho hsome hfz (hv v (by simp))
    obtain ⟨w', e1, e2, e3, e4⟩ := run_storeList (x := x) vs (arr.setIfInBounds (x + d) v) (d + 1) _ r2 (by rw [Array.size_setIfInBounds]; omega) (fun y h1 h2 => hf y (by omega) (by omega)) (fun u hu => hv u (by simp [hu]))
    refine ⟨w', ?_, e2, fun y hy => (e3 y hy).trans (r3 y hy), r4.trans e4⟩
    simp only [storeCells, Sem.run_bind, addr_add, r1, Result.andThen_ok]
    exact e1

theorem growBy_le (nl : Nat) : ∀ (r c : Nat), Builtin.growBy nl r c ≤ max c (nl + nl / 4 + 192)
  | 0, c => by simp [Builtin.growBy]; omega
  | r + 1, c => by
    rw [Builtin.growBy]
    split
    · omega
    · have := growBy_le nl r (c + (c + 768) / 4)
      omega
theorem nextcap_le {need cap : Nat} (hn : cap < need) : Builtin.nextslicecap need cap ≤ need + need / 4 + 512 := by
  unfold Builtin.nextslicecap
  split
  · omega
  · split
    · omega
    · have := growBy_le need 4 cap
      omega

theorem run_append_grow {ts : Array TypeId} {tt t e : TypeId} {args : Array Value} {inf : TypeInfo} {z vx : Value} {base : Option Addr} {sLen sCap n : Nat} {old new : Array Value}
    (ht : ts[0]? = some t) (hts : ∀ t1, ts[1]? = some t1 → ∃ d, P.underlying t1 = some d ∧ ∀ k, d ≠ .int k) (ha : args[0]? = some (.slice base sLen sCap)) (hb : args[1]? = some vx) (hu : P.underlying t = some (.slice e)) (hinf : P.info? e = some inf)
    (hz : inf.zero = some z) (hn : (Builtin.lenOf vx).run P w = .ok n w) (hgrow : sCap < sLen + n) (hsz : (sLen + n) * inf.bytes ≤ 140737488355328) (hby : inf.bytes ≤ 1048576) (hby0 : 1 ≤ inf.bytes)
    (hold : ∀ d, (Builtin.firstCells inf.size sLen (.slice base sLen sCap)).run P { w with drawn := d } = .ok old { w with drawn := d }) (hnew : ∀ d, (Builtin.firstCells inf.size n vx).run P { w with drawn := d } = .ok new { w with drawn := d }) :
    ∃ cap', sLen + n ≤ cap' ∧ (Builtin.append_ ts tt args).run P w = .ok (.slice (some ⟨w.heap.size, 0, none⟩) (sLen + n) cap')
      { w with drawn := w.drawn + 1, heap := w.heap.push (.cells (old ++ new ++ Builtin.zeroCells z.cells (cap' - (sLen + n))) e) } := by
  refine ⟨(sLen + n) + (w.tape w.drawn (.appendCap (sLen + n) sCap e)) % (2 ^ 63 - (sLen + n)), by omega, ?_⟩
  have hz0 : (∃ t1, ts[1]? = some t1 ∧ ∃ d, P.underlying t1 = some d ∧ ∀ k, d ≠ .int k) ∨ ts[1]? = none := by
    cases h1 : ts[1]? with
    | none => exact .inr rfl
    | some t1 => exact .inl ⟨t1, rfl, hts t1 h1⟩
  have hcap : ¬ ((Builtin.nextslicecap (sLen + n) sCap) * inf.bytes > 2 ^ 48) := by
    have h1 := nextcap_le (need := sLen + n) (cap := sCap) hgrow
    have h2 : Builtin.nextslicecap (sLen + n) sCap * inf.bytes ≤ ((sLen + n) + (sLen + n) / 4 + 512) * inf.bytes := Nat.mul_le_mul_right _ h1
    have h3 : ((sLen + n) + (sLen + n) / 4 + 512) * inf.bytes = (sLen + n) * inf.bytes + (sLen + n) / 4 * inf.bytes + 512 * inf.bytes := by rw [Nat.add_mul, Nat.add_mul]
    have h4 : (sLen + n) / 4 * inf.bytes * 4 ≤ (sLen + n) * inf.bytes := by
      rw [Nat.mul_assoc, Nat.mul_comm inf.bytes 4, ← Nat.mul_assoc]
      exact Nat.mul_le_mul_right _ (Nat.div_mul_le_self _ _)
    omega
  have hask : ∀ m (w : World), (askRoom m).run P w = .ok () w := fun m w => run_askRoom P w m
  have hch : ∀ (w : World), (choose (.appendCap (sLen + n) sCap e)).run P w = .ok ((sLen + n) + (w.tape w.drawn (.appendCap (sLen + n) sCap e)) % (2 ^ 63 - (sLen + n))) { w with drawn := w.drawn + 1 } := fun w => by
    rw [run_choose]
    rfl
  have hz' : ∀ w, (zeroValue e).run P w = .ok z w := fun w => by simp [zeroValue, run_typeInfo' hinf, hz]
  have hb0 : ¬ inf.bytes = 0 := by omega
  rcases hz0 with ⟨t1, h1, d, hd, hdi⟩ | h1
  · cases d <;> first
      | exact absurd rfl (hdi _)
      | (simp only [Builtin.append_, ht, ha, hb, h1, Sem.run_bind, run_underlying' hu, run_underlying' hd, Result.andThen_ok, run_sizeOf' hinf, Sem.run_pure, Bool.false_eq_true, if_false, hn,
          if_neg (show ¬ sLen + n ≤ sCap by omega), run_typeInfo' hinf, false_or, hb0, and_false, hcap, hch, hask, hold, hnew, Bool.not_false, if_true, hz', newRow, run_newObj]
         done)
  · simp only [Builtin.append_, ht, ha, hb, h1, Sem.run_bind, run_underlying' hu, Result.andThen_ok, run_sizeOf' hinf, Sem.run_pure, Bool.false_eq_true, if_false, hn,
          if_neg (show ¬ sLen + n ≤ sCap by omega), run_typeInfo' hinf, false_or, hb0, and_false, hcap, hch, hask, hold, hnew, Bool.not_false, if_true, hz', newRow, run_newObj]

theorem run_append_room {ts : Array TypeId} {tt t e : TypeId} {args : Array Value} {inf : TypeInfo} {vx : Value} {b x sLen sCap n : Nat} {new : Array Value}
    (ht : ts[0]? = some t) (hts : ∀ t1, ts[1]? = some t1 → ∃ d, P.underlying t1 = some d ∧ ∀ k, d ≠ .int k) (ha : args[0]? = some (.slice (some ⟨b, x, none⟩) sLen sCap)) (hb : args[1]? = some vx) (hu : P.underlying t = some (.slice e)) (hinf : P.info? e = some inf)
    (hn : (Builtin.lenOf vx).run P w = .ok n w) (hroom : sLen + n ≤ sCap) (hnew : (Builtin.firstCells inf.size n vx).run P w = .ok new w) :
    (Builtin.append_ ts tt args).run P w = ((storeCells ⟨b, x + sLen * inf.size, none⟩ new.toList).run P w).andThen fun _ w' => .ok (.slice (some ⟨b, x, none⟩) (sLen + n) sCap) w' := by
  have hz0 : (∃ t1, ts[1]? = some t1 ∧ ∃ d, P.underlying t1 = some d ∧ ∀ k, d ≠ .int k) ∨ ts[1]? = none := by
    cases h1 : ts[1]? with
    | none => exact .inr rfl
    | some t1 => exact .inl ⟨t1, rfl, hts t1 h1⟩
  rcases hz0 with ⟨t1, h1, d, hd, hdi⟩ | h1
  · cases d <;> first
      | exact absurd rfl (hdi _)
      | (simp only [Builtin.append_, ht, ha, hb, h1, Sem.run_bind, run_underlying' hu, run_underlying' hd, Result.andThen_ok, run_sizeOf' hinf, Sem.run_pure, Bool.false_eq_true, if_false, hn,
          if_pos hroom, hnew, Bool.not_false, if_true, addr_add]
         done)
  · simp only [Builtin.append_, ht, ha, hb, h1, Sem.run_bind, run_underlying' hu, Result.andThen_ok, run_sizeOf' hinf, Sem.run_pure, Bool.false_eq_true, if_false, hn,
          if_pos hroom, hnew, Bool.not_false, if_true, addr_add]

/-- nothing appended to nothing. -/
theorem run_append_none {ts : Array TypeId} {tt t e : TypeId} {args : Array Value} {inf : TypeInfo} {vx : Value} {sCap : Nat} {new : Array Value}
    (ht : ts[0]? = some t) (hts : ∀ t1, ts[1]? = some t1 → ∃ d, P.underlying t1 = some d ∧ ∀ k, d ≠ .int k) (ha : args[0]? = some (.slice none 0 sCap)) (hb : args[1]? = some vx) (hu : P.underlying t = some (.slice e)) (hinf : P.info? e = some inf)
    (hn : (Builtin.lenOf vx).run P w = .ok 0 w) (hnew : (Builtin.firstCells inf.size 0 vx).run P w = .ok new w) :
    (Builtin.append_ ts tt args).run P w = .ok (.slice none 0 sCap) w := by
  have hz0 : (∃ t1, ts[1]? = some t1 ∧ ∃ d, P.underlying t1 = some d ∧ ∀ k, d ≠ .int k) ∨ ts[1]? = none := by
    cases h1 : ts[1]? with
    | none => exact .inr rfl
    | some t1 => exact .inl ⟨t1, rfl, hts t1 h1⟩
  rcases hz0 with ⟨t1, h1, d, hd, hdi⟩ | h1
  · cases d <;> first
      | exact absurd rfl (hdi _)
      | (simp only [Builtin.append_, ht, ha, hb, h1, Sem.run_bind, run_underlying' hu, run_underlying' hd, Result.andThen_ok, run_sizeOf' hinf, Sem.run_pure, Bool.false_eq_true, if_false, hn,
          if_pos (show 0 + 0 ≤ sCap by omega), hnew, Bool.not_false, if_true]
         done)
  · simp only [Builtin.append_, ht, ha, hb, h1, Sem.run_bind, run_underlying' hu, Result.andThen_ok, run_sizeOf' hinf, Sem.run_pure, Bool.false_eq_true, if_false, hn,
          if_pos (show 0 + 0 ≤ sCap by omega), hnew, Bool.not_false, if_true]

end
end Go.Sx
