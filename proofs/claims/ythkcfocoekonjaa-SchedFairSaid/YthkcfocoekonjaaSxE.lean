/- Keys of maps: what looking for one finds. -/
import Derived.Laws.StructEq
import Derived.Test.YthkcfocoekonjaaSxD
set_option linter.unusedVariables false
set_option linter.unusedSimpArgs false
namespace Go.Sx
open Classical

def kEqB : IntKind → IntKind → Bool
  | .i8, .i8 => true | .i16, .i16 => true | .i32, .i32 => true | .i64, .i64 => true
  | .u8, .u8 => true | .u16, .u16 => true | .u32, .u32 => true | .u64, .u64 => true
  | _, _ => false
theorem kEqB_eq {a b : IntKind} (h : kEqB a b = true) : a = b := by cases a <;> cases b <;> first | rfl | cases h

def ksMatch : TypeDesc → KS → Bool
  | .int k, .int k' => kEqB k k'
  | .bool, .bool => true
  | .string, .str => true
  | _, _ => false
def ksAt (P : Program) (t : TypeId) (s : KS) : Bool :=
  match P.underlying t with
  | some d => ksMatch d s
  | none => false
def fkey (P : Program) : List Field → Nat → List KS → Bool
  | [], _, [] => true
  | f :: fs, o, s :: ss => (f.name != "_") && (Nat.beq f.offset o && (ksAt P f.type s && fkey P fs (o + 1) ss))
  | _, _, _ => false
def keyOk (P : Program) (kt : TypeId) : KShape → Bool
  | .one s => ksAt P kt s
  | .many l => match P.underlying kt with
    | some (.struct fs) => !P.stoodInHeld kt && fkey P fs.toList 0 l
    | _ => false

noncomputable def findR (k : Value) : List MapEntry → Nat → Option (Nat × Value)
  | [], _ => none
  | e :: es, i => if e.key = k then some (i, e.val) else findR k es (i + 1)

theorem ba_eq {x y : ByteArray} (h : x.toList = y.toList) : x = y := by
  rw [ByteArray.toList_eq, ByteArray.toList_eq] at h
  cases x; cases y
  congr 1
  exact Array.toList_inj.1 h
theorem ba_beq (x y : ByteArray) : (x == y) = decide (x = y) := by
  rw [beq_toListBytes]
  by_cases h : x = y
  · subst h; simp
  · have : ¬ x.toList = y.toList := fun h' => h (ba_eq h')
    simp [h, this]

section
variable {P : Program}

theorem ksAt_get {t : TypeId} {s : KS} (h : ksAt P t s = true) : ∃ d, P.underlying t = some d ∧ ksMatch d s = true := by
  unfold ksAt at h
  split at h
  · exact ⟨_, by assumption, h⟩
  · cases h

theorem notAgg {t : TypeId} {s : KS} (h : ksAt P t s = true) (w : World) : (isAgg t).run P w = .ok false w := by
  obtain ⟨d, hd, hm⟩ := ksAt_get h
  cases d <;> cases s <;> simp [ksMatch] at hm <;> simp [isAgg, run_underlying' hd]

theorem part_one {t : TypeId} {s : KS} (h : ksAt P t s = true) {cs : Array Value} {off : Nat} {v : Value} (hv : cs[off]? = some v) (w : World) :
    (part t cs off).run P w = .ok v w := by
  simp only [part, Sem.run_bind, notAgg h, Result.andThen_ok, Bool.false_eq_true, if_false, hv, Sem.run_pure]

theorem eq_scalar {t : TypeId} {s : KS} (h : ksAt P t s = true) {a b : Value} (ha : s.is a) (hb : s.is b) (d : Nat) (w : World) :
    (Op.equalIn (d + 1) t a b).run P w = .ok (decide (b = a)) w := by
  obtain ⟨d', hd, hm⟩ := ksAt_get h
  cases s with
  | int k =>
    cases d' <;> simp [ksMatch] at hm
    cases a <;> simp [KS.is] at ha
    cases b <;> simp [KS.is] at hb
    subst ha hb
    rename_i k' x y
    rw [run_equalIn_int w d t k _ x y hd]
    congr 1
    by_cases hxy : x = y
    · subst hxy; simp
    · simp [hxy, Ne.symm hxy]
  | bool =>
    cases d' <;> simp [ksMatch] at hm
    cases a <;> simp [KS.is] at ha
    cases b <;> simp [KS.is] at hb
    rename_i x y
    rw [eqIn_bool d hd]
    cases x <;> cases y <;> simp
  | str =>
    cases d' <;> simp [ksMatch] at hm
    cases a <;> simp [KS.is] at ha
    cases b <;> simp [KS.is] at hb
    rename_i x y
    rw [run_equalIn_string w d t x y hd]
    congr 1
    by_cases hxy : x = y
    · subst hxy; simp
    · have : ¬ x.toList = y.toList := fun h => hxy (ba_eq h)
      simp [this, Ne.symm hxy]

theorem KS.all_len : ∀ {l : List KS} {vs : List Value}, KS.all l vs → vs.length = l.length
  | [], [], _ => rfl
  | [], _ :: _, h => h.elim
  | _ :: _, [], h => h.elim
  | _ :: _, _ :: _, h => by simp [KS.all_len h.2]
theorem KS.all_get : ∀ {l : List KS} {vs : List Value} {n : Nat} {s : KS}, KS.all l vs → l[n]? = some s → ∃ v, vs[n]? = some v ∧ s.is v
  | [], _, _, _, _, hn => by simp at hn
  | _ :: _, [], _, _, h, _ => h.elim
  | s :: _, v :: _, 0, _, h, hn => by simp at hn; subst hn; exact ⟨v, rfl, h.1⟩
  | _ :: _, _ :: _, n + 1, _, h, hn => by simpa using KS.all_get h.2 (by simpa using hn)

theorem eqFields_run (d : Nat) {l : List KS} {xs ys : Array Value} (hx : KS.all l xs.toList) (hy : KS.all l ys.toList) (w : World) :
    ∀ (fs : List Field) (o : Nat), fkey P fs o (l.drop o) = true → (Op.eqFields (d + 1) xs ys fs).run P w = .ok (decide (ys.toList.drop o = xs.toList.drop o)) w := by
  intro fs
  induction fs with
  | nil =>
    intro o h
    have h1 : l.length ≤ o := by
      cases hl : l.drop o with
      | nil => simpa using hl
      | cons => rw [hl] at h; simp [fkey] at h
    have h2 := KS.all_len hx
    have h3 := KS.all_len hy
    simp [Op.eqFields, List.drop_eq_nil_of_le (as := xs.toList) (i := o) (by omega), List.drop_eq_nil_of_le (as := ys.toList) (i := o) (by omega)]
  | cons f fs ih =>
    intro o h
    cases hl : l.drop o with
    | nil => rw [hl] at h; simp [fkey] at h
    | cons s ss =>
      rw [hl] at h
      simp only [fkey, Bool.and_eq_true, bne_iff_ne, ne_eq] at h
      obtain ⟨hn, hoff, hs, hrest⟩ := h
      have hoff := Nat.eq_of_beq_eq_true hoff
      have hlt : o < l.length := by
        rcases Nat.lt_or_ge o l.length with h | h
        · exact h
        · rw [List.drop_eq_nil_of_le h] at hl; cases hl
      have hls : l[o]? = some s := by
        rw [← List.head?_drop, hl]; rfl
      have hd1 : l.drop (o + 1) = ss := by
        rw [← List.tail_drop, hl]; rfl
      obtain ⟨a, ha, hsa⟩ := KS.all_get hx hls
      obtain ⟨b, hb, hsb⟩ := KS.all_get hy hls
      simp only [Op.eqFields, hn, not_false_eq_true, ne_eq, if_true, Sem.run_bind]
      rw [hoff, part_one hs (v := a) (by simpa using ha), Result.andThen_ok, part_one hs (v := b) (by simpa using hb), Result.andThen_ok, eq_scalar hs hsa hsb, Result.andThen_ok, Sem.run_ite,
        Sem.run_pure, ih (o + 1) (by rw [hd1]; exact hrest)]
      have e1 : xs.toList.drop o = a :: xs.toList.drop (o + 1) := by
        obtain ⟨hx', rfl⟩ := List.getElem?_eq_some_iff.1 ha
        exact List.drop_eq_getElem_cons hx'
      have e2 : ys.toList.drop o = b :: ys.toList.drop (o + 1) := by
        obtain ⟨hy', rfl⟩ := List.getElem?_eq_some_iff.1 hb
        exact List.drop_eq_getElem_cons hy'
      rw [e1, e2]
      by_cases hab : b = a
      · subst hab; simp
      · simp [hab]

theorem key_equal {kt : TypeId} {ks : KShape} (hk : keyOk P kt ks = true) {a b : Value} (ha : ks.is a) (hb : ks.is b) (w : World) :
    (Op.equal kt a b).run P w = .ok (decide (b = a)) w := by
  rw [equal_unfold]
  cases ks with
  | one s => exact eq_scalar hk ha hb 9999 w
  | many l =>
    cases a <;> simp [KShape.is] at ha
    cases b <;> simp [KShape.is] at hb
    rename_i xs ys
    simp only [keyOk] at hk
    split at hk
    · rename_i fs hu
      simp only [Bool.and_eq_true, Bool.not_eq_true'] at hk
      have hf : P.fieldsOf kt = fs := by simp [Program.fieldsOf, hu]
      rw [run_equalIn_struct w 9999 kt xs ys (by rw [hf]; exact hu) hk.1, hf, eqFields_run 9998 ha hb w fs.toList 0 (by simpa using hk.2)]
      congr 1
      simp only [List.drop_zero, Value.agg.injEq]
      by_cases h : ys = xs
      · subst h; simp
      · have : ¬ ys.toList = xs.toList := fun h' => h (Array.toList_inj.1 h')
        simp [h, this]
    · cases hk

theorem findNow_run {d : TypeDesc} {s : KS} (hm : ksMatch d s = true) {k : Value} (hk : s.is k) : ∀ (es : List MapEntry) (i : Nat), (∀ e ∈ es, s.is e.key) → Instr.findNow d k es i = some (findR k es i)
  | [], _, _ => rfl
  | e :: es, i, h => by
    have he := h e (by simp)
    have ih := findNow_run hm hk es (i + 1) (fun e' h' => h e' (by simp [h']))
    obtain ⟨key, val, born⟩ := e
    simp only at he
    cases s with
    | int k' =>
      cases d <;> simp [ksMatch] at hm
      cases k <;> simp [KS.is] at hk
      cases key <;> simp [KS.is] at he
      subst hk he
      rename_i x y
      simp only [Instr.findNow, Instr.sameNow, if_true, findR, Value.int.injEq, true_and]
      by_cases hxy : x = y
      · subst hxy; simp
      · have : (x == y) = false := by simpa using hxy
        simp [this, Ne.symm hxy, ih]
    | bool =>
      cases d <;> simp [ksMatch] at hm
      cases k <;> simp [KS.is] at hk
      cases key <;> simp [KS.is] at he
      rename_i x y
      simp only [Instr.findNow, Instr.sameNow, findR, Value.bool.injEq]
      by_cases hxy : x = y
      · subst hxy; simp
      · have : (x == y) = false := by simpa using hxy
        simp [this, Ne.symm hxy, ih]
    | str =>
      cases d <;> simp [ksMatch] at hm
      cases k <;> simp [KS.is] at hk
      cases key <;> simp [KS.is] at he
      rename_i x y
      simp only [Instr.findNow, Instr.sameNow, findR, Value.string.injEq, ba_beq]
      by_cases hxy : x = y
      · subst hxy; simp
      · simp [hxy, Ne.symm hxy, ih]

theorem findAsking_run {kt : TypeId} {ks : KShape} (hok : keyOk P kt ks = true) {k : Value} (hk : ks.is k) (w : World) : ∀ (es : List MapEntry) (i : Nat), (∀ e ∈ es, ks.is e.key) →
    (Instr.findAsking kt k es i).run P w = .ok (findR k es i) w
  | [], _, _ => rfl
  | e :: es, i, h => by
    simp only [Instr.findAsking, Sem.run_bind, key_equal hok hk (h e (by simp)), Result.andThen_ok, Sem.run_ite, Sem.run_pure, findR,
      findAsking_run hok hk w es (i + 1) (fun e' h' => h e' (by simp [h']))]
    by_cases h : e.key = k <;> simp [h]

theorem run_find {kt : TypeId} {ks : KShape} (hok : keyOk P kt ks = true) {k : Value} (hk : ks.is k) {es : List MapEntry} (hes : ∀ e ∈ es, ks.is e.key) (w : World) :
    (Instr.findKey kt k es).run P w = .ok (findR k es 0) w := by
  unfold Instr.findKey
  cases ks with
  | one s =>
    obtain ⟨d, hd, hm⟩ := ksAt_get hok
    simp only [Sem.run_bind, run_underlying' hd, Result.andThen_ok, findNow_run hm hk es 0 hes, Sem.run_pure]
  | many l =>
    have hok' := hok
    simp only [keyOk] at hok'
    split at hok'
    · rename_i fs hu
      simp only [Sem.run_bind, run_underlying' hu, Result.andThen_ok]
      cases es with
      | nil => rfl
      | cons e es =>
        simp only [Instr.findNow, Instr.sameNow]
        exact findAsking_run hok hk w (e :: es) 0 hes
    · cases hok'

theorem findR_val {k : Value} : ∀ (es : List MapEntry) (i : Nat), (findR k es i).map (·.2) = getM es k
  | [], _ => rfl
  | e :: es, i => by
    have := findR_val (k := k) es (i + 1)
    unfold getM at this ⊢
    simp only [findR, List.find?_cons]
    by_cases h : e.key = k
    · simp [h]
    · simp [h, this]

theorem checkFields_run {em : Bool} {n : Nat} {l : List KS} {xs : Array Value} (hx : KS.all l xs.toList) (w : World)
    (hs : ∀ t s v, ksAt P t s = true → s.is v → (Instr.checkKey em n t v).run P w = .ok () w) :
    ∀ (fs : List Field) (o : Nat), fkey P fs o (l.drop o) = true →
    (forIn fs PUnit.unit fun f _ => (if f.name ≠ "_" then (do Instr.checkKey em n f.type (← part f.type xs f.offset); pure (ForInStep.yield PUnit.unit)) else pure (ForInStep.yield PUnit.unit) : Sem (ForInStep PUnit))).run P w = .ok PUnit.unit w := by
  intro fs
  induction fs with
  | nil => intro o _; rfl
  | cons f fs ih =>
    intro o h
    cases hl : l.drop o with
    | nil => rw [hl] at h; simp [fkey] at h
    | cons s ss =>
      rw [hl] at h
      simp only [fkey, Bool.and_eq_true, bne_iff_ne, ne_eq] at h
      obtain ⟨hn, hoff, hks, hrest⟩ := h
      have hoff := Nat.eq_of_beq_eq_true hoff
      have hls : l[o]? = some s := by
        rw [← List.head?_drop, hl]; rfl
      have hd1 : l.drop (o + 1) = ss := by
        rw [← List.tail_drop, hl]; rfl
      obtain ⟨a, ha, hsa⟩ := KS.all_get hx hls
      simp only [List.forIn_cons, Sem.run_bind, ne_eq, hn, not_false_eq_true, if_true]
      rw [hoff, part_one hks (v := a) (by simpa using ha), Result.andThen_ok, hs _ _ _ hks hsa, Result.andThen_ok, Sem.run_pure, Result.andThen_ok]
      exact ih (o + 1) (by rw [hd1]; exact hrest)

theorem checkKey_scalar (em : Bool) (n : Nat) (w : World) (t : TypeId) (s : KS) (v : Value) (h : ksAt P t s = true) (hv : s.is v) : (Instr.checkKey em (n + 1) t v).run P w = .ok () w := by
  obtain ⟨d, hd, hm⟩ := ksAt_get h
  cases d <;> cases s <;> simp [ksMatch] at hm <;> simp [Instr.checkKey, run_underlying' hd]

theorem run_check {kt : TypeId} {ks : KShape} (hok : keyOk P kt ks = true) {k : Value} (hk : ks.is k) (em : Bool) (n : Nat) (w : World) : (Instr.checkKey em (n + 2) kt k).run P w = .ok () w := by
  cases ks with
  | one s => exact checkKey_scalar em (n + 1) w kt s k hok hk
  | many l =>
    cases k <;> simp [KShape.is] at hk
    rename_i xs
    simp only [keyOk] at hok
    split at hok
    · rename_i fs hu
      simp only [Bool.and_eq_true] at hok
      rw [show n + 2 = (n + 1) + 1 from rfl, Instr.checkKey]
      simp only [Sem.run_bind, run_underlying' hu, Result.andThen_ok]
      rw [← Array.forIn_toList]
      have := checkFields_run (P := P) (em := em) (n := n + 1) hk w (fun t s v h h' => checkKey_scalar em n w t s v h h') fs.toList 0 (by simpa using hok.2)
      simp only [ne_eq, ite_not, bind_pure_comp] at this ⊢
      rw [this]
      rfl
    · cases hok
end
end Go.Sx
