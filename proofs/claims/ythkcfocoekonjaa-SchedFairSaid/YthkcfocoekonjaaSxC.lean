/- The quiet operations, symbolically: they answer a value and leave the world alone. -/
import Derived.Test.YthkcfocoekonjaaSxB
set_option linter.unusedVariables false
set_option linter.unusedSimpArgs false
namespace Go.Sx
open Classical

def look : List (Nat × SV) → Nat → SV
  | [], _ => .top
  | (u, s) :: r, t => bif Nat.beq u t then s else look r t

def sv1 : Value → SV
  | .bool true => .tt
  | .bool false => .ff
  | v => .val v
def svL : List Value → List SV
  | [] => []
  | v :: r => sv1 v :: svL r
def svOf : Value → SV
  | .agg cs => .agg (svL cs.toList)
  | v => sv1 v

def ev (env : List (Nat × SV)) : Operand → SV
  | .tmp t => look env t
  | .const v => svOf v
  | .global g => .val (.pointer (some ⟨g, 0, none⟩))
  | .func f => .fn f []

def entAt : List Ent → Nat → Option Ent
  | [], _ => none
  | e :: _, 0 => some e
  | _ :: r, n + 1 => entAt r n

def kSame (k k' : IntKind) (A : Prop) : Prop :=
  match k, k' with
  | .i8, .i8 => A | .i16, .i16 => A | .i32, .i32 => A | .i64, .i64 => A
  | .u8, .u8 => A | .u16, .u16 => A | .u32, .u32 => A | .u64, .u64 => A
  | _, _ => False
theorem kSame_iff {k k' : IntKind} {A : Prop} (h : kSame k k' A) : k = k' ∧ A := by
  cases k <;> cases k' <;> first | exact ⟨rfl, h⟩ | exact h.elim

def nth : List SV → Nat → (SV → Prop) → Prop
  | [], _, _ => False
  | s :: _, 0, K => K s
  | _ :: r, n + 1, K => nth r n K
def nthCol : List Col → Nat → (Col → Prop) → Prop
  | [], _, _ => False
  | s :: _, 0, K => K s
  | _ :: r, n + 1, K => nthCol r n K

theorem nth_get {l : List SV} : ∀ {n : Nat} {K : SV → Prop}, nth l n K → ∃ s, l[n]? = some s ∧ K s := by
  induction l with
  | nil => intro n K h; exact h.elim
  | cons a r ih =>
    intro n K h
    cases n with
    | zero => exact ⟨a, rfl, h⟩
    | succ n => obtain ⟨s, h1, h2⟩ := ih h; exact ⟨s, by simpa using h1, h2⟩
theorem nthCol_get {l : List Col} : ∀ {n : Nat} {K : Col → Prop}, nthCol l n K → ∃ s, l[n]? = some s ∧ K s := by
  induction l with
  | nil => intro n K h; exact h.elim
  | cons a r ih =>
    intro n K h
    cases n with
    | zero => exact ⟨a, rfl, h⟩
    | succ n => obtain ⟨s, h1, h2⟩ := ih h; exact ⟨s, by simpa using h1, h2⟩

def Col.sv : Col → Nat → SV
  | .ints k xs, i => .val (.int k (xs.getD i 0))
  | .bools xs, i => .val (.bool (xs.getD i false))
  | .raws xs, i => .val (xs.getD i .nilIface)
theorem Col.sv_den (ρ : List Loc) (c : Col) (i : Nat) : den ρ (c.sv i) = c.get i := by cases c <;> rfl

def SBlk.load (k : SBlk) (i j : Nat) (K : SV → Prop) : Prop :=
  match k with
  | .cells wd l _ => nth l (i * wd + j) fun s => match s with | .top => False | s => K s
  | .tab _ _ len cols => i < len ∧ nthCol cols j fun c => K (c.sv i)
  | _ => False

/-- Cell (i, j) and those behind it. -/
def SBlk.loadN (k : SBlk) : Nat → Nat → Nat → (List SV → Prop) → Prop
  | 0, _, _, K => K []
  | s + 1, i, j, K => k.load i j fun v => bif Nat.beq (j + 1) k.wd then k.loadN s (i + 1) 0 fun vs => K (v :: vs) else k.loadN s i (j + 1) fun vs => K (v :: vs)

/-- What is known of the world. -/
structure Ctx (F : List (Nat × Blk)) (h : List Ent) (w : World) : Prop where
  owns : ∀ r, Owns w (owned (locs h ++ r) h ++ F)
  ro : ∀ b k, Ent.ro b k ∈ h → ∃ o, (b, Blk.obj o) ∈ F ∧ ∀ r, (k.den (locs h ++ r)).holds o

def Ent.blk : Ent → Option (Nat × SBlk)
  | .own b k => some (b, k)
  | .ro b k => some (b, k)
  | _ => none

theorem entAt_get {h : List Ent} : ∀ {n : Nat} {e : Ent}, entAt h n = some e → h[n]? = some e := by
  induction h with
  | nil => intro n e h; cases h
  | cons a r ih =>
    intro n e h
    cases n with
    | zero => exact h
    | succ n => simpa using ih h
theorem locAt_get (ρ : List Loc) : ∀ (n : Nat), locAt ρ n = (ρ[n]?).getD (0, 0, 0) := by
  induction ρ with
  | nil => intro n; rfl
  | cons a r ih =>
    intro n
    cases n with
    | zero => rfl
    | succ n => simpa [locAt] using ih n
theorem entAt_loc {h : List Ent} {n : Nat} {e : Ent} (he : entAt h n = some e) (r : List Loc) : locAt (locs h ++ r) n = e.loc := by
  have := entAt_get he
  have hlt := (List.getElem?_eq_some_iff.1 this).1
  rw [locAt_get, List.getElem?_append_left (by rw [locs_eq]; simpa using hlt), locs_eq, List.getElem?_map, this]
  rfl
theorem owned_mem {ρ : List Loc} {h : List Ent} {b : Nat} {k : SBlk} (hm : Ent.own b k ∈ h) : (b, k.den ρ) ∈ owned ρ h := by
  induction h with
  | nil => cases hm
  | cons a r ih =>
    rw [owned, List.mem_append]
    rcases List.mem_cons.1 hm with rfl | hm
    · exact .inl (by simp [Ent.blocks])
    · exact .inr (ih hm)

theorem Ctx.blk {F : List (Nat × Blk)} {h : List Ent} {w : World} (c : Ctx F h w) {n : Nat} {e : Ent} {b : Nat} {k : SBlk} (he : entAt h n = some e) (hb : e.blk = some (b, k)) :
    (∃ o, w.heap[b]? = some o ∧ ∀ r, (k.den (locs h ++ r)).holds o) ∧ ∀ r, locAt (locs h ++ r) n = (b, k.base, k.wd) := by
  have hm : e ∈ h := List.mem_of_getElem? (entAt_get he)
  constructor
  · cases e with
    | own b' k' =>
      cases hb
      obtain ⟨o, ho, _⟩ := (c.owns []).1 (b, k.den (locs h ++ [])) (List.mem_append_left _ (owned_mem hm))
      refine ⟨o, ho, fun r => ?_⟩
      obtain ⟨o', ho', hk⟩ := (c.owns r).1 (b, k.den (locs h ++ r)) (List.mem_append_left _ (owned_mem hm))
      rw [ho] at ho'
      cases ho'
      exact hk
    | ro b' k' =>
      cases hb
      obtain ⟨o, ho, hk⟩ := c.ro b k hm
      obtain ⟨o', ho', hk'⟩ := (c.owns []).1 (b, .obj o) (List.mem_append_right _ ho)
      exact ⟨o, by rw [ho', show o' = o from hk'], hk⟩
    | chunk L => cases hb
    | gone l => cases hb
  · intro r
    rw [entAt_loc he]
    cases e <;> cases hb <;> rfl

def objCell : Obj → Nat → Option Value
  | .cells c _ _, x => c[x]?
  | _, _ => none
theorem cell_obj {w : World} {b x : Nat} {o : Obj} {v : Value} (h : w.heap[b]? = some o) (hc : objCell o x = some v) : w.cell? ⟨b, x, none⟩ = some v := by
  unfold World.cell?
  simp only [h]
  cases o <;> simp_all [objCell]

theorem SBlk.load_sound {h : List Ent} {k : SBlk} {i j : Nat} {K : SV → Prop} {o : Obj} (ho : ∀ r, (k.den (locs h ++ r)).holds o) (hk : k.load i j K) :
    ∃ s v, K s ∧ s ≠ .top ∧ Std h s v ∧ objCell o ((k.base + i) * k.wd + j) = some v := by
  cases k with
  | cells wd l t =>
    obtain ⟨s, h1, h2⟩ := nth_get hk
    have hs : s ≠ .top := by rintro rfl; exact h2
    have hK : K s := by cases s <;> first | exact h2 | exact absurd rfl hs
    have hcell : ∀ r, objCell o ((0 + i) * wd + j) = some (Sx.den (locs h ++ r) s) := fun r => by
      have := ho r
      simp only [SBlk.den, Blk.holds] at this
      subst this
      simp only [objCell, Nat.zero_add, List.getElem?_toArray, denL_eq, List.getElem?_map, h1, Option.map_some]
    refine ⟨s, Sx.den (locs h ++ []) s, hK, hs, fun r => ?_, hcell []⟩
    have := hcell r
    rw [hcell []] at this
    exact (Option.some.inj this).symm
  | tab t base len cols =>
    obtain ⟨hi, hk⟩ := hk
    obtain ⟨c, h1, h2⟩ := nthCol_get hk
    obtain ⟨arr, lo, hi', rfl, -, h3, -⟩ := ho []
    refine ⟨c.sv i, c.get i, h2, by cases c <;> simp [Col.sv], fun r => Col.sv_den _ _ _, ?_⟩
    simpa [objCell, SBlk.base, SBlk.wd] using h3 i j c hi h1
  | map ks m st => exact hk.elim
  | obj o' => exact hk.elim

/-- Lists of values that stand for lists of symbolic values. -/
def StdL (h : List Ent) (l : List SV) (vs : List Value) : Prop := ∀ r, denL (locs h ++ r) l = vs

theorem SBlk.loadN_sound {h : List Ent} {k : SBlk} {o : Obj} (ho : ∀ r, (k.den (locs h ++ r)).holds o) : ∀ {s i j : Nat} {K : List SV → Prop}, k.loadN s i j K →
    ∃ l vs, K l ∧ StdL h l vs ∧ vs.length = s ∧ ∀ x, x < s → objCell o ((k.base + i) * k.wd + j + x) = vs[x]? := by
  intro s
  induction s with
  | zero => intro i j K hk; exact ⟨[], [], hk, fun _ => rfl, rfl, fun x hx => by omega⟩
  | succ s ih =>
    intro i j K hk
    obtain ⟨sv, v, h1, -, h2, h3⟩ := SBlk.load_sound ho hk
    have key : ∀ i' j', (k.base + i') * k.wd + j' = (k.base + i) * k.wd + j + 1 → k.loadN s i' j' (fun vs => K (sv :: vs)) →
        ∃ l vs, K l ∧ StdL h l vs ∧ vs.length = s + 1 ∧ ∀ x, x < s + 1 → objCell o ((k.base + i) * k.wd + j + x) = vs[x]? := by
      intro i' j' he hk'
      obtain ⟨l, vs, h4, h5, h6, h7⟩ := ih hk'
      refine ⟨sv :: l, v :: vs, h4, fun r => by simp [denL, h2 r, h5 r], by simp [h6], fun x hx => ?_⟩
      cases x with
      | zero => simpa using h3
      | succ x =>
        have := h7 x (by omega)
        rw [he] at this
        simpa [show (k.base + i) * k.wd + j + 1 + x = (k.base + i) * k.wd + j + (x + 1) by omega] using this
    cases hb : Nat.beq (j + 1) k.wd with
    | true =>
      simp only [hb, cond_true] at h1
      have hw : j + 1 = k.wd := Nat.eq_of_beq_eq_true hb
      refine key (i + 1) 0 ?_ h1
      rw [← Nat.add_assoc, Nat.add_mul, Nat.one_mul]
      omega
    | false =>
      simp only [hb, cond_false] at h1
      exact key i (j + 1) (by omega) h1

theorem run_loadCellsFrom {P : Program} {w : World} {b x : Nat} : ∀ (s : Nat) (vs : List Value) (i : Nat) (acc : Array Value), vs.length = s →
    (∀ y, y < s → w.cell? ⟨b, x + (i + y), none⟩ = vs[y]?) → (loadCellsFrom ⟨b, x, none⟩ i s acc).run P w = .ok (acc ++ vs.toArray) w := by
  intro s
  induction s with
  | zero => intro vs i acc hl _; cases vs <;> simp_all [loadCellsFrom]
  | succ s ih =>
    intro vs i acc hl hc
    cases vs with
    | nil => simp at hl
    | cons v vs =>
      have h0 := hc 0 (by omega)
      have ha : Addr.add ⟨b, x, none⟩ i = ⟨b, x + i, none⟩ := by
        unfold Addr.add
        split
        · subst_vars; rfl
        · rfl
      simp only [loadCellsFrom, Sem.run_bind, run_load, ha]
      simp only [Nat.add_zero, List.getElem?_cons_zero] at h0
      rw [h0]
      simp only [Result.andThen_ok]
      rw [ih vs (i + 1) (acc.push v) (by simpa using hl) (fun y hy => by have := hc (y + 1) (by omega); rw [show i + 1 + y = i + (y + 1) by omega, this]; simp)]
      congr 1
      simp

theorem run_loadCells {P : Program} {w : World} {b x s : Nat} {vs : List Value} (hl : vs.length = s) (hc : ∀ y, y < s → w.cell? ⟨b, x + y, none⟩ = vs[y]?) :
    (loadCells ⟨b, x, none⟩ s).run P w = .ok vs.toArray w := by
  unfold loadCells
  rw [run_loadCellsFrom s vs 0 #[] hl (fun y hy => by rw [Nat.zero_add]; exact hc y hy)]
  simp

def lenV0 : List Value → Nat
  | [] => 0
  | _ :: r => lenV0 r + 1
/-- Cells of an object that is known whole, of these kinds. -/
def loadObj (o : Obj) : List Value → Nat → (List SV → Prop) → Prop
  | [], _, K => K []
  | .int k _ :: zs, x, K => ∃ z : Int, objCell o x = some (.int k z) ∧ loadObj o zs (x + 1) fun l => K (.val (.int k z) :: l)
  | .bool _ :: zs, x, K => ∃ b : Bool, objCell o x = some (.bool b) ∧ loadObj o zs (x + 1) fun l => K (.val (.bool b) :: l)
  | .slice _ _ _ :: zs, x, K => ∃ (a : Option Addr) (ln c : Nat), objCell o x = some (.slice a ln c) ∧ loadObj o zs (x + 1) fun l => K (.val (.slice a ln c) :: l)
  | .string _ :: zs, x, K => ∃ s : ByteArray, objCell o x = some (.string s) ∧ loadObj o zs (x + 1) fun l => K (.val (.string s) :: l)
  | _ :: zs, x, K => ∃ v : Value, objCell o x = some v ∧ loadObj o zs (x + 1) fun l => K (.val v :: l)
theorem loadObj_sound {h : List Ent} {o : Obj} : ∀ {zs : List Value} {x : Nat} {K : List SV → Prop}, loadObj o zs x K → ∃ l vs, K l ∧ StdL h l vs ∧ (∀ s ∈ l, s ≠ .top) ∧ vs.length = zs.length ∧ ∀ y, y < zs.length → objCell o (x + y) = vs[y]?
  | [], x, K, hk => ⟨[], [], hk, fun _ => rfl, by simp, rfl, fun y hy => by simp at hy⟩
  | z :: zs, x, K, hk => by
    have key : ∀ v : Value, objCell o x = some v → loadObj o zs (x + 1) (fun l => K (.val v :: l)) → ∃ l vs, K l ∧ StdL h l vs ∧ (∀ s ∈ l, s ≠ .top) ∧ vs.length = (z :: zs).length ∧ ∀ y, y < (z :: zs).length → objCell o (x + y) = vs[y]? := by
      intro v hv hk
      obtain ⟨l, vs, h1, h2, h3, h4, h5⟩ := loadObj_sound (h := h) hk
      refine ⟨.val v :: l, v :: vs, h1, fun r => by simp [denL, den, h2 r], by simpa using h3, by simp [h4], fun y hy => ?_⟩
      cases y with
      | zero => simpa using hv
      | succ y =>
        have := h5 y (by simpa using hy)
        rw [show x + (y + 1) = x + 1 + y by omega, this]; simp
    cases z with
    | int k n => obtain ⟨z, h1, h2⟩ := hk; exact key _ h1 h2
    | bool b => obtain ⟨z, h1, h2⟩ := hk; exact key _ h1 h2
    | slice a l c => obtain ⟨a', l', c', h1, h2⟩ := hk; exact key _ h1 h2
    | string s => obtain ⟨z, h1, h2⟩ := hk; exact key _ h1 h2
    | _ => obtain ⟨z, h1, h2⟩ := hk; exact key _ h1 h2
def xloadO (P : Program) (o : Obj) (x : Nat) (t : TypeId) (K : SV → Prop) : Prop :=
  match P.underlying t, P.info? t with
  | some d, some inf => (match inf.zero with
    | none => False
    | some z => (match d with
      | .struct _ => bif Nat.beq (lenV0 z.cells.toList) inf.size then loadObj o z.cells.toList x fun l => K (.agg l) else False
      | .array _ _ => bif Nat.beq (lenV0 z.cells.toList) inf.size then loadObj o z.cells.toList x fun l => K (.agg l) else False
      | _ => loadObj o [z] x fun l => (match l with | [s] => K s | _ => False)))
  | _, _ => False

/-- A load through a pointer. -/
def xload (P : Program) (h : List Ent) (n i j : Nat) (t : TypeId) (K : SV → Prop) : Prop :=
  match entAt h n with
  | none => False
  | some e =>
    match e.blk with
    | none => False
    | some (_, .obj o) => xloadO P o (i + j) t K
    | some (_, k) =>
      match P.underlying t with
      | none => False
      | some (.struct _) => (match P.info? t with | none => False | some inf => k.loadN inf.size i j fun l => K (.agg l))
      | some (.array _ _) => (match P.info? t with | none => False | some inf => k.loadN inf.size i j fun l => K (.agg l))
      | some _ => k.load i j K

theorem run_underlying' {P : Program} {w : World} {t : TypeId} {d : TypeDesc} (h : P.underlying t = some d) : (underlying t).run P w = .ok d w := by
  simp [underlying, h]
theorem run_typeInfo' {P : Program} {w : World} {t : TypeId} {i : TypeInfo} (h : P.info? t = some i) : (typeInfo t).run P w = .ok i w := by
  simp [typeInfo, h]
theorem run_sizeOf' {P : Program} {w : World} {t : TypeId} {i : TypeInfo} (h : P.info? t = some i) : (sizeOf t).run P w = .ok i.size w := by
  simp [sizeOf, run_typeInfo' h]

theorem xload_sound {P : Program} {F : List (Nat × Blk)} {h : List Ent} {w : World} (c : Ctx F h w) {n i j : Nat} {t : TypeId} {K : SV → Prop} (hx : xload P h n i j t K) :
    ∃ s v, K s ∧ s ≠ .top ∧ Std h s v ∧ ∀ r, (loadVar t ⟨(locAt (locs h ++ r) n).1, ((locAt (locs h ++ r) n).2.1 + i) * (locAt (locs h ++ r) n).2.2 + j, none⟩).run P w = .ok v w := by
  unfold xload at hx
  split at hx
  · exact hx.elim
  rename_i e he
  split at hx
  · exact hx.elim
  · rename_i b o0 hb
    obtain ⟨⟨o, ho, hk⟩, hl⟩ := c.blk he hb
    have hoo : o = o0 := hk []
    subst hoo
    have hl0 : ∀ r, ((locAt (locs h ++ r) n).2.1 + i) * (locAt (locs h ++ r) n).2.2 + j = i + j := fun r => by rw [hl r]; simp [SBlk.base, SBlk.wd]
    have hl1 : ∀ r, (locAt (locs h ++ r) n).1 = b := fun r => by rw [hl r]
    have lenV0_eq : ∀ l : List Value, lenV0 l = l.length := fun l => by
      induction l with
      | nil => rfl
      | cons a r ih => simp [lenV0, ih]
    unfold xloadO at hx
    split at hx
    · rename_i d inf hu hinf
      split at hx
      · exact hx.elim
      · rename_i z hz
        have agg : (isAgg t).run P w = .ok true w → (bif Nat.beq (lenV0 z.cells.toList) inf.size then loadObj o z.cells.toList (i + j) (fun l => K (.agg l)) else False) →
            ∃ s v, K s ∧ s ≠ .top ∧ Std h s v ∧ ∀ r, (loadVar t ⟨(locAt (locs h ++ r) n).1, ((locAt (locs h ++ r) n).2.1 + i) * (locAt (locs h ++ r) n).2.2 + j, none⟩).run P w = .ok v w := by
          intro hagg hx
          obtain ⟨hsz, hx⟩ : Nat.beq (lenV0 z.cells.toList) inf.size = true ∧ loadObj o z.cells.toList (i + j) (fun l => K (.agg l)) := by
            cases hb : Nat.beq (lenV0 z.cells.toList) inf.size with
            | true => rw [hb] at hx; exact ⟨rfl, hx⟩
            | false => rw [hb] at hx; exact hx.elim
          have hsz := Nat.eq_of_beq_eq_true hsz
          rw [lenV0_eq] at hsz
          obtain ⟨l, vs, h1, h2, _, h3, h4⟩ := loadObj_sound (h := h) hx
          refine ⟨.agg l, .agg vs.toArray, h1, by simp, fun r => by simp [den, h2 r], fun r => ?_⟩
          rw [hl0 r, hl1 r]
          have hc : ∀ y, y < inf.size → w.cell? ⟨b, i + j + y, none⟩ = vs[y]? := fun y hy => by
            have := h4 y (by omega)
            rw [List.getElem?_eq_getElem (by omega)] at this ⊢
            exact cell_obj ho this
          simp only [loadVar, Sem.run_bind, hagg, Result.andThen_ok, if_true, run_sizeOf' hinf]
          rw [run_loadCells (by omega) hc]
          simp
        split at hx
        · exact agg (by simp [isAgg, run_underlying' hu]) hx
        · exact agg (by simp [isAgg, run_underlying' hu]) hx
        · rename_i hns hna
          have hagg : (isAgg t).run P w = .ok false w := by
            simp only [isAgg, Sem.run_bind, run_underlying' hu, Result.andThen_ok]
            cases d <;> first | rfl | exact absurd rfl (hns _) | exact absurd rfl (hna _ _)
          obtain ⟨l, vs, h1, h2, h2', h3, h4⟩ := loadObj_sound (h := h) hx
          match l, vs, h3 with
          | [s], [v], _ =>
            have hstd : Std h s v := fun r => by have := h2 r; simpa [denL] using this
            refine ⟨s, v, h1, h2' s (by simp), hstd, fun r => ?_⟩
            rw [hl0 r, hl1 r]
            have hcell := h4 0 (by simp)
            simp only [Nat.add_zero, List.getElem?_cons_zero] at hcell
            simp only [loadVar, Sem.run_bind, hagg, Result.andThen_ok, Bool.false_eq_true, if_false, run_load, cell_obj ho hcell]
          | [], [v], _ => exact h1.elim
          | _ :: _ :: _, _, _ => exact h1.elim
    · exact hx.elim
  rename_i b k _ hb
  obtain ⟨⟨o, ho, hk⟩, hl⟩ := c.blk he hb
  have agg : ∀ inf, P.info? t = some inf → (isAgg t).run P w = .ok true w → k.loadN inf.size i j (fun l => K (.agg l)) →
      ∃ s v, K s ∧ s ≠ .top ∧ Std h s v ∧ ∀ r, (loadVar t ⟨(locAt (locs h ++ r) n).1, ((locAt (locs h ++ r) n).2.1 + i) * (locAt (locs h ++ r) n).2.2 + j, none⟩).run P w = .ok v w := by
    intro inf hinf hagg hx
    obtain ⟨l, vs, h1, h2, h3, h4⟩ := SBlk.loadN_sound hk hx
    refine ⟨.agg l, .agg vs.toArray, h1, by simp, fun r => by simp [den, h2 r], fun r => ?_⟩
    rw [hl r]
    have hc : ∀ y, y < inf.size → w.cell? ⟨b, (k.base + i) * k.wd + j + y, none⟩ = vs[y]? := fun y hy => by
      have := h4 y hy
      rw [List.getElem?_eq_getElem (by omega)] at this ⊢
      exact cell_obj ho this
    simp only [loadVar, Sem.run_bind, hagg, Result.andThen_ok, if_true, run_sizeOf' hinf]
    rw [run_loadCells h3 hc]
    simp
  have one : (isAgg t).run P w = .ok false w → k.load i j K →
      ∃ s v, K s ∧ s ≠ .top ∧ Std h s v ∧ ∀ r, (loadVar t ⟨(locAt (locs h ++ r) n).1, ((locAt (locs h ++ r) n).2.1 + i) * (locAt (locs h ++ r) n).2.2 + j, none⟩).run P w = .ok v w := by
    intro hagg hx
    obtain ⟨s, v, h1, h2, h3, h4⟩ := SBlk.load_sound hk hx
    refine ⟨s, v, h1, h2, h3, fun r => ?_⟩
    rw [hl r]
    simp only [loadVar, Sem.run_bind, hagg, Result.andThen_ok, Bool.false_eq_true, if_false, run_load, cell_obj ho h4]
  split at hx
  · exact hx.elim
  · rename_i hu
    split at hx
    · exact hx.elim
    · rename_i inf hinf
      exact agg inf hinf (by simp [isAgg, run_underlying' hu]) hx
  · rename_i hu
    split at hx
    · exact hx.elim
    · rename_i inf hinf
      exact agg inf hinf (by simp [isAgg, run_underlying' hu]) hx
  · rename_i d hns hna hu
    refine one ?_ hx
    simp only [isAgg, Sem.run_bind, run_underlying' hu, Result.andThen_ok]
    cases d <;> first | rfl | exact absurd rfl (hns _) | exact absurd rfl (hna _ _)

end Go.Sx
