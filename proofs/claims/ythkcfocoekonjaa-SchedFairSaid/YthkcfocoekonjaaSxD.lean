/- The quiet operations, symbolically, second part: all but the load. -/
import Derived.Test.YthkcfocoekonjaaSxC
set_option linter.unusedVariables false
set_option linter.unusedSimpArgs false
namespace Go.Sx
open Classical

theorem den_sv1 (ρ : List Loc) (v : Value) : den ρ (sv1 v) = v := by
  cases v <;> try rfl
  rename_i b; cases b <;> rfl
theorem denL_svL (ρ : List Loc) (l : List Value) : denL ρ (svL l) = l := by
  induction l with
  | nil => rfl
  | cons a r ih => simp [svL, denL, den_sv1, ih]
theorem den_svOf (ρ : List Loc) (v : Value) : den ρ (svOf v) = v := by
  unfold svOf
  split
  · simp [den, denL_svL]
  · exact den_sv1 ρ _

/-- What an operation answers, the world as it was. -/
def Ans (P : Program) (h : List Ent) (w : World) (K : SV → Prop) (m : Sem Value) : Prop :=
  ∃ s v, K s ∧ s ≠ .top ∧ Std h s v ∧ m.run P w = .ok v w

def iand (k : IntKind) (a b : Int) : Int := k.wrap (BitVec.ofInt k.bits a &&& BitVec.ofInt k.bits b).toNat
def ior (k : IntKind) (a b : Int) : Int := k.wrap (BitVec.ofInt k.bits a ||| BitVec.ofInt k.bits b).toNat
def ixor (k : IntKind) (a b : Int) : Int := k.wrap (BitVec.ofInt k.bits a ^^^ BitVec.ofInt k.bits b).toNat
def iandn (k : IntKind) (a b : Int) : Int := k.wrap (BitVec.ofInt k.bits a &&& ~~~(BitVec.ofInt k.bits b)).toNat
def ishl (k : IntKind) (a b : Int) : Int := k.wrap (a * 2 ^ (min b.toNat k.bits))
def ishr (k : IntKind) (a b : Int) : Int := a.fdiv (2 ^ (min b.toNat k.bits))

def xint (op : BinOp) (k : IntKind) (a b : Int) (K : SV → Prop) : Prop :=
  match op with
  | .add => K (.val (.int k (k.wrap (a + b))))
  | .sub => K (.val (.int k (k.wrap (a - b))))
  | .mul => K (.val (.int k (k.wrap (a * b))))
  | .quo => b ≠ 0 ∧ K (.val (.int k (k.wrap (a.tdiv b))))
  | .rem => b ≠ 0 ∧ K (.val (.int k (a.tmod b)))
  | .and => K (.val (.int k (iand k a b)))
  | .or => K (.val (.int k (ior k a b)))
  | .xor => K (.val (.int k (ixor k a b)))
  | .andNot => K (.val (.int k (iandn k a b)))
  | .eql => K (.prop (a = b))
  | .neq => K (.prop (a ≠ b))
  | .lss => K (.prop (a < b))
  | .leq => K (.prop (a ≤ b))
  | .gtr => K (.prop (b < a))
  | .geq => K (.prop (b ≤ a))
  | _ => False

theorem xint_sound {P : Program} {h : List Ent} {w : World} {op : BinOp} {k : IntKind} {a b : Int} {K : SV → Prop} {t : TypeId} (hx : xint op k a b K) :
    Ans P h w K (binOp op t (.int k a) (.int k b)) := by
  cases op <;> simp only [xint] at hx <;> try exact hx.elim
  case quo =>
    obtain ⟨h0, hx⟩ := hx
    refine ⟨_, _, hx, by simp, fun r => rfl, ?_⟩
    simp [binOp, Op.intDiv, h0]
  case rem =>
    obtain ⟨h0, hx⟩ := hx
    refine ⟨_, _, hx, by simp, fun r => rfl, ?_⟩
    simp [binOp, Op.intDiv, h0]
  all_goals refine ⟨_, _, hx, by simp, fun r => rfl, ?_⟩
  all_goals simp [binOp, Op.intArith, Op.intBits, Op.intCmp, iand, ior, ixor, iandn]
  all_goals first
    | rfl
    | (rw [Bool.eq_iff_iff]; simp; done)
    | skip
  all_goals (by_cases hab : a = b <;> simp [hab])

/-- A truth value as a proposition. -/
def isB : SV → Option Prop
  | .tt => some True
  | .ff => some False
  | .prop p => some p
  | .val (.bool b) => some (b = true)
  | _ => none
theorem isB_den {s : SV} {p : Prop} (h : isB s = some p) (ρ : List Loc) : den ρ s = .bool (decide p) := by
  cases s with
  | tt => cases h; simp [den]
  | ff => cases h; simp [den]
  | prop q => cases h; simp [den]
  | val v =>
    cases v with
    | bool b => cases h; simp [den]
    | _ => cases h
  | _ => cases h

/-- Is it nil? -/
def isNilP : SV → Option Bool
  | .ptr _ _ _ => some false
  | .val (.pointer none) => some true
  | .val (.pointer (some _)) => some false
  | _ => none
def isNilS : SV → Option Bool
  | .slc _ _ _ _ => some false
  | .val (.slice none _ _) => some true
  | _ => none
def isNilM : SV → Option Bool
  | .mp _ => some false
  | .val (.map none) => some true
  | _ => none
def isNilI : SV → Option Bool
  | .ifc _ _ => some false
  | _ => none
def isNilF : SV → Option Bool
  | .fn _ _ => some false
  | .val .nilFunc => some true
  | _ => none
def bSV : Bool → SV
  | true => .tt
  | false => .ff
theorem den_bSV (ρ : List Loc) (b : Bool) : den ρ (bSV b) = .bool b := by cases b <;> rfl

/-- nil against what is nil or is not. -/
def nilCmp (a b : Option Bool) (neg : Bool) (K : SV → Prop) : Prop :=
  match a, b with
  | some true, some y => K (bSV (bif neg then !y else y))
  | some false, some true => K (bSV neg)
  | _, _ => False

def xeq (P : Program) (t : TypeId) (neg : Bool) (x y : SV) (K : SV → Prop) : Prop :=
  match P.underlying t with
  | some .bool => (match isB x, isB y with | some p, some q => K (.prop (bif neg then ¬ (p ↔ q) else (p ↔ q))) | _, _ => False)
  | some (.pointer _) => nilCmp (isNilP x) (isNilP y) neg K
  | some (.slice _) => nilCmp (isNilS x) (isNilS y) neg K
  | some (.map _ _) => nilCmp (isNilM x) (isNilM y) neg K
  | some (.func _ _ _) => nilCmp (isNilF x) (isNilF y) neg K
  | _ => False

/-- A struct of numbers alone, n of them. -/
def goodF (P : Program) : Nat → List Field → Bool
  | _, [] => true
  | i, f :: r => !(f.name == "_") && Nat.beq f.offset i && (match P.underlying f.type with | some (.int _) => true | _ => false) && goodF P (i + 1) r
def plainStruct (P : Program) (t : TypeId) (n : Nat) : Bool :=
  match P.underlying t with
  | some (.struct fs) => !(P.eqGuardType P.depth t) && !(P.stoodInHeld t) && Nat.beq fs.size n && goodF P 0 fs.toList
  | _ => false
def eqCells : List SV → List SV → (Prop → Prop) → Prop
  | [], [], K => K True
  | .val (.int k a) :: r, .val (.int k' b) :: r', K => kSame k k' (eqCells r r' fun p => K (a = b ∧ p))
  | _, _, _ => False
def xseq (P : Program) (t : TypeId) (neg : Bool) (l l' : List SV) (K : SV → Prop) : Prop :=
  plainStruct P t l.length = true ∧ eqCells l l' fun p => K (.prop (bif neg then ¬ p else p))

def xbin (P : Program) (op : BinOp) (t : TypeId) (x y : SV) (K : SV → Prop) : Prop :=
  match x, y with
  | .val (.int k a), .val (.int k' b) =>
    (match op with
     | .shl => 0 ≤ b ∧ K (.val (.int k (ishl k a b)))
     | .shr => 0 ≤ b ∧ K (.val (.int k (ishr k a b)))
     | op => kSame k k' (xint op k a b K))
  | .val (.string a), .val (.string b) =>
    (match op with
     | .eql => K (.prop (a.toList = b.toList))
     | .neq => K (.prop (¬ a.toList = b.toList))
     | .add => ((a.size + b.size : Nat) : Int) ≤ 9223372036854775807 ∧ K (.val (.string (a ++ b)))
     | _ => False)
  | .agg l, .agg l' => (match op with | .eql => xseq P t false l l' K | .neq => xseq P t true l l' K | _ => False)
  | x, y => (match op with | .eql => xeq P t false x y K | .neq => xeq P t true x y K | _ => False)

theorem nilCmp_cases {a b : Option Bool} {neg : Bool} {K : SV → Prop} (h : nilCmp a b neg K) :
    (∃ y, a = some true ∧ b = some y ∧ K (bSV (bif neg then !y else y))) ∨ (a = some false ∧ b = some true ∧ K (bSV neg)) := by
  rcases a with _ | a
  · exact h.elim
  · rcases b with _ | b
    · cases a <;> exact h.elim
    · cases a
      · cases b
        · exact h.elim
        · exact .inr ⟨rfl, rfl, h⟩
      · exact .inl ⟨b, rfl, rfl, h⟩

theorem equal_unfold (t : TypeId) (x y : Value) : Op.equal t x y = Op.equalIn (9999 + 1) t x y := rfl
section
variable {P : Program} {w : World} {t : TypeId}
theorem eqIn_bool (d : Nat) (hu : P.underlying t = some .bool) (a b : Bool) : (Op.equalIn (d + 1) t (.bool a) (.bool b)).run P w = .ok (a == b) w := by
  simp only [Op.equalIn, Sem.run_bind, run_underlying' hu, Result.andThen_ok, Sem.run_pure]
theorem eqIn_ptr1 (d : Nat) {e : TypeId} (hu : P.underlying t = some (.pointer e)) (b : Option Addr) : (Op.equalIn (d + 1) t (.pointer none) (.pointer b)).run P w = .ok b.isNone w := by
  simp only [Op.equalIn, Sem.run_bind, run_underlying' hu, Result.andThen_ok, Sem.run_pure]
theorem eqIn_ptr2 (d : Nat) {e : TypeId} (hu : P.underlying t = some (.pointer e)) (a : Addr) : (Op.equalIn (d + 1) t (.pointer (some a)) (.pointer none)).run P w = .ok false w := by
  simp only [Op.equalIn, Sem.run_bind, run_underlying' hu, Result.andThen_ok, Sem.run_pure]
theorem eqIn_slc1 (d : Nat) {e : TypeId} (hu : P.underlying t = some (.slice e)) (b : Option Addr) (i j k l : Nat) : (Op.equalIn (d + 1) t (.slice none i j) (.slice b k l)).run P w = .ok b.isNone w := by
  simp only [Op.equalIn, Sem.run_bind, run_underlying' hu, Result.andThen_ok, Sem.run_pure]
theorem eqIn_slc2 (d : Nat) {e : TypeId} (hu : P.underlying t = some (.slice e)) (a : Addr) (i j k l : Nat) : (Op.equalIn (d + 1) t (.slice (some a) i j) (.slice none k l)).run P w = .ok false w := by
  simp only [Op.equalIn, Sem.run_bind, run_underlying' hu, Result.andThen_ok, Sem.run_pure]
theorem eqIn_map1 (d : Nat) {e f : TypeId} (hu : P.underlying t = some (.map e f)) (b : Option Nat) : (Op.equalIn (d + 1) t (.map none) (.map b)).run P w = .ok b.isNone w := by
  simp only [Op.equalIn, Sem.run_bind, run_underlying' hu, Result.andThen_ok, Sem.run_pure]
theorem eqIn_map2 (d : Nat) {e f : TypeId} (hu : P.underlying t = some (.map e f)) (a : Nat) : (Op.equalIn (d + 1) t (.map (some a)) (.map none)).run P w = .ok false w := by
  simp only [Op.equalIn, Sem.run_bind, run_underlying' hu, Result.andThen_ok, Sem.run_pure]
theorem eqIn_fn1 (d : Nat) {e f g} (hu : P.underlying t = some (.func e f g)) : (Op.equalIn (d + 1) t .nilFunc .nilFunc).run P w = .ok true w := by
  simp only [Op.equalIn, Sem.run_bind, run_underlying' hu, Result.andThen_ok, Sem.run_pure]
theorem eqIn_fn2 (d : Nat) {e f g} (hu : P.underlying t = some (.func e f g)) (a b c) : (Op.equalIn (d + 1) t .nilFunc (.func a b c)).run P w = .ok false w := by
  simp only [Op.equalIn, Sem.run_bind, run_underlying' hu, Result.andThen_ok, Sem.run_pure]
theorem eqIn_fn3 (d : Nat) {e f g} (hu : P.underlying t = some (.func e f g)) (a b c) : (Op.equalIn (d + 1) t (.func a b c) .nilFunc).run P w = .ok false w := by
  simp only [Op.equalIn, Sem.run_bind, run_underlying' hu, Result.andThen_ok, Sem.run_pure]
end

theorem isNilP_val {s : SV} {b : Bool} (h : isNilP s = some b) (ρ : List Loc) : ∃ a, den ρ s = .pointer a ∧ a.isNone = b := by
  cases s with
  | ptr n i j => cases h; exact ⟨_, rfl, rfl⟩
  | val v =>
    cases v with
    | pointer a => cases a with
      | none => cases h; exact ⟨none, rfl, rfl⟩
      | some a => cases h; exact ⟨some a, rfl, rfl⟩
    | _ => cases h
  | _ => cases h
theorem isNilS_val {s : SV} {b : Bool} (h : isNilS s = some b) (ρ : List Loc) : ∃ a n m, den ρ s = .slice a n m ∧ a.isNone = b := by
  cases s with
  | slc n i j k => cases h; exact ⟨_, _, _, rfl, rfl⟩
  | val v =>
    cases v with
    | slice a _ _ => cases a with
      | none => cases h; exact ⟨none, _, _, rfl, rfl⟩
      | some a => cases h
    | _ => cases h
  | _ => cases h
theorem isNilM_val {s : SV} {b : Bool} (h : isNilM s = some b) (ρ : List Loc) : ∃ a, den ρ s = .map a ∧ a.isNone = b := by
  cases s with
  | mp n => cases h; exact ⟨_, rfl, rfl⟩
  | val v =>
    cases v with
    | map a => cases a with
      | none => cases h; exact ⟨none, rfl, rfl⟩
      | some a => cases h
    | _ => cases h
  | _ => cases h
theorem isNilF_val {s : SV} {b : Bool} (h : isNilF s = some b) (ρ : List Loc) : (b = true ∧ den ρ s = .nilFunc) ∨ (b = false ∧ ∃ f c d, den ρ s = .func f c d) := by
  cases s with
  | fn n i => cases h; exact .inr ⟨rfl, _, _, _, rfl⟩
  | val v =>
    cases v with
    | nilFunc => cases h; exact .inl ⟨rfl, rfl⟩
    | _ => cases h
  | _ => cases h

/-- What '==' gives, and that the test ahead of it lets the values by. -/
structure EqAns (P : Program) (w : World) (t : TypeId) (vx vy : Value) (b : Bool) : Prop where
  run : (Op.equal t vx vy).run P w = .ok b w
  plain : (∃ c, vx = .bool c) ∨ (∃ a, vx = .pointer a) ∨ (∃ a n m, vx = .slice a n m) ∨ (∃ a, vx = .map a) ∨ vx = .nilFunc ∨ ∃ f c d, vx = .func f c d
  both : (∃ a, vx = .pointer a) → ∃ a, vy = .pointer a

theorem nilCmp_sound {P : Program} {h : List Ent} {w : World} {t : TypeId} {neg : Bool} {a b : Option Bool} {K : SV → Prop} {vx vy : Value} (hn : nilCmp a b neg K)
    (h1 : ∀ y, a = some true → b = some y → EqAns P w t vx vy y) (h2 : a = some false → b = some true → EqAns P w t vx vy false) :
    ∃ b : Bool, EqAns P w t vx vy b ∧ ∃ s, K s ∧ s ≠ .top ∧ Std h s (.bool (bif neg then !b else b)) := by
  rcases nilCmp_cases hn with ⟨y', e1, e2, e3⟩ | ⟨e1, e2, e3⟩
  · refine ⟨y', h1 y' e1 e2, _, e3, ?_, fun r => den_bSV _ _⟩
    cases neg <;> cases y' <;> simp [bSV]
  · refine ⟨false, h2 e1 e2, _, e3, ?_, fun r => ?_⟩
    · cases neg <;> simp [bSV]
    · rw [den_bSV]; cases neg <;> rfl

theorem xeq_sound {P : Program} {h : List Ent} {w : World} {t : TypeId} {neg : Bool} {x y : SV} {K : SV → Prop} {vx vy : Value}
    (hvx : Std h x vx) (hvy : Std h y vy) (hx : xeq P t neg x y K) :
    ∃ b : Bool, EqAns P w t vx vy b ∧ ∃ s, K s ∧ s ≠ .top ∧ Std h s (.bool (bif neg then !b else b)) := by
  unfold xeq at hx
  have hx0 := hvx []
  have hy0 := hvy []
  split at hx
  · rename_i hu
    split at hx
    · rename_i p q hp hq
      rw [isB_den hp] at hx0
      rw [isB_den hq] at hy0
      subst hx0 hy0
      refine ⟨decide p == decide q, ⟨eqIn_bool 9999 hu _ _, .inl ⟨_, rfl⟩, fun ⟨_, h⟩ => by cases h⟩, _, hx, by simp, fun r => ?_⟩
      simp only [den]
      congr 1
      by_cases hp : p <;> by_cases hq : q <;> cases neg <;> simp [hp, hq]
    · exact hx.elim
  · rename_i e hu
    refine nilCmp_sound hx (fun b ha hb => ?_) (fun ha hb => ?_)
    · obtain ⟨a1, e1, f1⟩ := isNilP_val ha (locs h ++ [])
      obtain ⟨a2, e2, f2⟩ := isNilP_val hb (locs h ++ [])
      rw [hx0] at e1; rw [hy0] at e2; subst e1 e2
      cases a1 with
      | some a => cases f1
      | none => exact ⟨by subst f2; exact eqIn_ptr1 9999 hu _, .inr (.inl ⟨_, rfl⟩), fun _ => ⟨_, rfl⟩⟩
    · obtain ⟨a1, e1, f1⟩ := isNilP_val ha (locs h ++ [])
      obtain ⟨a2, e2, f2⟩ := isNilP_val hb (locs h ++ [])
      rw [hx0] at e1; rw [hy0] at e2; subst e1 e2
      cases a1 with
      | none => cases f1
      | some a => cases a2 with
        | some a => cases f2
        | none => exact ⟨eqIn_ptr2 9999 hu _, .inr (.inl ⟨_, rfl⟩), fun _ => ⟨_, rfl⟩⟩
  · rename_i e hu
    refine nilCmp_sound hx (fun b ha hb => ?_) (fun ha hb => ?_)
    · obtain ⟨a1, _, _, e1, f1⟩ := isNilS_val ha (locs h ++ [])
      obtain ⟨a2, _, _, e2, f2⟩ := isNilS_val hb (locs h ++ [])
      rw [hx0] at e1; rw [hy0] at e2; subst e1 e2
      cases a1 with
      | some a => cases f1
      | none => exact ⟨by subst f2; exact eqIn_slc1 9999 hu _ _ _ _ _, .inr (.inr (.inl ⟨_, _, _, rfl⟩)), fun ⟨_, h⟩ => by cases h⟩
    · obtain ⟨a1, _, _, e1, f1⟩ := isNilS_val ha (locs h ++ [])
      obtain ⟨a2, _, _, e2, f2⟩ := isNilS_val hb (locs h ++ [])
      rw [hx0] at e1; rw [hy0] at e2; subst e1 e2
      cases a1 with
      | none => cases f1
      | some a => cases a2 with
        | some a => cases f2
        | none => exact ⟨eqIn_slc2 9999 hu _ _ _ _ _, .inr (.inr (.inl ⟨_, _, _, rfl⟩)), fun ⟨_, h⟩ => by cases h⟩
  · rename_i e f hu
    refine nilCmp_sound hx (fun b ha hb => ?_) (fun ha hb => ?_)
    · obtain ⟨a1, e1, f1⟩ := isNilM_val ha (locs h ++ [])
      obtain ⟨a2, e2, f2⟩ := isNilM_val hb (locs h ++ [])
      rw [hx0] at e1; rw [hy0] at e2; subst e1 e2
      cases a1 with
      | some a => cases f1
      | none => exact ⟨by subst f2; exact eqIn_map1 9999 hu _, .inr (.inr (.inr (.inl ⟨_, rfl⟩))), fun ⟨_, h⟩ => by cases h⟩
    · obtain ⟨a1, e1, f1⟩ := isNilM_val ha (locs h ++ [])
      obtain ⟨a2, e2, f2⟩ := isNilM_val hb (locs h ++ [])
      rw [hx0] at e1; rw [hy0] at e2; subst e1 e2
      cases a1 with
      | none => cases f1
      | some a => cases a2 with
        | some a => cases f2
        | none => exact ⟨eqIn_map2 9999 hu _, .inr (.inr (.inr (.inl ⟨_, rfl⟩))), fun ⟨_, h⟩ => by cases h⟩
  · rename_i e f g hu
    refine nilCmp_sound hx (fun b ha hb => ?_) (fun ha hb => ?_)
    · rcases isNilF_val ha (locs h ++ []) with ⟨-, e1⟩ | ⟨h0, -⟩
      · rw [hx0] at e1
        subst e1
        rcases isNilF_val hb (locs h ++ []) with ⟨rfl, e2⟩ | ⟨rfl, _, _, _, e2⟩ <;> rw [hy0] at e2 <;> subst e2
        · exact ⟨eqIn_fn1 9999 hu, .inr (.inr (.inr (.inr (.inl rfl)))), fun ⟨_, h⟩ => by cases h⟩
        · exact ⟨eqIn_fn2 9999 hu _ _ _, .inr (.inr (.inr (.inr (.inl rfl)))), fun ⟨_, h⟩ => by cases h⟩
      · cases h0
    · rcases isNilF_val ha (locs h ++ []) with ⟨h0, -⟩ | ⟨-, _, _, _, e1⟩
      · cases h0
      · rw [hx0] at e1
        subst e1
        rcases isNilF_val hb (locs h ++ []) with ⟨-, e2⟩ | ⟨h0, -⟩
        · rw [hy0] at e2; subst e2
          exact ⟨eqIn_fn3 9999 hu _ _ _, .inr (.inr (.inr (.inr (.inr ⟨_, _, _, rfl⟩)))), fun ⟨_, h⟩ => by cases h⟩
        · cases h0
  · exact hx.elim

end Go.Sx
