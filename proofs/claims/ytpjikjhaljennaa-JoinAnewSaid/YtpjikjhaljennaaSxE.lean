/- The quiet operations, symbolically, second part: all but the load. -/
import Derived.Test.YtpjikjhaljennaaSxCr
import Derived.Laws.StructEq
set_option linter.unusedVariables false
set_option linter.unusedSimpArgs false
namespace Go.Sx
open Classical

theorem den_sv1 (ρ : List Loc) (v : Value) : den ρ (sv1 v) = v := by
  cases v <;> try rfl
  rename_i b; cases b <;> rfl
theorem denL_svL (ρ : List Loc) (l : List Value) : denL ρ (svL l) = l := by
  induction l with
  | nil => rfl
  | cons a r ih => simp [svL, denL, den_sv1, ih]
theorem den_svOf (ρ : List Loc) (v : Value) : den ρ (svOf v) = v := by
  unfold svOf
  split
  · simp [den, denL_svL]
  · exact den_sv1 ρ _

/-- What an operation answers, the world as it was. -/
def Ans (P : Program) (h : List Ent) (w : World) (K : SV → Prop) (m : Sem Value) : Prop :=
  ∃ s v, K s ∧ s ≠ .top ∧ Std h s v ∧ m.run P w = .ok v w

def iand (k : IntKind) (a b : Int) : Int := k.wrap (BitVec.ofInt k.bits a &&& BitVec.ofInt k.bits b).toNat
def ior (k : IntKind) (a b : Int) : Int := k.wrap (BitVec.ofInt k.bits a ||| BitVec.ofInt k.bits b).toNat
def ixor (k : IntKind) (a b : Int) : Int := k.wrap (BitVec.ofInt k.bits a ^^^ BitVec.ofInt k.bits b).toNat
def iandn (k : IntKind) (a b : Int) : Int := k.wrap (BitVec.ofInt k.bits a &&& ~~~(BitVec.ofInt k.bits b)).toNat
def ishl (k : IntKind) (a b : Int) : Int := k.wrap (a * 2 ^ (min b.toNat k.bits))
def ishr (k : IntKind) (a b : Int) : Int := a.fdiv (2 ^ (min b.toNat k.bits))

def xint (op : BinOp) (k : IntKind) (a b : Int) (K : SV → Prop) : Prop :=
  match op with
  | .add => K (.val (.int k (k.wrap (a + b))))
  | .sub => K (.val (.int k (k.wrap (a - b))))
  | .mul => K (.val (.int k (k.wrap (a * b))))
  | .quo => b ≠ 0 ∧ K (.val (.int k (k.wrap (a.tdiv b))))
  | .rem => b ≠ 0 ∧ K (.val (.int k (a.tmod b)))
  | .and => K (.val (.int k (iand k a b)))
  | .or => K (.val (.int k (ior k a b)))
  | .xor => K (.val (.int k (ixor k a b)))
  | .andNot => K (.val (.int k (iandn k a b)))
  | .eql => K (.prop (a = b))
  | .neq => K (.prop (a ≠ b))
  | .lss => K (.prop (a < b))
  | .leq => K (.prop (a ≤ b))
  | .gtr => K (.prop (b < a))
  | .geq => K (.prop (b ≤ a))
  | _ => False

theorem xint_sound {P : Program} {h : List Ent} {w : World} {op : BinOp} {k : IntKind} {a b : Int} {K : SV → Prop} {t : TypeId} (hx : xint op k a b K) :
    Ans P h w K (binOp op t (.int k a) (.int k b)) := by
  cases op <;> simp only [xint] at hx <;> try exact hx.elim
  case quo =>
    obtain ⟨h0, hx⟩ := hx
    refine ⟨_, _, hx, by simp, fun r => rfl, ?_⟩
    simp [binOp, Op.intDiv, h0]
  case rem =>
    obtain ⟨h0, hx⟩ := hx
    refine ⟨_, _, hx, by simp, fun r => rfl, ?_⟩
    simp [binOp, Op.intDiv, h0]
  all_goals refine ⟨_, _, hx, by simp, fun r => rfl, ?_⟩
  all_goals simp [binOp, Op.intArith, Op.intBits, Op.intCmp, iand, ior, ixor, iandn]
  all_goals first
    | rfl
    | (rw [Bool.eq_iff_iff]; simp; done)
    | skip
  all_goals (by_cases hab : a = b <;> simp [hab])

/-- A truth value as a proposition. -/
def isB : SV → Option Prop
  | .tt => some True
  | .ff => some False
  | .prop p => some p
  | .val (.bool b) => some (b = true)
  | _ => none
theorem isB_den {s : SV} {p : Prop} (h : isB s = some p) (ρ : List Loc) : den ρ s = .bool (decide p) := by
  cases s with
  | tt => cases h; simp [den]
  | ff => cases h; simp [den]
  | prop q => cases h; simp [den]
  | val v =>
    cases v with
    | bool b => cases h; simp [den]
    | _ => cases h
  | _ => cases h

/-- Is it nil? -/
def isNilP : SV → Option Bool
  | .ptr _ _ _ => some false
  | .val (.pointer none) => some true
  | .val (.pointer (some _)) => some false
  | _ => none
def isNilS : SV → Option Bool
  | .slc _ _ _ _ => some false
  | .val (.slice none _ _) => some true
  | .val (.slice (some _) _ _) => some false
  | _ => none
def isNilM : SV → Option Bool
  | .mp _ => some false
  | .val (.map none) => some true
  | .val (.map (some _)) => some false
  | _ => none
def isNilI : SV → Option Bool
  | .ifc _ _ => some false
  | _ => none
def isNilF : SV → Option Bool
  | .fn _ _ => some false
  | .bfn _ _ => some false
  | .val .nilFunc => some true
  | _ => none
def bSV : Bool → SV
  | true => .tt
  | false => .ff
theorem den_bSV (ρ : List Loc) (b : Bool) : den ρ (bSV b) = .bool b := by cases b <;> rfl

/-- nil against what is nil or is not. -/
def nilCmp (a b : Option Bool) (neg : Bool) (K : SV → Prop) : Prop :=
  match a, b with
  | some true, some y => K (bSV (bif neg then !y else y))
  | some false, some true => K (bSV neg)
  | _, _ => False

def xeq (P : Program) (t : TypeId) (neg : Bool) (x y : SV) (K : SV → Prop) : Prop :=
  match P.underlying t with
  | some .bool => (match isB x, isB y with | some p, some q => K (.prop (bif neg then ¬ (p ↔ q) else (p ↔ q))) | _, _ => False)
  | some (.pointer _) => nilCmp (isNilP x) (isNilP y) neg K
  | some (.slice _) => (match x, y with
    | .sl o _ _, .val (.slice none _ _) => K (.prop (bif neg then ¬ (o = none) else o = none))
    | x, y => nilCmp (isNilS x) (isNilS y) neg K)
  | some (.map _ _) => nilCmp (isNilM x) (isNilM y) neg K
  | some (.func _ _ _) => nilCmp (isNilF x) (isNilF y) neg K
  | _ => False

/-- A struct of numbers alone, n of them. -/
def goodF (P : Program) : Nat → List Field → Bool
  | _, [] => true
  | i, f :: r => !(f.name == "_") && Nat.beq f.offset i && (match P.underlying f.type with | some (.int _) => true | _ => false) && goodF P (i + 1) r
def plainStruct (P : Program) (t : TypeId) (n : Nat) : Bool :=
  match P.underlying t with
  | some (.struct fs) => !(P.eqGuardType P.depth t) && !(P.stoodInHeld t) && Nat.beq fs.size n && goodF P 0 fs.toList
  | _ => false
def eqCells : List SV → List SV → (Prop → Prop) → Prop
  | [], [], K => K True
  | .val (.int k a) :: r, .val (.int k' b) :: r', K => kSame k k' (eqCells r r' fun p => K (a = b ∧ p))
  | _, _, _ => False
def xseq (P : Program) (t : TypeId) (neg : Bool) (l l' : List SV) (K : SV → Prop) : Prop :=
  plainStruct P t l.length = true ∧ eqCells l l' fun p => K (.prop (bif neg then ¬ p else p))

/-- An array of numbers alone, n of them. -/
def plainArr (P : Program) (t : TypeId) (n : Nat) : Bool :=
  match P.underlying t with
  | some (.array m e) => !(P.eqGuardType P.depth t) && Nat.beq m n && (match P.underlying e, P.info? e with | some (.int _), some inf => Nat.beq inf.size 1 | _, _ => false)
  | _ => false
def xaeq (P : Program) (t : TypeId) (neg : Bool) (l l' : List SV) (K : SV → Prop) : Prop :=
  plainArr P t l.length = true ∧ eqCells l l' fun p => K (.prop (bif neg then ¬ p else p))
def xareq (P : Program) (t : TypeId) (neg : Bool) (k k' : IntKind) (l l' : List Int) (K : SV → Prop) : Prop :=
  match P.underlying t with
  | some (.array n _) => plainArr P t n = true ∧ (l.length = n ∧ l'.length = n) ∧ kSame k k' (K (.prop (bif neg then ¬ l = l' else l = l')))
  | _ => False
def xbin (P : Program) (op : BinOp) (t : TypeId) (x y : SV) (K : SV → Prop) : Prop :=
  match x, y with
  | .val (.int k a), .val (.int k' b) =>
    (match op with
     | .shl => 0 ≤ b ∧ K (.val (.int k (ishl k a b)))
     | .shr => 0 ≤ b ∧ K (.val (.int k (ishr k a b)))
     | op => kSame k k' (xint op k a b K))
  | .val (.string a), .val (.string b) =>
    (match op with
     | .eql => K (.prop (a.toList = b.toList))
     | .neq => K (.prop (¬ a.toList = b.toList))
     | .add => ((a.size + b.size : Nat) : Int) ≤ 9223372036854775807 ∧ K (.val (.string (a ++ b)))
     | _ => False)
  | .arr k l, .arr k' l' => (match op with | .eql => xareq P t false k k' l l' K | .neq => xareq P t true k k' l l' K | _ => False)
  | .agg l, .agg l' => (match P.underlying t with
    | some (.array _ _) => (match op with | .eql => xaeq P t false l l' K | .neq => xaeq P t true l l' K | _ => False)
    | _ => (match op with | .eql => xseq P t false l l' K | .neq => xseq P t true l l' K | _ => False))
  | x, y => (match op with | .eql => xeq P t false x y K | .neq => xeq P t true x y K | _ => False)

theorem nilCmp_cases {a b : Option Bool} {neg : Bool} {K : SV → Prop} (h : nilCmp a b neg K) :
    (∃ y, a = some true ∧ b = some y ∧ K (bSV (bif neg then !y else y))) ∨ (a = some false ∧ b = some true ∧ K (bSV neg)) := by
  rcases a with _ | a
  · exact h.elim
  · rcases b with _ | b
    · cases a <;> exact h.elim
    · cases a
      · cases b
        · exact h.elim
        · exact .inr ⟨rfl, rfl, h⟩
      · exact .inl ⟨b, rfl, rfl, h⟩

theorem equal_unfold (t : TypeId) (x y : Value) : Op.equal t x y = Op.equalIn (9999 + 1) t x y := rfl
section
variable {P : Program} {w : World} {t : TypeId}
theorem eqIn_bool (d : Nat) (hu : P.underlying t = some .bool) (a b : Bool) : (Op.equalIn (d + 1) t (.bool a) (.bool b)).run P w = .ok (a == b) w := by
  simp only [Op.equalIn, Sem.run_bind, run_underlying' hu, Result.andThen_ok, Sem.run_pure]
theorem eqIn_ptr1 (d : Nat) {e : TypeId} (hu : P.underlying t = some (.pointer e)) (b : Option Addr) : (Op.equalIn (d + 1) t (.pointer none) (.pointer b)).run P w = .ok b.isNone w := by
  simp only [Op.equalIn, Sem.run_bind, run_underlying' hu, Result.andThen_ok, Sem.run_pure]
theorem eqIn_ptr2 (d : Nat) {e : TypeId} (hu : P.underlying t = some (.pointer e)) (a : Addr) : (Op.equalIn (d + 1) t (.pointer (some a)) (.pointer none)).run P w = .ok false w := by
  simp only [Op.equalIn, Sem.run_bind, run_underlying' hu, Result.andThen_ok, Sem.run_pure]
theorem eqIn_slc1 (d : Nat) {e : TypeId} (hu : P.underlying t = some (.slice e)) (b : Option Addr) (i j k l : Nat) : (Op.equalIn (d + 1) t (.slice none i j) (.slice b k l)).run P w = .ok b.isNone w := by
  simp only [Op.equalIn, Sem.run_bind, run_underlying' hu, Result.andThen_ok, Sem.run_pure]
theorem eqIn_slc2 (d : Nat) {e : TypeId} (hu : P.underlying t = some (.slice e)) (a : Addr) (i j k l : Nat) : (Op.equalIn (d + 1) t (.slice (some a) i j) (.slice none k l)).run P w = .ok false w := by
  simp only [Op.equalIn, Sem.run_bind, run_underlying' hu, Result.andThen_ok, Sem.run_pure]
theorem eqIn_map1 (d : Nat) {e f : TypeId} (hu : P.underlying t = some (.map e f)) (b : Option Nat) : (Op.equalIn (d + 1) t (.map none) (.map b)).run P w = .ok b.isNone w := by
  simp only [Op.equalIn, Sem.run_bind, run_underlying' hu, Result.andThen_ok, Sem.run_pure]
theorem eqIn_map2 (d : Nat) {e f : TypeId} (hu : P.underlying t = some (.map e f)) (a : Nat) : (Op.equalIn (d + 1) t (.map (some a)) (.map none)).run P w = .ok false w := by
  simp only [Op.equalIn, Sem.run_bind, run_underlying' hu, Result.andThen_ok, Sem.run_pure]
theorem eqIn_fn1 (d : Nat) {e f g} (hu : P.underlying t = some (.func e f g)) : (Op.equalIn (d + 1) t .nilFunc .nilFunc).run P w = .ok true w := by
  simp only [Op.equalIn, Sem.run_bind, run_underlying' hu, Result.andThen_ok, Sem.run_pure]
theorem eqIn_fn2 (d : Nat) {e f g} (hu : P.underlying t = some (.func e f g)) (a b c) : (Op.equalIn (d + 1) t .nilFunc (.func a b c)).run P w = .ok false w := by
  simp only [Op.equalIn, Sem.run_bind, run_underlying' hu, Result.andThen_ok, Sem.run_pure]
theorem eqIn_fn3 (d : Nat) {e f g} (hu : P.underlying t = some (.func e f g)) (a b c) : (Op.equalIn (d + 1) t (.func a b c) .nilFunc).run P w = .ok false w := by
  simp only [Op.equalIn, Sem.run_bind, run_underlying' hu, Result.andThen_ok, Sem.run_pure]
end

theorem isNilP_val {s : SV} {b : Bool} (h : isNilP s = some b) (ρ : List Loc) : ∃ a, den ρ s = .pointer a ∧ a.isNone = b := by
  cases s with
  | ptr n i j => cases h; exact ⟨_, rfl, rfl⟩
  | val v =>
    cases v with
    | pointer a => cases a with
      | none => cases h; exact ⟨none, rfl, rfl⟩
      | some a => cases h; exact ⟨some a, rfl, rfl⟩
    | _ => cases h
  | _ => cases h
theorem isNilS_val {s : SV} {b : Bool} (h : isNilS s = some b) (ρ : List Loc) : ∃ a n m, den ρ s = .slice a n m ∧ a.isNone = b := by
  cases s with
  | slc n i j k => cases h; exact ⟨_, _, _, rfl, rfl⟩
  | val v =>
    cases v with
    | slice a _ _ => cases a with
      | none => cases h; exact ⟨none, _, _, rfl, rfl⟩
      | some a => cases h; exact ⟨some a, _, _, rfl, rfl⟩
    | _ => cases h
  | _ => cases h
theorem isNilM_val {s : SV} {b : Bool} (h : isNilM s = some b) (ρ : List Loc) : ∃ a, den ρ s = .map a ∧ a.isNone = b := by
  cases s with
  | mp n => cases h; exact ⟨_, rfl, rfl⟩
  | val v =>
    cases v with
    | map a => cases a with
      | none => cases h; exact ⟨none, rfl, rfl⟩
      | some a => cases h; exact ⟨some a, rfl, rfl⟩
    | _ => cases h
  | _ => cases h
theorem isNilF_val {s : SV} {b : Bool} (h : isNilF s = some b) (ρ : List Loc) : (b = true ∧ den ρ s = .nilFunc) ∨ (b = false ∧ ∃ f c d, den ρ s = .func f c d) := by
  cases s with
  | fn n i => cases h; exact .inr ⟨rfl, _, _, _, rfl⟩
  | bfn n i => cases h; exact .inr ⟨rfl, _, _, _, rfl⟩
  | val v =>
    cases v with
    | nilFunc => cases h; exact .inl ⟨rfl, rfl⟩
    | _ => cases h
  | _ => cases h

/-- What '==' gives, and that the test ahead of it lets the values by. -/
structure EqAns (P : Program) (w : World) (t : TypeId) (vx vy : Value) (b : Bool) : Prop where
  run : (Op.equal t vx vy).run P w = .ok b w
  plain : (∃ c, vx = .bool c) ∨ (∃ a, vx = .pointer a) ∨ (∃ a n m, vx = .slice a n m) ∨ (∃ a, vx = .map a) ∨ vx = .nilFunc ∨ ∃ f c d, vx = .func f c d
  both : (∃ a, vx = .pointer a) → ∃ a, vy = .pointer a

theorem nilCmp_sound {P : Program} {h : List Ent} {w : World} {t : TypeId} {neg : Bool} {a b : Option Bool} {K : SV → Prop} {vx vy : Value} (hn : nilCmp a b neg K)
    (h1 : ∀ y, a = some true → b = some y → EqAns P w t vx vy y) (h2 : a = some false → b = some true → EqAns P w t vx vy false) :
    ∃ b : Bool, EqAns P w t vx vy b ∧ ∃ s, K s ∧ s ≠ .top ∧ Std h s (.bool (bif neg then !b else b)) := by
  rcases nilCmp_cases hn with ⟨y', e1, e2, e3⟩ | ⟨e1, e2, e3⟩
  · refine ⟨y', h1 y' e1 e2, _, e3, ?_, fun r => den_bSV _ _⟩
    cases neg <;> cases y' <;> simp [bSV]
  · refine ⟨false, h2 e1 e2, _, e3, ?_, fun r => ?_⟩
    · cases neg <;> simp [bSV]
    · rw [den_bSV]; cases neg <;> rfl

theorem xeq_sound {P : Program} {h : List Ent} {w : World} {t : TypeId} {neg : Bool} {x y : SV} {K : SV → Prop} {vx vy : Value}
    (hvx : Std h x vx) (hvy : Std h y vy) (hx : xeq P t neg x y K) :
    ∃ b : Bool, EqAns P w t vx vy b ∧ ∃ s, K s ∧ s ≠ .top ∧ Std h s (.bool (bif neg then !b else b)) := by
  unfold xeq at hx
  have hx0 := hvx []
  have hy0 := hvy []
  split at hx
  · rename_i hu
    split at hx
    · rename_i p q hp hq
      rw [isB_den hp] at hx0
      rw [isB_den hq] at hy0
      subst hx0 hy0
      refine ⟨decide p == decide q, ⟨eqIn_bool 9999 hu _ _, .inl ⟨_, rfl⟩, fun ⟨_, h⟩ => by cases h⟩, _, hx, by simp, fun r => ?_⟩
      simp only [den]
      congr 1
      by_cases hp : p <;> by_cases hq : q <;> cases neg <;> simp [hp, hq]
    · exact hx.elim
  · rename_i e hu
    refine nilCmp_sound hx (fun b ha hb => ?_) (fun ha hb => ?_)
    · obtain ⟨a1, e1, f1⟩ := isNilP_val ha (locs h ++ [])
      obtain ⟨a2, e2, f2⟩ := isNilP_val hb (locs h ++ [])
      rw [hx0] at e1; rw [hy0] at e2; subst e1 e2
      cases a1 with
      | some a => cases f1
      | none => exact ⟨by subst f2; exact eqIn_ptr1 9999 hu _, .inr (.inl ⟨_, rfl⟩), fun _ => ⟨_, rfl⟩⟩
    · obtain ⟨a1, e1, f1⟩ := isNilP_val ha (locs h ++ [])
      obtain ⟨a2, e2, f2⟩ := isNilP_val hb (locs h ++ [])
      rw [hx0] at e1; rw [hy0] at e2; subst e1 e2
      cases a1 with
      | none => cases f1
      | some a => cases a2 with
        | some a => cases f2
        | none => exact ⟨eqIn_ptr2 9999 hu _, .inr (.inl ⟨_, rfl⟩), fun _ => ⟨_, rfl⟩⟩
  · rename_i e hu
    split at hx
    · rename_i o l c l2 c2
      simp only [den] at hx0 hy0
      subst hx0 hy0
      refine ⟨decide (o = none), ⟨?_, .inr (.inr (.inl ⟨_, _, _, rfl⟩)), fun ⟨_, h⟩ => by cases h⟩, _, hx, by simp, fun r => ?_⟩
      · cases o with
        | none => exact eqIn_slc1 9999 hu _ _ _ _ _
        | some a => exact eqIn_slc2 9999 hu _ _ _ _ _
      · simp only [den]
        congr 1
        by_cases hp : o = none <;> cases neg <;> simp [hp]
    · refine nilCmp_sound hx (fun b ha hb => ?_) (fun ha hb => ?_)
      · obtain ⟨a1, _, _, e1, f1⟩ := isNilS_val ha (locs h ++ [])
        obtain ⟨a2, _, _, e2, f2⟩ := isNilS_val hb (locs h ++ [])
        rw [hx0] at e1; rw [hy0] at e2; subst e1 e2
        cases a1 with
        | some a => cases f1
        | none => exact ⟨by subst f2; exact eqIn_slc1 9999 hu _ _ _ _ _, .inr (.inr (.inl ⟨_, _, _, rfl⟩)), fun ⟨_, h⟩ => by cases h⟩
      · obtain ⟨a1, _, _, e1, f1⟩ := isNilS_val ha (locs h ++ [])
        obtain ⟨a2, _, _, e2, f2⟩ := isNilS_val hb (locs h ++ [])
        rw [hx0] at e1; rw [hy0] at e2; subst e1 e2
        cases a1 with
        | none => cases f1
        | some a => cases a2 with
          | some a => cases f2
          | none => exact ⟨eqIn_slc2 9999 hu _ _ _ _ _, .inr (.inr (.inl ⟨_, _, _, rfl⟩)), fun ⟨_, h⟩ => by cases h⟩
  · rename_i e f hu
    refine nilCmp_sound hx (fun b ha hb => ?_) (fun ha hb => ?_)
    · obtain ⟨a1, e1, f1⟩ := isNilM_val ha (locs h ++ [])
      obtain ⟨a2, e2, f2⟩ := isNilM_val hb (locs h ++ [])
      rw [hx0] at e1; rw [hy0] at e2; subst e1 e2
      cases a1 with
      | some a => cases f1
      | none => exact ⟨by subst f2; exact eqIn_map1 9999 hu _, .inr (.inr (.inr (.inl ⟨_, rfl⟩))), fun ⟨_, h⟩ => by cases h⟩
    · obtain ⟨a1, e1, f1⟩ := isNilM_val ha (locs h ++ [])
      obtain ⟨a2, e2, f2⟩ := isNilM_val hb (locs h ++ [])
      rw [hx0] at e1; rw [hy0] at e2; subst e1 e2
      cases a1 with
      | none => cases f1
      | some a => cases a2 with
        | some a => cases f2
        | none => exact ⟨eqIn_map2 9999 hu _, .inr (.inr (.inr (.inl ⟨_, rfl⟩))), fun ⟨_, h⟩ => by cases h⟩
  · rename_i e f g hu
    refine nilCmp_sound hx (fun b ha hb => ?_) (fun ha hb => ?_)
    · rcases isNilF_val ha (locs h ++ []) with ⟨-, e1⟩ | ⟨h0, -⟩
      · rw [hx0] at e1
        subst e1
        rcases isNilF_val hb (locs h ++ []) with ⟨rfl, e2⟩ | ⟨rfl, _, _, _, e2⟩ <;> rw [hy0] at e2 <;> subst e2
        · exact ⟨eqIn_fn1 9999 hu, .inr (.inr (.inr (.inr (.inl rfl)))), fun ⟨_, h⟩ => by cases h⟩
        · exact ⟨eqIn_fn2 9999 hu _ _ _, .inr (.inr (.inr (.inr (.inl rfl)))), fun ⟨_, h⟩ => by cases h⟩
      · cases h0
    · rcases isNilF_val ha (locs h ++ []) with ⟨h0, -⟩ | ⟨-, _, _, _, e1⟩
      · cases h0
      · rw [hx0] at e1
        subst e1
        rcases isNilF_val hb (locs h ++ []) with ⟨-, e2⟩ | ⟨h0, -⟩
        · rw [hy0] at e2; subst e2
          exact ⟨eqIn_fn3 9999 hu _ _ _, .inr (.inr (.inr (.inr (.inr ⟨_, _, _, rfl⟩)))), fun ⟨_, h⟩ => by cases h⟩
        · cases h0
  · exact hx.elim

end Go.Sx

/- Keys of maps: what looking for one finds. -/
set_option linter.unusedVariables false
set_option linter.unusedSimpArgs false
namespace Go.Sx
open Classical

def kEqB : IntKind → IntKind → Bool
  | .i8, .i8 => true | .i16, .i16 => true | .i32, .i32 => true | .i64, .i64 => true
  | .u8, .u8 => true | .u16, .u16 => true | .u32, .u32 => true | .u64, .u64 => true
  | _, _ => false
theorem kEqB_eq {a b : IntKind} (h : kEqB a b = true) : a = b := by cases a <;> cases b <;> first | rfl | cases h

def ksMatch : TypeDesc → KS → Bool
  | .int k, .int k' => kEqB k k'
  | .bool, .bool => true
  | .string, .str => true
  | _, _ => false
def ksAt (P : Program) (t : TypeId) (s : KS) : Bool :=
  match P.underlying t with
  | some d => ksMatch d s
  | none => false
def fkey (P : Program) : List Field → Nat → List KS → Bool
  | [], _, [] => true
  | f :: fs, o, s :: ss => (f.name != "_") && (Nat.beq f.offset o && (ksAt P f.type s && fkey P fs (o + 1) ss))
  | _, _, _ => false
def keyOk (P : Program) (kt : TypeId) : KShape → Bool
  | .one s => ksAt P kt s
  | .many l => match P.underlying kt with
    | some (.struct fs) => !P.stoodInHeld kt && fkey P fs.toList 0 l
    | _ => false

noncomputable def findR (k : Value) : List MapEntry → Nat → Option (Nat × Value)
  | [], _ => none
  | e :: es, i => if e.key = k then some (i, e.val) else findR k es (i + 1)

theorem ba_eq {x y : ByteArray} (h : x.toList = y.toList) : x = y := by
  rw [ByteArray.toList_eq, ByteArray.toList_eq] at h
  cases x; cases y
  congr 1
  exact Array.toList_inj.1 h
theorem ba_beq (x y : ByteArray) : (x == y) = decide (x = y) := by
  rw [beq_toListBytes]
  by_cases h : x = y
  · subst h; simp
  · have : ¬ x.toList = y.toList := fun h' => h (ba_eq h')
    simp [h, this]

section
variable {P : Program}

theorem ksAt_get {t : TypeId} {s : KS} (h : ksAt P t s = true) : ∃ d, P.underlying t = some d ∧ ksMatch d s = true := by
  unfold ksAt at h
  split at h
  · exact ⟨_, by assumption, h⟩
  · cases h

theorem notAgg {t : TypeId} {s : KS} (h : ksAt P t s = true) (w : World) : (isAgg t).run P w = .ok false w := by
  obtain ⟨d, hd, hm⟩ := ksAt_get h
  cases d <;> cases s <;> simp [ksMatch] at hm <;> simp [isAgg, run_underlying' hd]

theorem part_one {t : TypeId} {s : KS} (h : ksAt P t s = true) {cs : Array Value} {off : Nat} {v : Value} (hv : cs[off]? = some v) (w : World) :
    (part t cs off).run P w = .ok v w := by
  simp only [part, Sem.run_bind, notAgg h, Result.andThen_ok, Bool.false_eq_true, if_false, hv, Sem.run_pure]

theorem eq_scalar {t : TypeId} {s : KS} (h : ksAt P t s = true) {a b : Value} (ha : s.is a) (hb : s.is b) (d : Nat) (w : World) :
    (Op.equalIn (d + 1) t a b).run P w = .ok (decide (b = a)) w := by
  obtain ⟨d', hd, hm⟩ := ksAt_get h
  cases s with
  | int k =>
    cases d' <;> simp [ksMatch] at hm
    cases a <;> simp [KS.is] at ha
    cases b <;> simp [KS.is] at hb
    subst ha hb
    rename_i k' x y
    rw [run_equalIn_int w d t k _ x y hd]
    congr 1
    by_cases hxy : x = y
    · subst hxy; simp
    · simp [hxy, Ne.symm hxy]
  | bool =>
    cases d' <;> simp [ksMatch] at hm
    cases a <;> simp [KS.is] at ha
    cases b <;> simp [KS.is] at hb
    rename_i x y
    rw [eqIn_bool d hd]
    cases x <;> cases y <;> simp
  | str =>
    cases d' <;> simp [ksMatch] at hm
    cases a <;> simp [KS.is] at ha
    cases b <;> simp [KS.is] at hb
    rename_i x y
    rw [run_equalIn_string w d t x y hd]
    congr 1
    by_cases hxy : x = y
    · subst hxy; simp
    · have : ¬ x.toList = y.toList := fun h => hxy (ba_eq h)
      simp [this, Ne.symm hxy]

theorem KS.all_len : ∀ {l : List KS} {vs : List Value}, KS.all l vs → vs.length = l.length
  | [], [], _ => rfl
  | [], _ :: _, h => h.elim
  | _ :: _, [], h => h.elim
  | _ :: _, _ :: _, h => by simp [KS.all_len h.2]
theorem KS.all_get : ∀ {l : List KS} {vs : List Value} {n : Nat} {s : KS}, KS.all l vs → l[n]? = some s → ∃ v, vs[n]? = some v ∧ s.is v
  | [], _, _, _, _, hn => by simp at hn
  | _ :: _, [], _, _, h, _ => h.elim
  | s :: _, v :: _, 0, _, h, hn => by simp at hn; subst hn; exact ⟨v, rfl, h.1⟩
  | _ :: _, _ :: _, n + 1, _, h, hn => by simpa using KS.all_get h.2 (by simpa using hn)

theorem eqFields_run (d : Nat) {l : List KS} {xs ys : Array Value} (hx : KS.all l xs.toList) (hy : KS.all l ys.toList) (w : World) :
    ∀ (fs : List Field) (o : Nat), fkey P fs o (l.drop o) = true → (Op.eqFields (d + 1) xs ys fs).run P w = .ok (decide (ys.toList.drop o = xs.toList.drop o)) w := by
  intro fs
  induction fs with
  | nil =>
    intro o h
    have h1 : l.length ≤ o := by
      cases hl : l.drop o with
      | nil => simpa using hl
      | cons => rw [hl] at h; simp [fkey] at h
    have h2 := KS.all_len hx
    have h3 := KS.all_len hy
    simp [Op.eqFields, List.drop_eq_nil_of_le (as := xs.toList) (i := o) (by omega), List.drop_eq_nil_of_le (as := ys.toList) (i := o) (by omega)]
  | cons f fs ih =>
    intro o h
    cases hl : l.drop o with
    | nil => rw [hl] at h; simp [fkey] at h
    | cons s ss =>
      rw [hl] at h
      simp only [fkey, Bool.and_eq_true, bne_iff_ne, ne_eq] at h
      obtain ⟨hn, hoff, hs, hrest⟩ := h
      have hoff := Nat.eq_of_beq_eq_true hoff
      have hlt : o < l.length := by
        rcases Nat.lt_or_ge o l.length with h | h
        · exact h
        · rw [List.drop_eq_nil_of_le h] at hl; cases hl
      have hls : l[o]? = some s := by
        rw [← List.head?_drop, hl]; rfl
      have hd1 : l.drop (o + 1) = ss := by
        rw [← List.tail_drop, hl]; rfl
      obtain ⟨a, ha, hsa⟩ := KS.all_get hx hls
      obtain ⟨b, hb, hsb⟩ := KS.all_get hy hls
      simp only [Op.eqFields, hn, not_false_eq_true, ne_eq, if_true, Sem.run_bind]
      rw [hoff, part_one hs (v := a) (by simpa using ha), Result.andThen_ok, part_one hs (v := b) (by simpa using hb), Result.andThen_ok, eq_scalar hs hsa hsb, Result.andThen_ok, Sem.run_ite,
        Sem.run_pure, ih (o + 1) (by rw [hd1]; exact hrest)]
      have e1 : xs.toList.drop o = a :: xs.toList.drop (o + 1) := by
        obtain ⟨hx', rfl⟩ := List.getElem?_eq_some_iff.1 ha
        exact List.drop_eq_getElem_cons hx'
      have e2 : ys.toList.drop o = b :: ys.toList.drop (o + 1) := by
        obtain ⟨hy', rfl⟩ := List.getElem?_eq_some_iff.1 hb
        exact List.drop_eq_getElem_cons hy'
      rw [e1, e2]
      by_cases hab : b = a
      · subst hab; simp
      · simp [hab]

theorem key_equal {kt : TypeId} {ks : KShape} (hk : keyOk P kt ks = true) {a b : Value} (ha : ks.is a) (hb : ks.is b) (w : World) :
    (Op.equal kt a b).run P w = .ok (decide (b = a)) w := by
  rw [equal_unfold]
  cases ks with
  | one s => exact eq_scalar hk ha hb 9999 w
  | many l =>
    cases a <;> simp [KShape.is] at ha
    cases b <;> simp [KShape.is] at hb
    rename_i xs ys
    simp only [keyOk] at hk
    split at hk
    · rename_i fs hu
      simp only [Bool.and_eq_true, Bool.not_eq_true'] at hk
      have hf : P.fieldsOf kt = fs := by simp [Program.fieldsOf, hu]
      rw [run_equalIn_struct w 9999 kt xs ys (by rw [hf]; exact hu) hk.1, hf, eqFields_run 9998 ha hb w fs.toList 0 (by simpa using hk.2)]
      congr 1
      simp only [List.drop_zero, Value.agg.injEq]
      by_cases h : ys = xs
      · subst h; simp
      · have : ¬ ys.toList = xs.toList := fun h' => h (Array.toList_inj.1 h')
        simp [h, this]
    · cases hk

theorem findNow_run {d : TypeDesc} {s : KS} (hm : ksMatch d s = true) {k : Value} (hk : s.is k) : ∀ (es : List MapEntry) (i : Nat), (∀ e ∈ es, s.is e.key) → Instr.findNow d k es i = some (findR k es i)
  | [], _, _ => rfl
  | e :: es, i, h => by
    have he := h e (by simp)
    have ih := findNow_run hm hk es (i + 1) (fun e' h' => h e' (by simp [h']))
    obtain ⟨key, val, born⟩ := e
    simp only at he
    cases s with
    | int k' =>
      cases d <;> simp [ksMatch] at hm
      cases k <;> simp [KS.is] at hk
      cases key <;> simp [KS.is] at he
      subst hk he
      rename_i x y
      simp only [Instr.findNow, Instr.sameNow, if_true, findR, Value.int.injEq, true_and]
      by_cases hxy : x = y
      · subst hxy; simp
      · have : (x == y) = false := by simpa using hxy
        simp [this, Ne.symm hxy, ih]
    | bool =>
      cases d <;> simp [ksMatch] at hm
      cases k <;> simp [KS.is] at hk
      cases key <;> simp [KS.is] at he
      rename_i x y
      simp only [Instr.findNow, Instr.sameNow, findR, Value.bool.injEq]
      by_cases hxy : x = y
      · subst hxy; simp
      · have : (x == y) = false := by simpa using hxy
        simp [this, Ne.symm hxy, ih]
    | str =>
      cases d <;> simp [ksMatch] at hm
      cases k <;> simp [KS.is] at hk
      cases key <;> simp [KS.is] at he
      rename_i x y
      simp only [Instr.findNow, Instr.sameNow, findR, Value.string.injEq, ba_beq]
      by_cases hxy : x = y
      · subst hxy; simp
      · simp [hxy, Ne.symm hxy, ih]

theorem findAsking_run {kt : TypeId} {ks : KShape} (hok : keyOk P kt ks = true) {k : Value} (hk : ks.is k) (w : World) : ∀ (es : List MapEntry) (i : Nat), (∀ e ∈ es, ks.is e.key) →
    (Instr.findAsking kt k es i).run P w = .ok (findR k es i) w
  | [], _, _ => rfl
  | e :: es, i, h => by
    simp only [Instr.findAsking, Sem.run_bind, key_equal hok hk (h e (by simp)), Result.andThen_ok, Sem.run_ite, Sem.run_pure, findR,
      findAsking_run hok hk w es (i + 1) (fun e' h' => h e' (by simp [h']))]
    by_cases h : e.key = k <;> simp [h]

theorem run_find {kt : TypeId} {ks : KShape} (hok : keyOk P kt ks = true) {k : Value} (hk : ks.is k) {es : List MapEntry} (hes : ∀ e ∈ es, ks.is e.key) (w : World) :
    (Instr.findKey kt k es).run P w = .ok (findR k es 0) w := by
  unfold Instr.findKey
  cases ks with
  | one s =>
    obtain ⟨d, hd, hm⟩ := ksAt_get hok
    simp only [Sem.run_bind, run_underlying' hd, Result.andThen_ok, findNow_run hm hk es 0 hes, Sem.run_pure]
  | many l =>
    have hok' := hok
    simp only [keyOk] at hok'
    split at hok'
    · rename_i fs hu
      simp only [Sem.run_bind, run_underlying' hu, Result.andThen_ok]
      cases es with
      | nil => rfl
      | cons e es =>
        simp only [Instr.findNow, Instr.sameNow]
        exact findAsking_run hok hk w (e :: es) 0 hes
    · cases hok'

theorem findR_val {k : Value} : ∀ (es : List MapEntry) (i : Nat), (findR k es i).map (·.2) = getM es k
  | [], _ => rfl
  | e :: es, i => by
    have := findR_val (k := k) es (i + 1)
    unfold getM at this ⊢
    simp only [findR, List.find?_cons]
    by_cases h : e.key = k
    · simp [h]
    · simp [h, this]

theorem checkFields_run {em : Bool} {n : Nat} {l : List KS} {xs : Array Value} (hx : KS.all l xs.toList) (w : World)
    (hs : ∀ t s v, ksAt P t s = true → s.is v → (Instr.checkKey em n t v).run P w = .ok () w) :
    ∀ (fs : List Field) (o : Nat), fkey P fs o (l.drop o) = true →
    (forIn fs PUnit.unit fun f _ => (if f.name ≠ "_" then (do Instr.checkKey em n f.type (← part f.type xs f.offset); pure (ForInStep.yield PUnit.unit)) else pure (ForInStep.yield PUnit.unit) : Sem (ForInStep PUnit))).run P w = .ok PUnit.unit w := by
  intro fs
  induction fs with
  | nil => intro o _; rfl
  | cons f fs ih =>
    intro o h
    cases hl : l.drop o with
    | nil => rw [hl] at h; simp [fkey] at h
    | cons s ss =>
      rw [hl] at h
      simp only [fkey, Bool.and_eq_true, bne_iff_ne, ne_eq] at h
      obtain ⟨hn, hoff, hks, hrest⟩ := h
      have hoff := Nat.eq_of_beq_eq_true hoff
      have hls : l[o]? = some s := by
        rw [← List.head?_drop, hl]; rfl
      have hd1 : l.drop (o + 1) = ss := by
        rw [← List.tail_drop, hl]; rfl
      obtain ⟨a, ha, hsa⟩ := KS.all_get hx hls
      simp only [List.forIn_cons, Sem.run_bind, ne_eq, hn, not_false_eq_true, if_true]
      rw [hoff, part_one hks (v := a) (by simpa using ha), Result.andThen_ok, hs _ _ _ hks hsa, Result.andThen_ok, Sem.run_pure, Result.andThen_ok]
      exact ih (o + 1) (by rw [hd1]; exact hrest)

theorem checkKey_scalar (em : Bool) (n : Nat) (w : World) (t : TypeId) (s : KS) (v : Value) (h : ksAt P t s = true) (hv : s.is v) : (Instr.checkKey em (n + 1) t v).run P w = .ok () w := by
  obtain ⟨d, hd, hm⟩ := ksAt_get h
  cases d <;> cases s <;> simp [ksMatch] at hm <;> simp [Instr.checkKey, run_underlying' hd]

theorem run_check {kt : TypeId} {ks : KShape} (hok : keyOk P kt ks = true) {k : Value} (hk : ks.is k) (em : Bool) (n : Nat) (w : World) : (Instr.checkKey em (n + 2) kt k).run P w = .ok () w := by
  cases ks with
  | one s => exact checkKey_scalar em (n + 1) w kt s k hok hk
  | many l =>
    cases k <;> simp [KShape.is] at hk
    rename_i xs
    simp only [keyOk] at hok
    split at hok
    · rename_i fs hu
      simp only [Bool.and_eq_true] at hok
      rw [show n + 2 = (n + 1) + 1 from rfl, Instr.checkKey]
      simp only [Sem.run_bind, run_underlying' hu, Result.andThen_ok]
      rw [← Array.forIn_toList]
      have := checkFields_run (P := P) (em := em) (n := n + 1) hk w (fun t s v h h' => checkKey_scalar em n w t s v h h') fs.toList 0 (by simpa using hok.2)
      simp only [ne_eq, ite_not, bind_pure_comp] at this ⊢
      rw [this]
      rfl
    · cases hok
end
end Go.Sx
