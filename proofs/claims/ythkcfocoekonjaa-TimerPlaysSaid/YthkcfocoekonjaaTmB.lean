/- Timers: a table in memory, and contracts of functions that work on its queue in place. -/
import Derived.Test.YthkcfocoekonjaaTmA
import Derived.Test.YthkcfocoekonjaaSxX
import Derived.Test.YthkcfocoekonjaaProg
set_option maxRecDepth 100000
set_option linter.unusedVariables false
set_option linter.unusedSimpArgs false
namespace Go.Proofs.Ythkcfocoekonjaa
open Go Go.Sx

def zipR (len : Nat) (xs ys : List Int) : List Row := (xs.take len).zip (ys.take len)
theorem zipR_len {len : Nat} {xs ys : List Int} (hx : len ≤ xs.length) (hy : len ≤ ys.length) : (zipR len xs ys).length = len := by
  simp [zipR]; omega
theorem zip_self' : ∀ l : List Row, (l.map (·.1)).zip (l.map (·.2)) = l
  | [] => rfl
  | (a, b) :: r => by simp [zip_self' r]
theorem zipR_of {xs ys : List Int} {rows : List Row} (h1 : xs.take rows.length = rows.map (·.1)) (h2 : ys.take rows.length = rows.map (·.2)) : zipR rows.length xs ys = rows := by
  unfold zipR; rw [h1, h2]; exact zip_self' rows
theorem zipR_fst {len : Nat} {xs ys : List Int} (hx : len ≤ xs.length) (hy : len ≤ ys.length) : xs.take len = (zipR len xs ys).map (·.1) := by
  unfold zipR; rw [List.map_fst_zip (by simp; omega)]
theorem zipR_snd {len : Nat} {xs ys : List Int} (hx : len ≤ xs.length) (hy : len ≤ ys.length) : ys.take len = (zipR len xs ys).map (·.2) := by
  unfold zipR; rw [List.map_snd_zip (by simp; omega)]

/-- A table's blocks, the queue written out; what is not of use any more lies behind. -/
def TbR (b b1 base cap : Nat) (R : Value → List Row → Prop) (v : Value) (L : Blks) : Prop := ∃ rows xs ys G, R v rows ∧ rows.length ≤ cap ∧ xs.length = cap ∧ ys.length = cap ∧
  xs.take rows.length = rows.map (·.1) ∧ ys.take rows.length = rows.map (·.2) ∧
  L = (b, .cells [.slice (some ⟨b1, base * 2, none⟩) rows.length cap] 70) :: (b1, .tab 150 base cap [.ints .u64 xs, .ints .i64 ys]) :: G

/-- Which position a pointer, or an interface value that holds one, leads to. -/
def tgt : Bool → SV → Option Nat
  | false, .ptr p 0 0 => some p
  | true, .ifc t (.ptr p 0 0) => bif Nat.beq t 148 then some p else none
  | _, _ => none
def tgtV (i : Bool) (b : Nat) : Value := bif i then .iface 148 (.pointer (some ⟨b, 0, none⟩)) else .pointer (some ⟨b, 0, none⟩)

noncomputable def tabT {A : Type} (i : Bool) (ret : A → SV) (pre : List Value → List Row → Prop) (post : List Value → List Row → A → List Row → Prop) : Trans := fun args h K => match args with
  | a0 :: rest => bif noTop rest then (match tgt i a0 with
    | some p => (match entAt h p with
      | some (.own b (.cells 1 [.slc q 0 len cap] 70)) => (match entAt h q with
        | some (.own b1 (.tab 150 base N [.ints .u64 xs, .ints .i64 ys])) => bif Nat.beq p q then False else (len ≤ cap ∧ N = cap ∧ len < 1000000 ∧ pre (denL (locs h) rest) (zipR len xs ys)) ∧
          ∀ (a : A) (rows' : List Row) (xs' ys' : List Int), post (denL (locs h) rest) (zipR len xs ys) a rows' → rows'.length ≤ cap → xs'.length = cap → ys'.length = cap →
            xs'.take rows'.length = rows'.map (·.1) → ys'.take rows'.length = rows'.map (·.2) →
            setK h p (.own b (.cells 1 [.slc q 0 rows'.length cap] 70)) fun h1 => setK h1 q (.own b1 (.tab 150 base cap [.ints .u64 xs', .ints .i64 ys'])) fun h2 => K (ret a) h2
        | _ => False)
      | _ => False)
    | none => False) else False
  | _ => False

theorem tgt_den {i : Bool} {a0 : SV} {p : Nat} (h : tgt i a0 = some p) (ρ : List Go.Sx.Loc) : den ρ a0 = (bif i then .iface 148 (.pointer (some ⟨(locAt ρ p).1, (locAt ρ p).2.1 * (locAt ρ p).2.2, none⟩)) else .pointer (some ⟨(locAt ρ p).1, (locAt ρ p).2.1 * (locAt ρ p).2.2, none⟩)) := by
  unfold tgt at h
  split at h
  · cases h; simp [den]
  · rename_i t p'
    cases hb : Nat.beq t 148 with
    | false => rw [hb] at h; cases h
    | true =>
      rw [hb] at h
      cases h
      have := Nat.eq_of_beq_eq_true hb
      subst this
      simp [den]
  · cases h

theorem tabT_sound {f : FuncId} {A : Type} {i : Bool} {ret : A → SV} {val : A → Value} {pre : List Value → List Row → Prop} {post : List Value → List Row → A → List Row → Prop} (he : Enters Go.Proofs.Try.prog f)
    (hd : ∀ a ρ, den ρ (ret a) = val a) (hn : ∀ a, ret a ≠ .top)
    (ht : ∀ (b b1 base cap : Nat) (vs : List Value) (rows : List Row) (xs ys : List Int), rows.length ≤ cap → rows.length < 1000000 → xs.length = cap → ys.length = cap → xs.take rows.length = rows.map (·.1) → ys.take rows.length = rows.map (·.2) → pre vs rows →
      Triple Go.Proofs.Try.prog f (tgtV i b :: vs) [(b, .cells [.slice (some ⟨b1, base * 2, none⟩) rows.length cap] 70), (b1, .tab 150 base cap [.ints .u64 xs, .ints .i64 ys])]
        (TbR b b1 base cap fun v rows' => ∃ a, v = val a ∧ post vs rows a rows')) : SoundT Go.Proofs.Try.prog f (tabT i ret pre post) := by
  intro F h w args vs K c ha hx
  refine ⟨he, ?_⟩
  unfold tabT at hx
  split at hx
  · rename_i a0 rest
    obtain ⟨hnt, hx⟩ := bif_false hx
    split at hx
    · rename_i p hp
      split at hx
      · rename_i b q len cap hep
        split at hx
        · rename_i b1 base N xs ys heq
          cases hb : Nat.beq p q with
          | true => rw [hb] at hx; exact hx.elim
          | false =>
            rw [hb] at hx
            simp only [cond_false] at hx
            have hne : p ≠ q := by rintro rfl; simp at hb
            obtain ⟨⟨h1, rfl, h3, h4⟩, hx⟩ := hx
            obtain ⟨-, hloc1⟩ := c.blk hep rfl
            obtain ⟨⟨ob, hob, hk⟩, hloc2⟩ := c.blk heq rfl
            obtain ⟨arr, lo, hi, -, g1, -, -⟩ := hk []
            have hxl : xs.length = N := (g1 (.ints .u64 xs) (by simp)).1
            have hyl : ys.length = N := (g1 (.ints .i64 ys) (by simp)).1
            have zl := zipR_len (len := len) (xs := xs) (ys := ys) (by omega) (by omega)
            have hrest : denL (locs h) rest = vs.tail := by
              have := ha []
              rw [List.append_nil] at this
              rw [← this]; rfl
            have hvs : vs = tgtV i b :: denL (locs h) rest := by
              have := ha []
              rw [List.append_nil] at this
              rw [← this]
              show den (locs h) a0 :: denL (locs h) rest = _
              have e1 := hloc1 []
              rw [List.append_nil] at e1
              rw [tgt_den hp, e1]
              simp [tgtV, SBlk.base, SBlk.wd]
            have htr := ht b b1 base N (denL (locs h) rest) (zipR len xs ys) xs ys (by omega) (by omega) hxl hyl (by rw [zl]; exact zipR_fst (by omega) (by omega)) (by rw [zl]; exact zipR_snd (by omega) (by omega)) h4
            rw [zl] at htr
            have hden : ∀ r, blksOf (locs h ++ r) [(p, .own b (.cells 1 [.slc q 0 len N] 70)), (q, .own b1 (.tab 150 base N [.ints .u64 xs, .ints .i64 ys]))] =
                [(b, .cells [.slice (some ⟨b1, base * 2, none⟩) len N] 70), (b1, .tab 150 base N [.ints .u64 xs, .ints .i64 ys])] := fun r => by
              have := hloc2 r
              simp [blksOf, Ent.blocks, SBlk.den, denL, den, this, SBlk.base, SBlk.wd]
            have hden0 := hden []
            rw [List.append_nil] at hden0
            rw [hvs]
            refine frame_many (G := []) c [(p, .own b (.cells 1 [.slc q 0 len N] 70)), (q, .own b1 (.tab 150 base N [.ints .u64 xs, .ints .i64 ys]))] (by simp [hep, heq]) (by simp [hne]) (L := _) (by rw [hden0, List.append_nil]) htr fun v L' hr => ?_
            obtain ⟨rows', xs', ys', G, ⟨a, rfl, k0⟩, k1, k2, k3, k4, k5, rfl⟩ := hr
            have h6 := setK_spec (setK_spec (hx a rows' xs' ys' k0 k1 k2 k3 k4 k5))
            refine ⟨ret a, [(p, .own b (.cells 1 [.slc q 0 rows'.length N] 70)), (q, .own b1 (.tab 150 base N [.ints .u64 xs', .ints .i64 ys']))], [], G, ?_, rfl, ?_, fun r => ?_, by simp, hn a, fun r => hd a _⟩
            · rw [List.append_nil]; exact h6
            · intro x hx'
              simp at hx'
              rcases hx' with rfl | rfl
              · exact ⟨_, hep, rfl⟩
              · exact ⟨_, heq, rfl⟩
            · have := hloc2 (locs [] ++ r)
              simp [blksOf, Ent.blocks, owned, SBlk.den, denL, den, this, SBlk.base, SBlk.wd]
        · exact hx.elim
      · exact hx.elim
    · exact hx.elim
  · exact hx.elim

def cmpF (a b : Int) : Int := if a < b then -1 else if b < a then 1 else 0
/-- A function of numbers alone. -/
noncomputable def cmpT (k : IntKind) : Trans := fun args h K => match args with
  | [.val (.int k1 a), .val (.int k2 b)] => kSame k k1 (kSame k k2 (K (.val (.int .i64 (cmpF a b))) h))
  | _ => False
theorem cmpT_sound {f : FuncId} {k : IntKind} (he : Enters Go.Proofs.Try.prog f) (ht : ∀ a b, Triple Go.Proofs.Try.prog f [.int k a, .int k b] [] fun v _ => v = .int .i64 (cmpF a b)) : SoundT Go.Proofs.Try.prog f (cmpT k) := by
  intro F h w args vs K c ha hx
  refine ⟨he, ?_⟩
  unfold cmpT at hx
  split at hx
  · rename_i k1 a k2 b
    obtain ⟨e1, hx1⟩ := kSame_iff hx
    obtain ⟨e2, hx2⟩ := kSame_iff hx1
    subst e1 e2
    have hvs : vs = [.int k a, .int k b] := (ha []).symm
    rw [hvs]
    refine frame_many (G := []) c [] (by simp) (by simp) (L := []) (List.Perm.refl _) (ht a b) fun v L' hr => ?_
    subst hr
    exact ⟨_, [], [], L', by simpa [putAt] using hx2, rfl, by simp, fun r => by simp [blksOf, owned], by simp, by simp, fun r => rfl⟩
  · exact hx.elim
end Go.Proofs.Ythkcfocoekonjaa
