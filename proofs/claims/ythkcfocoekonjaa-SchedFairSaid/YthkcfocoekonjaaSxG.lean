/- The quiet operations are sound. -/
import Derived.Test.YthkcfocoekonjaaSxF
set_option linter.unusedVariables false
set_option linter.unusedSimpArgs false
namespace Go.Sx
open Classical
section
variable {P : Program} {F : List (Nat × Blk)} {h : List Ent} {w : World} {K : SV → Prop}

theorem wdIs_loc {n size : Nat} (hw : wdIs h n size = true) : ∃ l : Loc, l.2.2 = size ∧ ∀ r, locAt (locs h ++ r) n = l := by
  unfold wdIs at hw
  split at hw
  · rename_i e he
    exact ⟨e.loc, Nat.eq_of_beq_eq_true hw, fun r => entAt_loc he r⟩
  · cases hw

theorem Ans.nt {s : SV} {v : Value} (hk : nt s K) (hs : Std h s v) : Ans P h w K (pure v) := by
  obtain ⟨h1, h2⟩ := nt_spec hk
  exact ⟨s, v, h2, h1, hs, rfl⟩

theorem bif_false {b : Bool} {A : Prop} (hb : bif b then A else False) : b = true ∧ A := by cases b; exact hb.elim; exact ⟨rfl, hb⟩

theorem xpick_sound {c a b : SV} {vc va vb : Value} (hc : Std h c vc) (ha : a ≠ .top → Std h a va) (hb : b ≠ .top → Std h b vb) (hx : xpick c a b K) :
    Ans P h w K (do pure (if ← asBool vc then va else vb)) := by
  have two : ∀ (p : Prop) (q : Bool), vc = .bool q → (p ↔ q = true) → (p → Sx.nt a K) → (¬ p → Sx.nt b K) → Ans P h w K (do pure (if ← asBool vc then va else vb)) := by
    intro p q hv hpq h1 h2
    subst hv
    by_cases hp : p
    · obtain ⟨h3, h4⟩ := nt_spec (h1 hp)
      refine ⟨a, va, h4, h3, ha h3, ?_⟩
      simp [asBool, hpq.1 hp]
    · obtain ⟨h3, h4⟩ := nt_spec (h2 hp)
      refine ⟨b, vb, h4, h3, hb h3, ?_⟩
      have : q = false := by cases q; rfl; exact absurd (hpq.2 rfl) hp
      simp [asBool, this]
  have hc0 := hc []
  cases c with
  | tt => exact two True true hc0.symm (by simp) (fun _ => hx) (fun h => absurd trivial h)
  | ff => exact two False false hc0.symm (by simp) (fun h => h.elim) (fun _ => hx)
  | prop p =>
    have hv : vc = .bool (decide p) := hc0.symm
    simp only [xpick] at hx
    split at hx
    · split at hx
      · rename_i q hq
        have hb1 := fun r => isB_den hq r
        have hbt : b ≠ .top := by rintro rfl; cases hq
        have ha1 := ha (by simp)
        refine ⟨_, .bool (decide (p ∨ q)), hx, by simp, fun r => by simp [den], ?_⟩
        have e1 : va = .bool true := (ha1 []).symm
        have e2 : vb = .bool (decide q) := by rw [← hb hbt [], hb1]
        subst hv e1 e2
        by_cases hp : p <;> simp [asBool, hp]
      · exact hx.elim
    · split at hx
      · rename_i q hq
        have ha1 := fun r => isB_den hq r
        have hat : a ≠ .top := by rintro rfl; cases hq
        have hb1 := hb (by simp)
        refine ⟨_, .bool (decide (p ∧ q)), hx, by simp, fun r => by simp [den], ?_⟩
        have e1 : vb = .bool false := (hb1 []).symm
        have e2 : va = .bool (decide q) := by rw [← ha hat [], ha1]
        subst hv e1 e2
        by_cases hp : p <;> simp [asBool, hp]
      · exact hx.elim
    · exact two p (decide p) hv (by simp) hx.1 hx.2
  | val v =>
    cases v with
    | bool x =>
      have hv : vc = .bool x := hc0.symm
      simp only [xpick] at hx
      split at hx
      · split at hx
        · rename_i q hq
          have hb1 := fun r => isB_den hq r
          have hbt : b ≠ .top := by rintro rfl; cases hq
          have ha1 := ha (by simp)
          refine ⟨_, .bool (decide (x = true ∨ q)), hx, by simp, fun r => by simp [den], ?_⟩
          have e1 : va = .bool true := (ha1 []).symm
          have e2 : vb = .bool (decide q) := by rw [← hb hbt [], hb1]
          subst hv e1 e2
          cases x <;> simp [asBool]
        · exact hx.elim
      · split at hx
        · rename_i q hq
          have ha1 := fun r => isB_den hq r
          have hat : a ≠ .top := by rintro rfl; cases hq
          have hb1 := hb (by simp)
          refine ⟨_, .bool (decide (x = true ∧ q)), hx, by simp, fun r => by simp [den], ?_⟩
          have e1 : vb = .bool false := (hb1 []).symm
          have e2 : va = .bool (decide q) := by rw [← ha hat [], ha1]
          subst hv e1 e2
          cases x <;> simp [asBool]
        · exact hx.elim
      · exact two (x = true) x hv Iff.rfl hx.1 (fun h => hx.2 (by simpa using h))
    | _ => exact hx.elim
  | _ => exact hx.elim

theorem xun_sound {op : UnOp} {x : SV} {v : Value} (hv : Std h x v) (hx : xun op x K) : Ans P h w K (Op.unary op v) := by
  have hv0 : v = den (locs h ++ []) x := (hv []).symm
  unfold xun at hx
  split at hx
  · subst hv0; exact ⟨_, _, hx, by simp, fun r => rfl, rfl⟩
  · subst hv0; exact ⟨_, _, hx, by simp, fun r => rfl, rfl⟩
  · subst hv0
    rename_i p
    refine ⟨_, _, hx, by simp, fun r => rfl, ?_⟩
    by_cases hp : p <;> simp [den, Op.unary, hp]
  · subst hv0
    rename_i b
    refine ⟨_, _, hx, by simp, fun r => rfl, ?_⟩
    cases b <;> simp [den, Op.unary]
  · subst hv0; exact ⟨_, _, hx, by simp, fun r => rfl, rfl⟩
  · subst hv0; exact ⟨_, _, hx, by simp, fun r => rfl, rfl⟩
  · exact hx.elim

def bndOf (x : Option Value) (d ub : Nat) (c : BoundsCode) : Sem Nat :=
  match x with
  | some v => Instr.sliceBound v ub c
  | none => pure d

theorem addr_add (b x m : Nat) : Addr.add ⟨b, x, none⟩ m = ⟨b, x + m, none⟩ := by
  unfold Addr.add
  split
  · subst_vars; rfl
  · rfl

theorem sliceBounds_run {isS : Bool} {len cap : Nat} {lo hi mx : Option Value} {m hh ll : Nat} {w : World}
    (hm : ∀ c, (bndOf mx cap cap c).run P w = .ok m w)
    (hhh : ∀ c, (bndOf hi len m c).run P w = .ok hh w) (hmx : hi = none → mx = none)
    (hl : ∀ c, (bndOf lo 0 hh c).run P w = .ok ll w) :
    (Instr.sliceBounds isS len cap lo hi mx).run P w = .ok (ll, hh, m) w := by
  unfold Instr.sliceBounds
  have low : ∀ c, (match lo with | some v => Instr.sliceBound v hh c | none => (pure 0 : Sem Nat)) = bndOf lo 0 hh c := fun c => by cases lo <;> rfl
  cases mx with
  | none =>
    have hm' : cap = m := by have := hm .index; simp [bndOf] at this; exact this
    subst hm'
    cases hi with
    | none =>
      have : len = hh := by have := hhh .index; simp [bndOf] at this; exact this
      subst this
      cases lo with
      | none =>
        have : 0 = ll := by have := hl .index; simp [bndOf] at this; exact this
        subst this; rfl
      | some l => have := hl .sliceB; simp [bndOf] at this; simp [this]
    | some hv =>
      have h2 := hhh (if isS then .sliceAcap else .sliceAlen); simp only [bndOf] at h2
      cases lo with
      | none =>
        have : 0 = ll := by have := hl .index; simp [bndOf] at this; exact this
        subst this; simp [h2]
      | some l => have := hl .sliceB; simp only [bndOf] at this; simp [h2, this]
  | some mv =>
    have h1 := hm (if isS then .slice3Acap else .slice3Alen); simp only [bndOf] at h1
    cases hi with
    | none => cases hmx rfl
    | some hv =>
      have h2 := hhh .slice3B; simp only [bndOf] at h2
      cases lo with
      | none =>
        have : 0 = ll := by have := hl .index; simp [bndOf] at this; exact this
        subst this; simp [h1, h2]
      | some l => have := hl .slice3C; simp only [bndOf] at this; simp [h1, h2, this]

/-- An operand that may lack. -/
def OptStd (h : List Ent) (x : Option SV) (v : Option Value) : Prop :=
  match x, v with
  | none, none => True
  | some s, some v => s ≠ .top → Std h s v
  | _, _ => False

theorem xbnd_all {x : Option SV} {vx : Option Value} (hv : OptStd h x vx) {dflt ub : Nat} {K : Nat → Prop} (hx : xbnd x dflt ub K) :
    ∃ m, K m ∧ (∀ code, (bndOf vx dflt ub code).run P w = .ok m w) ∧ (vx = none → m = dflt) ∧ (vx ≠ none → m ≤ ub) := by
  cases x with
  | none =>
    cases vx with
    | none => exact ⟨dflt, hx, fun _ => rfl, fun _ => rfl, fun h => absurd rfl h⟩
    | some v => exact hv.elim
  | some s =>
    cases vx with
    | none => exact hv.elim
    | some v =>
      cases s with
      | val u =>
        cases u with
        | int k i =>
          have := hv (by simp) []
          simp only [den] at this
          subst this
          obtain ⟨⟨h1, h2⟩, h3⟩ := hx
          refine ⟨i.toNat, h3, fun code => ?_, by simp, fun _ => by omega⟩
          simp [bndOf, Instr.sliceBound, asIntOf, h1, h2]
        | _ => exact hx.elim
      | _ => exact hx.elim

theorem xslice_sound {t : TypeId} {x : SV} {v : Value} {lo hi mx : Option SV} {vlo vhi vmx : Option Value} (hv : x ≠ .top → Std h x v) (hlo : OptStd h lo vlo) (hhi : OptStd h hi vhi) (hmx : OptStd h mx vmx)
    (hx : xslice P h t x lo hi mx K) : Ans P h w K (Instr.sliceAt t v vlo vhi vmx) := by
  unfold xslice at hx
  split at hx
  · rename_i e hu
    split at hx
    · exact hx.elim
    · rename_i inf hinf
      have hnone : vhi = none → vmx = none := by
        intro he
        subst he
        cases hi with
        | some s => exact hhi.elim
        | none => cases mx with
          | none => cases vmx with
            | none => rfl
            | some _ => exact hmx.elim
          | some s => simp at hx
      have hx' : wdFits h x inf.size (xslice3 x lo hi mx K) := by
        revert hx
        split
        · intro h; exact h.elim
        · exact fun h => h
      clear hx
      have start : ∀ a len cap m hh ll, v = .slice a len cap → (∀ c, (bndOf vmx cap cap c).run P w = .ok m w) →
          (∀ c, (bndOf vhi len m c).run P w = .ok hh w) → (∀ c, (bndOf vlo 0 hh c).run P w = .ok ll w) →
          (Instr.sliceAt t v vlo vhi vmx).run P w = .ok (.slice (if m = ll then a else a.map (·.add (ll * inf.size))) (hh - ll) (m - ll)) w := by
        intro a len cap m hh ll hv h1 h2 h3
        subst hv
        simp only [Instr.sliceAt, Sem.run_bind, run_underlying' hu, Result.andThen_ok, Instr.slice]
        rw [sliceBounds_run h1 h2 hnone h3]
        simp only [Result.andThen_ok, run_sizeOf' hinf, Sem.run_pure]
      cases x with
      | slc n o len cap =>
        obtain ⟨hw, hx⟩ := bif_false hx'
        obtain ⟨l, hl, hloc⟩ := wdIs_loc hw
        have hv' : v = .slice (some ⟨l.1, (l.2.1 + o) * l.2.2, none⟩) len cap := by
          have := hv (by simp) []
          simp only [den, hloc []] at this
          exact this.symm
        simp only [xslice3] at hx
        obtain ⟨m, hx, h1, -, -⟩ := xbnd_all (P := P) (w := w) hmx hx
        obtain ⟨hh, hx, h2, -, -⟩ := xbnd_all (P := P) (w := w) hhi hx
        cases lo with
        | none =>
          cases vlo with
          | some _ => exact hlo.elim
          | none =>
            refine ⟨_, _, hx, by simp, fun r => ?_, start _ len cap m hh 0 hv' h1 h2 (fun _ => rfl)⟩
            simp only [den, hloc r]
            simp [addr_add]
        | some s =>
          obtain ⟨ll, hx, h3, -, -⟩ := xbnd_all (P := P) (w := w) hlo hx
          refine ⟨_, _, hx, by simp, fun r => ?_, start _ len cap m hh ll hv' h1 h2 h3⟩
          simp only [den, hloc r]
          by_cases hml : m = ll
          · simp [hml]
          · simp only [hml, if_false, Option.map_some, addr_add, hl]
            simp only [Nat.add_mul, Nat.add_assoc]
      | val u =>
        cases u with
        | slice a len cap =>
          cases a with
          | some a => exact hx'.elim
          | none =>
            have hx : xslice3 (.val (.slice none len cap)) lo hi mx K := hx'
            simp only [xslice3] at hx
            have hv' : v = .slice none len cap := (hv (by simp) []).symm
            obtain ⟨m, hx, h1, -, -⟩ := xbnd_all (P := P) (w := w) hmx hx
            obtain ⟨hh, hx, h2, -, -⟩ := xbnd_all (P := P) (w := w) hhi hx
            obtain ⟨ll, hx, h3, -, -⟩ := xbnd_all (P := P) (w := w) hlo hx
            refine ⟨_, _, hx, by simp, fun r => ?_, start _ len cap m hh ll hv' h1 h2 h3⟩
            simp [den]
        | _ => exact hx'.elim
      | ptr n i j => obtain ⟨_, hx⟩ := bif_false hx'; exact hx.elim
      | _ => exact hx'.elim
  · rename_i hu
    split at hx
    · rename_i s
      cases vmx with
      | some _ => exact hmx.elim
      | none =>
        have hv' : v = .string s := (hv (by simp) []).symm
        subst hv'
        obtain ⟨hh, hx, h2, -, -⟩ := xbnd_all (P := P) (w := w) hhi hx
        obtain ⟨ll, hx, h3, -, -⟩ := xbnd_all (P := P) (w := w) hlo hx
        refine ⟨_, _, hx, by simp, fun r => rfl, ?_⟩
        simp only [Instr.sliceAt, Sem.run_bind, run_underlying' hu, Result.andThen_ok, Instr.slice, Option.isSome_none, Bool.false_eq_true, if_false, Sem.run_pure]
        rw [sliceBounds_run (m := s.size) (fun _ => rfl) h2 (fun _ => rfl) h3]
        rfl
    · exact hx.elim
  · exact hx.elim

theorem xindexAddr_sound {t : TypeId} {x ix : SV} {v vi : Value} (hv : x ≠ .top → Std h x v) (hi : ix ≠ .top → Std h ix vi) (hx : xindexAddr P h t x ix K) : Ans P h w K (Instr.indexAt t v vi) := by
  unfold xindexAddr at hx
  split at hx
  · rename_i k i
    have hvi : vi = .int k i := (hi (by simp) []).symm
    subst hvi
    split at hx
    · rename_i e hu
      split at hx
      · exact hx.elim
      · rename_i inf hinf
        split at hx
        · rename_i n o len cap
          cases hw0 : wdIs h n inf.size with
          | false =>
            rw [hw0] at hx
            obtain ⟨hw, ⟨h1, h2⟩, hx⟩ := bif_false hx
            obtain ⟨l, hl, hloc⟩ := wdIs_loc hw
            have hv' : v = .slice (some ⟨l.1, (l.2.1 + o) * l.2.2, none⟩) len cap := by
              have := hv (by simp) []
              simp only [den, hloc []] at this
              exact this.symm
            subst hv'
            refine ⟨_, .pointer (some ⟨l.1, (l.2.1 + o) * l.2.2 + i.toNat * inf.size, none⟩), hx, by simp, fun r => ?_, ?_⟩
            · simp only [den, hloc r, hl, Nat.add_zero, Nat.mul_one]
              rw [← Nat.add_assoc]
            · simp only [Instr.indexAt, Sem.run_bind, asIntOf, Sem.run_pure, Result.andThen_ok, run_underlying' hu, h1, h2, and_self, if_true, run_sizeOf' hinf, addr_add]
          | true =>
          rw [hw0] at hx
          have hw := hw0
          obtain ⟨⟨h1, h2⟩, hx⟩ := hx
          obtain ⟨l, hl, hloc⟩ := wdIs_loc hw
          have hv' : v = .slice (some ⟨l.1, (l.2.1 + o) * l.2.2, none⟩) len cap := by
            have := hv (by simp) []
            simp only [den, hloc []] at this
            exact this.symm
          subst hv'
          refine ⟨_, .pointer (some ⟨l.1, (l.2.1 + o) * l.2.2 + i.toNat * inf.size, none⟩), hx, by simp, fun r => ?_, ?_⟩
          · simp only [den, hloc r, hl, Nat.add_zero]
            rw [← Nat.add_assoc, Nat.add_mul]
          · simp only [Instr.indexAt, Sem.run_bind, asIntOf, Sem.run_pure, Result.andThen_ok, run_underlying' hu, h1, h2, and_self, if_true, run_sizeOf' hinf, addr_add]
        · exact hx.elim
    · rename_i ln e hu
      split at hx
      · exact hx.elim
      · rename_i inf hinf
        split at hx
        · rename_i n i0 j0
          obtain ⟨hw, hx⟩ := bif_false hx
          obtain ⟨hj, ⟨h1, h2⟩, hx2⟩ := bif_false hx
          have hj := Nat.eq_of_beq_eq_true hj
          subst hj
          obtain ⟨l, hl, hloc⟩ := wdIs_loc hw
          have hv' : v = .pointer (some ⟨l.1, (l.2.1 + i0) * l.2.2 + 0, none⟩) := by
            have := hv (by simp) []
            simp only [den, hloc []] at this
            exact this.symm
          subst hv'
          refine ⟨_, .pointer (some ⟨l.1, (l.2.1 + i0) * l.2.2 + i.toNat * inf.size, none⟩), hx2, by simp, fun r => ?_, ?_⟩
          · simp only [den, hloc r, hl, Nat.add_zero]
            rw [← Nat.add_assoc, Nat.add_mul]
          · simp only [Instr.indexAt, Sem.run_bind, asIntOf, Sem.run_pure, Result.andThen_ok, run_underlying' hu, Instr.sureAddr, h1, h2, and_self, if_true, run_sizeOf' hinf, addr_add, Nat.add_zero]
        · exact hx.elim
    · exact hx.elim
  · exact hx.elim

theorem fieldN_get {fs : Array Field} {f : Nat} {fd : Field} (h : fieldN fs f = some fd) : fs[f]? = some fd := by simpa [fieldN] using h

theorem xfieldAddr_sound {s : TypeId} {x : SV} {v : Value} {f : Nat} (hv : x ≠ .top → Std h x v) (hx : xfieldAddr P s x f K) : Ans P h w K (Instr.fieldAt s v f) := by
  unfold xfieldAddr at hx
  split at hx
  · rename_i fs hu
    split at hx
    · exact hx.elim
    · rename_i fd hfd
      split at hx
      · exact hx.elim
      · rename_i inf hinf
        cases hz : Nat.beq inf.size 0 with
        | true => rw [hz] at hx; exact hx.elim
        | false =>
          rw [hz] at hx
          simp only [cond_false] at hx
          have hz' : inf.size ≠ 0 := fun h => by rw [h] at hz; cases hz
          split at hx
          · rename_i n i j
            have hv0 := hv (by simp)
            obtain ⟨a, ha⟩ : ∃ a, v = .pointer (some a) := ⟨_, (hv0 []).symm⟩
            subst ha
            have hspot : a.spot = none := by
              have := hv0 []
              simp only [den, Value.pointer.injEq, Option.some.injEq] at this
              rw [← this]
            refine ⟨_, .pointer (some (a.add fd.offset)), hx, by simp, fun r => ?_, ?_⟩
            · have := hv0 r
              simp only [den, Value.pointer.injEq, Option.some.injEq] at this ⊢
              rw [← this, addr_add, Nat.add_assoc]
            · simp only [Instr.fieldAt, Sem.run_bind, run_underlying' hu, Result.andThen_ok, fieldN_get hfd, Instr.sureAddr, Sem.run_pure, fieldPlace, run_sizeOf' hinf, hz', if_false]
          · exact hx.elim
  · exact hx.elim

theorem subL_eq : ∀ (l : List SV) (o n : Nat), subL l o n = (l.drop o).take n
  | l, 0, n => by cases l <;> simp [subL]
  | [], o + 1, n => by simp [subL]
  | _ :: r, o + 1, n => by simp [subL, subL_eq r o n]

theorem xpart_sound {t : TypeId} {l : List SV} {off : Nat} {vs : Array Value} (hv : StdL h l vs.toList) (hx : xpart P t l off K) : Ans P h w K (part t vs off) := by
  unfold xpart at hx
  have agg : ∀ inf, P.info? t = some inf → (isAgg t).run P w = .ok true w → K (.agg (subL l off inf.size)) → Ans P h w K (part t vs off) := by
    intro inf hinf hag hx
    refine ⟨_, .agg (vs.extract off (off + inf.size)), hx, by simp, fun r => ?_, ?_⟩
    · simp only [den, Value.agg.injEq]
      apply Array.toList_inj.1
      have := hv r
      rw [denL_eq] at this ⊢
      rw [subL_eq, List.map_take, List.map_drop, this]
      simp [List.extract_eq_take_drop]
    · simp only [part, Sem.run_bind, hag, Result.andThen_ok, if_true, run_sizeOf' hinf, Sem.run_pure]
  split at hx
  · exact hx.elim
  · rename_i hu
    split at hx
    · exact hx.elim
    · exact agg _ (by assumption) (by simp [isAgg, run_underlying' hu]) hx
  · rename_i hu
    split at hx
    · exact hx.elim
    · exact agg _ (by assumption) (by simp [isAgg, run_underlying' hu]) hx
  · rename_i d hns hna hu
    obtain ⟨s, h1, h2⟩ := nth_get hx
    obtain ⟨h3, h4⟩ := nt_spec h2
    have hc : ∀ r, vs[off]? = some (den (locs h ++ r) s) := fun r => by
      have := hv r
      rw [denL_eq] at this
      have h5 : vs.toList[off]? = some (den (locs h ++ r) s) := by rw [← this, List.getElem?_map, h1]; rfl
      simpa using h5
    refine ⟨s, den (locs h ++ []) s, h4, h3, fun r => ?_, ?_⟩
    · have := hc r
      rw [hc []] at this
      exact (Option.some.inj this).symm
    · have hag : (isAgg t).run P w = .ok false w := by
        simp only [isAgg, Sem.run_bind, run_underlying' hu, Result.andThen_ok]
        cases d <;> first | rfl | exact absurd rfl (hns _) | exact absurd rfl (hna _ _)
      simp only [part, Sem.run_bind, hag, Result.andThen_ok, Bool.false_eq_true, if_false, hc [], Sem.run_pure]

theorem xfield_sound {t : TypeId} {x : SV} {v : Value} {f : Nat} (hv : x ≠ .top → Std h x v) (hx : xfield P t x f K) : Ans P h w K (Instr.field t v f) := by
  unfold xfield at hx
  split at hx
  · rename_i fs hu
    split at hx
    · exact hx.elim
    · rename_i fd hfd
      split at hx
      · rename_i l
        have hv0 := hv (by simp)
        obtain ⟨vs, hvs⟩ : ∃ vs, v = .agg vs := ⟨_, (hv0 []).symm⟩
        subst hvs
        have hl : StdL h l vs.toList := fun r => by
          have := hv0 r
          simp only [den, Value.agg.injEq] at this
          rw [← this]
        obtain ⟨s, v, h1, h2, h3, h4⟩ := xpart_sound (w := w) hl hx
        refine ⟨s, v, h1, h2, h3, ?_⟩
        simp only [Instr.field, Sem.run_bind, run_underlying' hu, Result.andThen_ok, fieldN_get hfd, asAgg, Sem.run_pure, h4]
      · exact hx.elim
  · exact hx.elim

end
end Go.Sx
