/- The quiet operations are sound, second part. -/
import Derived.Test.YthkcfocoekonjaaSxG
set_option linter.unusedVariables false
set_option linter.unusedSimpArgs false
namespace Go.Sx
open Classical
section
variable {P : Program} {F : List (Nat × Blk)} {h : List Ent} {w : World} {K : SV → Prop}

theorem ksIs_spec {s : KS} {x : SV} {v : Value} (hk : ksIs s x = some v) : s.is v ∧ ∀ ρ, den ρ x = v := by
  cases s with
  | int k =>
    cases x with
    | val u =>
      cases u with
      | int k' n =>
        simp only [ksIs] at hk
        cases hb : kEqB k k' with
        | true => rw [hb] at hk; simp at hk; subst hk; exact ⟨kEqB_eq hb, fun _ => rfl⟩
        | false => rw [hb] at hk; simp at hk
      | _ => cases hk
    | _ => cases hk
  | bool =>
    cases x with
    | tt => cases hk; exact ⟨trivial, fun _ => rfl⟩
    | ff => cases hk; exact ⟨trivial, fun _ => rfl⟩
    | val u =>
      cases u with
      | bool b => cases hk; exact ⟨trivial, fun _ => rfl⟩
      | _ => cases hk
    | _ => cases hk
  | str =>
    cases x with
    | val u =>
      cases u with
      | string b => cases hk; exact ⟨trivial, fun _ => rfl⟩
      | _ => cases hk
    | _ => cases hk

theorem ksIsL_spec : ∀ {l : List KS} {xs : List SV} {vs : List Value}, ksIsL l xs = some vs → KS.all l vs ∧ ∀ ρ, denL ρ xs = vs
  | [], [], vs, h => by cases h; exact ⟨trivial, fun _ => rfl⟩
  | [], _ :: _, _, h => by cases h
  | _ :: _, [], _, h => by cases h
  | s :: ss, x :: xs, vs, h => by
    simp only [ksIsL] at h
    split at h
    · rename_i a b h1 h2
      cases h
      obtain ⟨h3, h4⟩ := ksIs_spec h1
      obtain ⟨h5, h6⟩ := ksIsL_spec h2
      exact ⟨⟨h3, h5⟩, fun ρ => by simp [denL, h4 ρ, h6 ρ]⟩
    · cases h

theorem keyVal_spec {ks : KShape} {x : SV} {v : Value} (hk : keyVal ks x = some v) : ks.is v ∧ ∀ ρ, den ρ x = v := by
  cases ks with
  | one s => exact ksIs_spec hk
  | many l =>
    cases x with
    | agg vs =>
      simp only [keyVal] at hk
      split at hk
      · rename_i a ha
        cases hk
        obtain ⟨h1, h2⟩ := ksIsL_spec ha
        exact ⟨by simpa [KShape.is] using h1, fun ρ => by simp [den, h2 ρ]⟩
      · cases hk
    | _ => cases hk

theorem Ctx.map {F : List (Nat × Blk)} (c : Ctx F h w) {n b : Nat} {ks : KShape} {m : Value → Option Value} {st : Option (Value × Int)} (he : entAt h n = some (.own b (.map ks m st))) :
    ∃ es clock, w.heap[b]? = some (.map es clock) ∧ GoodMap ks es clock ∧ (∀ k, m k = getM es.toList k) ∧ ∀ r, locAt (locs h ++ r) n = (b, 0, 1) := by
  obtain ⟨⟨o, ho, hk⟩, hl⟩ := c.blk he rfl
  obtain ⟨es, clock, rfl, h1, h2, -⟩ := hk []
  exact ⟨es, clock, ho, h1, h2, hl⟩

theorem run_getObj_map {es : Array MapEntry} {clock b : Nat} (h : w.heap[b]? = some (.map es clock)) : (getObj b).run P w = .ok (.map es clock) w := by
  simp [getObj, Sem.run, h]

theorem xlookup_sound (c : Ctx F h w) {t : TypeId} {x ix : SV} {v vi : Value} {ok : Bool} (hv : x ≠ .top → Std h x v) (hi : ix ≠ .top → Std h ix vi) (hx : xlookup P h t x ix ok K) :
    Ans P h w K (Instr.lookup t v vi ok) := by
  unfold xlookup at hx
  split at hx
  · rename_i kt et hu
    split at hx
    · exact hx.elim
    · rename_i inf hinf
      split at hx
      · exact hx.elim
      · rename_i z hz
        split at hx
        · rename_i n
          split at hx
          · rename_i b ks m _ he
            obtain ⟨hok, hx⟩ := bif_false hx
            split at hx
            · rename_i k hkv
              obtain ⟨hks, hkd⟩ := keyVal_spec hkv
              obtain ⟨es, clock, hb, hg, hm, hl⟩ := c.map he
              have hv' : v = .map (some b) := by
                have := hv (by simp) []
                simp only [den, hl []] at this
                exact this.symm
              have hit : ix ≠ .top := by
                rintro rfl
                cases ks with
                | one s => cases s <;> cases hkv
                | many l => cases hkv
              have hvi : vi = k := by rw [← hi hit [], hkd]
              subst hv' hvi
              have hrun : (Instr.lookup t (.map (some b)) vi ok).run P w = .ok (if ok then .tuple #[(m vi).getD z, .bool (m vi).isSome] else (m vi).getD z) w := by
                have hz' : (zeroValue et).run P w = .ok z w := by simp [zeroValue, run_typeInfo' hinf, hz]
                simp only [Instr.lookup, Sem.run_bind, run_underlying' hu, Result.andThen_ok, run_getObj_map hb, Sem.run_pure]
                rw [show (10000 : Nat) = 9998 + 2 from rfl, run_check hok hks, Result.andThen_ok, run_find hok hks hg.keys, Result.andThen_ok]
                rw [hm vi, ← findR_val es.toList 0]
                cases findR vi es.toList 0 with
                | none => simp only [Sem.run_bind, hz', Result.andThen_ok, Sem.run_pure, Option.map_none, Option.getD_none, Option.isSome_none]; all_goals (cases ok <;> rfl)
                | some p => simp only [Option.map_some, Option.getD_some, Option.isSome_some]; all_goals (cases ok <;> rfl)
              cases ok with
              | true =>
                refine ⟨_, _, hx, by simp, fun r => ?_, hrun⟩
                simp only [den, denL, if_true]
                cases (m vi).isSome <;> simp
              | false => exact ⟨_, _, hx, by simp, fun r => rfl, hrun⟩
            · exact hx.elim
          · exact hx.elim
        · exact hx.elim
  · exact hx.elim

theorem xextract_sound {x : SV} {v : Value} {i : Nat} (hv : x ≠ .top → Std h x v) (hx : xextract x i K) : Ans P h w K (Instr.extract v i) := by
  unfold xextract at hx
  split at hx
  · rename_i l
    obtain ⟨s, h1, h2⟩ := nth_get hx
    obtain ⟨h3, h4⟩ := nt_spec h2
    have hv0 := hv (by simp)
    obtain ⟨vs, hvs⟩ : ∃ vs, v = .tuple vs := ⟨_, (hv0 []).symm⟩
    subst hvs
    have hc : ∀ r, vs[i]? = some (den (locs h ++ r) s) := fun r => by
      have := hv0 r
      simp only [den, Value.tuple.injEq] at this
      rw [← this]
      simp [denL_eq, h1]
    refine ⟨s, den (locs h ++ []) s, h4, h3, fun r => ?_, ?_⟩
    · have := hc r
      rw [hc []] at this
      exact (Option.some.inj this).symm
    · simp [Instr.extract, hc []]
  · exact hx.elim

theorem xlen_sound {t : TypeId} {x : SV} {v : Value} {ts : Array TypeId} {args : Array Value} {tt : TypeId} (ht : ts[0]? = some t) (ha : args[0]? = some v) (hv : x ≠ .top → Std h x v) (hx : xlen P t x K) :
    Ans P h w K (Builtin.len_ ts tt args) := by
  unfold xlen at hx
  split at hx
  · rename_i e hu
    split at hx
    · obtain ⟨a, ha'⟩ : ∃ a, v = .slice a _ _ := ⟨_, (hv (by simp) []).symm⟩
      subst ha'
      exact ⟨_, _, hx, by simp, fun r => rfl, by simp [Builtin.len_, ht, ha, run_underlying' hu, goInt]⟩
    · have hv' : v = _ := (hv (by simp) []).symm
      subst hv'
      exact ⟨_, _, hx, by simp, fun r => rfl, by simp [Builtin.len_, ht, ha, den, run_underlying' hu, goInt]⟩
    · exact hx.elim
  · rename_i hu
    split at hx
    · have hv' : v = _ := (hv (by simp) []).symm
      subst hv'
      exact ⟨_, _, hx, by simp, fun r => rfl, by simp [Builtin.len_, ht, ha, den, run_underlying' hu, goInt]⟩
    · exact hx.elim
  · rename_i n e hu
    obtain ⟨-, hx⟩ := nt_spec hx
    exact ⟨_, _, hx, by simp, fun r => rfl, by simp [Builtin.len_, ht, ha, run_underlying' hu, goInt]⟩
  · rename_i a b hu
    split at hx
    · have hv' : v = _ := (hv (by simp) []).symm
      subst hv'
      exact ⟨_, _, hx, by simp, fun r => rfl, by simp [Builtin.len_, ht, ha, den, run_underlying' hu, goInt]⟩
    · exact hx.elim
  · exact hx.elim

theorem xcap_sound {t : TypeId} {x : SV} {v : Value} {ts : Array TypeId} {args : Array Value} {tt : TypeId} (ht : ts[0]? = some t) (ha : args[0]? = some v) (hv : x ≠ .top → Std h x v) (hx : xcap P t x K) :
    Ans P h w K (Builtin.cap_ ts tt args) := by
  unfold xcap at hx
  split at hx
  · rename_i e hu
    split at hx
    · obtain ⟨a, ha'⟩ : ∃ a, v = .slice a _ _ := ⟨_, (hv (by simp) []).symm⟩
      subst ha'
      exact ⟨_, _, hx, by simp, fun r => rfl, by simp [Builtin.cap_, ht, ha, run_underlying' hu, goInt]⟩
    · have hv' : v = _ := (hv (by simp) []).symm
      subst hv'
      exact ⟨_, _, hx, by simp, fun r => rfl, by simp [Builtin.cap_, ht, ha, den, run_underlying' hu, goInt]⟩
    · exact hx.elim
  · exact hx.elim

/-- A list of symbolic values and their values. -/
def ArgsStd (h : List Ent) : List SV → List Value → Prop
  | [], [] => True
  | s :: ss, v :: vs => (s ≠ .top → Std h s v) ∧ ArgsStd h ss vs
  | _, _ => False

theorem xminmax_sound {f : Int → Int → Int} {g : Value → Value → Sem Value} (hg : ∀ k a b (w : World), (g (.int k a) (.int k b)).run P w = .ok (.int k (f a b)) w) :
    ∀ {r : List SV} {rs : List Value} {x : SV} {v : Value}, ArgsStd h r rs → (x ≠ .top → Std h x v) → xminmax f x r K → Ans P h w K (rs.foldlM g v) := by
  intro r
  induction r with
  | nil =>
    intro rs x v hr hv hx
    cases rs with
    | cons => exact hr.elim
    | nil =>
      cases x with
      | val u =>
        cases u with
        | int k a => exact ⟨_, v, hx, by simp, hv (by simp), rfl⟩
        | _ => exact hx.elim
      | _ => exact hx.elim
  | cons y r ih =>
    intro rs x v hr hv hx
    cases rs with
    | nil => exact hr.elim
    | cons u rs =>
      cases x with
      | val u1 =>
        cases u1 with
        | int k a =>
          cases y with
          | val u2 =>
            cases u2 with
            | int k' b =>
              simp only [xminmax] at hx
              obtain ⟨rfl, hx2⟩ := kSame_iff hx
              have e1 : v = .int k a := (hv (by simp) []).symm
              have e2 : u = .int k b := (hr.1 (by simp) []).symm
              subst e1 e2
              obtain ⟨s, v, h1, h2, h3, h4⟩ := ih (v := .int k (f a b)) hr.2 (fun _ _ => rfl) hx2
              refine ⟨s, v, h1, h2, h3, ?_⟩
              simp only [List.foldlM_cons, Sem.run_bind, hg, Result.andThen_ok, h4]
            | _ => exact hx.elim
          | _ => exact hx.elim
        | _ => exact hx.elim
      | _ => exact hx.elim

theorem isU8_spec {e : TypeId} (h : isU8 P e = true) : P.underlying e = some (.int .u8) := by
  unfold isU8 at h
  split at h
  · assumption
  · cases h

theorem push_bytes {g : Value → ByteArray → Sem (ForInStep ByteArray)} (hg : ∀ n s (w : World), (g (.int .u8 n) s).run P w = .ok (.yield (s.push (UInt8.ofNat n.toNat))) w) (xs : List Int) (s : ByteArray) (w : World) :
    (forIn (xs.map (Value.int .u8)) s g).run P w = .ok ⟨s.data ++ (xs.map fun n => UInt8.ofNat n.toNat).toArray⟩ w := by
  induction xs generalizing s with
  | nil => simp
  | cons a r ih =>
    simp only [List.map_cons, List.forIn_cons, Sem.run_bind, hg, Result.andThen_ok]
    rw [ih]
    congr 2
    simp [ByteArray.push]

theorem bstr_run {b x o len N base : Nat} {xs : List Int} {t : TypeId} {obj : Obj} (hb : w.heap[b]? = some obj) (ho : (Blk.tab t base N [.ints .u8 xs]).holds obj) (hx : x = (base + o) * 1) (hl : o + len ≤ N) :
    (Conv.bytesToString (.slice (some ⟨b, x, none⟩) len 0)).run P w = .ok (.string (bstr xs o len)) w := by
  obtain ⟨arr, lo, hi, rfl, h1, h2, -⟩ := ho
  have hN : xs.length = N := (h1 (.ints .u8 xs) (by simp)).1
  have hc : ∀ y, y < len → w.cell? ⟨b, x + y, none⟩ = (((xs.drop o).take len).map (Value.int .u8))[y]? := fun y hy => by
    have h3 := h2 (o + y) 0 (.ints .u8 xs) (by omega) rfl
    simp only [List.length_singleton] at h3
    have hlt : o + y < xs.length := by omega
    rw [cell_obj hb (v := .int .u8 (xs.getD (o + y) 0))]
    · simp [List.getElem?_map, List.getElem?_take, hy, List.getElem?_drop, hlt]
    · simp only [objCell]
      rw [show x + y = (base + (o + y)) * 1 + 0 by omega, h3]
      rfl
  simp only [Conv.bytesToString, Sem.run_bind]
  rw [run_loadCells (s := len) (vs := ((xs.drop o).take len).map (Value.int .u8)) (by simp; omega) hc]
  simp only [Result.andThen_ok]
  rw [← Array.forIn_toList]
  rw [push_bytes (fun n s w => rfl)]
  simp [bstr]

end
end Go.Sx
