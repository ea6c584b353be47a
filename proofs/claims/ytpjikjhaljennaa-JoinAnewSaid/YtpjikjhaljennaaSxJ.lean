/- The quiet operations are sound, second part. -/
import Derived.Test.YtpjikjhaljennaaSxG
import Derived.Laws.StructEq
import Derived.ChangeKeysEq
set_option linter.unusedVariables false
set_option linter.unusedSimpArgs false
namespace Go.Sx
open Classical
section
variable {P : Program} {F : List (Nat × Blk)} {h : List Ent} {w : World} {K : SV → Prop}

theorem ksIs_spec {s : KS} {x : SV} {v : Value} (hk : ksIs s x = some v) : s.is v ∧ ∀ ρ, den ρ x = v := by
  cases s with
  | int k =>
    cases x with
    | val u =>
      cases u with
      | int k' n =>
        simp only [ksIs] at hk
        cases hb : kEqB k k' with
        | true => rw [hb] at hk; simp at hk; subst hk; exact ⟨kEqB_eq hb, fun _ => rfl⟩
        | false => rw [hb] at hk; simp at hk
      | _ => cases hk
    | _ => cases hk
  | bool =>
    cases x with
    | tt => cases hk; exact ⟨trivial, fun _ => rfl⟩
    | ff => cases hk; exact ⟨trivial, fun _ => rfl⟩
    | val u =>
      cases u with
      | bool b => cases hk; exact ⟨trivial, fun _ => rfl⟩
      | _ => cases hk
    | _ => cases hk
  | str =>
    cases x with
    | val u =>
      cases u with
      | string b => cases hk; exact ⟨trivial, fun _ => rfl⟩
      | _ => cases hk
    | _ => cases hk

theorem ksIsL_spec : ∀ {l : List KS} {xs : List SV} {vs : List Value}, ksIsL l xs = some vs → KS.all l vs ∧ ∀ ρ, denL ρ xs = vs
  | [], [], vs, h => by cases h; exact ⟨trivial, fun _ => rfl⟩
  | [], _ :: _, _, h => by cases h
  | _ :: _, [], _, h => by cases h
  | s :: ss, x :: xs, vs, h => by
    simp only [ksIsL] at h
    split at h
    · rename_i a b h1 h2
      cases h
      obtain ⟨h3, h4⟩ := ksIs_spec h1
      obtain ⟨h5, h6⟩ := ksIsL_spec h2
      exact ⟨⟨h3, h5⟩, fun ρ => by simp [denL, h4 ρ, h6 ρ]⟩
    · cases h

theorem keyVal_spec {ks : KShape} {x : SV} {v : Value} (hk : keyVal ks x = some v) : ks.is v ∧ ∀ ρ, den ρ x = v := by
  cases ks with
  | one s => exact ksIs_spec hk
  | many l =>
    cases x with
    | agg vs =>
      simp only [keyVal] at hk
      split at hk
      · rename_i a ha
        cases hk
        obtain ⟨h1, h2⟩ := ksIsL_spec ha
        exact ⟨by simpa [KShape.is] using h1, fun ρ => by simp [den, h2 ρ]⟩
      · cases hk
    | _ => cases hk

theorem Ctx.map {F : List (Nat × Blk)} (c : Ctx F h w) {n b : Nat} {ks : KShape} {m : Value → Option Value} {st : Option (Value × Int)} (he : entAt h n = some (.own b (.map ks m st))) :
    ∃ es clock, w.heap[b]? = some (.map es clock) ∧ GoodMap ks es clock ∧ (∀ k, m k = getM es.toList k) ∧ ∀ r, locAt (locs h ++ r) n = (b, 0, 1) := by
  obtain ⟨⟨o, ho, hk⟩, hl⟩ := c.blk he rfl
  obtain ⟨es, clock, rfl, h1, h2, -⟩ := hk []
  exact ⟨es, clock, ho, h1, h2, hl⟩

theorem run_getObj_map {es : Array MapEntry} {clock b : Nat} (h : w.heap[b]? = some (.map es clock)) : (getObj b).run P w = .ok (.map es clock) w := by
  simp [getObj, Sem.run, h]

theorem xlookup_sound (c : Ctx F h w) {t : TypeId} {x ix : SV} {v vi : Value} {ok : Bool} (hv : x ≠ .top → Std h x v) (hi : ix ≠ .top → Std h ix vi) (hx : xlookup P h t x ix ok K) :
    Ans P h w K (Instr.lookup t v vi ok) := by
  unfold xlookup at hx
  split at hx
  · rename_i kt et hu
    split at hx
    · exact hx.elim
    · rename_i inf hinf
      split at hx
      · exact hx.elim
      · rename_i z hz
        split at hx
        · rename_i n
          split at hx
          · rename_i b ks m _ he
            obtain ⟨hok, hx⟩ := bif_false hx
            split at hx
            · rename_i k hkv
              obtain ⟨hks, hkd⟩ := keyVal_spec hkv
              obtain ⟨es, clock, hb, hg, hm, hl⟩ := c.map he
              have hv' : v = .map (some b) := by
                have := hv (by simp) []
                simp only [den, hl []] at this
                exact this.symm
              have hit : ix ≠ .top := by
                rintro rfl
                cases ks with
                | one s => cases s <;> cases hkv
                | many l => cases hkv
              have hvi : vi = k := by rw [← hi hit [], hkd]
              subst hv' hvi
              have hrun : (Instr.lookup t (.map (some b)) vi ok).run P w = .ok (if ok then .tuple #[(m vi).getD z, .bool (m vi).isSome] else (m vi).getD z) w := by
                have hz' : (zeroValue et).run P w = .ok z w := by simp [zeroValue, run_typeInfo' hinf, hz]
                simp only [Instr.lookup, Sem.run_bind, run_underlying' hu, Result.andThen_ok, run_getObj_map hb, Sem.run_pure]
                rw [show (10000 : Nat) = 9998 + 2 from rfl, run_check hok hks, Result.andThen_ok, run_find hok hks hg.keys, Result.andThen_ok]
                rw [hm vi, ← findR_val es.toList 0]
                cases findR vi es.toList 0 with
                | none => simp only [Sem.run_bind, hz', Result.andThen_ok, Sem.run_pure, Option.map_none, Option.getD_none, Option.isSome_none]; all_goals (cases ok <;> rfl)
                | some p => simp only [Option.map_some, Option.getD_some, Option.isSome_some]; all_goals (cases ok <;> rfl)
              cases ok with
              | true =>
                refine ⟨_, _, hx, by simp, fun r => ?_, hrun⟩
                simp only [den, denL, if_true]
                cases (m vi).isSome <;> simp
              | false => exact ⟨_, _, hx, by simp, fun r => rfl, hrun⟩
            · exact hx.elim
          · exact hx.elim
        · split at hx
          · rename_i ks hks0
            obtain ⟨hok, hx⟩ := bif_false hx
            split at hx
            · rename_i k hkv
              obtain ⟨hks, hkd⟩ := keyVal_spec hkv
              have hv' : v = .map none := (hv (by simp) []).symm
              have hit : ix ≠ .top := by
                rintro rfl
                cases ks with
                | one s => cases s <;> cases hkv
                | many l => cases hkv
              have hvi : vi = k := by rw [← hi hit [], hkd]
              subst hv' hvi
              have hrun : (Instr.lookup t (.map none) vi ok).run P w = .ok (if ok then .tuple #[z, .bool false] else z) w := by
                have hz' : (zeroValue et).run P w = .ok z w := by simp [zeroValue, run_typeInfo' hinf, hz]
                simp only [Instr.lookup, Sem.run_bind, run_underlying' hu, Result.andThen_ok, Sem.run_pure]
                rw [show (10000 : Nat) = 9998 + 2 from rfl, run_check hok hks, Result.andThen_ok, run_find (es := []) hok hks (fun e he => by cases he), Result.andThen_ok]
                simp only [findR, Sem.run_bind, hz', Result.andThen_ok, Sem.run_pure]

              cases ok with
              | true => exact ⟨_, _, hx, by simp, fun r => by simp only [den, denL, if_true], hrun⟩
              | false => exact ⟨_, _, hx, by simp, fun r => rfl, hrun⟩
            · exact hx.elim
          · exact hx.elim
        · exact hx.elim
  · exact hx.elim

theorem xextract_sound {x : SV} {v : Value} {i : Nat} (hv : x ≠ .top → Std h x v) (hx : xextract x i K) : Ans P h w K (Instr.extract v i) := by
  unfold xextract at hx
  split at hx
  · rename_i l
    obtain ⟨s, h1, h2⟩ := nth_get hx
    obtain ⟨h3, h4⟩ := nt_spec h2
    have hv0 := hv (by simp)
    obtain ⟨vs, hvs⟩ : ∃ vs, v = .tuple vs := ⟨_, (hv0 []).symm⟩
    subst hvs
    have hc : ∀ r, vs[i]? = some (den (locs h ++ r) s) := fun r => by
      have := hv0 r
      simp only [den, Value.tuple.injEq] at this
      rw [← this]
      simp [denL_eq, h1]
    refine ⟨s, den (locs h ++ []) s, h4, h3, fun r => ?_, ?_⟩
    · have := hc r
      rw [hc []] at this
      exact (Option.some.inj this).symm
    · simp [Instr.extract, hc []]
  · exact hx.elim

theorem xlen_sound {t : TypeId} {x : SV} {v : Value} {ts : Array TypeId} {args : Array Value} {tt : TypeId} (ht : ts[0]? = some t) (ha : args[0]? = some v) (hv : x ≠ .top → Std h x v) (hx : xlen P t x K) :
    Ans P h w K (Builtin.len_ ts tt args) := by
  unfold xlen at hx
  split at hx
  · rename_i e hu
    split at hx
    · obtain ⟨a, ha'⟩ : ∃ a, v = .slice a _ _ := ⟨_, (hv (by simp) []).symm⟩
      subst ha'
      exact ⟨_, _, hx, by simp, fun r => rfl, by simp [Builtin.len_, ht, ha, run_underlying' hu, goInt]⟩
    · have hv' : v = _ := (hv (by simp) []).symm
      subst hv'
      exact ⟨_, _, hx, by simp, fun r => rfl, by simp [Builtin.len_, ht, ha, den, run_underlying' hu, goInt]⟩
    · have hv' : v = _ := (hv (by simp) []).symm
      subst hv'
      exact ⟨_, _, hx, by simp, fun r => rfl, by simp [Builtin.len_, ht, ha, den, run_underlying' hu, goInt]⟩
    · exact hx.elim
  · rename_i hu
    split at hx
    · have hv' : v = _ := (hv (by simp) []).symm
      subst hv'
      exact ⟨_, _, hx, by simp, fun r => rfl, by simp [Builtin.len_, ht, ha, den, run_underlying' hu, goInt]⟩
    · exact hx.elim
  · rename_i n e hu
    obtain ⟨-, hx⟩ := nt_spec hx
    exact ⟨_, _, hx, by simp, fun r => rfl, by simp [Builtin.len_, ht, ha, run_underlying' hu, goInt]⟩
  · rename_i a b hu
    split at hx
    · have hv' : v = _ := (hv (by simp) []).symm
      subst hv'
      exact ⟨_, _, hx, by simp, fun r => rfl, by simp [Builtin.len_, ht, ha, den, run_underlying' hu, goInt]⟩
    · exact hx.elim
  · exact hx.elim

theorem xcap_sound {t : TypeId} {x : SV} {v : Value} {ts : Array TypeId} {args : Array Value} {tt : TypeId} (ht : ts[0]? = some t) (ha : args[0]? = some v) (hv : x ≠ .top → Std h x v) (hx : xcap P t x K) :
    Ans P h w K (Builtin.cap_ ts tt args) := by
  unfold xcap at hx
  split at hx
  · rename_i e hu
    split at hx
    · obtain ⟨a, ha'⟩ : ∃ a, v = .slice a _ _ := ⟨_, (hv (by simp) []).symm⟩
      subst ha'
      exact ⟨_, _, hx, by simp, fun r => rfl, by simp [Builtin.cap_, ht, ha, run_underlying' hu, goInt]⟩
    · have hv' : v = _ := (hv (by simp) []).symm
      subst hv'
      exact ⟨_, _, hx, by simp, fun r => rfl, by simp [Builtin.cap_, ht, ha, den, run_underlying' hu, goInt]⟩
    · have hv' : v = _ := (hv (by simp) []).symm
      subst hv'
      exact ⟨_, _, hx, by simp, fun r => rfl, by simp [Builtin.cap_, ht, ha, den, run_underlying' hu, goInt]⟩
    · exact hx.elim
  · exact hx.elim

/-- A list of symbolic values and their values. -/
def ArgsStd (h : List Ent) : List SV → List Value → Prop
  | [], [] => True
  | s :: ss, v :: vs => (s ≠ .top → Std h s v) ∧ ArgsStd h ss vs
  | _, _ => False

theorem xminmax_sound {f : Int → Int → Int} {g : Value → Value → Sem Value} (hg : ∀ k a b (w : World), (g (.int k a) (.int k b)).run P w = .ok (.int k (f a b)) w) :
    ∀ {r : List SV} {rs : List Value} {x : SV} {v : Value}, ArgsStd h r rs → (x ≠ .top → Std h x v) → xminmax f x r K → Ans P h w K (rs.foldlM g v) := by
  intro r
  induction r with
  | nil =>
    intro rs x v hr hv hx
    cases rs with
    | cons => exact hr.elim
    | nil =>
      cases x with
      | val u =>
        cases u with
        | int k a => exact ⟨_, v, hx, by simp, hv (by simp), rfl⟩
        | _ => exact hx.elim
      | _ => exact hx.elim
  | cons y r ih =>
    intro rs x v hr hv hx
    cases rs with
    | nil => exact hr.elim
    | cons u rs =>
      cases x with
      | val u1 =>
        cases u1 with
        | int k a =>
          cases y with
          | val u2 =>
            cases u2 with
            | int k' b =>
              simp only [xminmax] at hx
              obtain ⟨rfl, hx2⟩ := kSame_iff hx
              have e1 : v = .int k a := (hv (by simp) []).symm
              have e2 : u = .int k b := (hr.1 (by simp) []).symm
              subst e1 e2
              obtain ⟨s, v, h1, h2, h3, h4⟩ := ih (v := .int k (f a b)) hr.2 (fun _ _ => rfl) hx2
              refine ⟨s, v, h1, h2, h3, ?_⟩
              simp only [List.foldlM_cons, Sem.run_bind, hg, Result.andThen_ok, h4]
            | _ => exact hx.elim
          | _ => exact hx.elim
        | _ => exact hx.elim
      | _ => exact hx.elim

theorem isU8_spec {e : TypeId} (h : isU8 P e = true) : P.underlying e = some (.int .u8) := by
  unfold isU8 at h
  split at h
  · assumption
  · cases h

theorem push_bytes {g : Value → ByteArray → Sem (ForInStep ByteArray)} (hg : ∀ n s (w : World), (g (.int .u8 n) s).run P w = .ok (.yield (s.push (UInt8.ofNat n.toNat))) w) (xs : List Int) (s : ByteArray) (w : World) :
    (forIn (xs.map (Value.int .u8)) s g).run P w = .ok ⟨s.data ++ (xs.map fun n => UInt8.ofNat n.toNat).toArray⟩ w := by
  induction xs generalizing s with
  | nil => simp
  | cons a r ih =>
    simp only [List.map_cons, List.forIn_cons, Sem.run_bind, hg, Result.andThen_ok]
    rw [ih]
    congr 2
    simp [ByteArray.push]

theorem bstr_run {b x o len N base : Nat} {xs : List Int} {t : TypeId} {obj : Obj} (hb : w.heap[b]? = some obj) (ho : (Blk.tab t base N [.ints .u8 xs]).holds obj) (hx : x = (base + o) * 1) (hl : o + len ≤ N) :
    (Conv.bytesToString (.slice (some ⟨b, x, none⟩) len 0)).run P w = .ok (.string (bstr xs o len)) w := by
  obtain ⟨arr, lo, hi, rfl, h1, h2, -⟩ := ho
  have hN : xs.length = N := (h1 (.ints .u8 xs) (by simp)).1
  have hc : ∀ y, y < len → w.cell? ⟨b, x + y, none⟩ = (((xs.drop o).take len).map (Value.int .u8))[y]? := fun y hy => by
    have h3 := h2 (o + y) 0 (.ints .u8 xs) (by omega) rfl
    simp only [List.length_singleton] at h3
    have hlt : o + y < xs.length := by omega
    rw [cell_obj hb (v := .int .u8 (xs.getD (o + y) 0))]
    · simp [List.getElem?_map, List.getElem?_take, hy, List.getElem?_drop, hlt]
    · simp only [objCell]
      rw [show x + y = (base + (o + y)) * 1 + 0 by omega, h3]
      rfl
  simp only [Conv.bytesToString, Sem.run_bind]
  rw [run_loadCells (s := len) (vs := ((xs.drop o).take len).map (Value.int .u8)) (by simp; omega) hc]
  simp only [Result.andThen_ok]
  rw [← Array.forIn_toList]
  rw [push_bytes (fun n s w => rfl)]
  simp [bstr]

end
end Go.Sx

/- The quiet operations are sound, third part: all together. -/
set_option linter.unusedVariables false
set_option linter.unusedSimpArgs false
namespace Go.Sx
open Classical
section
variable {P : Program} {F : List (Nat × Blk)} {h : List Ent} {w : World} {K : SV → Prop}

theorem bstr_slice (c : Ctx F h w) {n o len cap N base : Nat} {t : TypeId} {xs : List Int} {v : Value} {e : Ent} {b : Nat} (he : entAt h n = some e) (hb : e.blk = some (b, .tab t base N [.ints .u8 xs]))
    (hv : Std h (.slc n o len cap) v) (hl : o + len ≤ N) : (Conv.bytesToString v).run P w = .ok (.string (bstr xs o len)) w := by
  obtain ⟨⟨ob, hob, hk⟩, hloc⟩ := c.blk he hb
  have hv' : v = .slice (some ⟨b, (base + o) * 1, none⟩) len cap := by
    have := hv []
    simp only [den, hloc []] at this
    exact this.symm
  subst hv'
  have := bstr_run (P := P) (w := w) (len := len) hob (hk []) rfl hl
  simpa [Conv.bytesToString] using this

theorem bstr_raw {b x len : Nat} {xs : List Int} {ob : Obj} (hb : w.heap[b]? = some ob) (hl : xs.length = len) (ho : ∀ i, i < len → objCell ob (x + i) = some (.int .u8 (xs.getD i 0))) :
    (Conv.bytesToString (.slice (some ⟨b, x, none⟩) len 0)).run P w = .ok (.string (bstr xs 0 len)) w := by
  have hc : ∀ y, y < len → w.cell? ⟨b, x + y, none⟩ = (xs.map (Value.int .u8))[y]? := fun y hy => by
    rw [cell_obj hb (ho y hy)]
    simp [List.getElem?_map, List.getElem?_eq_getElem (show y < xs.length by omega), List.getD_eq_getElem?_getD]
  simp only [Conv.bytesToString, Sem.run_bind]
  rw [run_loadCells (s := len) (vs := xs.map (Value.int .u8)) (by simp; omega) hc]
  simp only [Result.andThen_ok]
  rw [← Array.forIn_toList]
  rw [push_bytes (fun n s w => rfl)]
  simp [bstr, ← hl]
theorem xconvert_sound (c : Ctx F h w) {src dst : TypeId} {x : SV} {v : Value} (hv : x ≠ .top → Std h x v) (hx : xconvert P h src dst x K) : Ans P h w K (convert src dst v) := by
  unfold xconvert at hx
  split at hx
  · rename_i d k hs hd
    split at hx
    · have hv' : v = _ := (hv (by simp) []).symm
      subst hv'
      refine ⟨_, _, hx, by simp, fun r => rfl, ?_⟩
      simp [convert, run_underlying' hs, run_underlying' hd, den, Conv.intToInt]
    · exact hx.elim
  · rename_i hs hd
    split at hx
    · have hv' : v = _ := (hv (by simp) []).symm
      subst hv'
      refine ⟨_, _, hx, by simp, fun r => rfl, ?_⟩
      simp [convert, run_underlying' hs, run_underlying' hd, den]
    · exact hx.elim
  · rename_i e hs hd
    obtain ⟨hu8, hx⟩ := bif_false hx
    have hu8 := isU8_spec hu8
    have key : ∀ a n m, v = .slice a n m → (convert src dst v).run P w = (Conv.bytesToString v).run P w := by
      intro a n m hv
      subst hv
      simp [convert, run_underlying' hs, run_underlying' hd, run_underlying' hu8]
    split at hx
    · have hv' : v = _ := (hv (by simp) []).symm
      refine ⟨_, _, hx, by simp, fun r => rfl, ?_⟩
      rw [key _ _ _ hv', hv']
      simp [den, Conv.bytesToString]
    · rename_i b x0 len cap _
      have hv' : v = .slice (some ⟨b, x0, none⟩) len cap := (hv (by simp) []).symm
      split at hx
      · rename_i nn L hc
        obtain ⟨-, he⟩ := chunkAt_spec hc
        rw [Nat.sub_zero] at he
        obtain ⟨xs, ⟨t, base, N, cols, o, g1, g2, g3, g4⟩, hx⟩ := hx
        obtain ⟨ob, hob, hk⟩ := c.chunk he g1
        match cols, g4 with
        | [.ints k ys], g4 =>
          simp only [List.map_cons, List.map_nil, winOf, List.cons.injEq, Col.ints.injEq, and_true] at g4
          obtain ⟨rfl, rfl⟩ := g4
          refine ⟨_, _, hx, by simp, fun r => rfl, ?_⟩
          rw [key _ _ _ hv', hv']
          have := bstr_run (P := P) (w := w) (len := len) hob hk g2 g3
          have e : bstr ((ys.drop o).take len) 0 len = bstr ys o len := by unfold bstr; rw [List.drop_zero, List.take_take, Nat.min_self]
          rw [e]
          simpa [den, Conv.bytesToString] using this
        | [], g4 => simp at g4
        | [.bools _], g4 => simp [winOf] at g4
        | [.raws _], g4 => simp [winOf] at g4
        | _ :: _ :: _, g4 => simp at g4
      · exact hx.elim
    · rename_i o len cap _
      have hv' : v = .slice o len cap := (hv (by simp) []).symm
      split at hx
      · rename_i nn L hc
        obtain ⟨-, he⟩ := chunkAt_spec hc
        rw [Nat.sub_zero] at he
        obtain ⟨xs, ⟨g1, g2⟩, hx⟩ := hx
        refine ⟨_, _, hx, by simp, fun r => rfl, ?_⟩
        rw [key _ _ _ hv', hv']
        by_cases hl : len = 0
        · subst hl
          obtain rfl : xs = [] := List.eq_nil_of_length_eq_zero g1
          cases o <;> simp [den, Conv.bytesToString, bstr, loadCells, loadCellsFrom] <;> rfl
        · obtain ⟨b, x0, rfl, g3⟩ := g2 (by omega)
          obtain ⟨ob, hob, -⟩ := rawCell_spec c he (g3 0 (by omega))
          have := bstr_raw (P := P) (w := w) (len := len) (x := x0) hob g1 fun i hi => by
            obtain ⟨ob2, hob2, h3⟩ := rawCell_spec c he (g3 i hi)
            rw [hob] at hob2
            cases hob2
            exact h3
          simpa [den, Conv.bytesToString] using this
      · exact hx.elim
    · rename_i n o len cap _
      obtain ⟨a, hv'⟩ : ∃ a, v = .slice a len cap := ⟨_, (hv (by simp) []).symm⟩
      split at hx
      · rename_i b t base N xs he
        obtain ⟨hl, hx⟩ := hx
        refine ⟨_, _, hx, by simp, fun r => rfl, ?_⟩
        rw [key _ _ _ hv', bstr_slice c he rfl (hv (by simp)) hl]
      · rename_i b t base N xs he
        obtain ⟨hl, hx⟩ := hx
        refine ⟨_, _, hx, by simp, fun r => rfl, ?_⟩
        rw [key _ _ _ hv', bstr_slice c he rfl (hv (by simp)) hl]
      · exact hx.elim
    · exact hx.elim
  · exact hx.elim

theorem xassert_sound {x : SV} {v : Value} {t asserted : TypeId} {ok : Bool} (hv : x ≠ .top → Std h x v) (hx : xassert P x asserted ok K) : Ans P h w K (Instr.typeAssert v t asserted ok) := by
  unfold xassert at hx
  split at hx
  · exact hx.elim
  · exact hx.elim
  · rename_i d hd hu
    split at hx
    · rename_i t' s
      obtain ⟨ht, hx2⟩ := bif_false hx
      have ht := Nat.eq_of_beq_eq_true ht
      subst ht
      obtain ⟨h1, h2⟩ := nt_spec hx2
      have hv0 := hv (by simp)
      obtain ⟨u, hu'⟩ : ∃ u, v = .iface t' u := ⟨_, (hv0 []).symm⟩
      subst hu'
      have hs : Std h s u := fun r => by
        have := hv0 r
        simp only [den, Value.iface.injEq, true_and] at this
        exact this
      have hrun : (Instr.typeAssert (.iface t' u) t t' ok).run P w = .ok (if ok then .tuple #[u, .bool true] else u) w := by
        simp only [Instr.typeAssert, Sem.run_bind, run_underlying' hu, Result.andThen_ok]
        cases d <;> first | (simp; done) | exact absurd rfl (hd _)
      cases ok with
      | true => exact ⟨_, _, h2, by simp, fun r => by simp [den, denL, hs r], hrun⟩
      | false => exact ⟨_, _, h2, h1, hs, hrun⟩
    · exact hx.elim

theorem setL_eq : ∀ (l : List SV) (o : Nat) (v : List SV), o + v.length ≤ l.length → setL l o v = l.take o ++ v ++ l.drop (o + v.length)
  | l, 0, v, _ => by cases l <;> simp [setL]
  | [], o + 1, v, h => by simp at h
  | a :: r, o + 1, v, h => by
    rw [setL, setL_eq r o v (by simp at h; omega)]
    simp [show o + 1 + v.length = (o + v.length) + 1 by omega]


theorem lenS_eq : ∀ l : List SV, lenS l = l.length
  | [] => rfl
  | _ :: r => by simp [lenS, lenS_eq r]

theorem foldl_set (vs : List Value) : ∀ (off k : Nat) (cells : Array Value), off + k + vs.length ≤ cells.size →
    ((vs.zipIdx k).foldl (fun (cs : Array Value) (x : Value × Nat) => cs.setIfInBounds (off + x.2) x.1) cells).toList = cells.toList.take (off + k) ++ vs ++ cells.toList.drop (off + k + vs.length) := by
  induction vs with
  | nil => intro off k cells _; simp
  | cons v vs ih =>
    intro off k cells hl
    simp only [List.length_cons] at hl
    rw [List.zipIdx_cons, List.foldl_cons, Nat.add_comm k 1, ih off (1 + k) _ (by simp; omega)]
    simp only [Array.toList_setIfInBounds]
    have h1 : off + k < cells.toList.length := by simp; omega
    rw [show off + (1 + k) = (off + k) + 1 by omega, List.take_succ_eq_append_getElem (by simpa using h1)]
    simp only [List.getElem_set_self, List.append_assoc, List.singleton_append, List.length_cons]
    rw [List.take_set_of_le (by omega), List.drop_set_of_lt (by omega)]
    simp [show off + k + 1 + vs.length = off + k + (vs.length + 1) by omega]

theorem cellsS_std {s : SV} {v : Value} (hs : s ≠ .top) (hv : Std h s v) : StdL h (cellsS s) v.cells.toList := by
  intro r
  have := hv r
  subst this
  cases s with
  | top => exact absurd rfl hs
  | agg l => simp [cellsS, den, Value.cells]
  | val u =>
    cases u with
    | agg cs => simp [cellsS, den, Value.cells, denL_svL]
    | _ => rfl
  | arr k l =>
    simp only [cellsS, den, Value.cells, denL_eq, List.map_map]
    exact List.map_congr_left fun z _ => by simp [den]
  | _ => rfl

theorem noTop_spec {l : List SV} (h : noTop l = true) : ∀ s ∈ l, s ≠ .top := by
  induction l with
  | nil => simp
  | cons a r ih =>
    intro s hs
    cases a with
    | top => cases h
    | _ =>
      rcases List.mem_cons.1 hs with rfl | hs
      · simp
      · exact ih h s hs

theorem StdL.length {l : List SV} {vs : List Value} (hl : StdL h l vs) : l.length = vs.length := by
  have := hl []
  rw [denL_eq] at this
  rw [← this, List.length_map]

/-- Numbered parts and their values. -/
def PartsStd (h : List Ent) : List (Nat × SV) → List (Nat × Value) → Prop
  | [], [] => True
  | (i, s) :: ss, (j, v) :: vs => i = j ∧ (s ≠ .top → Std h s v) ∧ PartsStd h ss vs
  | _, _ => False

theorem xfill_sound {pl : Nat → Option (Nat × Nat)} : ∀ {parts : List (Nat × SV)} {pv : List (Nat × Value)} {z : List SV} {cells : Array Value} {K : List SV → Prop}, PartsStd h parts pv → StdL h z cells.toList → xfill pl z parts K →
    ∃ l cs, K l ∧ StdL h l cs.toList ∧ Instr.fill pl cells pv = some cs
  | [], [], z, cells, K, _, hz, hx => ⟨z, cells, hx, hz, rfl⟩
  | [], _ :: _, _, _, _, hp, _, _ => hp.elim
  | _ :: _, [], _, _, _, hp, _, _ => hp.elim
  | (i, s) :: ss, (j, v) :: vs, z, cells, K, hp, hz, hx => by
    obtain ⟨rfl, hs, hp⟩ := hp
    simp only [xfill] at hx
    split at hx
    · exact hx.elim
    · rename_i off size hpl
      obtain ⟨hb, hx⟩ := bif_false hx
      simp only [Bool.and_eq_true, lenS_eq] at hb
      obtain ⟨h1, h2, h3⟩ := hb
      have h1 := Nat.eq_of_beq_eq_true h1
      have h2 := Nat.le_of_ble_eq_true h2
      have hst : s ≠ .top := by
        rintro rfl
        simp [cellsS, noTop] at h3
      have hc := cellsS_std hst (hs hst)
      have hlen := hc.length
      have hzl := hz.length
      simp only [Array.length_toList] at hlen hzl
      have hz' : StdL h (setL z off (cellsS s)) (v.cells.toList.zipIdx.foldl (fun (cs : Array Value) (x : Value × Nat) => cs.setIfInBounds (off + x.2) x.1) cells).toList := by
        intro r
        rw [foldl_set v.cells.toList off 0 cells (by simp; omega), setL_eq z off (cellsS s) h2, denL_eq]
        have e1 := hz r
        have e2 := hc r
        rw [denL_eq] at e1 e2
        simp only [List.map_append, List.map_take, List.map_drop, e1, e2, Nat.add_zero, Array.length_toList, hlen]
      obtain ⟨l, cs, h4, h5, h6⟩ := xfill_sound hp hz' hx
      refine ⟨l, cs, h4, h5, ?_⟩
      rw [Instr.fill, hpl]
      simp only []
      rw [if_neg (by simp; omega), ← h6]
      congr 1
      rw [← Array.foldl_toList, Array.toList_zipIdx]

theorem placesL_run : ∀ {fs : List Field} {pl : List (Nat × Nat)}, placesL P fs = some pl → (fs.mapM fun f => (do pure (f.offset, ← sizeOf f.type) : Sem (Nat × Nat))).run P w = .ok pl w
  | [], pl, h => by cases h; rfl
  | f :: fs, pl, h => by
    simp only [placesL] at h
    split at h
    · rename_i inf r h1 h2
      cases h
      rw [List.mapM_cons]
      simp only [Sem.run_bind, run_sizeOf' h1, Result.andThen_ok, Sem.run_pure, placesL_run h2]
    · cases h

theorem xbuild_sound {t : TypeId} {parts : List (Nat × SV)} {pv : Array (Nat × Value)} (hp : PartsStd h parts pv.toList) (hx : xbuild P t parts K) : Ans P h w K (Instr.build t pv) := by
  unfold xbuild at hx
  split at hx
  · exact hx.elim
  · rename_i inf hinf
    split at hx
    · exact hx.elim
    · rename_i z hz
      split at hx
      · rename_i fs hu
        split at hx
        · exact hx.elim
        · rename_i pl hpl
          obtain ⟨l, cs, h1, h2, h3⟩ := xfill_sound hp (fun r => denL_svL _ _) hx
          refine ⟨_, .agg cs, h1, by simp, fun r => by simp [den, h2 r], ?_⟩
          have hz' : (zeroValue t).run P w = .ok z w := by simp [zeroValue, run_typeInfo' hinf, hz]
          have hpm : (fs.mapM fun f => (do pure (f.offset, ← sizeOf f.type) : Sem (Nat × Nat))).run P w = .ok pl.toArray w := by
            have : fs = fs.toList.toArray := by simp
            rw [this, List.mapM_toArray, Sem.run_map, placesL_run hpl]
            rfl
          simp only [Instr.build, Sem.run_bind, hz', Result.andThen_ok, run_underlying' hu, hpm]
          have : (fun (x : Nat) => pl.toArray[x]?) = (fun (x : Nat) => pl[x]?) := by funext x; simp
          rw [this, h3]
          rfl
      · rename_i ln e hu
        split at hx
        · exact hx.elim
        · rename_i ie hie
          obtain ⟨l, cs, h1, h2, h3⟩ := xfill_sound hp (fun r => denL_svL _ _) hx
          refine ⟨_, .agg cs, h1, by simp, fun r => by simp [den, h2 r], ?_⟩
          have hz' : (zeroValue t).run P w = .ok z w := by simp [zeroValue, run_typeInfo' hinf, hz]
          simp only [Instr.build, Sem.run_bind, hz', Result.andThen_ok, run_underlying' hu, run_sizeOf' hie]
          rw [h3]
          rfl
      · exact hx.elim

end
end Go.Sx

/- The quiet operations are sound: the one theorem. -/
set_option linter.unusedVariables false
set_option linter.unusedSimpArgs false
namespace Go.Sx
open Classical
section
variable {P : Program} {F : List (Nat × Blk)} {h : List Ent} {w : World} {K : SV → Prop}

theorem guard_int (op : BinOp) (t : TypeId) (x y : Operand) (k : IntKind) (a : Int) (v : Value) : (eqGuard op t x y (.int k a) v).run P w = .ok () w := by
  unfold eqGuard; cases op <;> rfl
theorem guard_str (op : BinOp) (t : TypeId) (x y : Operand) (a : ByteArray) (v : Value) : (eqGuard op t x y (.string a) v).run P w = .ok () w := by
  unfold eqGuard; cases op <;> rfl
theorem guard_plain {op : BinOp} {t : TypeId} {x y : Operand} {vx vy : Value}
    (hp : (∃ c, vx = .bool c) ∨ (∃ a, vx = .pointer a) ∨ (∃ a n m, vx = .slice a n m) ∨ (∃ a, vx = .map a) ∨ vx = .nilFunc ∨ ∃ f c d, vx = .func f c d) :
    (eqGuard op t x y vx vy).run P w = .ok () w := by
  rcases hp with ⟨_, rfl⟩ | ⟨_, rfl⟩ | ⟨_, _, _, rfl⟩ | ⟨_, rfl⟩ | rfl | ⟨_, _, _, rfl⟩ <;> (unfold eqGuard; cases op <;> rfl)

theorem binOp_eq {op : BinOp} {t : TypeId} {vx vy : Value} {neg b : Bool} (hop : op = if neg then .neq else .eql)
    (e : EqAns P w t vx vy b) : (binOp op t vx vy).run P w = .ok (.bool (bif neg then !b else b)) w := by
  have hr := e.run
  have hb := e.both
  rcases e.plain with ⟨c, rfl⟩ | ⟨a, rfl⟩ | ⟨a, n, m, rfl⟩ | ⟨a, rfl⟩ | rfl | ⟨f, c, d, rfl⟩ <;> cases neg <;> subst hop
  all_goals first
    | (simp only [binOp, Bool.false_eq_true, if_false, if_true, Sem.run_bind, hr, Result.andThen_ok, Sem.run_pure]; rfl)
    | (obtain ⟨b', rfl⟩ := hb ⟨_, rfl⟩; cases a <;> cases b' <;> simp only [binOp, Bool.false_eq_true, if_false, if_true, Sem.run_bind, hr, Result.andThen_ok, Sem.run_pure] <;> rfl)

theorem eqCells_spec : ∀ {l l' : List SV} {K : Prop → Prop}, eqCells l l' K → ∃ p : Prop, K p ∧ l.length = l'.length ∧
    ∀ (ρ : List Loc) (d i : Nat) (fs : List Field) (A A' : List Value), goodF P i fs = true → fs.length = l.length → A.length = i → A'.length = i →
      (Op.eqFields (d + 1) (A ++ denL ρ l).toArray (A' ++ denL ρ l').toArray fs).run P w = .ok (decide p) w
  | [], [], K, h => ⟨True, h, rfl, fun ρ d i fs A A' _ hl _ _ => by
    have : fs = [] := List.eq_nil_of_length_eq_zero (by simpa using hl)
    subst this
    simp [Op.eqFields]⟩
  | .val (.int k a) :: r, .val (.int k' b) :: r', K, h => by
    have hk : kSame k k' (eqCells r r' fun p => K (a = b ∧ p)) := h
    obtain ⟨rfl, hk2⟩ := kSame_iff hk
    obtain ⟨p, h1, h2, h3⟩ := eqCells_spec hk2
    refine ⟨a = b ∧ p, h1, by simp [h2], fun ρ d i fs A A' hg hl ha ha' => ?_⟩
    cases fs with
    | nil => simp at hl
    | cons f fs =>
      simp only [goodF, Bool.and_eq_true, Bool.not_eq_true'] at hg
      obtain ⟨⟨⟨g1, g2⟩, g3⟩, g4⟩ := hg
      have g2 := Nat.eq_of_beq_eq_true g2
      split at g3
      · rename_i k' hu
        have hk : P.plainKey f.type = true := by unfold Program.plainKey; rw [hu]
        have e1 : (A ++ denL ρ (.val (.int k a) :: r)).toArray[f.offset]? = some (.int k a) := by
          rw [g2, ← ha]; simp [denL, den]
        have e2 : (A' ++ denL ρ (.val (.int k b) :: r')).toArray[f.offset]? = some (.int k b) := by
          rw [g2, ← ha']; simp [denL, den]
        have hn : f.name ≠ "_" := by simpa using g1
        have ih := h3 ρ d (i + 1) fs (A ++ [.int k a]) (A' ++ [.int k b]) g4 (by simpa using hl) (by simp [ha]) (by simp [ha'])
        simp only [Op.eqFields, hn, ne_eq, not_false_eq_true, if_true, Sem.run_bind, run_part_plain w hk e1, run_part_plain w hk e2, Result.andThen_ok, run_equalIn_int w d f.type k k' a b hu]
        by_cases hab : a = b
        · subst hab
          simp only [denL, den, List.append_assoc, List.cons_append, List.nil_append] at ih ⊢
          simpa using ih
        · simp [hab]
      · cases g3

theorem xseq_sound {op : BinOp} {t : TypeId} {l l' : List SV} {vx vy : Value} {ox oy : Operand} {neg : Bool} (hop : op = if neg then .neq else .eql)
    (hx : Std h (.agg l) vx) (hy : Std h (.agg l') vy) (hk : xseq P t neg l l' K) : Ans P h w K (do eqGuard op t ox oy vx vy; binOp op t vx vy) := by
  obtain ⟨hp, hk⟩ := hk
  obtain ⟨p, h1, h2, h3⟩ := eqCells_spec (P := P) (w := w) hk
  have e1 : vx = .agg (denL (locs h ++ []) l).toArray := (hx []).symm
  have e2 : vy = .agg (denL (locs h ++ []) l').toArray := (hy []).symm
  unfold plainStruct at hp
  split at hp
  · rename_i fs hu
    simp only [Bool.and_eq_true, Bool.not_eq_true'] at hp
    obtain ⟨⟨⟨g1, g2⟩, g3⟩, g4⟩ := hp
    have g3 := Nat.eq_of_beq_eq_true g3
    have hf : P.fieldsOf t = fs := by simp [Program.fieldsOf, hu]
    have hr := h3 (locs h ++ []) 9998 0 fs.toList [] [] g4 (by simpa using g3) rfl rfl
    simp only [List.nil_append] at hr
    have he : (Op.equalIn 10000 t vx vy).run P w = .ok (decide p) w := by
      rw [e1, e2, show 10000 = 9999 + 1 from rfl, run_equalIn_struct w 9999 t _ _ (by rw [hf]; exact hu) g2, hf]
      exact hr
    refine ⟨_, _, h1, by simp, fun r => rfl, ?_⟩
    subst hop
    rw [e1, e2] at he ⊢
    cases neg
    · simp only [Bool.false_eq_true, if_false, Sem.run_bind, run_eqGuard_agg w .eql t ox oy _ _ g1, Result.andThen_ok, run_eql_struct w t, he, den, cond_false]
    · simp only [if_true, Sem.run_bind, run_eqGuard_agg w .neq t ox oy _ _ g1, Result.andThen_ok, run_neq_struct w t, he, den, cond_true]
      by_cases hp : p <;> simp [hp]
  · cases hp

theorem xindex_sound {t : TypeId} {x ix : SV} {v vi : Value} (hv : x ≠ .top → Std h x v) (hi : ix ≠ .top → Std h ix vi) (hx : xindex P t x ix K) : Ans P h w K (Instr.index t v vi) := by
  unfold xindex at hx
  split at hx
  · rename_i l ki i
    split at hx
    · rename_i n e hu
      split at hx
      · rename_i k inf hue hinf
        split at hx
        · rename_i zs hz
          obtain ⟨hb, ⟨h1, h2⟩, hx⟩ := bif_false hx
          simp only [Bool.and_eq_true] at hb
          have hs1 := Nat.eq_of_beq_eq_true hb.1
          have hl := Nat.eq_of_beq_eq_true hb.2
          have hv0 := (hv (by simp) []).symm
          have hi0 := (hi (by simp) []).symm
          simp only [den] at hv0 hi0
          rw [intsL_spec hz] at hv0
          subst hv0 hi0
          have hzl : zs.length = n := by
            have := congrArg List.length (intsL_spec hz [])
            rw [denL_eq] at this
            simp at this
            omega
          have hk : P.plainKey e = true := by unfold Program.plainKey; rw [hue]
          have hg : ((zs.map (Value.int k)).toArray)[i.toNat * 1]? = some (.int k (zs.getD i.toNat 0)) := by
            have hlt : i.toNat < zs.length := by omega
            simp [List.getD_eq_getElem?_getD, hlt]
          refine ⟨_, _, hx, by simp, fun r => rfl, ?_⟩
          simp only [Instr.index, asIntOf, Sem.run_bind, Sem.run_pure, Result.andThen_ok, run_underlying' hu, if_pos (show 0 ≤ i ∧ i < (n : Int) from ⟨h1, h2⟩), run_sizeOf' hinf, hs1]
          exact run_part_plain w hk hg
        · exact hx.elim
      · exact hx.elim
    · exact hx.elim
  · rename_i k l ki i
    split at hx
    · rename_i n e hu
      split at hx
      · rename_i k0 inf hue hinf
        obtain ⟨hb, hl, ⟨h1, h2⟩, hx⟩ := bif_false hx
        have hs1 := Nat.eq_of_beq_eq_true hb
        have hv0 := (hv (by simp) []).symm
        have hi0 := (hi (by simp) []).symm
        simp only [den] at hv0 hi0
        subst hv0 hi0
        have hk : P.plainKey e = true := by unfold Program.plainKey; rw [hue]
        have hg : ((l.map (Value.int k)).toArray)[i.toNat * 1]? = some (.int k (l.getD i.toNat 0)) := by
          have hlt : i.toNat < l.length := by omega
          simp [List.getD_eq_getElem?_getD, hlt]
        refine ⟨_, _, hx, by simp, fun r => rfl, ?_⟩
        simp only [Instr.index, asIntOf, Sem.run_bind, Sem.run_pure, Result.andThen_ok, run_underlying' hu, if_pos (show 0 ≤ i ∧ i < (n : Int) from ⟨h1, h2⟩), run_sizeOf' hinf, hs1]
        exact run_part_plain w hk hg
      · exact hx.elim
    · exact hx.elim
  · exact hx.elim
theorem eqCells_items : ∀ {l l' : List SV} {K : Prop → Prop}, eqCells l l' K → ∃ p : Prop, K p ∧ l.length = l'.length ∧
    ∀ (ρ : List Loc) (d i : Nat) (e : TypeId) (k : IntKind) (A A' : List Value), P.underlying e = some (.int k) → A.length = i → A'.length = i →
      (Op.eqItems (d + 1) e 1 (A ++ denL ρ l).toArray (A' ++ denL ρ l').toArray (List.range' i l.length)).run P w = .ok (decide p) w
  | [], [], K, h => ⟨True, h, rfl, fun ρ d i e k A A' _ _ _ => by simp [Op.eqItems]⟩
  | .val (.int k a) :: r, .val (.int k' b) :: r', K, h => by
    have hk : kSame k k' (eqCells r r' fun p => K (a = b ∧ p)) := h
    obtain ⟨rfl, hk2⟩ := kSame_iff hk
    obtain ⟨p, h1, h2, h3⟩ := eqCells_items hk2
    refine ⟨a = b ∧ p, h1, by simp [h2], fun ρ d i e ke A A' hu ha ha' => ?_⟩
    have hk : P.plainKey e = true := by unfold Program.plainKey; rw [hu]
    have e1 : (A ++ denL ρ (.val (.int k a) :: r)).toArray[i * 1]? = some (.int k a) := by
      rw [Nat.mul_one, ← ha]; simp [denL, den]
    have e2 : (A' ++ denL ρ (.val (.int k b) :: r')).toArray[i * 1]? = some (.int k b) := by
      rw [Nat.mul_one, ← ha']; simp [denL, den]
    have ih := h3 ρ d (i + 1) e ke (A ++ [.int k a]) (A' ++ [.int k b]) hu (by simp [ha]) (by simp [ha'])
    simp only [List.length_cons, List.range'_succ, Op.eqItems, Sem.run_bind, run_part_plain w hk e1, run_part_plain w hk e2, Result.andThen_ok, run_equalIn_int w d e k ke a b hu]
    by_cases hab : a = b
    · subst hab
      simp only [denL, den, List.append_assoc, List.cons_append, List.nil_append] at ih ⊢
      simpa using ih
    · simp [hab]
theorem xaeq_sound {op : BinOp} {t : TypeId} {l l' : List SV} {vx vy : Value} {ox oy : Operand} {neg : Bool} (hop : op = if neg then .neq else .eql)
    (hx : Std h (.agg l) vx) (hy : Std h (.agg l') vy) (hk : xaeq P t neg l l' K) : Ans P h w K (do eqGuard op t ox oy vx vy; binOp op t vx vy) := by
  obtain ⟨hp, hk⟩ := hk
  obtain ⟨p, h1, h2, h3⟩ := eqCells_items (P := P) (w := w) hk
  have e1 : vx = .agg (denL (locs h ++ []) l).toArray := (hx []).symm
  have e2 : vy = .agg (denL (locs h ++ []) l').toArray := (hy []).symm
  unfold plainArr at hp
  split at hp
  · rename_i n e hu
    simp only [Bool.and_eq_true, Bool.not_eq_true'] at hp
    obtain ⟨⟨g1, g2⟩, g3⟩ := hp
    have g2 := Nat.eq_of_beq_eq_true g2
    split at g3
    · rename_i k inf hue hinf
      have g3 := Nat.eq_of_beq_eq_true g3
      have hr := h3 (locs h ++ []) 9998 0 e k [] [] hue rfl rfl
      simp only [List.nil_append] at hr
      have hcl : P.cellsOf e = 1 := by unfold Program.cellsOf; rw [hinf]; exact g3
      have he : (Op.equalIn 10000 t vx vy).run P w = .ok (decide p) w := by
        rw [e1, e2, show 10000 = 9999 + 1 from rfl, run_equalIn_array w 9999 _ _ hu hinf, hcl, g2, List.range_eq_range']
        exact hr
      refine ⟨_, _, h1, by simp, fun r => rfl, ?_⟩
      subst hop
      rw [e1, e2] at he ⊢
      cases neg
      · simp only [Bool.false_eq_true, if_false, Sem.run_bind, run_eqGuard_agg w .eql t ox oy _ _ g1, Result.andThen_ok, run_eql_struct w t, he, den, cond_false]
      · simp only [if_true, Sem.run_bind, run_eqGuard_agg w .neq t ox oy _ _ g1, Result.andThen_ok, run_neq_struct w t, he, den, cond_true]
        by_cases hp : p <;> simp [hp]
    · cases g3
  · cases hp
theorem arr_items {e : TypeId} {ke : IntKind} (hu : P.underlying e = some (.int ke)) (k : IntKind) (d : Nat) : ∀ (l l' : List Int) (i : Nat) (A A' : List Value), l.length = l'.length → A.length = i → A'.length = i →
      (Op.eqItems (d + 1) e 1 (A ++ l.map (Value.int k)).toArray (A' ++ l'.map (Value.int k)).toArray (List.range' i l.length)).run P w = .ok (decide (l = l')) w
  | [], [], i, A, A', _, _, _ => by simp [Op.eqItems]
  | [], _ :: _, _, _, _, h, _, _ => by simp at h
  | _ :: _, [], _, _, _, h, _, _ => by simp at h
  | a :: r, b :: r', i, A, A', h, ha, ha' => by
    have hk : P.plainKey e = true := by unfold Program.plainKey; rw [hu]
    have e1 : (A ++ (a :: r).map (Value.int k)).toArray[i * 1]? = some (.int k a) := by
      rw [Nat.mul_one, ← ha]; simp
    have e2 : (A' ++ (b :: r').map (Value.int k)).toArray[i * 1]? = some (.int k b) := by
      rw [Nat.mul_one, ← ha']; simp
    have ih := arr_items hu k d r r' (i + 1) (A ++ [.int k a]) (A' ++ [.int k b]) (by simpa using h) (by simp [ha]) (by simp [ha'])
    simp only [List.length_cons, List.range'_succ, Op.eqItems, Sem.run_bind, run_part_plain w hk e1, run_part_plain w hk e2, Result.andThen_ok, run_equalIn_int w d e k ke a b hu]
    by_cases hab : a = b
    · subst hab
      simp only [List.append_assoc, List.cons_append, List.nil_append, List.map_cons] at ih ⊢
      simpa using ih
    · simp [hab]
theorem xareq_sound {op : BinOp} {t : TypeId} {k k' : IntKind} {l l' : List Int} {vx vy : Value} {ox oy : Operand} {neg : Bool} (hop : op = if neg then .neq else .eql)
    (hx : Std h (.arr k l) vx) (hy : Std h (.arr k' l') vy) (hk : xareq P t neg k k' l l' K) : Ans P h w K (do eqGuard op t ox oy vx vy; binOp op t vx vy) := by
  unfold xareq at hk
  split at hk
  · rename_i n e0 hu0
    obtain ⟨hp, ⟨hl, hl'⟩, hk⟩ := hk
    obtain ⟨rfl, h1⟩ := kSame_iff hk
    have e1 : vx = .agg (l.map (Value.int k)).toArray := (hx []).symm
    have e2 : vy = .agg (l'.map (Value.int k)).toArray := (hy []).symm
    unfold plainArr at hp
    rw [hu0] at hp
    simp only [Bool.and_eq_true, Bool.not_eq_true'] at hp
    obtain ⟨⟨g1, g2⟩, g3⟩ := hp
    split at g3
    · rename_i ke inf hue hinf
      have g3 := Nat.eq_of_beq_eq_true g3
      have hr := arr_items (w := w) hue k 9998 l l' 0 [] [] (by omega) rfl rfl
      simp only [List.nil_append] at hr
      have hcl : P.cellsOf e0 = 1 := by unfold Program.cellsOf; rw [hinf]; exact g3
      have he : (Op.equalIn 10000 t vx vy).run P w = .ok (decide (l = l')) w := by
        rw [e1, e2, show 10000 = 9999 + 1 from rfl, run_equalIn_array w 9999 _ _ hu0 hinf, hcl, List.range_eq_range', ← hl]
        exact hr
      refine ⟨_, _, h1, by simp, fun r => rfl, ?_⟩
      subst hop
      rw [e1, e2] at he ⊢
      cases neg
      · simp only [Bool.false_eq_true, if_false, Sem.run_bind, run_eqGuard_agg w .eql t ox oy _ _ g1, Result.andThen_ok, run_eql_struct w t, he, den, cond_false]
        by_cases hp : l = l' <;> simp [hp]
      · simp only [if_true, Sem.run_bind, run_eqGuard_agg w .neq t ox oy _ _ g1, Result.andThen_ok, run_neq_struct w t, he, den, cond_true]
        by_cases hp : l = l' <;> simp [hp]
    · cases g3
  · exact hk.elim
theorem xbin_sound {op : BinOp} {t : TypeId} {x y : SV} {vx vy : Value} {ox oy : Operand} (hx : x ≠ .top → Std h x vx) (hy : y ≠ .top → Std h y vy) (hk : xbin P op t x y K) :
    Ans P h w K (do eqGuard op t ox oy vx vy; binOp op t vx vy) := by
  have eqs : ∀ neg, op = (if neg then .neq else .eql) → x ≠ .top → y ≠ .top → xeq P t neg x y K → Ans P h w K (do eqGuard op t ox oy vx vy; binOp op t vx vy) := by
    intro neg hop h1 h2 hk
    obtain ⟨b, he, s, h3, h4, h5⟩ := xeq_sound (w := w) (hx h1) (hy h2) hk
    refine ⟨s, _, h3, h4, h5, ?_⟩
    simp only [Sem.run_bind, guard_plain he.plain, Result.andThen_ok]
    exact binOp_eq hop he
  have fall : (match op with | .eql => xeq P t false x y K | .neq => xeq P t true x y K | _ => False) → Ans P h w K (do eqGuard op t ox oy vx vy; binOp op t vx vy) := by
    intro hk
    have nt1 : ∀ neg, xeq P t neg .top y K → False := by
      intro neg h
      unfold xeq at h
      split at h
      · simp [isB] at h
      all_goals try (split at h; · contradiction)
      all_goals first | exact h.elim | (rcases nilCmp_cases h with ⟨_, h, _⟩ | ⟨h, _⟩ <;> cases h)
    have nt2 : ∀ neg, xeq P t neg x .top K → False := by
      intro neg h
      unfold xeq at h
      split at h
      · split at h
        · rename_i h2; cases h2
        · exact h.elim
      all_goals try (split at h; · contradiction)
      all_goals first | exact h.elim | (rcases nilCmp_cases h with ⟨_, _, h, _⟩ | ⟨_, h, _⟩ <;> cases h)
    split at hk
    · exact eqs false rfl (by rintro rfl; exact nt1 _ hk) (by rintro rfl; exact nt2 _ hk) hk
    · exact eqs true rfl (by rintro rfl; exact nt1 _ hk) (by rintro rfl; exact nt2 _ hk) hk
    · exact hk.elim
  unfold xbin at hk
  split at hk
  · rename_i k a k' b
    have e1 : vx = .int k a := (hx (by simp) []).symm
    have e2 : vy = .int k' b := (hy (by simp) []).symm
    subst e1 e2
    simp only [Ans, Sem.run_bind, guard_int, Result.andThen_ok]
    split at hk
    · obtain ⟨h0, hk⟩ := hk
      refine ⟨_, _, hk, by simp, fun r => rfl, ?_⟩
      simp [binOp, Op.shift, show ¬ b < 0 by omega, ishl]
    · obtain ⟨h0, hk⟩ := hk
      refine ⟨_, _, hk, by simp, fun r => rfl, ?_⟩
      simp [binOp, Op.shift, show ¬ b < 0 by omega, ishr]
    · obtain ⟨rfl, hk2⟩ := kSame_iff hk
      exact xint_sound hk2
  · rename_i a b
    have e1 : vx = .string a := (hx (by simp) []).symm
    have e2 : vy = .string b := (hy (by simp) []).symm
    subst e1 e2
    simp only [Ans, Sem.run_bind, guard_str, Result.andThen_ok]
    split at hk
    · refine ⟨_, _, hk, by simp, fun r => rfl, ?_⟩
      simp [binOp, Op.stringOp]
      by_cases hab : a.toList = b.toList <;> simp [hab]
    · refine ⟨_, _, hk, by simp, fun r => rfl, ?_⟩
      simp [binOp, Op.stringOp]
      by_cases hab : a.toList = b.toList <;> simp [hab]
    · obtain ⟨h0, hk⟩ := hk
      refine ⟨_, _, hk, by simp, fun r => rfl, ?_⟩
      have : ¬ ((a.size + b.size : Nat) : Int) > IntKind.i64.max := by
        have : IntKind.i64.max = 9223372036854775807 := by decide
        rw [this]; omega
      simp only [binOp, Op.stringOp]
      rw [if_neg this]
      rfl
    · exact hk.elim
  · split at hk
    · exact xareq_sound (neg := false) rfl (hx (by simp)) (hy (by simp)) hk
    · exact xareq_sound (neg := true) rfl (hx (by simp)) (hy (by simp)) hk
    · exact hk.elim
  · rename_i l l'
    split at hk
    · split at hk
      · exact xaeq_sound (neg := false) rfl (hx (by simp)) (hy (by simp)) hk
      · exact xaeq_sound (neg := true) rfl (hx (by simp)) (hy (by simp)) hk
      · exact hk.elim
    · split at hk
      · exact xseq_sound (neg := false) rfl (hx (by simp)) (hy (by simp)) hk
      · exact xseq_sound (neg := true) rfl (hx (by simp)) (hy (by simp)) hk
      · exact hk.elim
  · exact fall hk

theorem eqIn_nn (d : Nat) {t : TypeId} {ms} (hu : P.underlying t = some (.interface ms)) : (Op.equalIn (d + 1) t .nilIface .nilIface).run P w = .ok true w := by
  simp only [Op.equalIn, Sem.run_bind, run_underlying' hu, Result.andThen_ok, Sem.run_pure]
theorem eqIn_ni (d : Nat) {t : TypeId} {ms} (hu : P.underlying t = some (.interface ms)) (u z) : (Op.equalIn (d + 1) t .nilIface (.iface u z)).run P w = .ok false w := by
  simp only [Op.equalIn, Sem.run_bind, run_underlying' hu, Result.andThen_ok, Sem.run_pure]
theorem eqIn_in (d : Nat) {t : TypeId} {ms} (hu : P.underlying t = some (.interface ms)) (u z) : (Op.equalIn (d + 1) t (.iface u z) .nilIface).run P w = .ok false w := by
  simp only [Op.equalIn, Sem.run_bind, run_underlying' hu, Result.andThen_ok, Sem.run_pure]
theorem guard_nil {op : BinOp} {t : TypeId} {ox oy : Operand} (hc : (isConstO ox || isConstO oy) = true) : (eqGuard op t ox oy .nilIface .nilIface).run P w = .ok () w := by
  unfold eqGuard
  cases ox <;> cases oy <;> first | (simp [isConstO] at hc; done) | (cases op <;> rfl)

theorem xifc_sound {op : BinOp} {t : TypeId} {x y : SV} {vx vy : Value} {ox oy : Operand} {neg : Bool} (hop : op = if neg then .neq else .eql) (ht : isIface P t = true)
    (hx : x ≠ .top → Std h x vx) (hy : y ≠ .top → Std h y vy) (hk : xifc P neg (isConstO ox || isConstO oy) x y K) :
    Ans P h w K (do eqGuard op t ox oy vx vy; binOp op t vx vy) := by
  obtain ⟨ms, hu⟩ : ∃ ms, P.underlying t = some (.interface ms) := by
    unfold isIface at ht
    split at ht
    · exact ⟨_, by assumption⟩
    · cases ht
  unfold xifc at hk
  have hiface : ∀ b, (Op.equal t vx vy).run P w = .ok b w → (∀ k n, vx ≠ .int k n) → (∃ u z, vx = .iface u z) ∨ vx = .nilIface → (binOp op t vx vy).run P w = .ok (.bool (bif neg then !b else b)) w ∨ True := fun _ _ _ _ => .inr trivial
  clear hiface
  split at hk
  · obtain ⟨hc, hk⟩ := bif_false hk
    have e1 : vx = .nilIface := (hx (by simp) []).symm
    have e2 : vy = .nilIface := (hy (by simp) []).symm
    subst e1 e2
    refine ⟨_, .bool (!neg), hk, by cases neg <;> simp [bSV], fun r => den_bSV _ _, ?_⟩
    have hg : (eqGuard op t ox oy .nilIface .nilIface).run P w = .ok () w := guard_nil hc
    simp only [Sem.run_bind, hg, Result.andThen_ok]
    have he : (Op.equal t .nilIface .nilIface).run P w = .ok true w := by
      exact eqIn_nn 9999 hu
    subst hop
    cases neg <;> simp only [binOp, Bool.false_eq_true, if_false, if_true, Sem.run_bind, he, Result.andThen_ok, Sem.run_pure] <;> rfl
  · have e1 : vx = .nilIface := (hx (by simp) []).symm
    obtain ⟨u, z, e2⟩ : ∃ u z, vy = .iface u z := ⟨_, _, (hy (by simp) []).symm⟩
    subst e1 e2
    refine ⟨_, .bool neg, hk, by cases neg <;> simp [bSV], fun r => den_bSV _ _, ?_⟩
    have hg : (eqGuard op t ox oy .nilIface (.iface u z)).run P w = .ok () w := by unfold eqGuard; cases op <;> rfl
    have he : (Op.equal t .nilIface (.iface u z)).run P w = .ok false w := by
      exact eqIn_ni 9999 hu u z
    simp only [Sem.run_bind, hg, Result.andThen_ok]
    subst hop
    cases neg <;> simp only [binOp, Bool.false_eq_true, if_false, if_true, Sem.run_bind, he, Result.andThen_ok, Sem.run_pure] <;> rfl
  · have e2 : vy = .nilIface := (hy (by simp) []).symm
    obtain ⟨u, z, e1⟩ : ∃ u z, vx = .iface u z := ⟨_, _, (hx (by simp) []).symm⟩
    subst e1 e2
    refine ⟨_, .bool neg, hk, by cases neg <;> simp [bSV], fun r => den_bSV _ _, ?_⟩
    have hg : (eqGuard op t ox oy (.iface u z) .nilIface).run P w = .ok () w := by unfold eqGuard; cases op <;> rfl
    have he : (Op.equal t (.iface u z) .nilIface).run P w = .ok false w := by
      exact eqIn_in 9999 hu u z
    simp only [Sem.run_bind, hg, Result.andThen_ok]
    subst hop
    cases neg <;> simp only [binOp, Bool.false_eq_true, if_false, if_true, Sem.run_bind, he, Result.andThen_ok, Sem.run_pure] <;> rfl
  · exact hk.elim

theorem mapE_eq (e : Operand → SV) : ∀ l : List Operand, mapE e l = l.map e
  | [] => rfl
  | _ :: r => by simp [mapE, mapE_eq e r]
theorem argsStd_map {e : Operand → SV} {rv : Operand → Value} (hrv : ∀ x, e x ≠ .top → Std h (e x) (rv x)) : ∀ l : List Operand, ArgsStd h (mapE e l) (l.map rv)
  | [] => trivial
  | x :: r => ⟨hrv x, argsStd_map hrv r⟩
theorem partsStd_map {e : Operand → SV} {rv : Operand → Value} (hrv : ∀ x, e x ≠ .top → Std h (e x) (rv x)) : ∀ l : List (Nat × Operand), PartsStd h (mapP e l) (l.map fun (i, x) => (i, rv x))
  | [] => trivial
  | (i, x) :: r => ⟨rfl, hrv x, partsStd_map hrv r⟩
theorem optStd_map {e : Operand → SV} {rv : Operand → Value} (hrv : ∀ x, e x ≠ .top → Std h (e x) (rv x)) (o : Option Operand) : OptStd h (o.map e) (o.map rv) := by
  cases o with
  | none => trivial
  | some x => exact hrv x
theorem argsStd_all {e : Operand → SV} {rv : Operand → Value} (hrv : ∀ x, e x ≠ .top → Std h (e x) (rv x)) {l : List Operand} (ht : noTop (mapE e l) = true) : StdL h (mapE e l) (l.map rv) := by
  intro r
  have := noTop_spec ht
  rw [denL_eq, mapE_eq] at *
  rw [List.map_map]
  apply List.map_congr_left
  intro x hx
  exact hrv x (this _ (List.mem_map_of_mem hx)) r

/-- The quiet operations are sound. -/
theorem xq_sound (c : Ctx F h w) {e : Operand → SV} {rv : Operand → Value} (hrv : ∀ x, e x ≠ .top → Std h (e x) (rv x)) {o : Oper} (hx : xq P h e o.op K) :
    ∃ s v, K s ∧ s ≠ .top ∧ Std h s v ∧ (execOp rv o).run P w = .ok (.value v) w := by
  obtain ⟨dst, op, type, pos, after, guard⟩ := o
  simp only at hx
  have lift : ∀ {m : Sem Value}, Ans P h w K m → execOp rv ⟨dst, op, type, pos, after, guard⟩ = (do pure (.value (← m))) →
      ∃ s v, K s ∧ s ≠ .top ∧ Std h s v ∧ (execOp rv ⟨dst, op, type, pos, after, guard⟩).run P w = .ok (.value v) w := by
    rintro m ⟨s, v, h1, h2, h3, h4⟩ he
    exact ⟨s, v, h1, h2, h3, by rw [he]; simp [h4]⟩
  unfold xq at hx
  split at hx
  · obtain ⟨h1, h2⟩ := nt_spec hx
    exact ⟨_, _, h2, h1, hrv _ h1, rfl⟩
  · obtain ⟨h1, h2⟩ := nt_spec hx
    exact ⟨_, _, h2, h1, hrv _ h1, rfl⟩
  · rename_i c a b
    have hc : e c ≠ .top := by intro h; rw [h] at hx; exact hx.elim
    obtain ⟨s, v, h1, h2, h3, h4⟩ := xpick_sound (P := P) (w := w) (hrv c hc) (hrv a) (hrv b) hx
    refine ⟨s, v, h1, h2, h3, ?_⟩
    simp only [execOp]
    revert h4
    simp only [Sem.run_bind]
    generalize (asBool (rv c)).run P w = q
    cases q <;> simp
  · rename_i t x
    split at hx
    · rename_i n i j he
      have hx' := hrv x (by rw [he]; simp)
      rw [he] at hx'
      obtain ⟨s, v, h1, h2, h3, h4⟩ := xload_sound c hx
      refine lift (m := Instr.loadAt t (rv x)) ⟨s, v, h1, h2, h3, ?_⟩ rfl
      have h5 := hx' []
      simp only [den] at h5
      rw [← h5]
      simp only [Instr.loadAt, Instr.sureAddr, Sem.run_bind, Sem.run_pure, Result.andThen_ok]
      exact h4 []
    · rename_i b x0 he
      have hx' := hrv x (by rw [he]; simp)
      rw [he] at hx'
      obtain ⟨s, v, h1, h2, h3, h4⟩ := xraw_sound c hx
      refine lift (m := Instr.loadAt t (rv x)) ⟨s, v, h1, h2, h3, ?_⟩ rfl
      have h5 := hx' []
      simp only [den] at h5
      rw [← h5]
      simp only [Instr.loadAt, Instr.sureAddr, Sem.run_bind, Sem.run_pure, Result.andThen_ok]
      exact h4
    · exact hx.elim
  · rename_i x
    split at hx
    · rename_i n i j he
      have hx' := hrv x (by rw [he]; simp)
      rw [he] at hx'
      obtain ⟨a, ha⟩ : ∃ a, rv x = .pointer (some a) := ⟨_, (hx' []).symm⟩
      refine ⟨_, rv x, hx, by simp, hx', ?_⟩
      simp only [execOp, ha]
      rfl
    · rename_i f cs he
      have hx' := hrv x (by rw [he]; simp)
      rw [he] at hx'
      obtain ⟨a, ha⟩ : ∃ a, rv x = .func (.func f) #[] a := ⟨_, (hx' []).symm⟩
      refine ⟨_, rv x, hx, by simp, hx', ?_⟩
      simp only [execOp, ha]
      rfl
    · rename_i f cs he
      have hx' := hrv x (by rw [he]; simp)
      rw [he] at hx'
      obtain ⟨a, ha⟩ : ∃ a, rv x = .func (.func f) a #[] := ⟨_, (hx' []).symm⟩
      refine ⟨_, rv x, hx, by simp, hx', ?_⟩
      simp only [execOp, ha]
      rfl
    · rename_i a he
      have hx' := hrv x (by rw [he]; simp)
      rw [he] at hx'
      have ha : rv x = .pointer (some a) := (hx' []).symm
      refine ⟨_, rv x, hx, by simp, hx', ?_⟩
      simp only [execOp, ha]
      rfl
    · exact hx.elim
  · rename_i op t x y _
    cases hi : isIface P t with
    | true =>
      rw [hi] at hx
      simp only [cond_true] at hx
      split at hx
      · exact lift (xifc_sound (neg := false) rfl hi (hrv x) (hrv y) hx) rfl
      · exact lift (xifc_sound (neg := true) rfl hi (hrv x) (hrv y) hx) rfl
      · exact hx.elim
    | false =>
      rw [hi] at hx
      exact lift (xbin_sound (hrv x) (hrv y) hx) rfl
  · rename_i op t x
    have hc : e x ≠ .top := by intro h; rw [h] at hx; unfold xun at hx; split at hx <;> first | exact hx.elim | (rename_i h'; cases h') | skip
    exact lift (xun_sound (hrv x hc) hx) rfl
  · exact lift (xconvert_sound c (hrv _) hx) rfl
  · exact lift (xslice_sound (hrv _) (optStd_map hrv _) (optStd_map hrv _) (optStd_map hrv _) hx) rfl
  · exact lift (xfieldAddr_sound (hrv _) hx) rfl
  · exact lift (xfield_sound (hrv _) hx) rfl
  · exact lift (xindexAddr_sound (hrv _) (hrv _) hx) rfl
  · exact lift (xindex_sound (hrv _) (hrv _) hx) rfl
  · exact lift (xarrAt_sound (hrv _) hx) rfl
  · exact lift (xlookup_sound c (hrv _) (hrv _) hx) rfl
  · exact lift (xextract_sound (hrv _) hx) rfl
  · rename_i t x
    obtain ⟨h1, h2⟩ := nt_spec hx
    have hv := hrv x h1
    split at h2
    · exact h2.elim
    · exact h2.elim
    · rename_i d hd hu
      refine lift (m := Instr.makeInterface t (rv x)) ⟨_, .iface t (rv x), h2, by simp, fun r => by simp [den, hv r], ?_⟩ rfl
      simp only [Instr.makeInterface, Sem.run_bind, run_underlying' hu, Result.andThen_ok]
      cases d <;> first | rfl | exact absurd rfl (hd _)
  · rename_i f first caps
    split at hx
    · rename_i hf
      obtain ⟨ht, hx⟩ := bif_false hx
      have hfe : first = #[] := by apply Array.toList_inj.1; rw [hf]
      subst hfe
      have hs := argsStd_all hrv ht
      refine lift (m := Instr.makeFunc (.func f) ((#[] : Array Operand).map rv) (caps.map rv)) ⟨_, .func (.func f) #[] (caps.map rv), hx, by simp, fun r => ?_, ?_⟩ rfl
      · simp only [den, hs r]
        congr 1
        apply Array.toList_inj.1
        simp
      · simp [Instr.makeFunc]
    · split at hx
      · rename_i hf
        obtain ⟨ht, hx⟩ := bif_false hx
        have hfe : caps = #[] := by apply Array.toList_inj.1; rw [hf]
        subst hfe
        have hs := argsStd_all hrv ht
        refine lift (m := Instr.makeFunc (.func f) (first.map rv) ((#[] : Array Operand).map rv)) ⟨_, .func (.func f) (first.map rv) #[], hx, by simp, fun r => ?_, ?_⟩ rfl
        · simp only [den, hs r]
          congr 1
          apply Array.toList_inj.1
          simp
        · simp [Instr.makeFunc]
      · exact hx.elim
  · exact lift (xassert_sound (hrv _) hx) rfl
  · rename_i t parts
    refine lift (xbuild_sound (pv := parts.map fun (i, x) => (i, rv x)) ?_ hx) rfl
    have := partsStd_map hrv parts.toList
    simpa using this
  · rename_i b args ts
    have hr : resolve rv { callee := .builtin b, args := args, argTypes := ts } type = pure { target := .builtin b ts type (args.map fun | .const _ => true | _ => false), args := args.map rv } := rfl
    have hargs := argsStd_map hrv args.toList
    split at hx
    · rename_i x xs t tr h1 h2
      rw [h1] at hargs
      have ht0 : ts[0]? = some t := by rw [← Array.getElem?_toList, h2]; rfl
      cases hm : args.toList.map rv with
      | nil => rw [hm] at hargs; exact hargs.elim
      | cons v vs =>
        rw [hm] at hargs
        have ha0 : (args.map rv)[0]? = some v := by rw [← Array.getElem?_toList, Array.toList_map, hm]; rfl
        exact lift (xlen_sound (tt := type) ht0 ha0 hargs.1 hx) rfl
    · rename_i x xs t tr h1 h2
      rw [h1] at hargs
      have ht0 : ts[0]? = some t := by rw [← Array.getElem?_toList, h2]; rfl
      cases hm : args.toList.map rv with
      | nil => rw [hm] at hargs; exact hargs.elim
      | cons v vs =>
        rw [hm] at hargs
        have ha0 : (args.map rv)[0]? = some v := by rw [← Array.getElem?_toList, Array.toList_map, hm]; rfl
        exact lift (xcap_sound (tt := type) ht0 ha0 hargs.1 hx) rfl
    · rename_i x xs h1
      rw [h1] at hargs
      cases hm : args.toList.map rv with
      | nil => rw [hm] at hargs; exact hargs.elim
      | cons v vs =>
        rw [hm] at hargs
        have := xminmax_sound (w := w) (P := P) (f := min) (g := Builtin.min2) (fun k a b w => by simp only [Builtin.min2, Sem.run_pure]; congr 2; split <;> omega) hargs.2 hargs.1 hx
        refine lift (m := Builtin.min_ ts type (args.map rv)) ?_ rfl
        unfold Builtin.min_
        rw [Array.toList_map, hm]
        exact this
    · rename_i x xs h1
      rw [h1] at hargs
      cases hm : args.toList.map rv with
      | nil => rw [hm] at hargs; exact hargs.elim
      | cons v vs =>
        rw [hm] at hargs
        have := xminmax_sound (w := w) (P := P) (f := max) (g := Builtin.max2) (fun k a b w => by simp only [Builtin.max2, Sem.run_pure]; congr 2; split <;> omega) hargs.2 hargs.1 hx
        refine lift (m := Builtin.max_ ts type (args.map rv)) ?_ rfl
        unfold Builtin.max_
        rw [Array.toList_map, hm]
        exact this
    · exact hx.elim
  · exact hx.elim

end
end Go.Sx
