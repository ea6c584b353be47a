/- A call into the model's row for slices.overlaps: two blocks apart. -/
import Derived.Test.YthkcfocoekonjaaSxQc
import Derived.Lib.Overlaps
set_option linter.unusedVariables false
set_option linter.unusedSimpArgs false
namespace Go.Sx
open Classical

def IsOverlaps (P : Program) (g : FuncId) (tS : TypeId) : Prop :=
  ∃ fn tR, P.funcs[g]? = some fn ∧ (fn.name == "runtime.NumGoroutine") = false ∧ fn.body.isNone = true ∧ Extern.findNext fn = none ∧ Extern.find fn = some (Extern.SlicesOverlaps.overlaps #[tS, tS] #[tR])

def noBody (P : Program) (g : FuncId) : Bool :=
  match P.funcs[g]? with
  | some fn => fn.body.isNone
  | none => false

def xoverlaps (P : Program) (h : List Ent) (g : FuncId) (ts : List TypeId) (args : List SV) (K : SV → List Ent → Prop) : Prop :=
  match ts, args with
  | tS :: _, [.slc m o l c, .slc m' o' l' c'] => bif Nat.beq m m' then False else
    (match P.underlying tS with
    | some (.slice e) => (match P.info? e with
      | none => False
      | some _ => (match entAt h m, entAt h m' with
        | some (.own _ (.cells _ _ _)), some (.own _ (.tab _ _ N cols)) => IsOverlaps P g tS ∧ 0 < N ∧ bif Nat.ble 1 (lenC cols) then K .ff h else False
        | _, _ => False))
    | _ => False)
  | _, _ => False

section
variable {P : Program} {F : List (Nat × Blk)} {h : List Ent} {w : World} {K : SV → List Ent → Prop}

theorem own_apart (c : Ctx F h w) {m m' b b' : Nat} {k k' : SBlk} (h1 : entAt h m = some (.own b k)) (h2 : entAt h m' = some (.own b' k')) (hne : m ≠ m') : b ≠ b' := by
  rintro rfl
  obtain ⟨A, B, e1, e2⟩ := owned_split (ρ := locs h ++ []) h1
  have hn := (c.owns []).2
  rw [e1] at hn
  have hm : (b, k'.den (locs h ++ [])) ∈ A ++ B := by
    have := e2 (.gone (0, 0, 0))
    simp only [Ent.blocks, List.append_nil] at this ⊢
    rw [← this]
    refine owned_mem ?_
    have h3 : (h.set m (.gone (0, 0, 0)))[m']? = some (.own b k') := by
      rw [List.getElem?_set_ne hne]; exact entAt_get h2
    have := List.mem_of_getElem? h3
    simpa using this
  simp only [List.append_assoc, List.cons_append, List.map_append, List.map_cons] at hn
  have h4 := (List.perm_middle.nodup_iff).1 hn
  have h5 := (List.nodup_cons.1 h4).1
  apply h5
  have := List.mem_map_of_mem (f := Prod.fst) hm
  simp only [List.map_append, List.mem_append] at this ⊢
  rcases this with h | h
  · exact .inl h
  · exact .inr (.inl h)

theorem xoverlaps_sound (c : Ctx F h w) {g : FuncId} {ts : List TypeId} {args : List SV} {vs : Array Value} (ha : StdL h args vs.toList) (hx : xoverlaps P h g ts args K) : Loud P F h w K (callFunc g vs) := by
  unfold xoverlaps at hx
  split at hx
  rotate_left
  · exact hx.elim
  rename_i tS tr m o l cp m' o' l' c'
  cases hb : Nat.beq m m' with
  | true => rw [hb] at hx; exact hx.elim
  | false =>
    rw [hb] at hx
    simp only [cond_false] at hx
    have hne : m ≠ m' := by rintro rfl; simp at hb
    split at hx
    rotate_left
    · exact hx.elim
    rename_i e hu
    split at hx
    · exact hx.elim
    rename_i inf hinf
    split at hx
    rotate_left
    · exact hx.elim
    rename_i b wd lst t b' t' base N cols he he'
    obtain ⟨⟨fn, tR, q1, q2, q3, q4, q5⟩, hN, hx⟩ := hx
    obtain ⟨hwd, hx⟩ := bif_false hx
    have hwd := Nat.le_of_ble_eq_true hwd
    rw [lenC_eq] at hwd
    obtain ⟨⟨ob, hob, hk⟩, hloc⟩ := c.blk he rfl
    obtain ⟨⟨ob', hob', hk'⟩, hloc'⟩ := c.blk he' rfl
    have hk0 := hk []
    simp only [SBlk.den, Blk.holds] at hk0
    subst hk0
    obtain ⟨arr, lo, hi, rfl, h1, h2, h3⟩ := hk' []
    have harr : arr.size ≠ 0 := by
      have := h2 0 0 cols[0] hN (List.getElem?_eq_getElem (by omega))
      have := (Array.getElem?_eq_some_iff.1 this).1
      omega
    have hv : ∃ v1 v2, vs = #[v1, v2] ∧ Std h (.slc m o l cp) v1 ∧ Std h (.slc m' o' l' c') v2 := by
      have hl := ha []
      simp only [denL] at hl
      refine ⟨_, _, by rw [← Array.toArray_toList (xs := vs), ← hl], fun r => ?_, fun r => ?_⟩
      · have := ha r; rw [← hl] at this; simp only [denL, List.cons.injEq] at this; exact this.1
      · have := ha r; rw [← hl] at this; simp only [denL, List.cons.injEq] at this; exact this.2.1
    obtain ⟨v1, v2, rfl, s1, s2⟩ := hv
    have e1 : v1 = .slice (some ⟨b, (0 + o) * wd, none⟩) l cp := by
      have := s1 []
      simp only [den, hloc [], SBlk.base, SBlk.wd] at this
      exact this.symm
    have e2 : v2 = .slice (some ⟨b', (base + o') * cols.length, none⟩) l' c' := by
      have := s2 []
      simp only [den, hloc' [], SBlk.base, SBlk.wd] at this
      exact this.symm
    subst e1 e2
    have hsz : (Go.sizeOf e).run P w = .ok inf.size w := run_sizeOf' hinf
    have hrun := Lib.run_overlaps_apart (P := P) w tS tR e hu inf.size (fun w => run_sizeOf' hinf) ⟨b, (0 + o) * wd, none⟩ ⟨b', (base + o') * cols.length, none⟩ l cp l' c' (own_apart c he he' hne) t t' _ arr.size
      (by simp only [World.shape?, hob]; rfl) (by simp only [World.shape?, hob']) harr (by simp [World.frozen?, hob]) (by simp [World.frozen?, hob])
    refine ⟨.ff, h, _, .bool false, w, hx, Ext.refl h, c, Rest.refl w, fun _ r => rfl, ?_, .inl rfl⟩
    rw [run_callFunc_extern q1 q2 q3 q4 q5, hrun]
    rfl
end
end Go.Sx
