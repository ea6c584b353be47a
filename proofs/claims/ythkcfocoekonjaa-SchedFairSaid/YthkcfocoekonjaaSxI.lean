/- The quiet operations are sound, third part: all together. -/
import Derived.Test.YthkcfocoekonjaaSxH
set_option linter.unusedVariables false
set_option linter.unusedSimpArgs false
namespace Go.Sx
open Classical
section
variable {P : Program} {F : List (Nat × Blk)} {h : List Ent} {w : World} {K : SV → Prop}

theorem bstr_slice (c : Ctx F h w) {n o len cap N base : Nat} {t : TypeId} {xs : List Int} {v : Value} {e : Ent} {b : Nat} (he : entAt h n = some e) (hb : e.blk = some (b, .tab t base N [.ints .u8 xs]))
    (hv : Std h (.slc n o len cap) v) (hl : o + len ≤ N) : (Conv.bytesToString v).run P w = .ok (.string (bstr xs o len)) w := by
  obtain ⟨⟨ob, hob, hk⟩, hloc⟩ := c.blk he hb
  have hv' : v = .slice (some ⟨b, (base + o) * 1, none⟩) len cap := by
    have := hv []
    simp only [den, hloc []] at this
    exact this.symm
  subst hv'
  have := bstr_run (P := P) (w := w) (len := len) hob (hk []) rfl hl
  simpa [Conv.bytesToString] using this

theorem xconvert_sound (c : Ctx F h w) {src dst : TypeId} {x : SV} {v : Value} (hv : x ≠ .top → Std h x v) (hx : xconvert P h src dst x K) : Ans P h w K (convert src dst v) := by
  unfold xconvert at hx
  split at hx
  · rename_i d k hs hd
    split at hx
    · have hv' : v = _ := (hv (by simp) []).symm
      subst hv'
      refine ⟨_, _, hx, by simp, fun r => rfl, ?_⟩
      simp [convert, run_underlying' hs, run_underlying' hd, den, Conv.intToInt]
    · exact hx.elim
  · rename_i hs hd
    split at hx
    · have hv' : v = _ := (hv (by simp) []).symm
      subst hv'
      refine ⟨_, _, hx, by simp, fun r => rfl, ?_⟩
      simp [convert, run_underlying' hs, run_underlying' hd, den]
    · exact hx.elim
  · rename_i e hs hd
    obtain ⟨hu8, hx⟩ := bif_false hx
    have hu8 := isU8_spec hu8
    have key : ∀ a n m, v = .slice a n m → (convert src dst v).run P w = (Conv.bytesToString v).run P w := by
      intro a n m hv
      subst hv
      simp [convert, run_underlying' hs, run_underlying' hd, run_underlying' hu8]
    split at hx
    · have hv' : v = _ := (hv (by simp) []).symm
      refine ⟨_, _, hx, by simp, fun r => rfl, ?_⟩
      rw [key _ _ _ hv', hv']
      simp [den, Conv.bytesToString]
    · rename_i n o len cap _
      obtain ⟨a, hv'⟩ : ∃ a, v = .slice a len cap := ⟨_, (hv (by simp) []).symm⟩
      split at hx
      · rename_i b t base N xs he
        obtain ⟨hl, hx⟩ := hx
        refine ⟨_, _, hx, by simp, fun r => rfl, ?_⟩
        rw [key _ _ _ hv', bstr_slice c he rfl (hv (by simp)) hl]
      · rename_i b t base N xs he
        obtain ⟨hl, hx⟩ := hx
        refine ⟨_, _, hx, by simp, fun r => rfl, ?_⟩
        rw [key _ _ _ hv', bstr_slice c he rfl (hv (by simp)) hl]
      · exact hx.elim
    · exact hx.elim
  · exact hx.elim

theorem xassert_sound {x : SV} {v : Value} {t asserted : TypeId} {ok : Bool} (hv : x ≠ .top → Std h x v) (hx : xassert P x asserted ok K) : Ans P h w K (Instr.typeAssert v t asserted ok) := by
  unfold xassert at hx
  split at hx
  · exact hx.elim
  · exact hx.elim
  · rename_i d hd hu
    split at hx
    · rename_i t' s
      obtain ⟨ht, hx2⟩ := bif_false hx
      have ht := Nat.eq_of_beq_eq_true ht
      subst ht
      obtain ⟨h1, h2⟩ := nt_spec hx2
      have hv0 := hv (by simp)
      obtain ⟨u, hu'⟩ : ∃ u, v = .iface t' u := ⟨_, (hv0 []).symm⟩
      subst hu'
      have hs : Std h s u := fun r => by
        have := hv0 r
        simp only [den, Value.iface.injEq, true_and] at this
        exact this
      have hrun : (Instr.typeAssert (.iface t' u) t t' ok).run P w = .ok (if ok then .tuple #[u, .bool true] else u) w := by
        simp only [Instr.typeAssert, Sem.run_bind, run_underlying' hu, Result.andThen_ok]
        cases d <;> first | (simp; done) | exact absurd rfl (hd _)
      cases ok with
      | true => exact ⟨_, _, h2, by simp, fun r => by simp [den, denL, hs r], hrun⟩
      | false => exact ⟨_, _, h2, h1, hs, hrun⟩
    · exact hx.elim

theorem setL_eq : ∀ (l : List SV) (o : Nat) (v : List SV), o + v.length ≤ l.length → setL l o v = l.take o ++ v ++ l.drop (o + v.length)
  | l, 0, v, _ => by cases l <;> simp [setL]
  | [], o + 1, v, h => by simp at h
  | a :: r, o + 1, v, h => by
    rw [setL, setL_eq r o v (by simp at h; omega)]
    simp [show o + 1 + v.length = (o + v.length) + 1 by omega]


theorem lenS_eq : ∀ l : List SV, lenS l = l.length
  | [] => rfl
  | _ :: r => by simp [lenS, lenS_eq r]

theorem foldl_set (vs : List Value) : ∀ (off k : Nat) (cells : Array Value), off + k + vs.length ≤ cells.size →
    ((vs.zipIdx k).foldl (fun (cs : Array Value) (x : Value × Nat) => cs.setIfInBounds (off + x.2) x.1) cells).toList = cells.toList.take (off + k) ++ vs ++ cells.toList.drop (off + k + vs.length) := by
  induction vs with
  | nil => intro off k cells _; simp
  | cons v vs ih =>
    intro off k cells hl
    simp only [List.length_cons] at hl
    rw [List.zipIdx_cons, List.foldl_cons, Nat.add_comm k 1, ih off (1 + k) _ (by simp; omega)]
    simp only [Array.toList_setIfInBounds]
    have h1 : off + k < cells.toList.length := by simp; omega
    rw [show off + (1 + k) = (off + k) + 1 by omega, List.take_succ_eq_append_getElem (by simpa using h1)]
    simp only [List.getElem_set_self, List.append_assoc, List.singleton_append, List.length_cons]
    rw [List.take_set_of_le (by omega), List.drop_set_of_lt (by omega)]
    simp [show off + k + 1 + vs.length = off + k + (vs.length + 1) by omega]

theorem cellsS_std {s : SV} {v : Value} (hs : s ≠ .top) (hv : Std h s v) : StdL h (cellsS s) v.cells.toList := by
  intro r
  have := hv r
  subst this
  cases s with
  | top => exact absurd rfl hs
  | agg l => simp [cellsS, den, Value.cells]
  | val u =>
    cases u with
    | agg cs => simp [cellsS, den, Value.cells, denL_svL]
    | _ => rfl
  | _ => rfl

theorem noTop_spec {l : List SV} (h : noTop l = true) : ∀ s ∈ l, s ≠ .top := by
  induction l with
  | nil => simp
  | cons a r ih =>
    intro s hs
    cases a with
    | top => cases h
    | _ =>
      rcases List.mem_cons.1 hs with rfl | hs
      · simp
      · exact ih h s hs

theorem StdL.length {l : List SV} {vs : List Value} (hl : StdL h l vs) : l.length = vs.length := by
  have := hl []
  rw [denL_eq] at this
  rw [← this, List.length_map]

/-- Numbered parts and their values. -/
def PartsStd (h : List Ent) : List (Nat × SV) → List (Nat × Value) → Prop
  | [], [] => True
  | (i, s) :: ss, (j, v) :: vs => i = j ∧ (s ≠ .top → Std h s v) ∧ PartsStd h ss vs
  | _, _ => False

theorem xfill_sound {pl : Nat → Option (Nat × Nat)} : ∀ {parts : List (Nat × SV)} {pv : List (Nat × Value)} {z : List SV} {cells : Array Value} {K : List SV → Prop}, PartsStd h parts pv → StdL h z cells.toList → xfill pl z parts K →
    ∃ l cs, K l ∧ StdL h l cs.toList ∧ Instr.fill pl cells pv = some cs
  | [], [], z, cells, K, _, hz, hx => ⟨z, cells, hx, hz, rfl⟩
  | [], _ :: _, _, _, _, hp, _, _ => hp.elim
  | _ :: _, [], _, _, _, hp, _, _ => hp.elim
  | (i, s) :: ss, (j, v) :: vs, z, cells, K, hp, hz, hx => by
    obtain ⟨rfl, hs, hp⟩ := hp
    simp only [xfill] at hx
    split at hx
    · exact hx.elim
    · rename_i off size hpl
      obtain ⟨hb, hx⟩ := bif_false hx
      simp only [Bool.and_eq_true, lenS_eq] at hb
      obtain ⟨h1, h2, h3⟩ := hb
      have h1 := Nat.eq_of_beq_eq_true h1
      have h2 := Nat.le_of_ble_eq_true h2
      have hst : s ≠ .top := by
        rintro rfl
        simp [cellsS, noTop] at h3
      have hc := cellsS_std hst (hs hst)
      have hlen := hc.length
      have hzl := hz.length
      simp only [Array.length_toList] at hlen hzl
      have hz' : StdL h (setL z off (cellsS s)) (v.cells.toList.zipIdx.foldl (fun (cs : Array Value) (x : Value × Nat) => cs.setIfInBounds (off + x.2) x.1) cells).toList := by
        intro r
        rw [foldl_set v.cells.toList off 0 cells (by simp; omega), setL_eq z off (cellsS s) h2, denL_eq]
        have e1 := hz r
        have e2 := hc r
        rw [denL_eq] at e1 e2
        simp only [List.map_append, List.map_take, List.map_drop, e1, e2, Nat.add_zero, Array.length_toList, hlen]
      obtain ⟨l, cs, h4, h5, h6⟩ := xfill_sound hp hz' hx
      refine ⟨l, cs, h4, h5, ?_⟩
      rw [Instr.fill, hpl]
      simp only []
      rw [if_neg (by simp; omega), ← h6]
      congr 1
      rw [← Array.foldl_toList, Array.toList_zipIdx]

theorem placesL_run : ∀ {fs : List Field} {pl : List (Nat × Nat)}, placesL P fs = some pl → (fs.mapM fun f => (do pure (f.offset, ← sizeOf f.type) : Sem (Nat × Nat))).run P w = .ok pl w
  | [], pl, h => by cases h; rfl
  | f :: fs, pl, h => by
    simp only [placesL] at h
    split at h
    · rename_i inf r h1 h2
      cases h
      rw [List.mapM_cons]
      simp only [Sem.run_bind, run_sizeOf' h1, Result.andThen_ok, Sem.run_pure, placesL_run h2]
    · cases h

theorem xbuild_sound {t : TypeId} {parts : List (Nat × SV)} {pv : Array (Nat × Value)} (hp : PartsStd h parts pv.toList) (hx : xbuild P t parts K) : Ans P h w K (Instr.build t pv) := by
  unfold xbuild at hx
  split at hx
  · exact hx.elim
  · rename_i inf hinf
    split at hx
    · exact hx.elim
    · rename_i z hz
      split at hx
      · rename_i fs hu
        split at hx
        · exact hx.elim
        · rename_i pl hpl
          obtain ⟨l, cs, h1, h2, h3⟩ := xfill_sound hp (fun r => denL_svL _ _) hx
          refine ⟨_, .agg cs, h1, by simp, fun r => by simp [den, h2 r], ?_⟩
          have hz' : (zeroValue t).run P w = .ok z w := by simp [zeroValue, run_typeInfo' hinf, hz]
          have hpm : (fs.mapM fun f => (do pure (f.offset, ← sizeOf f.type) : Sem (Nat × Nat))).run P w = .ok pl.toArray w := by
            have : fs = fs.toList.toArray := by simp
            rw [this, List.mapM_toArray, Sem.run_map, placesL_run hpl]
            rfl
          simp only [Instr.build, Sem.run_bind, hz', Result.andThen_ok, run_underlying' hu, hpm]
          have : (fun (x : Nat) => pl.toArray[x]?) = (fun (x : Nat) => pl[x]?) := by funext x; simp
          rw [this, h3]
          rfl
      · exact hx.elim

end
end Go.Sx
