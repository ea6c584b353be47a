/- The loud operations, ninth part: append of zero values where there is no room; the old block stays. -/
import Derived.Test.YthkcfocoekonjaaSxQb
import Derived.Lib.AppendZerosOnto
import Derived.Laws.AppendOwn
set_option linter.unusedVariables false
set_option linter.unusedSimpArgs false
namespace Go.Sx
open Classical

noncomputable def xapp0 (P : Program) (h : List Ent) (ts : List TypeId) (s x : SV) (K : SV → List Ent → Prop) : Prop :=
  match ts with
  | [t, tn] => (match P.underlying t, P.underlying tn with
    | some (.slice e), some (.int _) => (match P.info? e with
      | none => False
      | some inf => match inf.zero with
        | none => False
        | some z => bif Nat.ble inf.bytes 1048576 && (Nat.ble 1 inf.bytes && (Nat.beq (lenV z.cells.toList) inf.size && (Nat.ble 1 inf.size && allOne z.cells.toList))) then
            (match s, x with
            | .slc m o len cap, .val (.int _ k) => (match entAt h m with
              | none => False
              | some e' => match e'.blk with
                | none => False
                | some (_, kb) => (1 ≤ k ∧ (cap : Int) < len + k ∧ (len + k.toNat) * inf.bytes ≤ 140737488355328) ∧ srcCols (locs h) kb o len fun oc => bif zKinds z.cells.toList oc then
                    catCols oc (repCols k.toNat z.cells.toList) fun ec => ∀ b cap', len + k.toNat ≤ cap' → spareK (cap' - (len + k.toNat)) ec fun ec' =>
                      appK h (.own b (.tab e 0 cap' ec')) fun h' => K (.slc (lenE h) 0 (len + k.toNat) cap') h'
                  else False)
            | _, _ => False)
          else False)
    | _, _ => False)
  | _ => False

section
variable {P : Program} {F : List (Nat × Blk)} {h : List Ent} {w : World} {K : SV → List Ent → Prop}

theorem repCols_are {z : Array Value} {n : Nat} (h1 : allOne z.toList = true) : ColsAre (repCols n z.toList) n (fun _ j => z[j]!) := by
  have hrep : ∀ v, (repCol n v).len = n ∧ ∀ i, i < n → (repCol n v).get i = v := by
    intro v
    cases v <;> refine ⟨by simp [repCol, Col.len], fun i hi => ?_⟩ <;> simp [repCol, Col.get, List.getD, List.getElem?_replicate, hi]
  refine ⟨fun c hc => ?_, fun i j c hi hj => ?_, fun i j hi hj => ?_⟩
  · rw [repCols_eq] at hc
    obtain ⟨v, _, rfl⟩ := List.mem_map.1 hc
    exact (hrep v).1
  · rw [repCols_eq, List.getElem?_map] at hj
    cases hv : z.toList[j]? with
    | none => rw [hv] at hj; cases hj
    | some v =>
      rw [hv] at hj
      simp at hj
      subst hj
      rw [(hrep v).2 i hi, get_bang hv]
  · rw [repCols_eq, List.length_map] at hj
    have hv : z.toList[j]? = some z.toList[j] := List.getElem?_eq_getElem hj
    rw [get_bang hv]
    exact allOne_spec h1 _ (List.getElem_mem hj)

theorem xapp0_sound (c : Ctx F h w) {ts : Array TypeId} {tt : TypeId} {args : Array Value} {s x : SV} {vs vx : Value} (ha : args.toList = [vs, vx])
    (hs : s ≠ .top → Std h s vs) (hxx : x ≠ .top → Std h x vx) (hx : xapp0 P h ts.toList s x K) : Loud P F h w K (do pure (.value (← Builtin.append_ ts tt args))) := by
  have hargs : args = #[vs, vx] := by rw [← Array.toArray_toList (xs := args), ha]
  unfold xapp0 at hx
  split at hx
  rotate_left
  · exact hx.elim
  rename_i t tn hts
  have hts' : ts = #[t, tn] := by rw [← Array.toArray_toList (xs := ts), hts]
  subst hts' hargs
  clear hts
  split at hx
  rotate_left
  · exact hx.elim
  rename_i e kn hu hun
  split at hx
  · exact hx.elim
  rename_i inf hinf
  split at hx
  · exact hx.elim
  rename_i z hz
  obtain ⟨hchk, hx⟩ := bif_false hx
  simp only [Bool.and_eq_true] at hchk
  obtain ⟨k1, k2, k3, k4, k5⟩ := hchk
  have k1 := Nat.le_of_ble_eq_true k1
  have k2 := Nat.le_of_ble_eq_true k2
  have k3 := Nat.eq_of_beq_eq_true k3
  rw [lenV_eq, Array.length_toList] at k3
  have k4 := Nat.le_of_ble_eq_true k4
  split at hx
  rotate_left
  · exact hx.elim
  rename_i m o len cap kq k _
  split at hx
  · exact hx.elim
  rename_i e' he
  split at hx
  · exact hx.elim
  rename_i b kb hb
  obtain ⟨⟨hk1, hgrow, hsz⟩, hx⟩ := hx
  obtain ⟨⟨ob, hob, hk⟩, hloc⟩ := c.blk he hb
  obtain ⟨oc, fo, hx, hocl, hofc, hocell⟩ := srcCols_spec hk hx
  obtain ⟨hzk, hx⟩ := bif_false hx
  obtain ⟨z1, z2⟩ := zKinds_spec hzk
  have hwd : kb.wd = inf.size := by rw [← hocl, ← z1]; simpa using k3
  obtain ⟨ec, hx, hec, hrl, hecf, heck⟩ := catCols_spec hx hofc (repCols_are (n := k.toNat) k5)
  have hvs : vs = .slice (some ⟨b, (kb.base + o) * kb.wd, none⟩) len cap := by
    have := hs (by simp) []
    simp only [den, hloc []] at this
    exact this.symm
  have hvx : vx = .int kq k := (hxx (by simp) []).symm
  obtain ⟨kk, hkk⟩ : ∃ kk : Nat, k = kk := ⟨k.toNat, by omega⟩
  subst hkk
  simp only [Int.toNat_natCast] at hx hsz hecf
  have hold : (Builtin.firstCells inf.size len (.slice (some ⟨b, (kb.base + o) * kb.wd, none⟩) len cap)).run P w.drew = .ok (flatV fo inf.size len).toArray w.drew := by
    rw [← hwd]
    refine run_firstCells_slice (o := ob) hob (fun i j hi hj => ?_) (by omega)
    rw [← hocell i j hi hj, Nat.add_mul (kb.base + o)]
  have hcapfit : Builtin.nextslicecap (len + kk) cap * inf.bytes ≤ 281474976710656 := by
    have h1 := nextcap_le (need := len + kk) (cap := cap) (by omega)
    have h2 : Builtin.nextslicecap (len + kk) cap * inf.bytes ≤ ((len + kk) + (len + kk) / 4 + 512) * inf.bytes := Nat.mul_le_mul_right _ h1
    have h3 : ((len + kk) + (len + kk) / 4 + 512) * inf.bytes = (len + kk) * inf.bytes + (len + kk) / 4 * inf.bytes + 512 * inf.bytes := by rw [Nat.add_mul, Nat.add_mul]
    have h4 : (len + kk) / 4 * inf.bytes * 4 ≤ (len + kk) * inf.bytes := by
      rw [Nat.mul_assoc, Nat.mul_comm inf.bytes 4, ← Nat.mul_assoc]
      exact Nat.mul_le_mul_right _ (Nat.div_mul_le_self _ _)
    omega
  have hle1 : len + kk ≤ (len + kk) * inf.bytes := Nat.le_mul_of_pos_right _ k2
  have hkb : kk * inf.bytes ≤ (len + kk) * inf.bytes := Nat.mul_le_mul_right _ (by omega)
  have hrun := Lib.run_append_grow_zeros (P := P) w t tn tt e inf z kq kn hu hun hinf hz (some ⟨b, (kb.base + o) * kb.wd, none⟩) len cap _ hold kk (by omega) (by omega) (by omega) (by omega) (by omega) hcapfit
  have hcap := grownCap_ge w (len + kk) cap e
  generalize grownCap w (len + kk) cap e = cap' at hrun hcap
  have hzg : ∀ (i j : Nat) (c : Col), ec[j]? = some c → fitsC c z.cells[j]! := fun i j c hj => by
    have hjl := (List.getElem?_eq_some_iff.1 hj).1
    have hoj : oc[j]? = some (oc[j]'(by omega)) := List.getElem?_eq_getElem _
    obtain ⟨v, hv, hf⟩ := z2 j _ hoj
    rw [get_bang hv]
    exact heck j _ c hoj hj v hf
  have hzo : ∀ (i j : Nat), j < ec.length → (z.cells[j]!).oneCell' = true := fun i j hj => by
    have hjl : j < z.cells.toList.length := by simp; omega
    have hv : z.cells.toList[j]? = some z.cells.toList[j] := List.getElem?_eq_getElem hjl
    rw [get_bang hv]
    exact allOne_spec k5 _ (List.getElem_mem hjl)
  obtain ⟨ec', hx, h4, h5⟩ := spareK_spec (fun _ j => z.cells[j]!) (hx w.heap.size cap' hcap) hecf (fun i j c _ hj => hzg i j c hj) (fun i j _ hj => hzo i j hj)
  have hx := appK_iff hx
  have hcells : (flatV fo inf.size len).toArray ++ Builtin.zeroCells z.cells kk = (flatV (fun i j => if i < len then fo i j else z.cells[j]!) inf.size (len + kk)).toArray := by
    apply Array.toList_inj.1
    rw [Array.toList_append, zeroCells_list (by omega), k3]
    exact flatV_app fo (fun _ j => z.cells[j]!) inf.size len kk
  rw [hcells] at hrun
  refine ⟨_, _, _, _, _, hx, Ext.app _ _, (c.drew (w.drawn + 1)).push (o := .cells ((flatV (fun i j => if i < len then fo i j else z.cells[j]!) inf.size (len + kk)).toArray ++ Builtin.zeroCells z.cells (cap' - (len + kk))) e (0, 0)) (fun r => ?_), ⟨rfl, rfl, rfl, by simp⟩, fun _ r => ?_, by simp only [hvs, hvx, Sem.run_bind, hrun, Result.andThen_ok, Sem.run_pure]; rfl, .inl rfl⟩
  · exact grown_holds (cs := ec) (wd := inf.size) (g := fun _ j => z.cells[j]!) (by omega) (by omega) (by omega) hcap h5 (fun i j _ => rfl) _
  · simp only [den, loc_new, SBlk.base]; simp
end
end Go.Sx
