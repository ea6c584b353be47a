/- The quiet operations are sound: the one theorem. -/
import Derived.Test.YthkcfocoekonjaaSxI
import Derived.Laws.StructEq
import Derived.ChangeKeysEq
set_option linter.unusedVariables false
set_option linter.unusedSimpArgs false
namespace Go.Sx
open Classical
section
variable {P : Program} {F : List (Nat × Blk)} {h : List Ent} {w : World} {K : SV → Prop}

theorem guard_int (op : BinOp) (t : TypeId) (x y : Operand) (k : IntKind) (a : Int) (v : Value) : (eqGuard op t x y (.int k a) v).run P w = .ok () w := by
  unfold eqGuard; cases op <;> rfl
theorem guard_str (op : BinOp) (t : TypeId) (x y : Operand) (a : ByteArray) (v : Value) : (eqGuard op t x y (.string a) v).run P w = .ok () w := by
  unfold eqGuard; cases op <;> rfl
theorem guard_plain {op : BinOp} {t : TypeId} {x y : Operand} {vx vy : Value}
    (hp : (∃ c, vx = .bool c) ∨ (∃ a, vx = .pointer a) ∨ (∃ a n m, vx = .slice a n m) ∨ (∃ a, vx = .map a) ∨ vx = .nilFunc ∨ ∃ f c d, vx = .func f c d) :
    (eqGuard op t x y vx vy).run P w = .ok () w := by
  rcases hp with ⟨_, rfl⟩ | ⟨_, rfl⟩ | ⟨_, _, _, rfl⟩ | ⟨_, rfl⟩ | rfl | ⟨_, _, _, rfl⟩ <;> (unfold eqGuard; cases op <;> rfl)

theorem binOp_eq {op : BinOp} {t : TypeId} {vx vy : Value} {neg b : Bool} (hop : op = if neg then .neq else .eql)
    (e : EqAns P w t vx vy b) : (binOp op t vx vy).run P w = .ok (.bool (bif neg then !b else b)) w := by
  have hr := e.run
  have hb := e.both
  rcases e.plain with ⟨c, rfl⟩ | ⟨a, rfl⟩ | ⟨a, n, m, rfl⟩ | ⟨a, rfl⟩ | rfl | ⟨f, c, d, rfl⟩ <;> cases neg <;> subst hop
  all_goals first
    | (simp only [binOp, Bool.false_eq_true, if_false, if_true, Sem.run_bind, hr, Result.andThen_ok, Sem.run_pure]; rfl)
    | (obtain ⟨b', rfl⟩ := hb ⟨_, rfl⟩; cases a <;> cases b' <;> simp only [binOp, Bool.false_eq_true, if_false, if_true, Sem.run_bind, hr, Result.andThen_ok, Sem.run_pure] <;> rfl)

theorem eqCells_spec : ∀ {l l' : List SV} {K : Prop → Prop}, eqCells l l' K → ∃ p : Prop, K p ∧ l.length = l'.length ∧
    ∀ (ρ : List Loc) (d i : Nat) (fs : List Field) (A A' : List Value), goodF P i fs = true → fs.length = l.length → A.length = i → A'.length = i →
      (Op.eqFields (d + 1) (A ++ denL ρ l).toArray (A' ++ denL ρ l').toArray fs).run P w = .ok (decide p) w
  | [], [], K, h => ⟨True, h, rfl, fun ρ d i fs A A' _ hl _ _ => by
    have : fs = [] := List.eq_nil_of_length_eq_zero (by simpa using hl)
    subst this
    simp [Op.eqFields]⟩
  | .val (.int k a) :: r, .val (.int k' b) :: r', K, h => by
    have hk : kSame k k' (eqCells r r' fun p => K (a = b ∧ p)) := h
    obtain ⟨rfl, hk2⟩ := kSame_iff hk
    obtain ⟨p, h1, h2, h3⟩ := eqCells_spec hk2
    refine ⟨a = b ∧ p, h1, by simp [h2], fun ρ d i fs A A' hg hl ha ha' => ?_⟩
    cases fs with
    | nil => simp at hl
    | cons f fs =>
      simp only [goodF, Bool.and_eq_true, Bool.not_eq_true'] at hg
      obtain ⟨⟨⟨g1, g2⟩, g3⟩, g4⟩ := hg
      have g2 := Nat.eq_of_beq_eq_true g2
      split at g3
      · rename_i k' hu
        have hk : P.plainKey f.type = true := by unfold Program.plainKey; rw [hu]
        have e1 : (A ++ denL ρ (.val (.int k a) :: r)).toArray[f.offset]? = some (.int k a) := by
          rw [g2, ← ha]; simp [denL, den]
        have e2 : (A' ++ denL ρ (.val (.int k b) :: r')).toArray[f.offset]? = some (.int k b) := by
          rw [g2, ← ha']; simp [denL, den]
        have hn : f.name ≠ "_" := by simpa using g1
        have ih := h3 ρ d (i + 1) fs (A ++ [.int k a]) (A' ++ [.int k b]) g4 (by simpa using hl) (by simp [ha]) (by simp [ha'])
        simp only [Op.eqFields, hn, ne_eq, not_false_eq_true, if_true, Sem.run_bind, run_part_plain w hk e1, run_part_plain w hk e2, Result.andThen_ok, run_equalIn_int w d f.type k k' a b hu]
        by_cases hab : a = b
        · subst hab
          simp only [denL, den, List.append_assoc, List.cons_append, List.nil_append] at ih ⊢
          simpa using ih
        · simp [hab]
      · cases g3

theorem xseq_sound {op : BinOp} {t : TypeId} {l l' : List SV} {vx vy : Value} {ox oy : Operand} {neg : Bool} (hop : op = if neg then .neq else .eql)
    (hx : Std h (.agg l) vx) (hy : Std h (.agg l') vy) (hk : xseq P t neg l l' K) : Ans P h w K (do eqGuard op t ox oy vx vy; binOp op t vx vy) := by
  obtain ⟨hp, hk⟩ := hk
  obtain ⟨p, h1, h2, h3⟩ := eqCells_spec (P := P) (w := w) hk
  have e1 : vx = .agg (denL (locs h ++ []) l).toArray := (hx []).symm
  have e2 : vy = .agg (denL (locs h ++ []) l').toArray := (hy []).symm
  unfold plainStruct at hp
  split at hp
  · rename_i fs hu
    simp only [Bool.and_eq_true, Bool.not_eq_true'] at hp
    obtain ⟨⟨⟨g1, g2⟩, g3⟩, g4⟩ := hp
    have g3 := Nat.eq_of_beq_eq_true g3
    have hf : P.fieldsOf t = fs := by simp [Program.fieldsOf, hu]
    have hr := h3 (locs h ++ []) 9998 0 fs.toList [] [] g4 (by simpa using g3) rfl rfl
    simp only [List.nil_append] at hr
    have he : (Op.equalIn 10000 t vx vy).run P w = .ok (decide p) w := by
      rw [e1, e2, show 10000 = 9999 + 1 from rfl, run_equalIn_struct w 9999 t _ _ (by rw [hf]; exact hu) g2, hf]
      exact hr
    refine ⟨_, _, h1, by simp, fun r => rfl, ?_⟩
    subst hop
    rw [e1, e2] at he ⊢
    cases neg
    · simp only [Bool.false_eq_true, if_false, Sem.run_bind, run_eqGuard_agg w .eql t ox oy _ _ g1, Result.andThen_ok, run_eql_struct w t, he, den, cond_false]
    · simp only [if_true, Sem.run_bind, run_eqGuard_agg w .neq t ox oy _ _ g1, Result.andThen_ok, run_neq_struct w t, he, den, cond_true]
      by_cases hp : p <;> simp [hp]
  · cases hp

theorem xbin_sound {op : BinOp} {t : TypeId} {x y : SV} {vx vy : Value} {ox oy : Operand} (hx : x ≠ .top → Std h x vx) (hy : y ≠ .top → Std h y vy) (hk : xbin P op t x y K) :
    Ans P h w K (do eqGuard op t ox oy vx vy; binOp op t vx vy) := by
  have eqs : ∀ neg, op = (if neg then .neq else .eql) → x ≠ .top → y ≠ .top → xeq P t neg x y K → Ans P h w K (do eqGuard op t ox oy vx vy; binOp op t vx vy) := by
    intro neg hop h1 h2 hk
    obtain ⟨b, he, s, h3, h4, h5⟩ := xeq_sound (w := w) (hx h1) (hy h2) hk
    refine ⟨s, _, h3, h4, h5, ?_⟩
    simp only [Sem.run_bind, guard_plain he.plain, Result.andThen_ok]
    exact binOp_eq hop he
  have fall : (match op with | .eql => xeq P t false x y K | .neq => xeq P t true x y K | _ => False) → Ans P h w K (do eqGuard op t ox oy vx vy; binOp op t vx vy) := by
    intro hk
    have nt1 : ∀ neg, xeq P t neg .top y K → False := by
      intro neg h
      unfold xeq at h
      split at h
      · simp [isB] at h
      all_goals first | exact h.elim | (rcases nilCmp_cases h with ⟨_, h, _⟩ | ⟨h, _⟩ <;> cases h)
    have nt2 : ∀ neg, xeq P t neg x .top K → False := by
      intro neg h
      unfold xeq at h
      split at h
      · split at h
        · rename_i h2; cases h2
        · exact h.elim
      all_goals first | exact h.elim | (rcases nilCmp_cases h with ⟨_, _, h, _⟩ | ⟨_, h, _⟩ <;> cases h)
    split at hk
    · exact eqs false rfl (by rintro rfl; exact nt1 _ hk) (by rintro rfl; exact nt2 _ hk) hk
    · exact eqs true rfl (by rintro rfl; exact nt1 _ hk) (by rintro rfl; exact nt2 _ hk) hk
    · exact hk.elim
  unfold xbin at hk
  split at hk
  · rename_i k a k' b
    have e1 : vx = .int k a := (hx (by simp) []).symm
    have e2 : vy = .int k' b := (hy (by simp) []).symm
    subst e1 e2
    simp only [Ans, Sem.run_bind, guard_int, Result.andThen_ok]
    split at hk
    · obtain ⟨h0, hk⟩ := hk
      refine ⟨_, _, hk, by simp, fun r => rfl, ?_⟩
      simp [binOp, Op.shift, show ¬ b < 0 by omega, ishl]
    · obtain ⟨h0, hk⟩ := hk
      refine ⟨_, _, hk, by simp, fun r => rfl, ?_⟩
      simp [binOp, Op.shift, show ¬ b < 0 by omega, ishr]
    · obtain ⟨rfl, hk2⟩ := kSame_iff hk
      exact xint_sound hk2
  · rename_i a b
    have e1 : vx = .string a := (hx (by simp) []).symm
    have e2 : vy = .string b := (hy (by simp) []).symm
    subst e1 e2
    simp only [Ans, Sem.run_bind, guard_str, Result.andThen_ok]
    split at hk
    · refine ⟨_, _, hk, by simp, fun r => rfl, ?_⟩
      simp [binOp, Op.stringOp]
      by_cases hab : a.toList = b.toList <;> simp [hab]
    · refine ⟨_, _, hk, by simp, fun r => rfl, ?_⟩
      simp [binOp, Op.stringOp]
      by_cases hab : a.toList = b.toList <;> simp [hab]
    · obtain ⟨h0, hk⟩ := hk
      refine ⟨_, _, hk, by simp, fun r => rfl, ?_⟩
      have : ¬ ((a.size + b.size : Nat) : Int) > IntKind.i64.max := by
        have : IntKind.i64.max = 9223372036854775807 := by decide
        rw [this]; omega
      simp only [binOp, Op.stringOp]
      rw [if_neg this]
      rfl
    · exact hk.elim
  · rename_i l l'
    split at hk
    · exact xseq_sound (neg := false) rfl (hx (by simp)) (hy (by simp)) hk
    · exact xseq_sound (neg := true) rfl (hx (by simp)) (hy (by simp)) hk
    · exact hk.elim
  · exact fall hk

theorem eqIn_nn (d : Nat) {t : TypeId} {ms} (hu : P.underlying t = some (.interface ms)) : (Op.equalIn (d + 1) t .nilIface .nilIface).run P w = .ok true w := by
  simp only [Op.equalIn, Sem.run_bind, run_underlying' hu, Result.andThen_ok, Sem.run_pure]
theorem eqIn_ni (d : Nat) {t : TypeId} {ms} (hu : P.underlying t = some (.interface ms)) (u z) : (Op.equalIn (d + 1) t .nilIface (.iface u z)).run P w = .ok false w := by
  simp only [Op.equalIn, Sem.run_bind, run_underlying' hu, Result.andThen_ok, Sem.run_pure]
theorem eqIn_in (d : Nat) {t : TypeId} {ms} (hu : P.underlying t = some (.interface ms)) (u z) : (Op.equalIn (d + 1) t (.iface u z) .nilIface).run P w = .ok false w := by
  simp only [Op.equalIn, Sem.run_bind, run_underlying' hu, Result.andThen_ok, Sem.run_pure]
theorem guard_nil {op : BinOp} {t : TypeId} {ox oy : Operand} (hc : (isConstO ox || isConstO oy) = true) : (eqGuard op t ox oy .nilIface .nilIface).run P w = .ok () w := by
  unfold eqGuard
  cases ox <;> cases oy <;> first | (simp [isConstO] at hc; done) | (cases op <;> rfl)

theorem xifc_sound {op : BinOp} {t : TypeId} {x y : SV} {vx vy : Value} {ox oy : Operand} {neg : Bool} (hop : op = if neg then .neq else .eql) (ht : isIface P t = true)
    (hx : x ≠ .top → Std h x vx) (hy : y ≠ .top → Std h y vy) (hk : xifc P neg (isConstO ox || isConstO oy) x y K) :
    Ans P h w K (do eqGuard op t ox oy vx vy; binOp op t vx vy) := by
  obtain ⟨ms, hu⟩ : ∃ ms, P.underlying t = some (.interface ms) := by
    unfold isIface at ht
    split at ht
    · exact ⟨_, by assumption⟩
    · cases ht
  unfold xifc at hk
  have hiface : ∀ b, (Op.equal t vx vy).run P w = .ok b w → (∀ k n, vx ≠ .int k n) → (∃ u z, vx = .iface u z) ∨ vx = .nilIface → (binOp op t vx vy).run P w = .ok (.bool (bif neg then !b else b)) w ∨ True := fun _ _ _ _ => .inr trivial
  clear hiface
  split at hk
  · obtain ⟨hc, hk⟩ := bif_false hk
    have e1 : vx = .nilIface := (hx (by simp) []).symm
    have e2 : vy = .nilIface := (hy (by simp) []).symm
    subst e1 e2
    refine ⟨_, .bool (!neg), hk, by cases neg <;> simp [bSV], fun r => den_bSV _ _, ?_⟩
    have hg : (eqGuard op t ox oy .nilIface .nilIface).run P w = .ok () w := guard_nil hc
    simp only [Sem.run_bind, hg, Result.andThen_ok]
    have he : (Op.equal t .nilIface .nilIface).run P w = .ok true w := by
      exact eqIn_nn 9999 hu
    subst hop
    cases neg <;> simp only [binOp, Bool.false_eq_true, if_false, if_true, Sem.run_bind, he, Result.andThen_ok, Sem.run_pure] <;> rfl
  · have e1 : vx = .nilIface := (hx (by simp) []).symm
    obtain ⟨u, z, e2⟩ : ∃ u z, vy = .iface u z := ⟨_, _, (hy (by simp) []).symm⟩
    subst e1 e2
    refine ⟨_, .bool neg, hk, by cases neg <;> simp [bSV], fun r => den_bSV _ _, ?_⟩
    have hg : (eqGuard op t ox oy .nilIface (.iface u z)).run P w = .ok () w := by unfold eqGuard; cases op <;> rfl
    have he : (Op.equal t .nilIface (.iface u z)).run P w = .ok false w := by
      exact eqIn_ni 9999 hu u z
    simp only [Sem.run_bind, hg, Result.andThen_ok]
    subst hop
    cases neg <;> simp only [binOp, Bool.false_eq_true, if_false, if_true, Sem.run_bind, he, Result.andThen_ok, Sem.run_pure] <;> rfl
  · have e2 : vy = .nilIface := (hy (by simp) []).symm
    obtain ⟨u, z, e1⟩ : ∃ u z, vx = .iface u z := ⟨_, _, (hx (by simp) []).symm⟩
    subst e1 e2
    refine ⟨_, .bool neg, hk, by cases neg <;> simp [bSV], fun r => den_bSV _ _, ?_⟩
    have hg : (eqGuard op t ox oy (.iface u z) .nilIface).run P w = .ok () w := by unfold eqGuard; cases op <;> rfl
    have he : (Op.equal t (.iface u z) .nilIface).run P w = .ok false w := by
      exact eqIn_in 9999 hu u z
    simp only [Sem.run_bind, hg, Result.andThen_ok]
    subst hop
    cases neg <;> simp only [binOp, Bool.false_eq_true, if_false, if_true, Sem.run_bind, he, Result.andThen_ok, Sem.run_pure] <;> rfl
  · exact hk.elim

theorem mapE_eq (e : Operand → SV) : ∀ l : List Operand, mapE e l = l.map e
  | [] => rfl
  | _ :: r => by simp [mapE, mapE_eq e r]
theorem argsStd_map {e : Operand → SV} {rv : Operand → Value} (hrv : ∀ x, e x ≠ .top → Std h (e x) (rv x)) : ∀ l : List Operand, ArgsStd h (mapE e l) (l.map rv)
  | [] => trivial
  | x :: r => ⟨hrv x, argsStd_map hrv r⟩
theorem partsStd_map {e : Operand → SV} {rv : Operand → Value} (hrv : ∀ x, e x ≠ .top → Std h (e x) (rv x)) : ∀ l : List (Nat × Operand), PartsStd h (mapP e l) (l.map fun (i, x) => (i, rv x))
  | [] => trivial
  | (i, x) :: r => ⟨rfl, hrv x, partsStd_map hrv r⟩
theorem optStd_map {e : Operand → SV} {rv : Operand → Value} (hrv : ∀ x, e x ≠ .top → Std h (e x) (rv x)) (o : Option Operand) : OptStd h (o.map e) (o.map rv) := by
  cases o with
  | none => trivial
  | some x => exact hrv x
theorem argsStd_all {e : Operand → SV} {rv : Operand → Value} (hrv : ∀ x, e x ≠ .top → Std h (e x) (rv x)) {l : List Operand} (ht : noTop (mapE e l) = true) : StdL h (mapE e l) (l.map rv) := by
  intro r
  have := noTop_spec ht
  rw [denL_eq, mapE_eq] at *
  rw [List.map_map]
  apply List.map_congr_left
  intro x hx
  exact hrv x (this _ (List.mem_map_of_mem hx)) r

/-- The quiet operations are sound. -/
theorem xq_sound (c : Ctx F h w) {e : Operand → SV} {rv : Operand → Value} (hrv : ∀ x, e x ≠ .top → Std h (e x) (rv x)) {o : Oper} (hx : xq P h e o.op K) :
    ∃ s v, K s ∧ s ≠ .top ∧ Std h s v ∧ (execOp rv o).run P w = .ok (.value v) w := by
  obtain ⟨dst, op, type, pos, after, guard⟩ := o
  simp only at hx
  have lift : ∀ {m : Sem Value}, Ans P h w K m → execOp rv ⟨dst, op, type, pos, after, guard⟩ = (do pure (.value (← m))) →
      ∃ s v, K s ∧ s ≠ .top ∧ Std h s v ∧ (execOp rv ⟨dst, op, type, pos, after, guard⟩).run P w = .ok (.value v) w := by
    rintro m ⟨s, v, h1, h2, h3, h4⟩ he
    exact ⟨s, v, h1, h2, h3, by rw [he]; simp [h4]⟩
  unfold xq at hx
  split at hx
  · obtain ⟨h1, h2⟩ := nt_spec hx
    exact ⟨_, _, h2, h1, hrv _ h1, rfl⟩
  · obtain ⟨h1, h2⟩ := nt_spec hx
    exact ⟨_, _, h2, h1, hrv _ h1, rfl⟩
  · rename_i c a b
    have hc : e c ≠ .top := by intro h; rw [h] at hx; exact hx.elim
    obtain ⟨s, v, h1, h2, h3, h4⟩ := xpick_sound (P := P) (w := w) (hrv c hc) (hrv a) (hrv b) hx
    refine ⟨s, v, h1, h2, h3, ?_⟩
    simp only [execOp]
    revert h4
    simp only [Sem.run_bind]
    generalize (asBool (rv c)).run P w = q
    cases q <;> simp
  · rename_i t x
    split at hx
    · rename_i n i j he
      have hx' := hrv x (by rw [he]; simp)
      rw [he] at hx'
      obtain ⟨s, v, h1, h2, h3, h4⟩ := xload_sound c hx
      refine lift (m := Instr.loadAt t (rv x)) ⟨s, v, h1, h2, h3, ?_⟩ rfl
      have h5 := hx' []
      simp only [den] at h5
      rw [← h5]
      simp only [Instr.loadAt, Instr.sureAddr, Sem.run_bind, Sem.run_pure, Result.andThen_ok]
      exact h4 []
    · exact hx.elim
  · rename_i x
    split at hx
    · rename_i n i j he
      have hx' := hrv x (by rw [he]; simp)
      rw [he] at hx'
      obtain ⟨a, ha⟩ : ∃ a, rv x = .pointer (some a) := ⟨_, (hx' []).symm⟩
      refine ⟨_, rv x, hx, by simp, hx', ?_⟩
      simp only [execOp, ha]
      rfl
    · rename_i f cs he
      have hx' := hrv x (by rw [he]; simp)
      rw [he] at hx'
      obtain ⟨a, ha⟩ : ∃ a, rv x = .func (.func f) #[] a := ⟨_, (hx' []).symm⟩
      refine ⟨_, rv x, hx, by simp, hx', ?_⟩
      simp only [execOp, ha]
      rfl
    · exact hx.elim
  · rename_i op t x y _
    cases hi : isIface P t with
    | true =>
      rw [hi] at hx
      simp only [cond_true] at hx
      split at hx
      · exact lift (xifc_sound (neg := false) rfl hi (hrv x) (hrv y) hx) rfl
      · exact lift (xifc_sound (neg := true) rfl hi (hrv x) (hrv y) hx) rfl
      · exact hx.elim
    | false =>
      rw [hi] at hx
      exact lift (xbin_sound (hrv x) (hrv y) hx) rfl
  · rename_i op t x
    have hc : e x ≠ .top := by intro h; rw [h] at hx; unfold xun at hx; split at hx <;> first | exact hx.elim | (rename_i h'; cases h') | skip
    exact lift (xun_sound (hrv x hc) hx) rfl
  · exact lift (xconvert_sound c (hrv _) hx) rfl
  · exact lift (xslice_sound (hrv _) (optStd_map hrv _) (optStd_map hrv _) (optStd_map hrv _) hx) rfl
  · exact lift (xfieldAddr_sound (hrv _) hx) rfl
  · exact lift (xfield_sound (hrv _) hx) rfl
  · exact lift (xindexAddr_sound (hrv _) (hrv _) hx) rfl
  · exact lift (xlookup_sound c (hrv _) (hrv _) hx) rfl
  · exact lift (xextract_sound (hrv _) hx) rfl
  · rename_i t x
    obtain ⟨h1, h2⟩ := nt_spec hx
    have hv := hrv x h1
    split at h2
    · exact h2.elim
    · exact h2.elim
    · rename_i d hd hu
      refine lift (m := Instr.makeInterface t (rv x)) ⟨_, .iface t (rv x), h2, by simp, fun r => by simp [den, hv r], ?_⟩ rfl
      simp only [Instr.makeInterface, Sem.run_bind, run_underlying' hu, Result.andThen_ok]
      cases d <;> first | rfl | exact absurd rfl (hd _)
  · rename_i f first caps
    split at hx
    · rename_i hf
      obtain ⟨ht, hx⟩ := bif_false hx
      have hfe : first = #[] := by apply Array.toList_inj.1; rw [hf]
      subst hfe
      have hs := argsStd_all hrv ht
      refine lift (m := Instr.makeFunc (.func f) ((#[] : Array Operand).map rv) (caps.map rv)) ⟨_, .func (.func f) #[] (caps.map rv), hx, by simp, fun r => ?_, ?_⟩ rfl
      · simp only [den, hs r]
        congr 1
        apply Array.toList_inj.1
        simp
      · simp [Instr.makeFunc]
    · exact hx.elim
  · exact lift (xassert_sound (hrv _) hx) rfl
  · rename_i t parts
    refine lift (xbuild_sound (pv := parts.map fun (i, x) => (i, rv x)) ?_ hx) rfl
    have := partsStd_map hrv parts.toList
    simpa using this
  · rename_i b args ts
    have hr : resolve rv { callee := .builtin b, args := args, argTypes := ts } type = pure { target := .builtin b ts type (args.map fun | .const _ => true | _ => false), args := args.map rv } := rfl
    have hargs := argsStd_map hrv args.toList
    split at hx
    · rename_i x xs t tr h1 h2
      rw [h1] at hargs
      have ht0 : ts[0]? = some t := by rw [← Array.getElem?_toList, h2]; rfl
      cases hm : args.toList.map rv with
      | nil => rw [hm] at hargs; exact hargs.elim
      | cons v vs =>
        rw [hm] at hargs
        have ha0 : (args.map rv)[0]? = some v := by rw [← Array.getElem?_toList, Array.toList_map, hm]; rfl
        exact lift (xlen_sound (tt := type) ht0 ha0 hargs.1 hx) rfl
    · rename_i x xs t tr h1 h2
      rw [h1] at hargs
      have ht0 : ts[0]? = some t := by rw [← Array.getElem?_toList, h2]; rfl
      cases hm : args.toList.map rv with
      | nil => rw [hm] at hargs; exact hargs.elim
      | cons v vs =>
        rw [hm] at hargs
        have ha0 : (args.map rv)[0]? = some v := by rw [← Array.getElem?_toList, Array.toList_map, hm]; rfl
        exact lift (xcap_sound (tt := type) ht0 ha0 hargs.1 hx) rfl
    · rename_i x xs h1
      rw [h1] at hargs
      cases hm : args.toList.map rv with
      | nil => rw [hm] at hargs; exact hargs.elim
      | cons v vs =>
        rw [hm] at hargs
        have := xminmax_sound (w := w) (P := P) (f := min) (g := Builtin.min2) (fun k a b w => by simp only [Builtin.min2, Sem.run_pure]; congr 2; split <;> omega) hargs.2 hargs.1 hx
        refine lift (m := Builtin.min_ ts type (args.map rv)) ?_ rfl
        unfold Builtin.min_
        rw [Array.toList_map, hm]
        exact this
    · rename_i x xs h1
      rw [h1] at hargs
      cases hm : args.toList.map rv with
      | nil => rw [hm] at hargs; exact hargs.elim
      | cons v vs =>
        rw [hm] at hargs
        have := xminmax_sound (w := w) (P := P) (f := max) (g := Builtin.max2) (fun k a b w => by simp only [Builtin.max2, Sem.run_pure]; congr 2; split <;> omega) hargs.2 hargs.1 hx
        refine lift (m := Builtin.max_ ts type (args.map rv)) ?_ rfl
        unfold Builtin.max_
        rw [Array.toList_map, hm]
        exact this
    · exact hx.elim
  · exact hx.elim

end
end Go.Sx
