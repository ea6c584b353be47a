/- Ranges over functions: rounds, bodies, contracts. -/
import Derived.Test.YtpjikjhaljennaaSxRf
set_option linter.unusedVariables false
set_option linter.unusedSimpArgs false
namespace Go.Sx
open Classical

def y0 : Yld := fun _ _ _ _ => False
section
variable (P : Program) (call : Nat → FuncId → Trans) (hs : Hints) (path : List Nat) (anns : List (Nat × FnAnn)) (an : FnAnn)
/-- One round. -/
noncomputable def xround (p b : Nat) (O : LoopState → Obj) (n t : Nat) (env : List (Nat × SV)) (assign body : Code) : Yld := fun b' args h K =>
  match args with
  | [s] => (match entAt h p with
    | some (.own b1 (.obj o)) => (b' = b ∧ b1 = b ∧ o = O .ready) ∧ ycode P call y0 hs path an (lenE h) assign ⟨n, (t, s) :: env, h⟩ fun e σ => (match e with
      | .normal => (match entAt σ.heap p with
        | some (.own b2 (.obj o2)) => (b2 = b ∧ o2 = O .ready) ∧ setK σ.heap p (.own b (.obj (O .busy))) fun h2 => ycode P call y0 hs path an (lenE h) body ⟨σ.n, σ.env, h2⟩ fun e σ' => (match e with
          | .normal => (match entAt σ'.heap p with
            | some (.own b3 (.obj o3)) => (b3 = b ∧ o3 = O .busy) ∧ setK σ'.heap p (.own b (.obj (O .ready))) fun h3 => K .tt h3
            | _ => False)
          | _ => False)
        | _ => False)
      | _ => False)
    | _ => False)
  | _ => False
/-- A range over a function. -/
noncomputable def xrf (g : Operand) (ps : Array Tmp) (assign body : Code) (σ : St) (K : Nat → St → Prop) : Prop :=
  match ps.toList, ev σ.env g with
  | [t], .fn f caps => bif Nat.blt t σ.n then bif noTop caps then (match P.funcs[f]? with
    | none => False
    | some fn => ∀ (rb b : Nat) (O : LoopState → Obj), appK σ.heap (.own rb (.obj (.deferred (some [])))) fun h1 => appK h1 (.own b (.obj (O .ready))) fun h2 =>
        ybody P call (xround P call hs path an (lenE h1) b O σ.n t σ.env assign body) hs (0 :: path) (findA anns f) fn (.val (.func (.yield b) #[] #[]) :: caps) h2 fun _ h' => (match entAt h' (lenE h1) with
          | some (.own b2 (.obj o)) => (b2 = b ∧ o = O .ready) ∧ setK h' (lenE h1) (.own b (.obj (O .exhausted))) fun h3 => K rb ⟨σ.n, σ.env, h3⟩
          | _ => False)) else False else False
  | _, _ => False
def hasRF : Code → Bool
  | .rangeFunc _ _ _ _ => true
  | .seq a b => hasRF a || hasRF b
  | .block _ c => hasRF c
  | _ => false
noncomputable def xspine (n0 : Nat) : Code → St → (Ex → St → Prop) → (Nat → Nat → Ex → St → Prop) → Prop
  | .rangeFunc g ps assign body, σ, K0, K1 => xrf P call hs path anns an g ps assign body σ fun rb σ' => K1 rb (lenE σ.heap) .normal σ'
  | .seq a b, σ, K0, K1 => bif hasRF a then xspine n0 a σ K0 fun rb q e σ' => (match e with
        | .normal => xcode P call hs path an n0 b .run σ' (K1 rb q)
        | .exit id => K1 rb q (.exit id) σ'
        | .ret => K1 rb q .ret σ')
      else xcode P call hs path an n0 a .run σ fun e σ' => (match e with
        | .normal => xspine n0 b σ' K0 K1
        | .exit id => K0 (.exit id) σ'
        | .ret => K0 .ret σ')
  | .block _ c, σ, K0, K1 => (match c with
    | .rangeFunc g ps assign body => xrf P call hs path anns an g ps assign body σ fun rb σ' => K1 rb (lenE σ.heap) .normal σ'
    | _ => False)
  | _, _, _, _ => False
noncomputable def xbodyR (fn : Func) : Trans := fun args h K =>
  match fn.body with
  | none => False
  | some c => bif Nat.ble (lenS args) fn.ntmps then
      xspine P call hs path anns an (lenE h) c ⟨fn.ntmps, enum 0 args, h⟩
        (fun e σ' => match e with
          | .exit _ => False
          | _ => xresults P σ'.heap σ'.env fn.results.toList fun l => K (tupOf l) σ'.heap)
        (fun rb q e σ' => match e with
          | .exit _ => False
          | _ => (match entAt σ'.heap q with
            | some (.own rb2 (.obj o)) => (rb2 = rb ∧ o = .deferred (some [])) ∧ setK σ'.heap q (.own rb (.obj (.deferred none))) fun h2 => xresults P h2 σ'.env fn.results.toList fun l => K (tupOf l) h2
            | _ => False))
      else False
end
/-- A function in whose body one range over a function stands. -/
noncomputable def xrunR (P : Program) (ts : List (Nat × Trans)) (ann : List (Nat × FnAnn)) (hs : Hints) (d : Nat) (path : List Nat) (g : FuncId) : Trans := fun args h K =>
  match P.funcs[g]? with
  | none => False
  | some fn => xbodyR P (fun k => xrun P ts ann hs d (k :: path)) hs path ann (findA ann g) fn args h K

section
variable {P : Program} {D : List Deferred} {F : Blks} {h0 hE : List Ent} {w0 : World} {σ : St} {a : Act} {w : World} {call : Nat → FuncId → Trans} {yld : Yld} {hs : Hints} {path : List Nat} {an : FnAnn} {anns : List (Nat × FnAnn)}

theorem ext_app (h es : List Ent) : Ext h (h ++ es) := ⟨locs es, by simp [locs_eq]⟩
theorem y0_sound (hE : List Ent) (b : Nat) : SoundY P hE b (y0 b) := fun F h w args vs K _ _ _ hx => hx.elim
theorem ext_set {h : List Ent} {n : Nat} {e e' : Ent} (he : entAt h n = some e) (hl : e'.loc = e.loc) : Ext h (h.set n e') := ⟨[], by rw [locs_set he hl, List.append_nil]⟩
theorem Mod.obj (m : Mod D F h0 w0 σ a w) {n b : Nat} {o : Obj} (o' : Obj) (he : entAt σ.heap n = some (.own b (.obj o))) : w.heap[b]? = some o ∧ Mod D F h0 w0 ⟨σ.n, σ.env, σ.heap.set n (.own b (.obj o'))⟩ a (w.putObj b o') := by
  obtain ⟨h1, h2⟩ := m.ctx.obj he
  refine ⟨h1, m.grow (ext_set he rfl) (m.ctx.setObj (o' := o') he h1 rfl rfl fun r => rfl) ⟨rfl, rfl, rfl, ?_⟩⟩
  simp

theorem xround_sound (hm : P.follows .mixedOrders = true) (hcall : ∀ k g, SoundT P g (call k g)) {rec : Loop} {p b n t : Nat} {env : List (Nat × SV)} {assign body : Code}
    (hsz : rec.tmps.size = n) (henv : ∀ t, look env t ≠ .top → Std hE (look env t) (rec.tmps.getD t undef)) (hps : rec.params = #[t]) (ht : t < n) (hpe : rec.pending = none) (ha : rec.assign = assign) (hb : rec.body = body) (b' : Nat) :
    SoundY P hE b' (xround P call hs path an p b (fun s => .loop { rec with state := s }) n t env assign body b') := by
  intro F h w args vs K hext c hargs hx
  unfold xround at hx
  split at hx
  · rename_i s
    have hlen := stdL_len hargs
    obtain ⟨v, rfl⟩ : ∃ v, vs = [v] := by
      match vs, hlen with
      | [v], _ => exact ⟨v, rfl⟩
    have hsv : Std h s v := fun r => by have := hargs r; simpa [denL] using this
    split at hx
    · rename_i b1 o he
      obtain ⟨⟨e1, e2, e3⟩, hx⟩ := hx
      subst e1 e2 e3
      obtain ⟨ho, -⟩ := c.obj he
      refine ⟨rec.fn, rec.tmps.setIfInBounds t v, rec.assign, rec.body, ?_, ?_⟩
      · rw [run_yield (r := { rec with state := .ready }) ho (by rw [hps]; rfl)]
        rw [hps]
        have hz : (#[t].zip #[v]).foldl (fun tmps (x : Tmp × Value) => tmps.setIfInBounds x.1 x.2) rec.tmps = rec.tmps.setIfInBounds t v := by simp
        exact congrArg (fun z => Result.ok (Next.round b1 rec.fn z rec.assign rec.body) w) hz
      · refine roundIn_of_wpIn (F := Fence.wide) trivial ?_
        have m0 : Mod [] F h w ⟨n, (t, s) :: env, h⟩ { tmps := rec.tmps.setIfInBounds t v, defers := [] } w := by
          refine ⟨by simp [hsz], rfl, fun u hu => ?_, c, Rest.refl w, Ext.refl h⟩
          simp only [look_cons] at hu ⊢
          have hg := getD_put (a := { tmps := rec.tmps, defers := [] }) (d := t) (t := u) (v := v) (by simp only; omega)
          simp only at hg
          rw [hg]
          by_cases htu : t = u
          · rw [if_pos htu, if_pos htu]; exact hsv
          · rw [if_neg htu] at hu
            rw [if_neg htu, if_neg htu]
            exact (henv u hu).ext hext
        rw [ha, hb]
        refine ycode_sound (ro := some b1) hm hcall (fun b => y0_sound h b) (Ext.refl h) assign _ _ w _ _ m0 hx fun e σ' a' w' hk m' => ?_
        cases e with
        | exit id => exact hk.elim
        | ret => exact hk.elim
        | normal =>
          simp only at hk
          split at hk
          · rename_i b2 o2 he2
            obtain ⟨⟨e1, e2⟩, hk⟩ := hk
            subst e1 e2
            have hk := setK_spec hk
            obtain ⟨ho2, m2⟩ := m'.obj (.loop { rec with state := .busy }) he2
            refine ⟨_, run_beginRound (r := { rec with state := .ready }) ho2 rfl, ?_⟩
            refine ycode_sound (ro := some _) hm hcall (fun b => y0_sound h b) (Ext.refl h) body _ _ _ _ _ m2 hk fun e σ3 a3 w3 hk3 m3 => ?_
            cases e with
            | exit id => exact hk3.elim
            | ret => exact hk3.elim
            | normal =>
              simp only at hk3
              split at hk3
              · rename_i b3 o3 he3
                obtain ⟨⟨e1, e2⟩, hk3⟩ := hk3
                subst e1 e2
                have hk3 := setK_spec hk3
                obtain ⟨ho3, m4⟩ := m3.obj (.loop { rec with state := .ready }) he3
                refine ⟨_, _, run_endRound (r := { rec with state := .busy }) none ho3, _, .tt, _, rfl, hk3, ?_⟩
                have hrec : Obj.loop { { rec with state := .busy } with state := if (none : Option Code).isNone then .ready else .done, pending := none } = .loop { rec with state := .ready } := by
                  cases rec
                  simp only at hpe
                  subst hpe
                  rfl
                rw [hrec]
                exact ⟨m4.ext, m4.ctx, m4.rest, by simp, fun r => rfl⟩
              · exact hk3.elim
          · exact hk.elim
    · exact hx.elim
  · exact hx.elim

theorem start_mod {h : List Ent} {args : List SV} {vs : List Value} {n : Nat} (c : Ctx F h w) (hargs : StdL h args vs) (hle : args.length ≤ n) :
    Mod [] F h w ⟨n, enum 0 args, h⟩ { tmps := vs.toArray ++ Array.replicate (n - vs.toArray.size) undef, defers := [] } w := by
  have hlen := stdL_len hargs
  refine ⟨by simp; omega, rfl, fun t ht => ?_, c, Rest.refl w, Ext.refl h⟩
  obtain ⟨_, v, h1, h2⟩ := look_enum (args := args) (vs := vs) (n := 0) hargs t ht
  have : (vs.toArray ++ Array.replicate (n - vs.toArray.size) undef).getD t undef = v := by
    rw [Array.getD_eq_getD_getElem?, Array.getElem?_append_left (by have := (List.getElem?_eq_some_iff.1 h1).1; simpa using this)]
    simp at h1
    simp [h1]
  rw [this]
  exact h2
theorem results_ans {fn : Func} {K : SV → Prop} (m : Mod D F h0 w0 σ a w) (hk : xresults P σ.heap σ.env fn.results.toList fun l => K (tupOf l)) : ∃ v s, (results fn a.tmps).run P w = .ok v w ∧ K s ∧ s ≠ .top ∧ Std σ.heap s v := by
  obtain ⟨ss, us, k1, k2, k3, k4⟩ := xresults_sound m hk
  refine ⟨_, tupOf ss, run_results k4, k1, ?_, ?_⟩
  · match ss, k2 with
    | [], _ => simp [tupOf]
    | [s], k2 => exact k2 s (by simp)
    | _ :: _ :: _, _ => simp [tupOf]
  · have hl2 := stdL_len k3
    match ss, us, hl2, k3 with
    | [], [], _, _ => intro r; rfl
    | [s], [u], _, k3 => intro r; have := k3 r; simpa [denL, tupOf] using this
    | s :: s' :: ss, u :: u' :: us, _, k3 => intro r; have := k3 r; simp only [tupOf, den, this]
theorem ybody_sound (hm : P.follows .mixedOrders = true) (hcall : ∀ k g, SoundT P g (call k g)) (hy : ∀ b, SoundY P hE b (yld b)) {f : FuncId} {fn : Func} (hf : P.funcs[f]? = some fn) (hn : (fn.name == "runtime.NumGoroutine") = false)
    {h : List Ent} {args : List SV} {vs : List Value} {K : SV → List Ent → Prop} (hE0 : Ext hE h) (c : Ctx F h w) (hargs : StdL h args vs) (hx : ybody P call yld hs path an fn args h K) : Enters P f ∧ CallAns P F h w K f vs.toArray := by
  unfold ybody at hx
  cases hb : fn.body with
  | none => rw [hb] at hx; exact hx.elim
  | some code =>
    rw [hb] at hx
    simp only at hx
    obtain ⟨hle, hx⟩ := bif_false hx
    have hle := Nat.le_of_ble_eq_true hle
    rw [lenS_eq'] at hle
    have hlen := stdL_len hargs
    refine ⟨⟨fn, hf, by rw [hb]; rfl, hn⟩, ?_⟩
    have m : Mod [] F h w ⟨fn.ntmps, enum 0 args, h⟩ { tmps := vs.toArray ++ Array.replicate (fn.ntmps - vs.toArray.size) undef, defers := [] } w := start_mod c hargs (by omega)
    refine calls_of_wp hf hb (wpIn_wide.1 (ycode_sound (ro := none) hm hcall hy hE0 code _ _ w _ _ m hx fun e σ' a' w' hk m' => ?_))
    have fin : xresults P σ'.heap σ'.env fn.results.toList (fun l => K (tupOf l) σ'.heap) → a'.defers = [] ∧ ∃ v, (results fn a'.tmps).run P w' = .ok v w' ∧
        ∃ v' s h', Ending.returned v = .returned v' ∧ K s h' ∧ Ext h h' ∧ Ctx F h' w' ∧ Rest w w' ∧ s ≠ .top ∧ Std h' s v' := fun hk => by
      obtain ⟨v, s, k1, k2, k3, k4⟩ := results_ans (K := fun s => K s σ'.heap) m' hk
      exact ⟨m'.defers, v, k1, v, s, σ'.heap, rfl, k2, m'.ext, m'.ctx, m'.rest, k3, k4⟩
    cases e with
    | normal => exact fin hk
    | ret => exact fin hk
    | exit id => exact hk.elim
def markOf (rb : Nat) : List Deferred := [{ target := .collected rb, args := #[] }]
theorem xrf_sound (hm : P.follows .mixedOrders = true) (hn : ∀ (f : FuncId) (fn : Func), P.funcs[f]? = some fn → (fn.name == "runtime.NumGoroutine") = false) (hcall : ∀ k g, SoundT P g (call k g)) {g : Operand} {ps : Array Tmp} {assign body : Code} {K : Nat → St → Prop} {Q : Exit → Act → World → Prop}
    (m : Mod D F h0 w0 σ a w) (hx : xrf P call hs path anns an g ps assign body σ K) (hq : ∀ rb σ' a' w', K rb σ' → Mod (markOf rb ++ D) F h0 w0 σ' a' w' → Q .normal a' w') : (Code.rangeFunc g ps assign body).wpIn Fence.wide 0 P Q a w := by
  unfold xrf at hx
  split at hx
  · rename_i t f caps hps hg
    obtain ⟨h1, hx⟩ := bif_false hx
    obtain ⟨h2, hx⟩ := bif_false hx
    have ht : t < σ.n := by simpa using h1
    split at hx
    · exact hx.elim
    · rename_i fn hf
      have hpe : ps = #[t] := by rw [← Array.toArray_toList (xs := ps), hps]
      have hgv : a.eval g = .func (.func f) #[] (denL (locs σ.heap) caps).toArray := by
        have := m.ev g (by rw [hg]; simp) []
        rw [hg, List.append_nil] at this
        exact this.symm
      have hcaps : StdL σ.heap caps (denL (locs σ.heap) caps) := by
        have := m.ev g (by rw [hg]; simp)
        rw [hg] at this
        intro r
        have h3 := (this r).trans (hgv)
        simp only [den] at h3
        injection h3 with _ _ h3
        exact List.toArray_inj h3
      refine wpIn_rangeFunc fun fnid _ => ?_
      have hx := appK_iff (hx w.heap.size (w.heap.size + 1) fun s => .loop { state := s, pending := none, fn := fnid, tmps := a.tmps, params := ps, assign := assign, body := body, defers := w.heap.size })
      have hx := appK_iff hx
      have hl1 : lenE (σ.heap ++ [Ent.own w.heap.size (.obj (.deferred (some [])))]) = σ.heap.length + 1 := by rw [lenE_eq]; simp
      rw [hl1] at hx
      have m1 : Mod D F h0 w0 ⟨σ.n, σ.env, σ.heap ++ [.own w.heap.size (.obj (.deferred (some [])))]⟩ a (w.alloc (.deferred (some []))) :=
        m.grow (ext_app _ _) (m.ctx.push (blk := .obj (.deferred (some []))) (o := .deferred (some [])) (fun r => rfl)) ⟨rfl, rfl, rfl, by rw [World.size_alloc]; omega⟩
      have hsz1 : (w.alloc (.deferred (some []))).heap.size = w.heap.size + 1 := World.size_alloc ..
      have m2 := m1.grow (h' := σ.heap ++ [.own w.heap.size (.obj (.deferred (some [])))] ++ [.own (w.alloc (.deferred (some []))).heap.size (.obj (.loop { state := .ready, pending := none, fn := fnid, tmps := a.tmps, params := ps, assign := assign, body := body, defers := w.heap.size }))])
        (w' := (w.alloc (.deferred (some []))).alloc (.loop { state := .ready, pending := none, fn := fnid, tmps := a.tmps, params := ps, assign := assign, body := body, defers := w.heap.size }))
        (ext_app _ _) (m1.ctx.push (blk := .obj (.loop { state := .ready, pending := none, fn := fnid, tmps := a.tmps, params := ps, assign := assign, body := body, defers := w.heap.size })) (o := .loop { state := .ready, pending := none, fn := fnid, tmps := a.tmps, params := ps, assign := assign, body := body, defers := w.heap.size }) (fun r => rfl)) ⟨rfl, rfl, rfl, by rw [World.size_alloc, World.size_alloc]; omega⟩
      rw [hsz1] at m2
      simp only at m2
      have hcaps2 := fun r => by have := hcaps; exact this r
      have hargs : StdL (σ.heap ++ [Ent.own w.heap.size (.obj (.deferred (some [])))] ++ [.own (w.heap.size + 1) (.obj (.loop { state := .ready, pending := none, fn := fnid, tmps := a.tmps, params := ps, assign := assign, body := body, defers := w.heap.size }))])
          (.val (.func (.yield (w.heap.size + 1)) #[] #[]) :: caps) (.func (.yield (w.heap.size + 1)) #[] #[] :: denL (locs σ.heap) caps) := by
        intro r
        simp only [denL, den]
        congr 1
        have := hcaps ((locs [Ent.own w.heap.size (.obj (.deferred (some []))), .own (w.heap.size + 1) (.obj (.loop { state := .ready, pending := none, fn := fnid, tmps := a.tmps, params := ps, assign := assign, body := body, defers := w.heap.size }))]) ++ r)
        rw [← this]
        congr 1
        simp [locs_eq]
      obtain ⟨henter, hcallf⟩ := ybody_sound hm hcall (fun b => xround_sound (hE := σ.heap ++ [Ent.own w.heap.size (.obj (.deferred (some [])))] ++ [.own (w.heap.size + 1) (.obj (.loop { state := .ready, pending := none, fn := fnid, tmps := a.tmps, params := ps, assign := assign, body := body, defers := w.heap.size }))]) (hs := hs) (path := path) (an := an)
        (rec := { state := .ready, pending := none, fn := fnid, tmps := a.tmps, params := ps, assign := assign, body := body, defers := w.heap.size }) (p := σ.heap.length + 1) (b := w.heap.size + 1) hm hcall m.size m2.env hpe ht rfl rfl rfl b) hf (hn f fn hf) (Ext.refl _) m2.ctx hargs hx
      refine ⟨w.heap.size + 1, markOf w.heap.size, (w.alloc (.deferred (some []))).alloc (.loop { state := .ready, pending := none, fn := fnid, tmps := a.tmps, params := ps, assign := assign, body := body, defers := w.heap.size }), { target := .fn (.func f) (denL (locs σ.heap) caps).toArray, args := #[.func (.yield (w.heap.size + 1)) #[] #[]] }, (w.alloc (.deferred (some []))).alloc (.loop { state := .ready, pending := none, fn := fnid, tmps := a.tmps, params := ps, assign := assign, body := body, defers := w.heap.size }), f, #[.func (.yield (w.heap.size + 1)) #[] #[]] ++ (denL (locs σ.heap) caps).toArray, (w.alloc (.deferred (some []))).alloc (.loop { state := .ready, pending := none, fn := fnid, tmps := a.tmps, params := ps, assign := assign, body := body, defers := w.heap.size }), run_enterLoop_outer fnid a.tmps ps assign body, ?_, fun f' _ => trivial, ?_, fun h' => by simp [Fence.wide] at h', ?_⟩
      · simp only [resolve, hgv, Deferred.ofValue, Sem.run_pure, Array.empty_append, List.map_toArray, List.map_cons, List.map_nil]
        rfl
      · exact run_callFunc henter
      · refine (callsIn_wide (n := 0)).2 ?_
        have : (#[Value.func (.yield (w.heap.size + 1)) #[] #[]] ++ (denL (locs σ.heap) caps).toArray) = (Value.func (.yield (w.heap.size + 1)) #[] #[] :: denL (locs σ.heap) caps).toArray := by simp
        rw [this]
        refine Calls.mono hcallf fun e w' he => ?_
        obtain ⟨v, s, h', rfl, k1, k2, k3, k4, k5, k6⟩ := he
        split at k1
        · rename_i b2 o2 he2
          obtain ⟨⟨e1, e2⟩, k1⟩ := k1
          subst e1 e2
          have k1 := setK_spec k1
          have m3 := m2.grow k2 k3 k4
          obtain ⟨ho, m4⟩ := m3.obj (.loop { state := .exhausted, pending := none, fn := fnid, tmps := a.tmps, params := ps, assign := assign, body := body, defers := w.heap.size }) he2
          refine ⟨none, _, run_endLoop ho (by simp), ?_⟩
          refine hq w.heap.size _ _ _ k1 ⟨m4.size, ?_, m4.env, m4.ctx, m4.rest, m4.ext⟩
          show _ ++ a.defers = _
          rw [m.defers]
        · exact k1.elim
  · exact hx.elim

theorem xspine_sound (hm : P.follows .mixedOrders = true) (hn : ∀ (f : FuncId) (fn : Func), P.funcs[f]? = some fn → (fn.name == "runtime.NumGoroutine") = false) (hcall : ∀ k g, SoundT P g (call k g)) : ∀ (c : Code) (σ : St) (a : Act) (w : World) (K0 : Ex → St → Prop) (K1 : Nat → Nat → Ex → St → Prop) (Q : Exit → Act → World → Prop),
    Mod D F h0 w0 σ a w → xspine P call hs path anns an (lenE h0) c σ K0 K1 → (∀ e σ' a' w', e ≠ .normal → K0 e σ' → Mod D F h0 w0 σ' a' w' → Q e.to a' w') →
    (∀ rb q e σ' a' w', K1 rb q e σ' → Mod (markOf rb ++ D) F h0 w0 σ' a' w' → Q e.to a' w') → c.wpIn Fence.wide 0 P Q a w
  | .rangeFunc g ps assign body, σ, a, w, K0, K1, Q, m, hx, hq0, hq1 => by
    unfold xspine at hx
    exact xrf_sound hm hn hcall m hx fun rb σ' a' w' hk m' => hq1 rb _ .normal σ' a' w' hk m'
  | .seq x y, σ, a, w, K0, K1, Q, m, hx, hq0, hq1 => by
    unfold xspine at hx
    cases hh : hasRF x with
    | true =>
      rw [hh] at hx
      simp only [cond_true] at hx
      refine wpIn_seq (xspine_sound hm hn hcall x σ a w K0 _ _ m hx (fun e σ' a' w' hne hk m' => ?_) fun rb q e σ' a' w' hk m' => ?_)
      · cases e with
        | normal => exact absurd rfl hne
        | exit id => exact hq0 (.exit id) _ _ _ hne hk m'
        | ret => exact hq0 .ret _ _ _ hne hk m'
      · cases e with
        | normal => exact wpIn_wide.2 (xcode_sound hm hcall y .run σ' a' w' _ Q m' hk (fun e σ' a' w' hk m' => hq1 rb q e σ' a' w' hk m') trivial)
        | exit id => exact hq1 rb q (.exit id) _ _ _ hk m'
        | ret => exact hq1 rb q .ret _ _ _ hk m'
    | false =>
      rw [hh] at hx
      simp only [cond_false] at hx
      refine wpIn_seq (wpIn_wide.2 (xcode_sound hm hcall x .run σ a w _ _ m hx (fun e σ' a' w' hk m' => ?_) trivial))
      cases e with
      | normal => exact xspine_sound hm hn hcall y σ' a' w' K0 K1 Q m' hk hq0 hq1
      | exit id => exact hq0 (.exit id) _ _ _ (by simp) hk m'
      | ret => exact hq0 .ret _ _ _ (by simp) hk m'
  | .skip, _, _, _, _, _, _, _, hx, _, _ => hx.elim
  | .exit _, _, _, _, _, _, _, _, hx, _, _ => hx.elim
  | .ret, _, _, _, _, _, _, _, hx, _, _ => hx.elim
  | .cond _ _ _, _, _, _, _, _, _, _, hx, _, _ => hx.elim
  | .block id c, σ, a, w, K0, K1, Q, m, hx, hq0, hq1 => by
    unfold xspine at hx
    split at hx
    · exact wpIn_block (xrf_sound hm hn hcall m hx fun rb σ' a' w' hk m' => hq1 rb _ .normal σ' a' w' hk m')
    · exact hx.elim
  | .loop _, _, _, _, _, _, _, _, hx, _, _ => hx.elim
  | .region _ _ _, _, _, _, _, _, _, _, hx, _, _ => hx.elim
  | .scope _, _, _, _, _, _, _, _, hx, _, _ => hx.elim
  | .label _, _, _, _, _, _, _, _, hx, _, _ => hx.elim
  | .goto _, _, _, _, _, _, _, _, hx, _, _ => hx.elim

theorem xbodyR_sound (hm : P.follows .mixedOrders = true) (hn : ∀ (f : FuncId) (fn : Func), P.funcs[f]? = some fn → (fn.name == "runtime.NumGoroutine") = false) (hcall : ∀ k g, SoundT P g (call k g)) {f : FuncId} {fn : Func} (hf : P.funcs[f]? = some fn) :
    SoundT P f (xbodyR P call hs path anns an fn) := by
  intro F h w args vs K c hargs hx
  unfold xbodyR at hx
  cases hb : fn.body with
  | none => rw [hb] at hx; exact hx.elim
  | some code =>
    rw [hb] at hx
    simp only at hx
    obtain ⟨hle, hx⟩ := bif_false hx
    have hle := Nat.le_of_ble_eq_true hle
    rw [lenS_eq'] at hle
    refine ⟨⟨fn, hf, by rw [hb]; rfl, hn f fn hf⟩, ?_⟩
    have m : Mod [] F h w ⟨fn.ntmps, enum 0 args, h⟩ { tmps := vs.toArray ++ Array.replicate (fn.ntmps - vs.toArray.size) undef, defers := [] } w := start_mod c hargs (by omega)
    refine (callsIn_wide (n := 0)).1 (callsIn_of_wp_marks (F := Fence.wide) hf hb trivial (xspine_sound hm hn hcall code _ _ w _ _ _ m hx (fun e σ' a' w' hne hk m' => ?_) fun rb q e σ' a' w' hk m' => ?_))
    · have fin : xresults P σ'.heap σ'.env fn.results.toList (fun l => K (tupOf l) σ'.heap) → LeavesInM Fence.wide 0 P fn a'.tmps (fun e w' => ∃ v s h', e = .returned v ∧ K s h' ∧ Ext h h' ∧ Ctx F h' w' ∧ Rest w w' ∧ s ≠ .top ∧ Std h' s v) a'.defers .returning w' := fun hk => by
        obtain ⟨v, s, k1, k2, k3, k4⟩ := results_ans (K := fun s => K s σ'.heap) m' hk
        rw [m'.defers]
        exact ⟨v, k1, v, s, σ'.heap, rfl, k2, m'.ext, m'.ctx, m'.rest, k3, k4⟩
      cases e with
      | normal => exact fin hk
      | ret => exact fin hk
      | exit id => exact hk.elim
    · have fin : (match entAt σ'.heap q with
            | some (.own rb2 (.obj o)) => (rb2 = rb ∧ o = .deferred (some [])) ∧ setK σ'.heap q (.own rb (.obj (.deferred none))) fun h2 => xresults P h2 σ'.env fn.results.toList fun l => K (tupOf l) h2
            | _ => False) → LeavesInM Fence.wide 0 P fn a'.tmps (fun e w' => ∃ v s h', e = .returned v ∧ K s h' ∧ Ext h h' ∧ Ctx F h' w' ∧ Rest w w' ∧ s ≠ .top ∧ Std h' s v) a'.defers .returning w' := fun hk => by
        split at hk
        · rename_i rb2 o he
          obtain ⟨⟨e1, e2⟩, hk⟩ := hk
          subst e1 e2
          have hk := setK_spec hk
          obtain ⟨ho, m2⟩ := m'.obj (.deferred none) he
          obtain ⟨v, s, k1, k2, k3, k4⟩ := results_ans (K := fun s => K s (σ'.heap.set q (.own rb2 (.obj (.deferred none))))) m2 hk
          rw [m'.defers]
          exact ⟨by simp, .inl ⟨rb2, _, rfl, run_takeDeferred ho, v, k1, v, s, _, rfl, k2, m2.ext, m2.ctx, m2.rest, k3, k4⟩⟩
        · exact hk.elim
      cases e with
      | normal => exact fin hk
      | ret => exact fin hk
      | exit id => exact hk.elim
theorem xrunR_sound (hm : P.follows .mixedOrders = true) (hn : ∀ (f : FuncId) (fn : Func), P.funcs[f]? = some fn → (fn.name == "runtime.NumGoroutine") = false) {ts : List (Nat × Trans)} {ann : List (Nat × FnAnn)} {hs : Hints}
    (hts : ∀ g T, findT ts g = some T → SoundT P g T) (d : Nat) (path : List Nat) (g : FuncId) : SoundT P g (xrunR P ts ann hs d path g) := by
  intro F h w args vs K c hargs hx
  unfold xrunR at hx
  split at hx
  · exact hx.elim
  · rename_i fn hf
    exact xbodyR_sound hm hn (fun k g' => xrun_sound hm hn hts d (k :: path) g') hf F h w args vs K c hargs hx
end
end Go.Sx
