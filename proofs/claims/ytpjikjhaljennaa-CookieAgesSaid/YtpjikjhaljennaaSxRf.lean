/- Ranges over functions. -/
import Derived.Test.YtpjikjhaljennaaSxRw
import Derived.RangeFuncIn
import Derived.RangeFuncLeaves
import Derived.RangeFuncRecord
import Derived.OrdersIn
set_option linter.unusedVariables false
set_option linter.unusedSimpArgs false
namespace Go.Sx
open Classical

/-! Frames of rounds as well. -/
def WF (ro : Option Nat) : Fence := { Fence.wide with round := ro }
theorem room_WF (ro : Option Nat) (n : Nat) : (WF ro).room n := fun _ h => by simp [WF, Fence.wide] at h
theorem fenced_WF (P : Program) (ro : Option Nat) (m : Machine) : m.fenced P (WF ro) := fenced_wide P m
theorem WF_none : WF none = Fence.wide := rfl
theorem callsIn_WF {ro : Option Nat} {n : Nat} {P : Program} {f : FuncId} {args : Array Value} {w : World} {R : Ending → World → Prop} (h : Calls P f args w R) : CallsIn (WF ro) n P f args w R :=
  (callsIn_wide (n := n)).2 h
theorem rowsIn_WF {ro : Option Nat} {n : Nat} {P : Program} {row : String} {args : Array Value} {w : World} {R : Value → World → Prop} (h : Rows P row args w R) : RowsIn (WF ro) n P row args w R :=
  fun c cs _ => by
    obtain ⟨v, w', h1, h2⟩ := h c cs
    exact ⟨v, w', h1, stepsIn_wide.2 h2⟩

/-- No panic, nothing outgrown. -/
def Tame (Q : Exit → Act → World → Prop) : Prop := (∀ c a w, ¬ Q (.panic c) a w) ∧ ¬ LetsOut Q
theorem oper_R {ro : Option Nat} {P : Program} {o : Oper} {a : Act} {w : World} {K : Act → World → Prop} {Q Q' : Exit → Act → World → Prop} (hQ : Tame Q) (hd : ∀ c, o.op ≠ .defer c) (h : o.wp P a w K Q) : o.wpIn (WF ro) 0 P a w K Q' := by
  refine ⟨fun f _ => trivial, ?_⟩
  unfold Oper.wp at h
  rw [Oper.semAt_eq _ _ _ hd]
  generalize (execOp a.eval o).run P w = r at *
  cases r with
  | ok x w' =>
    cases x <;> simp only [Oper.upon, Oper.uponIn] at h ⊢ <;>
      first
        | exact h
        | exact ⟨fun h' => by simp [WF, Fence.wide] at h', callsIn_WF (Calls.mono h fun e w'' he => by cases e <;> first | exact he | exact absurd he (hQ.1 _ _ _) | exact absurd he hQ.2)⟩
        | exact ⟨fun h' => by simp [WF, Fence.wide] at h', rowsIn_WF h⟩
  | halt x w' => cases x <;> simp only [Oper.upon, Oper.uponIn] at h ⊢ <;> first | exact h | exact absurd h (hQ.1 _ _ _)
theorem wpOp_R {ro : Option Nat} {P : Program} {ops : Array Oper} {i : Nat} {a : Act} {w : World} {K : Act → World → Prop} {Q Q' : Exit → Act → World → Prop} (hQ : Tame Q) (hd : ∀ (i : Nat) (o : Oper), ops[i]? = some o → ∀ c, o.op ≠ .defer c) (h : wpOp P ops Q i K a w) : wpOpIn (WF ro) 0 P ops Q' i K a w := by
  unfold wpOp at h
  unfold wpOpIn
  cases ho : ops[i]? with
  | none => rw [ho] at h; exact h
  | some o =>
    rw [ho] at h
    simp only at h ⊢
    split
    · rename_i hw
      rw [if_pos hw] at h
      rcases h with h | ⟨-, h⟩
      · exact oper_R hQ (hd i o ho) h
      · exact absurd h hQ.2
    · rename_i hw
      rw [if_neg hw] at h
      exact ⟨fun f _ => trivial, h⟩
theorem wpAny_R {ro : Option Nat} {P : Program} {ops : Array Oper} {Q : Exit → Act → World → Prop} (hQ : Tame Q) (hd : ∀ (i : Nat) (o : Oper), ops[i]? = some o → ∀ c, o.op ≠ .defer c) : ∀ (fuel : Nat) (listed : Array Bool) (a : Act) (w : World), wpAny P .any ops Q fuel listed a w → wpAnyIn (WF ro) 0 P .any ops Q fuel listed a w
  | 0, listed, a, w, h => h
  | fuel + 1, listed, a, w, h => ⟨h.1, fun i hi => wpOpIn_mono (fun a w => wpAny_R hQ hd fuel _ a w) (wpOp_R hQ hd (h.2 i hi))⟩
theorem tame_Q0 (N : Act → World → Prop) : Tame (Q0 N) := ⟨fun c a w h => by simp [Q0] at h, fun ⟨a, w, h⟩ => by simp [Q0] at h⟩
theorem tame_no : Tame fun _ _ _ => False := ⟨fun _ _ _ h => h, fun ⟨_, _, h⟩ => h⟩
theorem wpIn_region_T {ro : Option Nat} {P : Program} {ops : Array Oper} {id : Nat} {a : Act} {w : World} {Q : Exit → Act → World → Prop} (hm : P.follows .mixedOrders = true) (hd : ∀ (i : Nat) (o : Oper), ops[i]? = some o → ∀ c, o.op ≠ .defer c)
    (h : wpAnyT P ops (Q .normal) ops.size [] (Array.replicate ops.size false) a { w with drawn := w.drawn + 1 }) : (Code.region id ops true).wpIn (WF ro) 0 P Q a w :=
  wpIn_mono (wpIn_region_any hm (wpAny_R (tame_Q0 _) hd _ _ _ _ (wpAny_of_T _ _ _ _ _ h))) fun _ _ _ ⟨he, hn⟩ => he ▸ hn

theorem wpIn_loopX {ro : Option Nat} {P : Program} {Q : Exit → Act → World → Prop} {a : Act} {w : World} {c : Code} {X : Type} (I : X → Act → World → Prop) (μ : X → Nat) (x0 : X) (h₀ : I x0 a w)
    (round : ∀ x a w, I x a w → c.wpIn (WF ro) 0 P (Exit.then (fun a' w' => ∃ y, I y a' w' ∧ μ y < μ x) Q) a w) : (Code.loop c).wpIn (WF ro) 0 P Q a w := by
  intro b k cs hro hb hr
  have key : ∀ n x a w, μ x = n → I x a w →
      ∃ e a' w', Q e a' w' ∧ ArrivesIn (Machine.fenced P (WF ro)) P (lone (b.atR a (.code c :: .inLoop c :: k)) cs w) b k cs e a' w' := by
    intro n
    induction n using Nat.strongRecOn with
    | _ n ih =>
      intro x a w hn hI
      obtain ⟨e, a₁, w₁, hq, harr⟩ := round x a w hI b (.inLoop c :: k) cs hro hb hr
      cases e with
      | normal =>
        obtain ⟨y, hI₁, hlt⟩ := hq
        obtain ⟨e₂, a₂, w₂, hq₂, harr₂⟩ := ih (μ y) (hn ▸ hlt) y a₁ w₁ rfl hI₁
        exact ⟨e₂, a₂, w₂, hq₂, .of_steps (StepsIn.trans harr (.one (fenced_calm hb hr rfl) stepR_inLoop)) harr₂⟩
      | exit id => exact ⟨_, a₁, w₁, hq, .pass (x := .inLoop c) rfl (fun _ _ => .inl (by simp)) harr⟩
      | goto l => exact ⟨_, a₁, w₁, hq, .pass (x := .inLoop c) rfl (fun _ _ => .inl (by simp)) harr⟩
      | ret => exact ⟨_, a₁, w₁, hq, .pass (x := .inLoop c) rfl (fun _ _ => .inl (by simp)) harr⟩
      | panic ch => exact ⟨_, a₁, w₁, hq, .pass (x := .inLoop c) rfl (fun _ _ => .inl (by simp)) harr⟩
      | outgrown => exact ⟨_, a₁, w₁, hq, .pass (x := .inLoop c) rfl (fun _ _ => .inl (by simp)) harr⟩
  obtain ⟨e, a', w', hq, harr⟩ := key _ x0 a w rfl h₀
  exact ⟨e, a', w', hq, .of_steps (.one (fenced_calm hb hr rfl) stepR_loop) harr⟩

/-! The executor with rounds. -/
def noDef : List Oper → Bool
  | [] => true
  | o :: r => match o.op with
    | .defer _ => false
    | _ => noDef r
theorem noDef_spec : ∀ {l : List Oper}, noDef l = true → ∀ o ∈ l, ∀ c, o.op ≠ .defer c
  | [], _ => by simp
  | x :: r, hn => by
    unfold noDef at hn
    split at hn
    · cases hn
    · rename_i hx
      intro o ho c
      rcases List.mem_cons.1 ho with rfl | ho
      · exact hx c
      · exact noDef_spec hn o ho c
abbrev Yld := Nat → Trans
section
variable (P : Program) (call : Nat → FuncId → Trans) (yld : Yld) (hs : Hints) (path : List Nat)
/-- A call of yield. -/
noncomputable def xyield (ca : List (Nat × Cast)) (o : Oper) (σ : St) (K : St → Prop) (no : Prop) : Prop :=
  match o.op with
  | .call { callee := .value f, args := args, argTypes := ts } =>
    (match ev σ.env f with
     | .val (.func (.yield b) x y) => bif x.isEmpty then bif o.guard.isNone then bif noTop (mapE (ev σ.env) args.toList) then yld b (mapE (ev σ.env) args.toList) σ.heap fun s h' => putK ca o.dst s ⟨σ.n, σ.env, h'⟩ K else False else False else False
     | _ => no)
  | _ => no
noncomputable def yops (ca : List (Nat × Cast)) (ops : Array Oper) : List Oper → St → (St → Prop) → Prop
  | [], σ, K => K σ
  | o :: r, σ, K => xyield yld ca o σ (fun σ' => yops ca ops r σ' K) (xop P call hs path ca ops o σ fun σ' => yops ca ops r σ' K)
noncomputable def ycode (an : FnAnn) (n0 : Nat) : Code → St → (Ex → St → Prop) → Prop
  | .skip, σ, K => K .normal σ
  | .exit id, σ, K => K (.exit id) σ
  | .ret, σ, K => K .ret σ
  | .seq a b, σ, K => ycode an n0 a σ fun e σ' => match e with
      | .normal => ycode an n0 b σ' K
      | .exit id => K (.exit id) σ'
      | .ret => K .ret σ'
  | .cond c a b, σ, K => xcond hs path c σ (fun σ => ycode an n0 a σ K) (fun σ => ycode an n0 b σ K)
  | .block id c, σ, K => ycode an n0 c σ fun e σ' => match e with
    | .normal => K .normal σ'
    | .exit i => bif Nat.beq i id then K .normal σ' else K (.exit i) σ'
    | .ret => K .ret σ'
  | .loop c, σ, K => (match findLp an.loops (regId c) with
    | none => False
    | some L => ∃ x0, orSh L.shapes (fun st inv => leSt n0 σ (st σ x0) ∧ inv x0 x0) ∧ andSh L.shapes fun st inv => ∀ x, inv x0 x → ycode an n0 c (st σ x) fun e σ' => match e with
      | .normal => ∃ y, L.meas y < L.meas x ∧ orSh L.shapes fun st inv => leSt n0 σ' (st σ y) ∧ inv x0 y
      | .exit i => K (.exit i) σ'
      | .ret => K .ret σ')
  | .region id ops draw, σ, K => xview an.casts id σ fun σ => bif noDef ops.toList then (bif draw then
      (bif noSel ops.toList then xany P call hs path an.casts ops ops.size [] (Array.replicate ops.size false) σ (K .normal) else False)
    else yops P call yld hs path an.casts ops ops.toList σ (K .normal)) else False
  | _, _, _ => False
noncomputable def ybody (an : FnAnn) (fn : Func) : Trans := fun args h K =>
  match fn.body with
  | none => False
  | some c => bif Nat.ble (lenS args) fn.ntmps then
      ycode P call yld hs path an (lenE h) c ⟨fn.ntmps, enum 0 args, h⟩ fun e σ' => match e with
        | .exit _ => False
        | _ => xresults P σ'.heap σ'.env fn.results.toList fun l => K (tupOf l) σ'.heap
      else False
end

/-- What a call of yield answers. -/
def YieldAns (P : Program) (F : Blks) (h : List Ent) (w : World) (K : SV → List Ent → Prop) (b : Nat) (args : Array Value) : Prop :=
  ∃ f tmps assign body, (Instr.yield b args).run P w = .ok (.round b f tmps assign body) w ∧ RoundIn Fence.wide 0 P b f tmps assign body w fun e w' =>
    ∃ v s h', e = .returned v ∧ K s h' ∧ Ext h h' ∧ Ctx F h' w' ∧ Rest w w' ∧ s ≠ .top ∧ Std h' s v
def SoundY (P : Program) (hE : List Ent) (b : Nat) (T : Trans) : Prop :=
  ∀ (F : Blks) (h : List Ent) (w : World) (args : List SV) (vs : List Value) (K : SV → List Ent → Prop), Ext hE h → Ctx F h w → StdL h args vs → T args h K → YieldAns P F h w K b vs.toArray

section
variable {P : Program} {D : List Deferred} {F : Blks} {h0 hE : List Ent} {w0 : World} {σ : St} {a : Act} {w : World} {call : Nat → FuncId → Trans} {yld : Yld} {hs : Hints} {path : List Nat} {an : FnAnn} {ro : Option Nat} {ops : Array Oper} {ca : List (Nat × Cast)}

theorem xyield_sound (hy : ∀ b, SoundY P hE b (yld b)) (hE0 : Ext hE h0) (m : Mod D F h0 w0 σ a w) {i : Nat} {o : Oper} (ho : ops[i]? = some o) {K : St → Prop} {no : Prop} {N : Act → World → Prop} {Q : Exit → Act → World → Prop}
    (hx : xyield yld ca o σ K no) (hn : ∀ σ' a' w', K σ' → Mod D F h0 w0 σ' a' w' → N a' w') (hno : no → wpOpIn (WF ro) 0 P ops Q i N a w) : wpOpIn (WF ro) 0 P ops Q i N a w := by
  unfold xyield at hx
  split at hx
  · rename_i f args ts hop
    split at hx
    · rename_i b x y hf
      obtain ⟨h1, hx⟩ := bif_false hx
      obtain ⟨h2, hx⟩ := bif_false hx
      obtain ⟨h3, hx⟩ := bif_false hx
      have hnt : ev σ.env f ≠ .top := by rw [hf]; simp
      have hv : a.eval f = .func (.yield b) x y := by
        have := m.ev f hnt []
        rw [hf] at this
        exact this.symm
      have hargs : StdL σ.heap (mapE (ev σ.env) args.toList) (args.toList.map a.eval) := argsStd_all m.ev h3
      obtain ⟨fn, tmps, assign, body, k1, k2⟩ := hy b F σ.heap w _ _ _ (hE0.trans m.ext) m.ctx hargs hx
      unfold wpOpIn
      rw [ho]
      have hw : Region.wanted o (yielded ops a.tmps) = true := by
        unfold Region.wanted
        rw [Option.isNone_iff_eq_none.1 h2]
      show (if Region.wanted o (yielded ops a.tmps) = true then _ else _)
      rw [if_pos hw]
      refine ⟨fun f _ => trivial, ?_⟩
      have hrun : (o.semAt (WF ro).round a.eval).run P w = .ok (.round b fn tmps assign body) w := by
        rw [Oper.semAt_eq _ _ _ (by rw [hop]; simp)]
        unfold execOp
        rw [hop]
        have hx0 : x = #[] := by simpa using h1
        simp only [resolve, hv, Deferred.ofValue, Sem.run_bind, Sem.run_pure, Result.andThen_ok, invoke, hx0, Array.empty_append]
        rw [← k1]
        congr 2
        rw [← Array.toList_map, Array.toArray_toList]
      rw [hrun, Oper.uponIn_round]
      refine ⟨fun h' => by simp [WF, Fence.wide] at h', RoundIn.mono (n := 0) (F := WF ro) k2 fun e w' he => ?_⟩
      obtain ⟨v, s, h', rfl, e1, e2, e3, e4, e5, e6⟩ := he
      obtain ⟨σ'', g1, g2, g3⟩ := (m.grow e2 e3 e4).putK (fun _ => e6) e1
      exact hn _ _ _ g1 g2
    · exact hno hx
  · exact hno hx
theorem yops_sound (hcall : ∀ k g, SoundT P g (call k g)) (hy : ∀ b, SoundY P hE b (yld b)) (hE0 : Ext hE h0) (hd : ∀ (i : Nat) (o : Oper), ops[i]? = some o → ∀ c, o.op ≠ .defer c) {Q : Exit → Act → World → Prop} {K : St → Prop} (hn : ∀ σ' a' w', K σ' → Mod D F h0 w0 σ' a' w' → Q .normal a' w') :
    ∀ (l : List Nat) (os : List Oper) (σ : St) (a : Act) (w : World), os.length = l.length → (∀ k, k < l.length → ops[l.getD k 0]? = os[k]?) → Mod D F h0 w0 σ a w → yops P call yld hs path ca ops os σ K → wpOpsIn (WF ro) 0 P ops Q l a w
  | [], [], σ, a, w, _, _, m, hx => hn _ _ _ hx m
  | [], _ :: _, _, _, _, hl, _, _, _ => by simp at hl
  | _ :: _, [], _, _, _, hl, _, _, _ => by simp at hl
  | i :: l, o :: os, σ, a, w, hl, hg, m, hx => by
    have ho : ops[i]? = some o := by have := hg 0 (by simp); simpa using this
    have key : ∀ σ' a' w', yops P call yld hs path ca ops os σ' K → Mod D F h0 w0 σ' a' w' → wpOpsIn (WF ro) 0 P ops Q l a' w' := fun σ' a' w' k m' =>
      yops_sound hcall hy hE0 hd hn l os σ' a' w' (by simpa using hl) (fun k hk => by have := hg (k + 1) (by simpa using hk); simpa using this) m' k
    rw [wpOpsIn_cons]
    exact xyield_sound hy hE0 m ho hx key fun hx => wpOp_R tame_no hd (xop_sound (Q := fun _ _ _ => False) (N := wpOpsIn (WF ro) 0 P ops Q l) hcall m ho hx key)

theorem ycode_sound (hm : P.follows .mixedOrders = true) (hcall : ∀ k g, SoundT P g (call k g)) (hy : ∀ b, SoundY P hE b (yld b)) (hE0 : Ext hE h0) : ∀ (c : Code) (σ : St) (a : Act) (w : World) (K : Ex → St → Prop) (Q : Exit → Act → World → Prop),
    Mod D F h0 w0 σ a w → ycode P call yld hs path an (lenE h0) c σ K → (∀ e σ' a' w', K e σ' → Mod D F h0 w0 σ' a' w' → Q e.to a' w') → c.wpIn (WF ro) 0 P Q a w
  | .skip, σ, a, w, K, Q, m, hx, hq => wpIn_skip (hq .normal _ _ _ hx m)
  | .exit id, σ, a, w, K, Q, m, hx, hq => wpIn_exit (hq (.exit id) _ _ _ hx m)
  | .ret, σ, a, w, K, Q, m, hx, hq => wpIn_ret (hq .ret _ _ _ hx m)
  | .seq x y, σ, a, w, K, Q, m, hx, hq => by
    simp only [ycode] at hx
    refine wpIn_seq (ycode_sound hm hcall hy hE0 x σ a w _ _ m hx (fun e σ' a' w' hk m' => ?_))
    cases e with
    | normal => exact ycode_sound hm hcall hy hE0 y σ' a' w' K Q m' hk hq
    | exit id => exact hq (.exit id) _ _ _ hk m'
    | ret => exact hq .ret _ _ _ hk m'
  | .cond c x y, σ, a, w, K, Q, m, hx, hq => by
    obtain ⟨b, σ', h1, m', h2⟩ := xcond_sound m hx
    refine wpIn_cond h1 ?_
    cases b
    · exact ycode_sound hm hcall hy hE0 y σ' a w K Q m' h2 hq
    · exact ycode_sound hm hcall hy hE0 x σ' a w K Q m' h2 hq
  | .block id c, σ, a, w, K, Q, m, hx, hq => by
    refine wpIn_block (ycode_sound hm hcall hy hE0 c σ a w _ _ m hx (fun e σ' a' w' hk m' => ?_))
    cases e with
    | normal => exact hq .normal _ _ _ hk m'
    | exit i =>
      simp only [Ex.to, Exit.inBlock]
      by_cases hi : i = id
      · subst hi
        simp only [Nat.beq_refl, cond_true] at hk
        rw [if_pos rfl]
        exact hq .normal _ _ _ hk m'
      · have : Nat.beq i id = false := by
          cases hb : Nat.beq i id with
          | false => rfl
          | true => exact absurd (Nat.eq_of_beq_eq_true hb) hi
        simp only [this, cond_false] at hk
        rw [if_neg hi]
        exact hq (.exit i) _ _ _ hk m'
    | ret => exact hq .ret _ _ _ hk m'
  | .loop c, σ, a, w, K, Q, m, hx, hq => by
    simp only [ycode] at hx
    split at hx
    · exact hx.elim
    · rename_i L _
      obtain ⟨x0, h1, h3⟩ := hx
      obtain ⟨p0, hp0, h1, h2⟩ := orSh_spec h1
      refine wpIn_loopX (fun x a w => ∃ p ∈ L.shapes, p.2 x0 x ∧ Mod D F h0 w0 (p.1 σ x) a w) L.meas x0 ⟨p0, hp0, h2, leSt_sound m h1⟩ fun x a w ⟨p, hp, hI, m'⟩ => ?_
      refine ycode_sound hm hcall hy hE0 c (p.1 σ x) a w _ _ m' (andSh_spec h3 p hp x hI) (fun e σ' a' w' hk m'' => ?_)
      cases e with
      | normal =>
        obtain ⟨y, k3, hk⟩ := hk
        obtain ⟨q, hq1, k1, k2⟩ := orSh_spec hk
        exact ⟨y, ⟨q, hq1, k2, leSt_sound m'' k1⟩, k3⟩
      | exit i => exact hq (.exit i) _ _ _ hk m''
      | ret => exact hq .ret _ _ _ hk m''
  | .region id ops draw, σ, a, w, K, Q, m, hx, hq => by
    simp only [ycode] at hx
    obtain ⟨σ, hx, m⟩ := xview_sound m hx
    obtain ⟨h0d, hx⟩ := bif_false hx
    have hd : ∀ (i : Nat) (o : Oper), ops[i]? = some o → ∀ c, o.op ≠ .defer c := fun i o ho => noDef_spec h0d o (List.mem_of_getElem? (by rw [Array.getElem?_toList]; exact ho))
    cases draw with
    | false =>
      simp only [cond_false] at hx
      refine wpIn_region (yops_sound (K := K .normal) hcall hy hE0 hd (fun σ' a' w' hk m' => hq .normal _ _ _ hk m') (List.range ops.size) ops.toList σ a w (by simp) (fun k hk => ?_) m hx)
      simp at hk
      simp [hk]
    | true =>
      simp only [cond_true] at hx
      obtain ⟨h1, h2⟩ := bif_false hx
      have hsel : ∀ (j : Nat) (o : Oper) cs b, ops[j]? = some o → o.op ≠ .select cs b := fun j o cs b ho =>
        noSel_spec h1 o (List.mem_of_getElem? (by rw [Array.getElem?_toList]; exact ho)) cs b
      refine wpIn_mono (wpIn_region_T (Q := fun e a w => match e with | .normal => ∃ σ', K .normal σ' ∧ Mod D F h0 w0 σ' a w | _ => False) hm hd ?_) fun e a' w' hk => ?_
      · exact xany_sound hcall hsel ops.size [] [] _ σ a { w with drawn := w.drawn + 1 } (closed_start ops) (fun p hp => by cases hp) (fun p hp => by cases hp) (m.drew _) h2
      · cases e with
        | normal =>
          obtain ⟨σ', h4, h5⟩ := hk
          exact hq .normal _ _ _ h4 h5
        | _ => exact hk.elim
  | .rangeFunc _ _ _ _, _, _, _, _, _, _, hx, _ => hx.elim
  | .scope _, _, _, _, _, _, _, hx, _ => hx.elim
  | .label _, _, _, _, _, _, _, hx, _ => hx.elim
  | .goto _, _, _, _, _, _, _, hx, _ => hx.elim
end
end Go.Sx
