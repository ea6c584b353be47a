/- Code, bodies, runs. -/
import Derived.Test.YtpjikjhaljennaaSxTv
set_option linter.unusedVariables false
set_option linter.unusedSimpArgs false
namespace Go.Sx
open Classical

inductive Ex where
  | normal
  | exit (id : Nat)
  | ret
def Ex.to : Ex → Exit
  | .normal => .normal
  | .exit id => .exit id
  | .ret => .ret

def regId : Code → Nat
  | .region id _ _ => id
  | .seq a _ => regId a
  | .block _ c => regId c
  | .loop c => regId c
  | .cond _ a _ => regId a
  | _ => 0

def xcond (hs : Hints) (path : List Nat) (c : Operand) (σ : St) (yes no : St → Prop) : Prop :=
  match c with
  | .tmp t => (match look σ.env t with
    | .val (.tuple _) => False
    | _ => xguard hs path (some (some t, true)) σ yes no)
  | .const (.bool true) => yes σ
  | .const (.bool false) => no σ
  | _ => False

/-- How a piece of code is gone through: as it stands; up to the place k on its right side; from there on. -/
inductive Md where
  | run
  | pre (k : Nat) (φ : St → Prop)
  | at (k : Nat)
/-- The join that begins at a region: where it ends, and its shapes. -/
def findJ : List (Nat × LoopAnn) → Nat → Option (Nat × LoopAnn)
  | [], _ => none
  | (u, s) :: r, t => bif Nat.beq (u / 1000) (2000 + t) then some (u % 1000, s) else findJ r t

/-- A loop that goes round so often: key 4000000 + 1000 * rounds + region. -/
def findU : List (Nat × LoopAnn) → Nat → Option Nat
  | [], _ => none
  | (u, _) :: r, t => bif Nat.beq (u / 1000000) 4 && Nat.beq (u % 1000) t then some ((u / 1000) % 1000) else findU r t
def unroll (f : St → (Ex → St → Prop) → Prop) : Nat → St → (Ex → St → Prop) → Prop
  | 0, σ, K => f σ fun e σ' => match e with
    | .normal => False
    | .exit i => K (.exit i) σ'
    | .ret => K .ret σ'
  | n + 1, σ, K => f σ fun e σ' => match e with
    | .normal => unroll f n σ' K
    | .exit _ => False
    | .ret => False

noncomputable def xcode (P : Program) (call : Nat → FuncId → Trans) (hs : Hints) (path : List Nat) (an : FnAnn) (n0 : Nat) : Code → Md → St → (Ex → St → Prop) → Prop
  | .skip, .run, σ, K => K .normal σ
  | .exit id, .run, σ, K => K (.exit id) σ
  | .ret, .run, σ, K => K .ret σ
  | .seq a b, .run, σ, K => (match findLp an.loops (1000000 + regId b) with
    | none => (match findJ an.loops (regId a) with
      | none => xcode P call hs path an n0 a .run σ fun e σ' => match e with
        | .normal => xcode P call hs path an n0 b .run σ' K
        | .exit id => K (.exit id) σ'
        | .ret => K .ret σ'
      | some (k, L) => ∃ x0, (xcode P call hs path an n0 a .run σ fun e σ' => match e with
          | .normal => bif Nat.beq (regId b) k then (∃ y, orSh L.shapes fun st inv => leSt n0 σ' (st σ y) ∧ inv x0 y)
              else xcode P call hs path an n0 b (.pre k fun σ' => ∃ y, orSh L.shapes fun st inv => leSt n0 σ' (st σ y) ∧ inv x0 y) σ' K
          | .exit id => K (.exit id) σ'
          | .ret => K .ret σ') ∧ andSh L.shapes fun st inv => ∀ x, inv x0 x → bif Nat.beq (regId b) k then xcode P call hs path an n0 b .run (st σ x) K else xcode P call hs path an n0 b (.at k) (st σ x) K)
    | some L => ∃ x0, (xcode P call hs path an n0 a .run σ fun e σ' => match e with
        | .normal => ∃ y, orSh L.shapes fun st inv => leSt n0 σ' (st σ y) ∧ inv x0 y
        | .exit id => K (.exit id) σ'
        | .ret => K .ret σ') ∧ andSh L.shapes fun st inv => ∀ x, inv x0 x → xcode P call hs path an n0 b .run (st σ x) K)
  | .seq a b, .pre k φ, σ, K => xcode P call hs path an n0 a .run σ fun e σ' => match e with
      | .normal => bif Nat.beq (regId b) k then φ σ' else xcode P call hs path an n0 b (.pre k φ) σ' K
      | .exit id => K (.exit id) σ'
      | .ret => K .ret σ'
  | .seq a b, .at k, σ, K => bif Nat.beq (regId b) k then xcode P call hs path an n0 b .run σ K else xcode P call hs path an n0 b (.at k) σ K
  | .cond c a b, .run, σ, K => xcond hs path c σ (fun σ => xcode P call hs path an n0 a .run σ K) (fun σ => xcode P call hs path an n0 b .run σ K)
  | .block id c, .run, σ, K => xcode P call hs path an n0 c .run σ fun e σ' => match e with
    | .normal => K .normal σ'
    | .exit i => bif Nat.beq i id then K .normal σ' else K (.exit i) σ'
    | .ret => K .ret σ'
  | .loop c, .run, σ, K => (match findLp an.loops (regId c) with
    | none => (match findU an.loops (regId c) with
      | none => False
      | some n => unroll (xcode P call hs path an n0 c .run) n σ K)
    | some L => ∃ x0, orSh L.shapes (fun st inv => leSt n0 σ (st σ x0) ∧ inv x0 x0) ∧ andSh L.shapes fun st inv => ∀ x, inv x0 x → xcode P call hs path an n0 c .run (st σ x) fun e σ' => match e with
      | .normal => ∃ y, L.meas y < L.meas x ∧ orSh L.shapes fun st inv => leSt n0 σ' (st σ y) ∧ inv x0 y
      | .exit i => K (.exit i) σ'
      | .ret => K .ret σ')
  | .region id ops draw, .run, σ, K => xview an.casts id σ fun σ => bif draw then
      (bif noSel ops.toList then xany P call hs path an.casts ops ops.size [] (Array.replicate ops.size false) σ (K .normal) else False)
    else xops P call hs path an.casts ops ops.toList σ (K .normal)
  | _, _, _, _ => False

def xresults (P : Program) (h : List Ent) (env : List (Nat × SV)) : List ResultVar → (List SV → Prop) → Prop
  | [], K => K []
  | .tmp t :: r, K => nt (look env t) fun s => xresults P h env r fun l => K (s :: l)
  | .cell a t :: r, K => (match look env a with
    | .ptr n i j => xload P h n i j t fun s => xresults P h env r fun l => K (s :: l)
    | _ => False)
def enum : Nat → List SV → List (Nat × SV)
  | _, [] => []
  | n, s :: r => (n, s) :: enum (n + 1) r
def tupOf : List SV → SV
  | [s] => s
  | l => .tup l

noncomputable def xbody (P : Program) (call : Nat → FuncId → Trans) (hs : Hints) (path : List Nat) (an : FnAnn) (fn : Func) : Trans := fun args h K =>
  match fn.body with
  | none => False
  | some c => bif Nat.ble (lenS args) fn.ntmps then
      xcode P call hs path an (lenE h) c .run ⟨fn.ntmps, enum 0 args, h⟩ fun e σ' => match e with
        | .exit _ => False
        | _ => xresults P σ'.heap σ'.env fn.results.toList fun l => K (tupOf l) σ'.heap
      else False

noncomputable def xrun (P : Program) (ts : List (Nat × Trans)) (ann : List (Nat × FnAnn)) (hs : Hints) : Nat → List Nat → FuncId → Trans
  | 0, _, g => match findT ts g with
    | some T => T
    | none => fun _ _ _ => False
  | d + 1, path, g => match findT ts g with
    | some T => T
    | none => fun args h K => match P.funcs[g]? with
      | none => False
      | some fn => xbody P (fun k => xrun P ts ann hs d (k :: path)) hs path (findA ann g) fn args h K

section
variable {P : Program} {D : List Deferred} {F : List (Nat × Blk)} {h0 : List Ent} {w0 : World} {σ : St} {a : Act} {w : World} {call : Nat → FuncId → Trans} {hs : Hints} {path : List Nat} {an : FnAnn}

theorem wp_loopX {P : Program} {Q : Exit → Act → World → Prop} {a : Act} {w : World} {c : Code} {X : Type} (I : X → Act → World → Prop) (μ : X → Nat) (x0 : X) (h₀ : I x0 a w)
    (round : ∀ x a w, I x a w → c.wp P (Exit.then (fun a' w' => ∃ y, I y a' w' ∧ μ y < μ x) Q) a w) : (Code.loop c).wp P Q a w := by
  intro b k cs
  have key : ∀ n x a w, μ x = n → I x a w →
      ∃ e a' w', Q e a' w' ∧ Arrives P (lone (b.at a (.code c :: .inLoop c :: k)) cs w) b k cs e a' w' := by
    intro n
    induction n using Nat.strongRecOn with
    | _ n ih =>
      intro x a w hn hI
      obtain ⟨e, a₁, w₁, hq, harr⟩ := round x a w hI b (.inLoop c :: k) cs
      cases e with
      | normal =>
        obtain ⟨y, hI₁, hlt⟩ := hq
        obtain ⟨e₂, a₂, w₂, hq₂, harr₂⟩ := ih (μ y) (hn ▸ hlt) y a₁ w₁ rfl hI₁
        exact ⟨e₂, a₂, w₂, hq₂, .of_steps (Steps.trans harr (.one step_inLoop)) harr₂⟩
      | exit id => exact ⟨_, a₁, w₁, hq, .pass (x := .inLoop c) rfl (fun _ _ => .inl (by simp)) harr⟩
      | goto l => exact ⟨_, a₁, w₁, hq, .pass (x := .inLoop c) rfl (fun _ _ => .inl (by simp)) harr⟩
      | ret => exact ⟨_, a₁, w₁, hq, .pass (x := .inLoop c) rfl (fun _ _ => .inl (by simp)) harr⟩
      | panic ch => exact ⟨_, a₁, w₁, hq, .pass (x := .inLoop c) rfl (fun _ _ => .inl (by simp)) harr⟩
      | outgrown => exact ⟨_, a₁, w₁, hq, .pass (x := .inLoop c) rfl (fun _ _ => .inl (by simp)) harr⟩
  obtain ⟨e, a', w', hq, harr⟩ := key _ x0 a w rfl h₀
  exact ⟨e, a', w', hq, .of_steps (.one step_loop) harr⟩

/-- Where a loop stands ahead of a round. -/
def inLoopWp (P : Program) (c : Code) (Q : Exit → Act → World → Prop) (a : Act) (w : World) : Prop := ∀ b k cs, ∃ e a' w', Q e a' w' ∧ Arrives P (lone (b.at a (.code c :: .inLoop c :: k)) cs w) b k cs e a' w'
theorem wp_inLoop {P : Program} {Q : Exit → Act → World → Prop} {a : Act} {w : World} {c : Code} (h : inLoopWp P c Q a w) : (Code.loop c).wp P Q a w := by
  intro b k cs
  obtain ⟨e, a', w', hq, harr⟩ := h b k cs
  exact ⟨e, a', w', hq, .of_steps (.one step_loop) harr⟩
theorem inLoop_round {P : Program} {Q : Exit → Act → World → Prop} {a : Act} {w : World} {c : Code} (h : c.wp P (Exit.then (fun a' w' => inLoopWp P c Q a' w') Q) a w) : inLoopWp P c Q a w := by
  intro b k cs
  obtain ⟨e, a₁, w₁, hq, harr⟩ := h b (.inLoop c :: k) cs
  cases e with
  | normal =>
    obtain ⟨e₂, a₂, w₂, hq₂, harr₂⟩ := hq b k cs
    exact ⟨e₂, a₂, w₂, hq₂, .of_steps (Steps.trans harr (.one step_inLoop)) harr₂⟩
  | exit id => exact ⟨_, a₁, w₁, hq, .pass (x := .inLoop c) rfl (fun _ _ => .inl (by simp)) harr⟩
  | goto l => exact ⟨_, a₁, w₁, hq, .pass (x := .inLoop c) rfl (fun _ _ => .inl (by simp)) harr⟩
  | ret => exact ⟨_, a₁, w₁, hq, .pass (x := .inLoop c) rfl (fun _ _ => .inl (by simp)) harr⟩
  | panic ch => exact ⟨_, a₁, w₁, hq, .pass (x := .inLoop c) rfl (fun _ _ => .inl (by simp)) harr⟩
  | outgrown => exact ⟨_, a₁, w₁, hq, .pass (x := .inLoop c) rfl (fun _ _ => .inl (by simp)) harr⟩
theorem unroll_sound {P : Program} {I : St → Act → World → Prop} {c : Code} {f : St → (Ex → St → Prop) → Prop} {K : Ex → St → Prop} {Q : Exit → Act → World → Prop}
    (hf : ∀ (K' : Ex → St → Prop) (Q' : Exit → Act → World → Prop) σ a w, I σ a w → f σ K' → (∀ e σ' a' w', K' e σ' → I σ' a' w' → Q' e.to a' w') → c.wp P Q' a w)
    (hq : ∀ e σ' a' w', K e σ' → I σ' a' w' → Q e.to a' w') : ∀ (n : Nat) (σ : St) (a : Act) (w : World), I σ a w → unroll f n σ K → inLoopWp P c Q a w
  | 0, σ, a, w, hI, hx => inLoop_round (hf _ _ σ a w hI hx fun e σ' a' w' hk hI' => by
    cases e with
    | normal => exact hk.elim
    | exit i => exact hq (.exit i) _ _ _ hk hI'
    | ret => exact hq .ret _ _ _ hk hI')
  | n + 1, σ, a, w, hI, hx => inLoop_round (hf _ _ σ a w hI hx fun e σ' a' w' hk hI' => by
    cases e with
    | normal => exact unroll_sound hf hq n σ' a' w' hI' hk
    | exit i => exact hk.elim
    | ret => exact hk.elim)
theorem xcond_sound (m : Mod D F h0 w0 σ a w) {c : Operand} {yes no : St → Prop} (hx : xcond hs path c σ yes no) :
    ∃ b σ', a.eval c = .bool b ∧ Mod D F h0 w0 σ' a w ∧ (if b then yes σ' else no σ') := by
  unfold xcond at hx
  split at hx
  · rename_i t
    let o : Oper := { (default : Oper) with guard := some (0, true) }
    have hstd := m.env t
    have hnt : ∀ x, look σ.env t ≠ .val (.tuple x) := fun x hq => by rw [hq] at hx; exact hx
    have hx : xguard hs path (some (some t, true)) σ yes no := by
      split at hx
      · exact hx.elim
      · exact hx
    simp only [xguard] at hx
    show ∃ b σ', a.tmps.getD t undef = .bool b ∧ _
    split at hx
    · rename_i hl
      rw [hl] at hstd
      exact ⟨true, σ, ((hstd (by simp)) []).symm, m, by simpa using hx⟩
    · rename_i hl
      rw [hl] at hstd
      exact ⟨false, σ, ((hstd (by simp)) []).symm, m, by simpa using hx⟩
    · rename_i p hl
      rw [hl] at hstd
      have hv : a.tmps.getD t undef = .bool (decide p) := ((hstd (by simp)) []).symm
      have hx := xboth_spec hx
      by_cases hp : p
      · have hv' : a.tmps.getD t undef = .bool true := by rw [hv]; simp [hp]
        exact ⟨true, _, hv', m.know (t := t) (s := .tt) fun r => hv'.symm, by simpa using hx.1 hp⟩
      · have hv' : a.tmps.getD t undef = .bool false := by rw [hv]; simp [hp]
        exact ⟨false, _, hv', m.know (t := t) (s := .ff) fun r => hv'.symm, by simpa using hx.2 hp⟩
    · rename_i b hl
      rw [hl] at hstd
      have hv : a.tmps.getD t undef = .bool b := ((hstd (by simp)) []).symm
      have hx := xboth_spec hx
      cases b
      · exact ⟨false, _, hv, m.know (t := t) (s := .ff) fun r => hv.symm, by simpa using hx.2 (by simp)⟩
      · exact ⟨true, _, hv, m.know (t := t) (s := .tt) fun r => hv.symm, by simpa using hx.1 rfl⟩
    · rename_i x hl
      exact absurd hl (hnt x)
    · exact hx.elim
  · exact ⟨true, σ, rfl, m, hx⟩
  · exact ⟨false, σ, rfl, m, hx⟩
  · exact hx.elim

theorem closed_start (ops : Array Oper) : Closed ops (Array.replicate ops.size false) := by
  intro k o ho hl
  rw [Array.getD_eq_getD_getElem?, Array.getElem?_replicate] at hl
  have := (Array.getElem?_eq_some_iff.1 ho).1
  rw [if_pos this] at hl
  cases hl

/-- What is known of the place k, while the code is gone through up to it. -/
def Tail (D : List Deferred) (P : Program) (call : Nat → FuncId → Trans) (hs : Hints) (path : List Nat) (an : FnAnn) (F : List (Nat × Blk)) (h0 : List Ent) (w0 : World) (c : Code) (K : Ex → St → Prop) : Md → Prop
  | .run => True
  | .pre k φ => ∀ σ a w, φ σ → Mod D F h0 w0 σ a w → ∃ σ', Mod D F h0 w0 σ' a w ∧ xcode P call hs path an (lenE h0) c (.at k) σ' K
  | .at _ => False

theorem xcode_sound (hm : P.follows .mixedOrders = true) (hcall : ∀ k g, SoundT P g (call k g)) : ∀ (c : Code) (md : Md) (σ : St) (a : Act) (w : World) (K : Ex → St → Prop) (Q : Exit → Act → World → Prop),
    Mod D F h0 w0 σ a w → xcode P call hs path an (lenE h0) c md σ K → (∀ e σ' a' w', K e σ' → Mod D F h0 w0 σ' a' w' → Q e.to a' w') → Tail D P call hs path an F h0 w0 c K md → c.wp P Q a w
  | c, .at k, σ, a, w, K, Q, m, hx, hq, ht => ht.elim
  | .skip, .run, σ, a, w, K, Q, m, hx, hq, ht => wp_skip (hq .normal _ _ _ hx m)
  | .exit id, .run, σ, a, w, K, Q, m, hx, hq, ht => wp_exit (hq (.exit id) _ _ _ hx m)
  | .ret, .run, σ, a, w, K, Q, m, hx, hq, ht => wp_ret (hq .ret _ _ _ hx m)
  | .seq x y, .pre k φ, σ, a, w, K, Q, m, hx, hq, ht => by
    simp only [xcode] at hx
    refine wp_seq (xcode_sound hm hcall x .run σ a w _ _ m hx (fun e σ' a' w' hk m' => ?_) trivial)
    cases e with
    | exit id => exact hq (.exit id) _ _ _ hk m'
    | ret => exact hq .ret _ _ _ hk m'
    | normal =>
      simp only at hk
      cases hb : Nat.beq (regId y) k with
      | true =>
        rw [hb] at hk
        obtain ⟨σ2, m2, hx2⟩ := ht σ' a' w' hk m'
        simp only [xcode, hb, cond_true] at hx2
        exact xcode_sound hm hcall y .run σ2 a' w' K Q m2 hx2 hq trivial
      | false =>
        rw [hb] at hk
        refine xcode_sound hm hcall y (.pre k φ) σ' a' w' K Q m' hk hq fun σ1 a1 w1 h1 m1 => ?_
        obtain ⟨σ2, m2, hx2⟩ := ht σ1 a1 w1 h1 m1
        simp only [xcode, hb, cond_false] at hx2
        exact ⟨σ2, m2, hx2⟩
  | .seq x y, .run, σ, a, w, K, Q, m, hx, hq, ht => by
    simp only [xcode] at hx
    split at hx
    · split at hx
      · refine wp_seq (xcode_sound hm hcall x .run σ a w _ _ m hx (fun e σ' a' w' hk m' => ?_) trivial)
        cases e with
        | normal => exact xcode_sound hm hcall y .run σ' a' w' K Q m' hk hq trivial
        | exit id => exact hq (.exit id) _ _ _ hk m'
        | ret => exact hq .ret _ _ _ hk m'
      · rename_i k L _
        obtain ⟨x0, h1, h2⟩ := hx
        refine wp_seq (xcode_sound hm hcall x .run σ a w _ _ m h1 (fun e σ' a' w' hk m' => ?_) trivial)
        cases e with
        | exit id => exact hq (.exit id) _ _ _ hk m'
        | ret => exact hq .ret _ _ _ hk m'
        | normal =>
          simp only at hk
          cases hb : Nat.beq (regId y) k with
          | true =>
            rw [hb] at hk
            obtain ⟨z, hk⟩ := hk
            obtain ⟨q, hq1, k1, k2⟩ := orSh_spec hk
            have h3 := andSh_spec h2 q hq1 z k2
            rw [hb] at h3
            exact xcode_sound hm hcall y .run (q.1 σ z) a' w' K Q (leSt_sound m' k1) h3 hq trivial
          | false =>
            rw [hb] at hk
            refine xcode_sound hm hcall y (.pre k _) σ' a' w' K Q m' hk hq fun σ1 a1 w1 h3 m1 => ?_
            obtain ⟨z, h3⟩ := h3
            obtain ⟨q, hq1, k1, k2⟩ := orSh_spec h3
            have h4 := andSh_spec h2 q hq1 z k2
            rw [hb] at h4
            exact ⟨q.1 σ z, leSt_sound m1 k1, h4⟩
    · rename_i L _
      obtain ⟨x0, h1, h2⟩ := hx
      refine wp_seq (xcode_sound hm hcall x .run σ a w _ _ m h1 (fun e σ' a' w' hk m' => ?_) trivial)
      cases e with
      | normal =>
        obtain ⟨z, hk⟩ := hk
        obtain ⟨q, hq1, k1, k2⟩ := orSh_spec hk
        exact xcode_sound hm hcall y .run (q.1 σ z) a' w' K Q (leSt_sound m' k1) (andSh_spec h2 q hq1 z k2) hq trivial
      | exit id => exact hq (.exit id) _ _ _ hk m'
      | ret => exact hq .ret _ _ _ hk m'
  | .cond c x y, .run, σ, a, w, K, Q, m, hx, hq, ht => by
    obtain ⟨b, σ', h1, m', h2⟩ := xcond_sound m hx
    refine wp_cond h1 ?_
    cases b
    · exact xcode_sound hm hcall y .run σ' a w K Q m' h2 hq trivial
    · exact xcode_sound hm hcall x .run σ' a w K Q m' h2 hq trivial
  | .block id c, .run, σ, a, w, K, Q, m, hx, hq, ht => by
    refine wp_block (xcode_sound hm hcall c .run σ a w _ _ m hx (fun e σ' a' w' hk m' => ?_) trivial)
    cases e with
    | normal => exact hq .normal _ _ _ hk m'
    | exit i =>
      simp only [Ex.to, Exit.inBlock]
      by_cases hi : i = id
      · subst hi
        simp only [Nat.beq_refl, cond_true] at hk
        rw [if_pos rfl]
        exact hq .normal _ _ _ hk m'
      · have : Nat.beq i id = false := by
          cases hb : Nat.beq i id with
          | false => rfl
          | true => exact absurd (Nat.eq_of_beq_eq_true hb) hi
        simp only [this, cond_false] at hk
        rw [if_neg hi]
        exact hq (.exit i) _ _ _ hk m'
    | ret => exact hq .ret _ _ _ hk m'
  | .loop c, .run, σ, a, w, K, Q, m, hx, hq, ht => by
    simp only [xcode] at hx
    split at hx
    · split at hx
      · exact hx.elim
      · rename_i n _
        exact wp_inLoop (unroll_sound (I := fun σ a w => Mod D F h0 w0 σ a w) (fun K' Q' σ a w m' hx' hq' => xcode_sound hm hcall c .run σ a w K' Q' m' hx' hq' trivial) (fun e σ' a' w' hk m' => hq e σ' a' w' hk m') n σ a w m hx)
    · rename_i L _
      obtain ⟨x0, h1, h3⟩ := hx
      obtain ⟨p0, hp0, h1, h2⟩ := orSh_spec h1
      refine wp_loopX (fun x a w => ∃ p ∈ L.shapes, p.2 x0 x ∧ Mod D F h0 w0 (p.1 σ x) a w) L.meas x0 ⟨p0, hp0, h2, leSt_sound m h1⟩ fun x a w ⟨p, hp, hI, m'⟩ => ?_
      refine xcode_sound hm hcall c .run (p.1 σ x) a w _ _ m' (andSh_spec h3 p hp x hI) (fun e σ' a' w' hk m'' => ?_) trivial
      cases e with
      | normal =>
        obtain ⟨y, k3, hk⟩ := hk
        obtain ⟨q, hq1, k1, k2⟩ := orSh_spec hk
        exact ⟨y, ⟨q, hq1, k2, leSt_sound m'' k1⟩, k3⟩
      | exit i => exact hq (.exit i) _ _ _ hk m''
      | ret => exact hq .ret _ _ _ hk m''
  | .region id ops draw, .run, σ, a, w, K, Q, m, hx, hq, ht => by
    simp only [xcode] at hx
    obtain ⟨σ, hx, m⟩ := xview_sound m hx
    cases draw with
    | false =>
      simp only [cond_false] at hx
      refine wp_region (xops_sound (K := K .normal) hcall (fun σ' a' w' hk m' => hq .normal _ _ _ hk m') (List.range ops.size) ops.toList σ a w (by simp) (fun k hk => ?_) m hx)
      simp at hk
      simp [hk]
    | true =>
      simp only [cond_true] at hx
      obtain ⟨h1, h2⟩ := bif_false hx
      have hsel : ∀ (j : Nat) (o : Oper) cs b, ops[j]? = some o → o.op ≠ .select cs b := fun j o cs b ho =>
        noSel_spec h1 o (List.mem_of_getElem? (by rw [Array.getElem?_toList]; exact ho)) cs b
      refine wp_mono (wp_region_T (Q := fun e a w => match e with | .normal => ∃ σ', K .normal σ' ∧ Mod D F h0 w0 σ' a w | _ => False) hm ?_) fun e a' w' hk => ?_
      · exact xany_sound hcall hsel ops.size [] [] _ σ a { w with drawn := w.drawn + 1 } (closed_start ops) (fun p hp => by cases hp) (fun p hp => by cases hp) (m.drew _) h2
      · cases e with
        | normal =>
          obtain ⟨σ', h4, h5⟩ := hk
          exact hq .normal _ _ _ h4 h5
        | _ => exact hk.elim
  | .rangeFunc _ _ _ _, .run, _, _, _, _, _, _, hx, _, _ => hx.elim
  | .scope _, .run, _, _, _, _, _, _, hx, _, _ => hx.elim
  | .label _, .run, _, _, _, _, _, _, hx, _, _ => hx.elim
  | .goto _, .run, _, _, _, _, _, _, hx, _, _ => hx.elim
  | .rangeFunc _ _ _ _, .pre _ _, _, _, _, _, _, _, hx, _, _ => hx.elim
  | .scope _, .pre _ _, _, _, _, _, _, _, hx, _, _ => hx.elim
  | .label _, .pre _ _, _, _, _, _, _, _, hx, _, _ => hx.elim
  | .goto _, .pre _ _, _, _, _, _, _, _, hx, _, _ => hx.elim
  | .skip, .pre _ _, _, _, _, _, _, _, hx, _, _ => hx.elim
  | .exit _, .pre _ _, _, _, _, _, _, _, hx, _, _ => hx.elim
  | .ret, .pre _ _, _, _, _, _, _, _, hx, _, _ => hx.elim
  | .cond _ _ _, .pre _ _, _, _, _, _, _, _, hx, _, _ => hx.elim
  | .block _ _, .pre _ _, _, _, _, _, _, _, hx, _, _ => hx.elim
  | .loop _, .pre _ _, _, _, _, _, _, _, hx, _, _ => hx.elim
  | .region _ _ _, .pre _ _, _, _, _, _, _, _, hx, _, _ => hx.elim

theorem look_enum {h : List Ent} : ∀ {args : List SV} {vs : List Value} {n : Nat}, StdL h args vs → ∀ t, look (enum n args) t ≠ .top →
    n ≤ t ∧ ∃ v, vs[t - n]? = some v ∧ Std h (look (enum n args) t) v
  | [], _, _, _, t, hn => absurd rfl hn
  | s :: r, [], _, hs, _, _ => by have := hs []; simp [denL] at this
  | s :: r, v :: vs, n, hs, t, hn => by
    have h1 : ∀ q, den (locs h ++ q) s = v ∧ denL (locs h ++ q) r = vs := fun q => by have := hs q; simpa [denL] using this
    simp only [enum, look_cons] at hn ⊢
    split
    · rename_i ht
      subst ht
      exact ⟨Nat.le_refl _, v, by simp, fun q => (h1 q).1⟩
    · rename_i ht
      rw [if_neg ht] at hn
      obtain ⟨h2, v', h3, h4⟩ := look_enum (args := r) (vs := vs) (n := n + 1) (fun q => (h1 q).2) t hn
      refine ⟨by omega, v', ?_, h4⟩
      have : t - n = (t - (n + 1)) + 1 := by omega
      rw [this]
      simpa using h3

theorem stdL_len {h : List Ent} {args : List SV} {vs : List Value} (hs : StdL h args vs) : args.length = vs.length := by
  have := hs []
  rw [denL_eq] at this
  rw [← this, List.length_map]

theorem lenS_eq' : ∀ l : List SV, lenS l = l.length
  | [] => rfl
  | _ :: r => by simp [lenS, lenS_eq' r]

def resM (tmps : Array Value) : ResultVar → Sem Value
  | .tmp t => pure (tmps.getD t undef)
  | .cell a t => do loadVar t (← asAddr (tmps.getD a undef))

theorem xresults_sound (m : Mod D F h0 w0 σ a w) : ∀ {l : List ResultVar} {K : List SV → Prop}, xresults P σ.heap σ.env l K →
    ∃ ss vs, K ss ∧ (∀ s ∈ ss, s ≠ .top) ∧ StdL σ.heap ss vs ∧ (l.mapM (resM a.tmps)).run P w = .ok vs w
  | [], K, hx => ⟨[], [], hx, by simp, fun _ => rfl, rfl⟩
  | .tmp t :: r, K, hx => by
    obtain ⟨h1, h2⟩ := nt_spec hx
    obtain ⟨ss, vs, k1, k2, k3, k4⟩ := xresults_sound m h2
    refine ⟨_, a.tmps.getD t undef :: vs, k1, ?_, fun q => ?_, ?_⟩
    · intro s hs
      rcases List.mem_cons.1 hs with rfl | hs
      · exact h1
      · exact k2 s hs
    · simp only [denL, k3 q, m.env t h1 q]
    · simp only [List.mapM_cons, Sem.run_bind, resM, Sem.run_pure, Result.andThen_ok, k4]
  | .cell b t :: r, K, hx => by
    simp only [xresults] at hx
    split at hx
    · rename_i n i j hl
      have hb := m.env b (by rw [hl]; simp)
      rw [hl] at hb
      obtain ⟨s, v, e1, e2, e3, e4⟩ := xload_sound m.ctx hx
      obtain ⟨ss, vs, k1, k2, k3, k4⟩ := xresults_sound m e1
      refine ⟨_, v :: vs, k1, ?_, fun q => ?_, ?_⟩
      · intro s' hs
        rcases List.mem_cons.1 hs with rfl | hs
        · exact e2
        · exact k2 s' hs
      · simp only [denL, k3 q, e3 q]
      · have hv : a.tmps.getD b undef = den (locs σ.heap ++ []) (.ptr n i j) := (hb []).symm
        have : (asAddr (a.tmps.getD b undef)).run P w = .ok ⟨(locAt (locs σ.heap ++ []) n).1, ((locAt (locs σ.heap ++ []) n).2.1 + i) * (locAt (locs σ.heap ++ []) n).2.2 + j, none⟩ w := by
          rw [hv]; rfl
        simp only [List.mapM_cons, Sem.run_bind, resM, this, Result.andThen_ok, e4 [], Sem.run_pure, k4]
    · exact hx.elim

theorem run_results {fn : Func} {vs : List Value} (hr : (fn.results.toList.mapM (resM a.tmps)).run P w = .ok vs w) :
    (results fn a.tmps).run P w = .ok (match vs with | [v] => v | vs => .tuple vs.toArray) w := by
  have e : results fn a.tmps = (do let vs ← fn.results.mapM (resM a.tmps); pure (if h : vs.size = 1 then vs[0] else .tuple vs)) := by
    unfold results
    congr 1
  rw [e, Array.mapM_eq_mapM_toList]
  simp only [Sem.run_bind, Sem.run_map, hr, Result.andThen_ok]
  match vs with
  | [] => rfl
  | [v] => rfl
  | v :: u :: r => simp

theorem xbody_sound (hm : P.follows .mixedOrders = true) (hcall : ∀ k g, SoundT P g (call k g)) {f : FuncId} {fn : Func} (hf : P.funcs[f]? = some fn) (hn : (fn.name == "runtime.NumGoroutine") = false) :
    SoundT P f (xbody P call hs path an fn) := by
  intro F h w args vs K c hargs hx
  unfold xbody at hx
  cases hb : fn.body with
  | none => rw [hb] at hx; exact hx.elim
  | some code =>
    rw [hb] at hx
    simp only at hx
    obtain ⟨hle, hx⟩ := bif_false hx
    have hle := Nat.le_of_ble_eq_true hle
    rw [lenS_eq'] at hle
    have hlen := stdL_len hargs
    refine ⟨⟨fn, hf, by rw [hb]; rfl, hn⟩, ?_⟩
    have m : Mod [] F h w ⟨fn.ntmps, enum 0 args, h⟩ { tmps := vs.toArray ++ Array.replicate (fn.ntmps - vs.toArray.size) undef, defers := [] } w := by
      refine ⟨by simp; omega, rfl, fun t ht => ?_, c, Rest.refl w, Ext.refl h⟩
      obtain ⟨_, v, h1, h2⟩ := look_enum (args := args) (vs := vs) (n := 0) hargs t ht
      have : (vs.toArray ++ Array.replicate (fn.ntmps - vs.toArray.size) undef).getD t undef = v := by
        rw [Array.getD_eq_getD_getElem?, Array.getElem?_append_left (by have := (List.getElem?_eq_some_iff.1 h1).1; simpa using this)]
        simp at h1
        simp [h1]
      rw [this]
      exact h2
    refine calls_of_wp hf hb (xcode_sound hm hcall code .run _ _ w _ _ m hx (fun e σ' a' w' hk m' => ?_) trivial)
    have fin : xresults P σ'.heap σ'.env fn.results.toList (fun l => K (tupOf l) σ'.heap) → a'.defers = [] ∧ ∃ v, (results fn a'.tmps).run P w' = .ok v w' ∧
        ∃ v' s h', Ending.returned v = .returned v' ∧ K s h' ∧ Ext h h' ∧ Ctx F h' w' ∧ Rest w w' ∧ s ≠ .top ∧ Std h' s v' := by
      intro hk
      obtain ⟨ss, us, k1, k2, k3, k4⟩ := xresults_sound m' hk
      refine ⟨m'.defers, _, run_results k4, _, tupOf ss, σ'.heap, rfl, k1, m'.ext, m'.ctx, m'.rest, ?_, ?_⟩
      · match ss, k2 with
        | [], _ => simp [tupOf]
        | [s], k2 => exact k2 s (by simp)
        | _ :: _ :: _, _ => simp [tupOf]
      · have hl2 := stdL_len k3
        match ss, us, hl2, k3 with
        | [], [], _, _ => intro r; rfl
        | [s], [u], _, k3 => intro r; have := k3 r; simpa [denL, tupOf] using this
        | s :: s' :: ss, u :: u' :: us, _, k3 => intro r; have := k3 r; simp only [tupOf, den, this]
    cases e with
    | normal => exact fin hk
    | ret => exact fin hk
    | exit id => exact hk.elim

theorem xrun_sound (hm : P.follows .mixedOrders = true) (hn : ∀ (f : FuncId) (fn : Func), P.funcs[f]? = some fn → (fn.name == "runtime.NumGoroutine") = false) {ts : List (Nat × Trans)} {ann : List (Nat × FnAnn)} {hs : Hints}
    (hts : ∀ g T, findT ts g = some T → SoundT P g T) : ∀ (d : Nat) (path : List Nat) (g : FuncId), SoundT P g (xrun P ts ann hs d path g)
  | 0, path, g => by
    intro F h w args vs K c hargs hx
    unfold xrun at hx
    cases hT : findT ts g with
    | some T =>
      simp only [hT] at hx
      exact hts g T hT F h w args vs K c hargs hx
    | none =>
      simp only [hT] at hx
  | d + 1, path, g => by
    intro F h w args vs K c hargs hx
    unfold xrun at hx
    cases hT : findT ts g with
    | some T =>
      simp only [hT] at hx
      exact hts g T hT F h w args vs K c hargs hx
    | none =>
      simp only [hT] at hx
      cases hf : P.funcs[g]? with
      | none => simp only [hf] at hx
      | some fn =>
        simp only [hf] at hx
        exact xbody_sound hm (fun k g' => xrun_sound hm hn hts d (k :: path) g') hf (hn g fn hf) F h w args vs K c hargs hx
end
end Go.Sx
