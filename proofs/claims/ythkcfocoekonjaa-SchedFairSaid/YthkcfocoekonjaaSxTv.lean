/- The same state, seen otherwise: blocks of a chunk get positions of their own, and back. -/
import Derived.Test.YthkcfocoekonjaaSxT
set_option linter.unusedVariables false
set_option linter.unusedSimpArgs false
namespace Go.Sx
open Classical

abbrev Blks := List (Nat × Blk)

/-! What a heap owns does not hang on places that it does not have. -/
theorem blocks_indep {h : List Ent} {w : World} {F : Blks} (c : Ctx F h w) {e : Ent} (he : e ∈ h) (r : List Loc) : e.blocks (locs h ++ r) = e.blocks (locs h) := by
  cases e with
  | own b k =>
    have h1 := (c.owns r).get (List.mem_append_left F (owned_mem (ρ := locs h ++ r) he))
    have h2 := (c.owns []).get (List.mem_append_left F (owned_mem (ρ := locs h ++ []) he))
    obtain ⟨o, ho, hk⟩ := h1
    obtain ⟨o', ho', hk'⟩ := h2
    rw [ho] at ho'
    cases ho'
    rw [List.append_nil] at hk'
    simp only [Ent.blocks, List.cons.injEq, Prod.mk.injEq, true_and, and_true]
    cases k with
    | cells wd l t =>
      simp only [SBlk.den, Blk.holds] at hk hk' ⊢
      rw [hk] at hk'
      simp only [Obj.cells.injEq] at hk'
      rw [List.toArray_inj hk'.1]
    | _ => rfl
  | _ => rfl

theorem owned_indep {h : List Ent} {w : World} {F : Blks} (c : Ctx F h w) (r : List Loc) : ∀ es : List Ent, (∀ e ∈ es, e ∈ h ∨ ∃ l, e = .gone l) → owned (locs h ++ r) es = owned (locs h) es
  | [], _ => rfl
  | e :: es, hm => by
    rw [owned, owned, owned_indep c r es fun x hx => hm x (by simp [hx])]
    congr 1
    rcases hm e (by simp) with he | ⟨l, rfl⟩
    · exact blocks_indep c he r
    · rfl

theorem owned_out {ρ : List Loc} : ∀ {h : List Ent} {n : Nat} {e : Ent} (e' : Ent), entAt h n = some e → (owned ρ (h.set n e')).Perm (e'.blocks ρ ++ owned ρ (h.set n (.gone e.loc)))
  | [], _, _, _, he => by cases he
  | x :: r, 0, e, e', he => by
    cases he
    simp only [List.set, owned, Ent.blocks, List.nil_append]
    exact List.Perm.refl _
  | x :: r, n + 1, e, e', he => by
    have ih := owned_out (ρ := ρ) (h := r) (n := n) e' he
    simp only [List.set, owned]
    refine (ih.append_left _).trans ?_
    rw [← List.append_assoc, ← List.append_assoc]
    exact List.perm_append_comm.append_right _

theorem set_self {h : List Ent} {n : Nat} {e : Ent} (he : entAt h n = some e) : h.set n e = h := by
  have := entAt_get he
  obtain ⟨hlt, hg⟩ := List.getElem?_eq_some_iff.1 this
  rw [← hg, List.set_getElem_self]

def putAt (h : List Ent) : List (Nat × Ent) → List Ent
  | [] => h
  | (n, e) :: r => putAt (h.set n e) r

/-- These positions are given away. -/
def goneAt (h : List Ent) : List Nat → List Ent
  | [] => h
  | n :: r => goneAt (match entAt h n with | some e => h.set n (.gone e.loc) | none => h) r

noncomputable def blksOf (ρ : List Loc) : List (Nat × Ent) → Blks
  | [] => []
  | (_, e) :: r => e.blocks ρ ++ blksOf ρ r

theorem entAt_set_ne {h : List Ent} {n m : Nat} (e : Ent) (hne : n ≠ m) : entAt (h.set n e) m = entAt h m := by
  rw [entAt_eq, entAt_eq, List.getElem?_set_ne hne]

theorem owned_put (ρ : List Loc) : ∀ (J : List (Nat × Ent)) (h : List Ent), (J.map Prod.fst).Nodup → (∀ p ∈ J, ∃ e, entAt h p.1 = some e ∧ e.loc = p.2.loc) →
    (owned ρ (putAt h J)).Perm (blksOf ρ J ++ owned ρ (goneAt h (J.map Prod.fst)))
  | [], h, _, _ => List.Perm.refl _
  | (n, e') :: r, h, hn, hp => by
    simp only [List.map_cons, List.nodup_cons] at hn
    obtain ⟨e, he, hl⟩ := hp (n, e') (by simp)
    have hr : ∀ e'' : Ent, e''.loc = e.loc → ∀ p ∈ r, ∃ x, entAt (h.set n e'') p.1 = some x ∧ x.loc = p.2.loc := fun e'' _ p hm => by
      obtain ⟨x, h1, h2⟩ := hp p (by simp [hm])
      exact ⟨x, by rw [entAt_set_ne _ (fun hh => hn.1 (by rw [hh]; exact List.mem_map_of_mem hm))]; exact h1, h2⟩
    have h1 := owned_put ρ r (h.set n e') hn.2 (hr e' hl.symm)
    have key : ∀ (I : List Nat) (h : List Ent), n ∉ I → entAt h n = some e → (owned ρ (goneAt (h.set n e') I)).Perm (e'.blocks ρ ++ owned ρ (goneAt (h.set n (.gone e.loc)) I)) := by
      intro I
      induction I with
      | nil => intro h _ he; exact owned_out e' he
      | cons i I ih =>
        intro h hi he
        simp only [List.mem_cons, not_or] at hi
        simp only [goneAt]
        rw [entAt_set_ne _ hi.1, entAt_set_ne _ hi.1]
        cases hx : entAt h i with
        | none => exact ih h hi.2 he
        | some x =>
          simp only
          rw [List.set_comm _ _ hi.1, List.set_comm _ _ hi.1]
          exact ih (h.set i (.gone x.loc)) hi.2 (by rw [entAt_set_ne _ (Ne.symm hi.1)]; exact he)
    have h2 := key (r.map Prod.fst) h hn.1 he
    simp only [putAt, blksOf, List.map_cons, goneAt, he]
    refine h1.trans ((h2.append_left _).trans ?_)
    rw [← List.append_assoc]
    refine (List.perm_append_comm.append_right _).trans ?_
    rw [List.append_assoc]

theorem put_self : ∀ (J : List (Nat × Ent)) (h : List Ent), (∀ p ∈ J, entAt h p.1 = some p.2) → putAt h J = h
  | [], _, _ => rfl
  | (n, e) :: r, h, hp => by
    have he := hp (n, e) (by simp)
    simp only [putAt]
    rw [set_self he]
    exact put_self r h fun p hm => hp p (by simp [hm])

theorem locs_put : ∀ (J : List (Nat × Ent)) (h : List Ent), (∀ p ∈ J, ∃ e, entAt h p.1 = some e ∧ e.loc = p.2.loc) → (J.map Prod.fst).Nodup → locs (putAt h J) = locs h
  | [], _, _, _ => rfl
  | (n, e') :: r, h, hp, hn => by
    simp only [List.map_cons, List.nodup_cons] at hn
    obtain ⟨e, he, hl⟩ := hp (n, e') (by simp)
    simp only [putAt]
    rw [locs_put r (h.set n e') (fun p hm => by
      obtain ⟨x, h1, h2⟩ := hp p (by simp [hm])
      exact ⟨x, by rw [entAt_set_ne _ (fun hh => hn.1 (by rw [hh]; exact List.mem_map_of_mem hm))]; exact h1, h2⟩) hn.2]
    exact locs_set he hl.symm

theorem mem_put : ∀ (J : List (Nat × Ent)) (h : List Ent) (x : Ent), x ∈ putAt h J → x ∈ h ∨ ∃ p ∈ J, x = p.2
  | [], _, x, hx => .inl hx
  | (n, e) :: r, h, x, hx => by
    rcases mem_put r _ x hx with h1 | ⟨p, h1, h2⟩
    · rcases List.mem_or_eq_of_mem_set h1 with h1 | h1
      · exact .inl h1
      · exact .inr ⟨(n, e), by simp, h1⟩
    · exact .inr ⟨p, by simp [h1], h2⟩

theorem mem_gone : ∀ (I : List Nat) (h : List Ent) (x : Ent), x ∈ goneAt h I → x ∈ h ∨ ∃ l, x = .gone l
  | [], _, x, hx => .inl hx
  | n :: r, h, x, hx => by
    rcases mem_gone r _ x hx with h1 | h1
    · split at h1
      · rcases List.mem_or_eq_of_mem_set h1 with h1 | h1
        · exact .inl h1
        · exact .inr ⟨_, h1⟩
      · exact .inl h1
    · exact .inr h1

def Ann.app' : List Ent → List Ent → List Ent
  | [], l => l
  | e :: r, l => e :: Ann.app' r l
def appE : List (Nat × SV) → List (Nat × SV) → List (Nat × SV)
  | [], l => l
  | e :: r, l => e :: appE r l
/-- These entries, as they stand now. -/
def oldAt (h : List Ent) : List (Nat × Ent) → List (Nat × Ent)
  | [] => []
  | (n, _) :: r => (match entAt h n with | some e => [(n, e)] | none => []) ++ oldAt h r
def isRo : Ent → Bool
  | .ro _ _ => true
  | _ => false
def chgOk (h : List Ent) : List (Nat × Ent) → Prop → Prop
  | [], A => A
  | (n, e') :: r, A => (match entAt h n with | none => False | some e => bif isRo e || isRo e' then False else e.loc = e'.loc ∧ chgOk h r A)
def roFree : List Ent → Bool
  | [] => true
  | e :: r => !isRo e && roFree r
def fstsJ : List (Nat × Ent) → List Nat
  | [] => []
  | (n, _) :: r => n :: fstsJ r
noncomputable def envOk (h h' : List Ent) (env : List (Nat × SV)) : List (Nat × SV) → Prop → Prop
  | [], A => A
  | (t, s') :: r, A => nt (look env t) fun s => (∀ q, den (locs h' ++ q) s' = den (locs h) s) ∧ envOk h h' env r A
noncomputable def viewAs (σ : St) (J : List (Nat × Ent)) (es : List Ent) (en : List (Nat × SV)) (K : St → Prop) : Prop :=
  bif nodupB (fstsJ J) && roFree es then chgOk σ.heap J ((∃ G, ∀ r, (blksOf (locs σ.heap) (oldAt σ.heap J)).Perm (blksOf (locs σ.heap ++ (locs es ++ r)) J ++ owned (locs σ.heap ++ (locs es ++ r)) es ++ G)) ∧
    envOk σ.heap (Ann.app' (putAt σ.heap J) es) σ.env en (K ⟨σ.n, appE en σ.env, Ann.app' (putAt σ.heap J) es⟩)) else False
noncomputable def orV (σ : St) (K : St → Prop) : List View → Prop
  | [] => False
  | [v] => ∃ x : v.X, viewAs σ (v.chg x σ.heap) (v.add x) (v.env x) K
  | v :: r => (∃ x : v.X, viewAs σ (v.chg x σ.heap) (v.add x) (v.env x) K) ∨ orV σ K r
noncomputable def xview (ca : List (Nat × Cast)) (id : Nat) (σ : St) (K : St → Prop) : Prop :=
  match findC ca (1000000 + id) with
  | some (.view l) => orV σ K l
  | _ => K σ

theorem fstsJ_eq : ∀ J : List (Nat × Ent), fstsJ J = J.map Prod.fst
  | [] => rfl
  | (n, e) :: r => by simp [fstsJ, fstsJ_eq r]
theorem roFree_spec : ∀ {es : List Ent}, roFree es = true → ∀ b k, Ent.ro b k ∉ es
  | [], _, b, k, hm => by simp at hm
  | e :: r, h, b, k, hm => by
    simp only [roFree, Bool.and_eq_true] at h
    rcases List.mem_cons.1 hm with rfl | hm
    · simp [isRo] at h
    · exact roFree_spec h.2 b k hm
theorem chgOk_spec {h : List Ent} {A : Prop} : ∀ {J : List (Nat × Ent)}, chgOk h J A → A ∧ (∀ p ∈ J, ∃ e, entAt h p.1 = some e ∧ e.loc = p.2.loc ∧ isRo e = false) ∧ (∀ p ∈ J, isRo p.2 = false) ∧ (oldAt h J).map Prod.fst = J.map Prod.fst ∧ ∀ p ∈ oldAt h J, entAt h p.1 = some p.2
  | [], hx => ⟨hx, by simp, by simp, rfl, by simp [oldAt]⟩
  | (n, e') :: r, hx => by
    unfold chgOk at hx
    split at hx
    · exact hx.elim
    · rename_i e he
      cases hb : (isRo e || isRo e') with
      | true => rw [hb] at hx; exact hx.elim
      | false =>
        rw [hb] at hx
        obtain ⟨h1, h2⟩ := hx
        obtain ⟨k1, k2, k3, k4, k5⟩ := chgOk_spec h2
        simp only [Bool.or_eq_false_iff] at hb
        refine ⟨k1, fun p hp => ?_, fun p hp => ?_, ?_, fun p hp => ?_⟩
        · rcases List.mem_cons.1 hp with rfl | hp
          · exact ⟨e, he, h1, hb.1⟩
          · exact k2 p hp
        · rcases List.mem_cons.1 hp with rfl | hp
          · exact hb.2
          · exact k3 p hp
        · simp [oldAt, he, k4]
        · simp only [oldAt, he, List.cons_append, List.nil_append] at hp
          rcases List.mem_cons.1 hp with rfl | hp
          · exact he
          · exact k5 p hp

theorem app'_eq : ∀ a b : List Ent, Ann.app' a b = a ++ b
  | [], _ => rfl
  | e :: r, b => by simp [Ann.app', app'_eq r b]
theorem look_app {t : Nat} {env : List (Nat × SV)} : ∀ {en : List (Nat × SV)}, look (appE en env) t = look env t ∨ ∃ s, (t, s) ∈ en ∧ look (appE en env) t = s
  | [] => .inl rfl
  | (u, s) :: r => by
    show look ((u, s) :: appE r env) t = _ ∨ _
    rw [look_cons]
    split
    · rename_i hu
      subst hu
      exact .inr ⟨s, by simp, by rw [appE, look_cons, if_pos rfl]⟩
    · rename_i hu
      rcases look_app (t := t) (env := env) (en := r) with h | ⟨s', h1, h2⟩
      · exact .inl h
      · exact .inr ⟨s', by simp [h1], by rw [appE, look_cons, if_neg hu]; exact h2⟩
theorem envOk_spec {h h' : List Ent} {env : List (Nat × SV)} {A : Prop} : ∀ {en : List (Nat × SV)}, envOk h h' env en A → A ∧ ∀ t s', (t, s') ∈ en → look env t ≠ .top ∧ ∀ q, den (locs h' ++ q) s' = den (locs h) (look env t)
  | [], hx => ⟨hx, by simp⟩
  | (u, s) :: r, hx => by
    obtain ⟨h1, h2, h3⟩ := nt_spec hx
    obtain ⟨k1, k2⟩ := envOk_spec h3
    refine ⟨k1, fun t s' hm => ?_⟩
    rcases List.mem_cons.1 hm with hm | hm
    · cases hm; exact ⟨h1, h2⟩
    · exact k2 t s' hm

theorem Ctx.view {F : Blks} {h : List Ent} {w : World} (c : Ctx F h w) {J : List (Nat × Ent)} {es : List Ent} {G : Blks} {A : Prop} (hx : chgOk h J A) (hn : (J.map Prod.fst).Nodup) (hro : ∀ b k, Ent.ro b k ∉ es)
    (hp : ∀ r, (blksOf (locs h) (oldAt h J)).Perm (blksOf (locs h ++ (locs es ++ r)) J ++ owned (locs h ++ (locs es ++ r)) es ++ G)) : Ctx F (putAt h J ++ es) w ∧ locs (putAt h J ++ es) = locs h ++ locs es := by
  obtain ⟨-, k2, k3, k4, k5⟩ := chgOk_spec hx
  have k2' : ∀ p ∈ J, ∃ e, entAt h p.1 = some e ∧ e.loc = p.2.loc := fun p hm => by
    obtain ⟨e, h1, h2, -⟩ := k2 p hm
    exact ⟨e, h1, h2⟩
  have hlocs : locs (putAt h J ++ es) = locs h ++ locs es := by
    have := locs_put J h k2' hn
    rw [locs_eq] at this ⊢
    rw [List.map_append, this, locs_eq es]
  have hno : ((oldAt h J).map Prod.fst).Nodup := by rw [k4]; exact hn
  have h0 := c.owns []
  rw [List.append_nil] at h0
  let O := owned (locs h) (goneAt h (J.map Prod.fst))
  have hsplit : (owned (locs h) h).Perm (blksOf (locs h) (oldAt h J) ++ O) := by
    have := owned_put (locs h) (oldAt h J) h hno fun p hm => ⟨p.2, k5 p hm, rfl⟩
    rw [put_self (oldAt h J) h k5, k4] at this
    exact this
  have h1 : Owns w (blksOf (locs h) (oldAt h J) ++ (O ++ F)) := h0.perm (by rw [← List.append_assoc]; exact hsplit.append_right F)
  refine ⟨⟨fun r => ?_, fun b k hm => ?_⟩, hlocs⟩
  · rw [hlocs, owned_append, List.append_assoc (locs h)]
    have hg : owned (locs h ++ (locs es ++ r)) (goneAt h (J.map Prod.fst)) = O := owned_indep c _ _ fun x hx => mem_gone _ _ _ hx
    have p1 := owned_put (locs h ++ (locs es ++ r)) J h hn k2'
    rw [hg] at p1
    have p5 : (blksOf (locs h) (oldAt h J) ++ (O ++ F)).Perm ((owned (locs h ++ (locs es ++ r)) (putAt h J) ++ owned (locs h ++ (locs es ++ r)) es ++ F) ++ G) := by
      refine ((hp r).append_right _).trans ?_
      have q2 := ((p1.append_right (owned (locs h ++ (locs es ++ r)) es)).append_right F).append_right G
      refine List.Perm.trans ?_ q2.symm
      simp only [List.append_assoc]
      refine List.Perm.append_left _ ?_
      have q3 : (owned (locs h ++ (locs es ++ r)) es ++ (G ++ (O ++ F))).Perm ((O ++ F) ++ (owned (locs h ++ (locs es ++ r)) es ++ G)) := by
        rw [← List.append_assoc]
        exact List.perm_append_comm
      refine q3.trans ?_
      rw [List.append_assoc]
      refine List.Perm.append_left _ ?_
      have q4 : (F ++ (owned (locs h ++ (locs es ++ r)) es ++ G)).Perm (owned (locs h ++ (locs es ++ r)) es ++ (F ++ G)) := by
        have := (List.perm_append_comm (l₁ := F) (l₂ := owned (locs h ++ (locs es ++ r)) es)).append_right G
        simp only [List.append_assoc] at this ⊢
        exact this
      exact q4
    exact (h1.perm p5).sub (List.sublist_append_left _ _)
  · have hold : Ent.ro b k ∈ h := by
      rcases List.mem_append.1 hm with hm | hm
      · rcases mem_put _ _ _ hm with hm | ⟨p, hm, h2⟩
        · exact hm
        · have := k3 p hm
          rw [← h2] at this
          cases this
      · exact absurd hm (hro b k)
    obtain ⟨o, h2, h3⟩ := c.ro b k hold
    exact ⟨o, h2, fun r => by rw [hlocs, List.append_assoc]; exact h3 _⟩

section
variable {F : Blks} {h0 : List Ent} {w0 : World} {σ : St} {a : Act} {w : World}
theorem viewAs_sound (m : Mod F h0 w0 σ a w) {J : List (Nat × Ent)} {es : List Ent} {en : List (Nat × SV)} {K : St → Prop} (hx : viewAs σ J es en K) : ∃ σ', K σ' ∧ Mod F h0 w0 σ' a w := by
  obtain ⟨h1, h2⟩ := bif_false hx
  simp only [Bool.and_eq_true] at h1
  obtain ⟨hnd, hro⟩ := h1
  obtain ⟨⟨⟨G, hp⟩, he⟩, -⟩ := chgOk_spec h2
  have hnd : (J.map Prod.fst).Nodup := by rw [← fstsJ_eq]; exact nodupB_spec hnd
  obtain ⟨c, hl⟩ := m.ctx.view h2 hnd (roFree_spec hro) hp
  obtain ⟨hk, hen⟩ := envOk_spec he
  rw [app'_eq] at hk hen
  have hext : Ext σ.heap (putAt σ.heap J ++ es) := ⟨locs es, hl⟩
  refine ⟨_, hk, m.size, m.defers, fun t ht r => ?_, c, m.rest, m.ext.trans hext⟩
  rcases look_app (t := t) (env := σ.env) (en := en) with h3 | ⟨s, h3, h4⟩
  · simp only [h3] at ht ⊢
    exact (m.env t ht).ext hext r
  · simp only [h4]
    obtain ⟨h5, h6⟩ := hen t s h3
    rw [h6 r]
    have := m.env t h5 []
    rwa [List.append_nil] at this
theorem orV_sound (m : Mod F h0 w0 σ a w) {K : St → Prop} : ∀ {l : List View}, orV σ K l → ∃ σ', K σ' ∧ Mod F h0 w0 σ' a w
  | [], hx => hx.elim
  | [v], hx => by
    obtain ⟨x, hx⟩ := hx
    exact viewAs_sound m hx
  | v :: u :: r, hx => by
    rcases hx with ⟨x, hx⟩ | hx
    · exact viewAs_sound m hx
    · exact orV_sound m hx
theorem xview_sound (m : Mod F h0 w0 σ a w) {ca : List (Nat × Cast)} {id : Nat} {K : St → Prop} (hx : xview ca id σ K) : ∃ σ', K σ' ∧ Mod F h0 w0 σ' a w := by
  unfold xview at hx
  split at hx
  · exact orV_sound m hx
  · exact ⟨σ, hx, m⟩
end
end Go.Sx
