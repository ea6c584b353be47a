/- Timers: Next as a triple; contracts over a table's cell and a chunk. -/
import Derived.Test.YthkcfocoekonjaaTmK
set_option maxRecDepth 100000
set_option linter.unusedVariables false
set_option linter.unusedSimpArgs false
namespace Go.Proofs.Ythkcfocoekonjaa
open Go Go.Sx
attribute [local irreducible] Go.Sx.xrun

theorem nxF.perm {q S : List Row} {a : Int} {p : Prop} (h : nxF q a p) (hp : q.Perm S) : nxF S a p := by
  refine ⟨fun hn => ?_, fun hpp => ?_⟩
  · obtain ⟨rfl, h2⟩ := h.1 hn
    exact ⟨by have := hp.length_eq; simp at this; exact List.eq_nil_of_length_eq_zero this.symm, h2⟩
  · obtain ⟨r, h1, h2, h3⟩ := h.2 hpp
    exact ⟨r, hp.mem_iff.1 h1, h2, fun c hc => h3 c (hp.mem_iff.2 hc)⟩
structure NX where
  a : Int
  p : Prop
open Classical in
noncomputable def nxVal (x : NX) : Value := .tuple #[.int .u64 x.a, .bool (decide x.p)]
def retN (x : NX) : SV := .tup [.val (.int .u64 x.a), .prop x.p]
theorem retN_den (x : NX) (ρ : List Go.Sx.Loc) : den ρ (retN x) = nxVal x := rfl
theorem next_triple {b : Nat} {S : List Row} {v : Value} {L : Blks} (hq : QRep S v L) (hb : S.length < 1000000) :
    Triple Go.Proofs.Try.prog 32 [.pointer (some ⟨b, 0, none⟩)] ((b, .cells [v] 70) :: L) (Left b fun r v' L1 => ∃ x : NX, r = nxVal x ∧ nxF S x.a x.p ∧ QRep S v' L1) := by
  refine q_triple hq (fun r v' L1 G ⟨x, h1, h2, q, h3, h4, h5⟩ => ⟨x, h1, h2, q, h3, h4, h5.more G⟩) (fun h0 => ?_) fun b1 base cap xs ys q h1 h2 g1 g2 g3 g4 g5 => ?_
  · subst h0
    refine triple_of_runK (h := [.own b (.cells 1 [.val (.slice none 0 0)] 70)]) (args := [.ptr 0 0 0]) (vs := [.pointer (some ⟨b, 0, none⟩)]) (L := [(b, .cells [.slice none 0 0] 70)])
      (run_with no_contracts _ _ _ _ _) (fun r => rfl) (fun r => rfl) (by simp) (Eq.mpr (by kernel_rfl) (nxNil_vc b) : nxNilGoal b) fun s h' hk => ?_
    split at hk
    · rename_i a p0
      obtain ⟨p, ⟨h1, h2⟩, hd⟩ := bOf_spec hk (locs h')
      exact ⟨.slice none 0 0, [], ⟨⟨a, p⟩, by simp only [den, denL, hd, nxVal], h1, QRep.nil⟩, by rw [h2]⟩
    · exact hk.elim
  · have hl := h1.length_eq
    refine triple_of_runK (h := [.own b (.cells 1 [.slc 1 0 q.length cap] 70), .own b1 (.tab 150 base cap [.ints .u64 xs, .ints .i64 ys])]) (args := [.ptr 0 0 0]) (vs := [.pointer (some ⟨b, 0, none⟩)])
      (L := [(b, .cells [.slice (some ⟨b1, base * 2, none⟩) q.length cap] 70), (b1, .tab 150 base cap [.ints .u64 xs, .ints .i64 ys])])
      (run_with no_contracts _ _ _ _ _) (fun r => by simp [denL, den, locAt, locs, Ent.loc, SBlk.base, SBlk.wd]) (fun r => rfl) (by simp) (Eq.mpr (by kernel_rfl) (nx_vc b b1 base cap xs ys q g1 (by omega) g2 g3 g4 g5 h2) : nxGoal b b1 base cap xs ys q) fun s h' hk => ?_
    split at hk
    · rename_i a p0
      obtain ⟨p, ⟨e1, e2⟩, hd⟩ := bOf_spec hk (locs h')
      exact e2.left fun rows v' L1 he hQ => ⟨⟨a, p⟩, by simp only [den, denL, hd, nxVal], e1.perm h1, rows, he ▸ h1, he ▸ h2, hQ⟩
    · exact hk.elim

/-- A slice as a value. -/
structure Sl where
  o : Option Addr
  l : Nat
  c : Nat
theorem QRep.sl {S : List Row} {v : Value} {L : Blks} (h : QRep S v L) : ∃ s : Sl, v = .slice s.o s.l s.c := by
  obtain ⟨q, -, -, ⟨-, h⟩ | ⟨b1, base, cap, xs, ys, G, h, -⟩⟩ := h
  · exact ⟨⟨none, 0, 0⟩, h⟩
  · exact ⟨⟨_, _, _⟩, h⟩
/-- A call on a table whose cell stands at a position and whose queue lies in the chunk. -/
noncomputable def cellR {X A : Type} (ret : A → SV) (pre : X → List Value → Value → Blks → Prop) (post : X → A → Value → Blks → Prop) : Trans := fun args h K => match args with
  | .ptr p 0 0 :: rest => bif noTop rest then (match entAt h p with
    | some (.own b (.cells 1 [.val v] 70)) => (match chunkAt h 0 with
      | none => False
      | some (n, L0) => ∃ (x : X) (L G : Blks), L0.Perm (L ++ G) ∧ pre x (denL (locs h) rest) v L ∧ ∀ (a : A) (s : Sl) (L' : Blks), post x a (.slice s.o s.l s.c) L' →
          setK h p (.own b (.cells 1 [.val (.slice s.o s.l s.c)] 70)) fun h1 => setK h1 n (.chunk (L' ++ G)) fun h2 => K (ret a) h2)
    | _ => False) else False
  | _ => False
theorem cellR_sound {f : FuncId} (he : Enters Go.Proofs.Try.prog f) {X A : Type} {ret : A → SV} {val : A → Value} {pre : X → List Value → Value → Blks → Prop} {post : X → A → Value → Blks → Prop}
    (hd : ∀ a ρ, den ρ (ret a) = val a) (hn : ∀ a, ret a ≠ .top) (hsl : ∀ x a v L, post x a v L → ∃ s : Sl, v = .slice s.o s.l s.c)
    (ht : ∀ x vs b v L, pre x vs v L → Triple Go.Proofs.Try.prog f (.pointer (some ⟨b, 0, none⟩) :: vs) ((b, .cells [v] 70) :: L) (Left b fun r v' L1 => ∃ a, r = val a ∧ post x a v' L1)) : SoundT Go.Proofs.Try.prog f (cellR ret pre post) := by
  intro F h w args vs K c ha hx
  refine ⟨he, ?_⟩
  unfold cellR at hx
  split at hx
  · rename_i p rest
    obtain ⟨hnt, hx⟩ := bif_false hx
    split at hx
    · rename_i b v hep
      split at hx
      · exact hx.elim
      · rename_i n L0 hc
        obtain ⟨x, L, G, h1, h2, h3⟩ := hx
        obtain ⟨-, h4⟩ := chunkAt_spec hc
        rw [Nat.sub_zero] at h4
        have hne : p ≠ n := by rintro rfl; rw [hep] at h4; cases h4
        obtain ⟨-, hloc⟩ := c.blk hep rfl
        have hvs : vs = .pointer (some ⟨b, 0, none⟩) :: denL (locs h) rest := by
          have := ha []
          rw [List.append_nil] at this
          rw [← this]
          show den (locs h) (.ptr p 0 0) :: denL (locs h) rest = _
          have e1 := hloc []
          rw [List.append_nil] at e1
          simp [den, e1, SBlk.base, SBlk.wd]
        rw [hvs]
        refine frame_many (G := G) c [(p, .own b (.cells 1 [.val v] 70)), (n, .chunk L0)] (by simp [hep, h4]) (by simp [hne]) (L := (b, .cells [v] 70) :: L) (by simp [blksOf, Ent.blocks, SBlk.den, denL, den]; exact h1) (ht x _ b v L h2) fun r L' hr => ?_
        obtain ⟨v', L1, ⟨a, rfl, hpost⟩, hperm⟩ := hr
        obtain ⟨sl, rfl⟩ := hsl x a v' L1 hpost
        have h6 := setK_spec (setK_spec (h3 a sl L1 hpost))
        refine ⟨ret a, [(p, .own b (.cells 1 [.val (.slice sl.o sl.l sl.c)] 70)), (n, .chunk (L1 ++ G))], [], [], ?_, rfl, ?_, fun q => ?_, by simp, hn a, fun q => hd a _⟩
        · rw [List.append_nil]; exact h6
        · intro y hy
          simp at hy
          rcases hy with rfl | rfl
          · exact ⟨_, hep, rfl⟩
          · exact ⟨_, h4, rfl⟩
        · simp only [blksOf, Ent.blocks, owned, SBlk.den, denL, den, List.append_nil, List.cons_append, List.nil_append]
          exact (hperm.append_right G).symm
    · exact hx.elim
  · exact hx.elim

structure KX where
  S : List Row
  kind : Int
  at_ : Int
def retI (n : Int) : SV := .val (.int .i64 n)
noncomputable def setT : Trans := cellR (A := Unit) (fun _ => .tup []) (fun (x : KX) vs v L => vs = [.int .i64 x.kind, .int .u64 x.at_] ∧ QRep x.S v L ∧ x.S.length + 1 < 1000000) fun x _ v' L' => ∃ S', SetP x.kind x.at_ x.S S' ∧ QRep S' v' L'
noncomputable def stopT : Trans := cellR (A := Prop) (fun p => .prop p) (fun (x : KX) vs v L => vs = [.int .i64 x.kind] ∧ QRep x.S v L ∧ x.S.length < 1000000) fun x p v' L' => ∃ S', StopP x.kind x.S p S' ∧ QRep S' v' L'
noncomputable def lenT : Trans := cellR (A := Int) retI (fun (x : List Row) vs v L => vs.length = 0 ∧ QRep x v L) fun x n v' L' => n = (x.length : Int) ∧ QRep x v' L'
noncomputable def nextT : Trans := cellR (A := NX) retN (fun (x : List Row) vs v L => vs.length = 0 ∧ QRep x v L ∧ x.length < 1000000) fun x y v' L' => nxF x y.a y.p ∧ QRep x v' L'

theorem enters28 : Enters Go.Proofs.Try.prog 28 := ⟨Go.Proofs.Try.f28, Go.Proofs.Try.func28, by kernel_rfl, by kernel_rfl⟩
theorem enters29 : Enters Go.Proofs.Try.prog 29 := ⟨Go.Proofs.Try.f29, Go.Proofs.Try.func29, by kernel_rfl, by kernel_rfl⟩
theorem enters30 : Enters Go.Proofs.Try.prog 30 := ⟨Go.Proofs.Try.f30, Go.Proofs.Try.func30, by kernel_rfl, by kernel_rfl⟩
theorem enters32 : Enters Go.Proofs.Try.prog 32 := ⟨Go.Proofs.Try.f32, Go.Proofs.Try.func32, by kernel_rfl, by kernel_rfl⟩
theorem Triple.to {P : Program} {f : FuncId} {vs : List Value} {L : Blks} {R R' : Value → Blks → Prop} (h : Triple P f vs L R) (hr : ∀ v L', R v L' → R' v L') : Triple P f vs L R' := h.mono (List.Perm.refl _) hr
theorem Left.to {b : Nat} {R R' : Value → Value → Blks → Prop} {r : Value} {L : Blks} (h : Left b R r L) (hr : ∀ v' L1, R r v' L1 → R' r v' L1) : Left b R' r L := by
  obtain ⟨v', L1, h1, h2⟩ := h
  exact ⟨v', L1, hr v' L1 h1, h2⟩
theorem setT_sound : SoundT Go.Proofs.Try.prog 28 setT := cellR_sound (val := fun _ => .tuple #[]) enters28 (fun a ρ => rfl) (fun a => by simp) (fun x a v L ⟨_, _, h⟩ => h.sl) fun ⟨S, kind, at_⟩ vs b v L ⟨h1, h2, h3⟩ => by
  subst h1
  exact Triple.to (set_triple kind at_ h2 h3) fun r L' h => h.to fun v' L1 ⟨e, h⟩ => ⟨(), e, h⟩
open Classical in
theorem stopT_sound : SoundT Go.Proofs.Try.prog 31 stopT := cellR_sound (val := fun p => .bool (decide p)) enters31 (fun a ρ => rfl) (fun a => by simp) (fun x a v L ⟨_, _, h⟩ => h.sl) fun ⟨S, kind, at_⟩ vs b v L ⟨h1, h2, h3⟩ => by
  subst h1
  exact Triple.to (stop_triple kind h2 h3) fun r L' h => h.to fun v' L1 ⟨p, S', e, h⟩ => ⟨p, e, S', h⟩
theorem lenT_sound : SoundT Go.Proofs.Try.prog 30 lenT := cellR_sound (val := fun n => .int .i64 n) enters30 (fun a ρ => rfl) (fun a => by simp [retI]) (fun x a v L ⟨_, h⟩ => h.sl) fun S vs b v L ⟨h1, h2⟩ => by
  obtain rfl := List.eq_nil_of_length_eq_zero h1
  exact Triple.to (len_triple h2) fun r L' h => h.to fun v' L1 ⟨e, h⟩ => ⟨_, e, rfl, h⟩
theorem nextT_sound : SoundT Go.Proofs.Try.prog 32 nextT := cellR_sound (val := nxVal) enters32 retN_den (fun a => by simp [retN]) (fun x a v L ⟨_, h⟩ => h.sl) fun S vs b v L ⟨h1, h2, h3⟩ => by
  obtain rfl := List.eq_nil_of_length_eq_zero h1
  exact Triple.to (next_triple h2 h3) fun r L' h => h.to fun v' L1 ⟨x, e, h⟩ => ⟨x, e, h⟩

/-- Due: what it answers is a block of its own. -/
noncomputable def dueT : Trans := fun args h K => match args with
  | [.ptr p 0 0, .val (.int .u64 now)] => (match entAt h p with
    | some (.own b (.cells 1 [.val v] 70)) => (match chunkAt h 0 with
      | none => False
      | some (n, L0) => ∃ (S : List Row) (L G : Blks), L0.Perm (L ++ G) ∧ (QRep S v L ∧ S.length < 1000000) ∧
          (∀ (S' : List Row) (s : Sl) (L' : Blks), DueP now S [] S' → QRep S' (.slice s.o s.l s.c) L' →
            setK h p (.own b (.cells 1 [.val (.slice s.o s.l s.c)] 70)) fun h1 => setK h1 n (.chunk (L' ++ G)) fun h2 => K (.val (.slice none 0 0)) h2) ∧
          ∀ (out S' : List Row) (s : Sl) (L' : Blks) (b' base' cap' : Nat) (zs' : List Int), DueP now S out S' → QRep S' (.slice s.o s.l s.c) L' → 0 < out.length → out.length ≤ cap' → zs'.length = cap' → zs'.take out.length = out.map (·.2) →
            setK h p (.own b (.cells 1 [.val (.slice s.o s.l s.c)] 70)) fun h1 => setK h1 n (.chunk (L' ++ G)) fun h2 => appK h2 (.own b' (.tab 3 base' cap' [.ints .i64 zs'])) fun h3 => K (.slc (lenE h) 0 out.length cap') h3)
    | _ => False)
  | _ => False
theorem lenE_set (h : List Ent) (n : Nat) (e : Ent) : lenE (h.set n e) = lenE h := by simp [lenE_eq]
theorem dueT_sound : SoundT Go.Proofs.Try.prog 29 dueT := by
  intro F h w args vs K c ha hx
  refine ⟨enters29, ?_⟩
  unfold dueT at hx
  split at hx
  · rename_i p now
    split at hx
    · rename_i b v hep
      split at hx
      · exact hx.elim
      · rename_i n L0 hc
        obtain ⟨S, L, G, h1, ⟨h2, h2'⟩, h3, h3'⟩ := hx
        obtain ⟨-, h4⟩ := chunkAt_spec hc
        rw [Nat.sub_zero] at h4
        have hne : p ≠ n := by rintro rfl; rw [hep] at h4; cases h4
        obtain ⟨-, hloc⟩ := c.blk hep rfl
        have hvs : vs = [.pointer (some ⟨b, 0, none⟩), .int .u64 now] := by
          have := ha []
          rw [List.append_nil] at this
          rw [← this]
          have e1 := hloc []
          rw [List.append_nil] at e1
          simp [denL, den, e1, SBlk.base, SBlk.wd]
        rw [hvs]
        refine frame_many (G := G) c [(p, .own b (.cells 1 [.val v] 70)), (n, .chunk L0)] (by simp [hep, h4]) (by simp [hne]) (L := (b, .cells [v] 70) :: L) (by simp [blksOf, Ent.blocks, SBlk.den, denL, den]; exact h1) (due_triple now h2 h2') fun r L' hr => ?_
        obtain ⟨v', L1, ⟨out, S', L2, L3, hD, hQ, hK, hp2⟩, hperm⟩ := hr
        obtain ⟨sl, rfl⟩ := hQ.sl
        rcases hK with ⟨e, rfl⟩ | ⟨b', base', cap', zs', G3, rfl, k1, k2, k3, k4, k5⟩
        · have e' : out = [] := by simpa using e
          subst e'
          have h6 := setK_spec (setK_spec (h3 S' sl L1 hD (by obtain ⟨q, q1, q2, q3⟩ := hQ; exact ⟨q, q1, q2, by
            rcases q3 with q3 | ⟨a1, a2, a3, a4, a5, G5, a6, a7, a8, a9, a10, a11, a12⟩
            · exact .inl q3
            · exact .inr ⟨a1, a2, a3, a4, a5, G5 ++ L3, a6, a7, a8, a9, a10, a11, hp2.trans (by simpa using a12.append_right L3)⟩⟩)))
          refine ⟨.val (.slice none 0 0), [(p, .own b (.cells 1 [.val (.slice sl.o sl.l sl.c)] 70)), (n, .chunk (L1 ++ G))], [], [], ?_, rfl, ?_, fun q => ?_, by simp, by simp, fun q => rfl⟩
          · rw [List.append_nil]; exact h6
          · intro y hy
            simp at hy
            rcases hy with rfl | rfl
            · exact ⟨_, hep, rfl⟩
            · exact ⟨_, h4, rfl⟩
          · simp only [blksOf, Ent.blocks, owned, SBlk.den, denL, den, List.append_nil, List.cons_append, List.nil_append]
            exact (hperm.append_right G).symm
        · simp only [List.length_map] at k1 k2 k4
          have h6 := appK_iff (setK_spec (setK_spec (h3' out S' sl (L2 ++ G3) b' base' cap' zs' hD (by obtain ⟨q, q1, q2, q3⟩ := hQ; exact ⟨q, q1, q2, q3.more G3⟩) k1 k2 k3 k4)))
          refine ⟨.slc (lenE h) 0 out.length cap', [(p, .own b (.cells 1 [.val (.slice sl.o sl.l sl.c)] 70)), (n, .chunk ((L2 ++ G3) ++ G))], [.own b' (.tab 3 base' cap' [.ints .i64 zs'])], [], ?_, rfl, ?_, fun q => ?_, by simp, by simp, fun q => ?_⟩
          · exact h6
          · intro y hy
            simp at hy
            rcases hy with rfl | rfl
            · exact ⟨_, hep, rfl⟩
            · exact ⟨_, h4, rfl⟩
          · simp only [blksOf, Ent.blocks, owned, SBlk.den, denL, den, List.append_nil, List.cons_append, List.nil_append]
            refine List.Perm.trans ?_ (hperm.append_right G).symm
            refine List.Perm.cons _ ?_
            refine List.Perm.trans ?_ ((hp2.trans (k5.append_left L2)).append_right G).symm
            simp only [List.append_assoc, List.cons_append, List.nil_append]
            refine List.Perm.append_left L2 ?_
            rw [← List.append_assoc]
            exact List.perm_append_comm
          · have e2 := loc_new ((h.set p (.own b (.cells 1 [.val (.slice sl.o sl.l sl.c)] 70))).set n (.chunk ((L2 ++ G3) ++ G))) b' (.tab 3 base' cap' [.ints .i64 zs']) q
            have e3 : lenE ((h.set p (.own b (.cells 1 [.val (.slice sl.o sl.l sl.c)] 70))).set n (.chunk ((L2 ++ G3) ++ G))) = lenE h := by rw [lenE_set, lenE_set]
            rw [e3] at e2
            simp only [putAt, den, e2, SBlk.base, SBlk.wd, Nat.add_zero, List.length_map]
            rfl
    · exact hx.elim
  · exact hx.elim
noncomputable def tblT : List (FuncId × Trans) := [(28, setT), (29, dueT), (30, lenT), (31, stopT), (32, nextT)]
theorem tbl_sound : ∀ p ∈ tblT, SoundT Go.Proofs.Try.prog p.1 p.2 := by
  intro p hp
  simp only [tblT, List.mem_cons, List.not_mem_nil, or_false] at hp
  rcases hp with rfl | rfl | rfl | rfl | rfl
  · exact setT_sound
  · exact dueT_sound
  · exact lenT_sound
  · exact stopT_sound
  · exact nextT_sound
end Go.Proofs.Ythkcfocoekonjaa
