/- Joiners: Put. -/
import Derived.Test.YtpjikjhaljennaaJoK
set_option maxRecDepth 100000
set_option linter.unusedVariables false
set_option linter.unusedSimpArgs false
namespace Go.Proofs.Ytpjikjhaljennaa
open Go Go.Sx
attribute [local irreducible] Go.Sx.xrun

open Classical
theorem SM.outF {α : Type} {key : α → Value} {R : α → Value → Blks → Prop} {l : List α} {m : Value → Option Value} {L : Blks} (h : SM key R l m L) {a : α} (ha : a ∈ l) :
    ∃ v L1 L2, m (key a) = some v ∧ L.Perm (L1 ++ L2) ∧ R a v L1 ∧ SM key R (l.filter fun x => decide (key x ≠ key a)) (delM m (key a)) L2 := by
  obtain ⟨A, B, rfl⟩ := List.append_of_mem ha
  obtain ⟨v, L1, L2, h1, h2, h3, h4, h5⟩ := h.out
  refine ⟨v, L1, L2, h1, h2, h3, ?_⟩
  have e : ((A ++ a :: B).filter fun x => decide (key x ≠ key a)) = A ++ B := by
    rw [List.filter_append, List.filter_cons_of_neg (by simp), List.filter_eq_self.2 fun x hx => ?_, List.filter_eq_self.2 fun x hx => ?_]
    · simpa using h4 x (List.mem_append_right _ hx)
    · simpa using h4 x (List.mem_append_left _ hx)
  rw [e]
  exact h5
theorem upd_back {m : Value → Option Value} {k v : Value} (h : m k = some v) : updM (delM m k) k v = m := by
  funext x
  unfold updM delM
  split
  · rename_i e; rw [e, h]
  · rfl
theorem filt_ne {α : Type} {key : α → Value} {l : List α} {k : Value} : ∀ x ∈ l.filter fun x => decide (key x ≠ k), key x ≠ k := fun x hx => by simpa using (List.mem_filter.1 hx).2
/-- What Put does. -/
def PutIs (q : JQ) (c : Pc) (r : Bool) (q' : JQ) : Prop :=
  c.kd = kindF q.inter ∧ ((q.stale (c.key q.inter) ∧ r = false ∧ q' = q) ∨ (¬ q.stale (c.key q.inter) ∧ r = true ∧
    ((q.inter = false ∧ (∀ p ∈ q.pieces, p.tsn ≠ c.tsn) ∧ ∃ cs, RunS (q.pieces ++ [c]) c.tsn cs ∧ WholeIs { q with pieces := q.pieces ++ [c] } cs q') ∨
     (q.inter = true ∧ (c.bg = true ↔ c.fr = 0) ∧ c.fr ≤ 65535 ∧
      ((∃ ps, (c.key q.inter, ps) ∈ q.parts ∧ (∀ p ∈ ps, p.fr ≠ c.fr) ∧ ∃ n cs, n < 1000000 ∧ AllS (ps ++ [c]) n 0 [] cs ∧
          WholeIs { q with parts := (q.parts.filter fun a => decide (kK a.1 ≠ kK (c.key q.inter))) ++ [(c.key q.inter, ps ++ [c])] } cs q') ∨
       ((∀ a ∈ q.parts, a.1 ≠ c.key q.inter) ∧ ∃ n cs, n < 1000000 ∧ AllS [c] n 0 [] cs ∧ WholeIs { q with parts := q.parts ++ [(c.key q.inter, [c])] } cs q'))))))
structure PtY where
  q : JQ
  b : Nat
  G : Blks
  c : Pc
  cs : JS
  r : Bool
  q' : JQ
def JptPre (x : PtY) (vs : List Value) (L : Blks) : Prop := vs = [.pointer (some ⟨x.b, 0, none⟩), .agg (x.c.cells x.cs).toArray] ∧ JAt x.q x.b x.G L ∧ (Bts x.G x.cs.o x.cs.l x.c.bs ∧ x.cs.l ≤ x.cs.c ∧ 0 < x.cs.l ∧ x.cs.l ≤ 100000) ∧ PutIs x.q x.c x.r x.q' ∧ x.q.ready.length + x.q.wait.length < 1000000000
def JptPost (x : PtY) (a : Bool) (L' : Blks) : Prop := a = x.r ∧ ∃ N, JAt x.q' x.b (x.G ++ N) L'
noncomputable def jputT : Trans := chunkR (X := PtY) (A := Bool) (fun a => .val (.bool a)) JptPre JptPost
theorem entersPut : Enters Go.Proofs.Try.prog 19 := ⟨Go.Proofs.Try.f19, Go.Proofs.Try.func19, by kernel_rfl, by kernel_rfl⟩
theorem pd_sound : ∀ p ∈ [((42 : Nat), midT), (78, behindT), (44, jcloneT), (46, absAllT jrunT), (45, absAllT jwhT)], SoundT Go.Proofs.Try.prog p.1 p.2 := by
  intro p hp
  simp at hp
  rcases hp with rfl | rfl | rfl | rfl | rfl
  · exact midT_sound
  · exact behindT_sound
  · exact jcloneT_sound
  · exact absAllT_sound jrunT_sound
  · exact absAllT_sound jwhT_sound
theorem pi_sound : ∀ p ∈ [((42 : Nat), midT), (78, behindT), (44, jcloneT), (47, absAllT jallT), (45, absAllT jwhT)], SoundT Go.Proofs.Try.prog p.1 p.2 := by
  intro p hp
  simp at hp
  rcases hp with rfl | rfl | rfl | rfl | rfl
  · exact midT_sound
  · exact behindT_sound
  · exact jcloneT_sound
  · exact absAllT_sound jallT_sound
  · exact absAllT_sound jwhT_sound
theorem pc_new {G N : Blks} {c : Pc} {s' : JS} {l : Nat} (h1 : Bts N s'.o s'.l c.bs) (h2 : s'.l = c.bs.length) (h3 : s'.l ≤ s'.c) (hl : c.bs.length = l) (hp : 0 < l ∧ l ≤ 100000) : PcAt (G ++ N) c (.agg (c.cells s').toArray) :=
  ⟨s', rfl, h1.seen (seen_right _ _), h3, by omega, by omega⟩
theorem jputT_sound : SoundT Go.Proofs.Try.prog 19 jputT := chunkR_sound (val := fun a => .bool a) entersPut (fun a ρ => rfl) (fun a => by simp) fun y vs L ⟨h1, h2, hcs, h3, h4⟩ => by
  subst h1
  have h2' := h2
  obtain ⟨mp, mq, mw, mn, rv, fp, fq, fw, fn, Lr, Li, hL, hr, hp, hq, hw, hn⟩ := h2
  have hrv : ∃ s : JS, rv = .slice s.o s.l s.c := by
    rcases hr with ⟨-, e, -⟩ | ⟨x, -, e, -⟩
    · exact ⟨⟨none, 0, 0⟩, e⟩
    · exact ⟨⟨_, _, _⟩, e⟩
  obtain ⟨s, rfl⟩ := hrv
  generalize hc : y.c = c at *
  obtain ⟨hkd, hcase⟩ := h3
  have hlen : c.bs.length = y.cs.l := hcs.1.1
  have hst : y.q.stale (c.key y.q.inter) ↔ StaleF y.q.inter y.q.wait y.q.next c := Iff.rfl
  rw [hst] at hcase
  have stay : ∀ (N LL : Blks), StaleF y.q.inter y.q.wait y.q.next c → LL.Perm (L ++ N) → ∃ a : Bool, Value.bool false = .bool a ∧ JptPost y a LL := fun N LL hs hLL => by
    rcases hcase with ⟨-, h5, h6⟩ | ⟨h5, -⟩
    · exact ⟨false, rfl, h5.symm, N, by rw [h6]; exact (h2'.more N).permL hLL⟩
    · exact absurd hs h5
  cases hi : y.q.inter with
  | false =>
    rw [hi] at hkd hcase stay hL
    have hkd : c.kd = 0 := hkd
    refine Triple.mono (triple_of_run (R := fun v L' => ∃ a : Bool, v = .bool a ∧ JptPost y a L') (h := Ann.pdH false y.b mp mq mw mn fq fw fn s ((mp, .map kSh fp none) :: (Lr ++ (Li ++ y.G))))
      (args := [.ptr 0 0 0, .agg (c.svs y.cs)]) (L := (y.b, .cells [.bool false, .map (some mp), .map (some mq), .map (some mw), .map (some mn), .slice s.o s.l s.c] 97) :: (mq, .map (.one (.int .u32)) fq none) :: (mw, .map kSh fw none) :: (mn, .map (.one (.int .u16)) fn none) :: ((mp, .map kSh fp none) :: (Lr ++ (Li ++ y.G))))
      (run_with pd_sound _ _ _ _ _) (fun r => rfl) (fun r => by simp [Ann.pdH, Ann.pdJ, owned, Ent.blocks, SBlk.den, denL, den, locs, Ent.loc, locAt, SBlk.base, SBlk.wd]) (by simp [Ann.pdH])
      (pd_goal false y.b mp mq mw mn fq fw fn s c y.cs _ _ _ (fun v L' => ∃ a : Bool, v = .bool a ∧ JptPost y a L') (G0 := y.G) (w := y.q.wait) (nx := y.q.next) rfl hkd ⟨hcs.1.seen (seen_sub fun p hp => by simp [hp]), hcs.2⟩ rfl hq hw hn rfl
        (fun hs N => stay N _ hs ?_) (fun hs => ?_))) (hL.trans (perm_of_sums fun f => by simp only [List.map_append, List.map_cons, List.map_nil, List.sum_append, List.sum_cons, List.sum_nil, List.append_assoc, List.cons_append, List.nil_append] at *; try omega)) fun v L' h => h
    · refine perm_of_sums fun f => ?_
      have i1 := perm_sum hL f
      clear hL
      simp only [List.map_append, List.map_cons, List.map_nil, List.sum_append, List.sum_cons, List.sum_nil, List.append_assoc, List.cons_append, List.nil_append] at *
      omega
    · rcases hcase with ⟨h5, -⟩ | ⟨-, hr2, ⟨-, hno, ocs, hRun, hWh⟩ | ⟨h5, -⟩⟩
      · exact absurd h5 hs
      · refine ⟨hno, fun N s' LL k1 k2 k3 hLL => ?_⟩
        generalize hq1 : ({ y.q with inter := false, pieces := y.q.pieces ++ [c] } : JQ) = q1 at hWh
        have hJ : JAt q1 y.b (y.G ++ N) LL := by
          rw [← hq1]
          refine ⟨mp, mq, mw, mn, _, fp, updM fq (kT c.tsn) (.agg (c.cells s').toArray), fw, fn, Lr, Li, hLL.trans (perm_of_sums fun f => ?_), hr.seen (seen_left _ _), PartsAt'.seen hp (seen_left _ _), ?_, WaitAt.seen hw (seen_left _ _), hn⟩
          · simp only [hi]
            simp only [List.map_append, List.map_cons, List.map_nil, List.sum_append, List.sum_cons, List.sum_nil, List.append_assoc, List.cons_append, List.nil_append] at *
            omega
          · exact SM.pureL (SM.new (PiecesAt.seen hq (seen_left _ _)) (fun p hp e => hno p hp (kT_inj e)) (L1 := []) (pc_new k1 k2 k3 hlen hcs.2.2)) []
        have h4 : q1.ready.length + q1.wait.length < 1000000000 := by rw [← hq1]; exact h4
        have RUN : RunS q1.pieces c.tsn ocs := by rw [← hq1]; exact hRun
        refine ⟨⟨q1, y.b, y.G ++ N, c.key true, c.tsn, ocs⟩, LL, [], by simp, ⟨rfl, hJ, RUN⟩, fun a L' ⟨N2, hJ2, cb, cx, cn, cc, hV⟩ => ?_⟩
        refine ⟨⟨q1, y.b, y.G ++ N ++ N2, cb, cx, cn, cc, ocs, y.q'⟩, L', [], by simp, ⟨⟨_, rfl, hV⟩, hJ2, hWh, h4⟩, fun a L' ⟨N3, hJ3⟩ => ⟨true, rfl, by rw [hr2], N ++ N2 ++ N3, by rw [List.append_nil]; simpa using hJ3⟩⟩
      · cases h5
  | true =>
    rw [hi] at hkd hcase stay hL
    have hkd : c.kd = 64 := hkd
    by_cases hk : ∃ ps, (c.key true, ps) ∈ y.q.parts
    · obtain ⟨ps, hk⟩ := hk
      obtain ⟨v, L1, L2, hfp, hLi, ⟨bi, fi, rfl, hfi, hL1⟩, hp2⟩ := SM.outF hp hk
      refine Triple.mono (triple_of_run (R := fun v L' => ∃ a : Bool, v = .bool a ∧ JptPost y a L') (h := Ann.app' (Ann.piH true y.b mp mq mw mn fp fw fn s) [.own bi (.map (.one (.int .u32)) fi none), .chunk ((mq, .map (.one (.int .u32)) fq none) :: (Lr ++ (L2 ++ y.G)))])
        (args := [.ptr 0 0 0, .agg (c.svs y.cs)]) (L := (y.b, .cells [.bool true, .map (some mp), .map (some mq), .map (some mw), .map (some mn), .slice s.o s.l s.c] 97) :: (mp, .map kSh fp none) :: (mw, .map kSh fw none) :: (mn, .map (.one (.int .u16)) fn none) :: (bi, .map (.one (.int .u32)) fi none) :: ((mq, .map (.one (.int .u32)) fq none) :: (Lr ++ (L2 ++ y.G))))
        (run_with pi_sound _ _ _ _ _) (fun r => rfl) (fun r => by simp [Ann.app', Ann.piH, Ann.piJ, owned, Ent.blocks, SBlk.den, denL, den, locs, Ent.loc, locAt, SBlk.base, SBlk.wd]) (by simp [Ann.piH, Ann.app'])
        (pa_goal true y.b mp mq mw mn bi fp fw fn fi s c y.cs _ _ _ (fun v L' => ∃ a : Bool, v = .bool a ∧ JptPost y a L') (G0 := y.G) (w := y.q.wait) (nx := y.q.next) rfl hkd ⟨hcs.1.seen (seen_sub fun p hp => by simp [hp]), hcs.2⟩ rfl hfp hw hn rfl
          (fun hs N => stay N _ hs ?_) (fun hs => ?_))) (hL.trans (perm_of_sums fun f => ?_)) fun v L' h => h
      · refine perm_of_sums fun f => ?_
        have i1 := perm_sum hL f
        have i2 := perm_sum hLi f
        have i3 := perm_sum hL1 f
        clear hL hLi hL1
        simp only [List.map_append, List.map_cons, List.map_nil, List.sum_append, List.sum_cons, List.sum_nil, List.append_assoc, List.cons_append, List.nil_append] at *
        omega
      · rcases hcase with ⟨h5, -⟩ | ⟨-, hr2, ⟨h5, -⟩ | ⟨-, hbg, hfr, ⟨ps', hk', hno, n, ocs, hn0, hAll, hWh⟩ | ⟨hno, -⟩⟩⟩
        · exact absurd h5 hs
        · cases h5
        · have e : ((c.key true, ps') : Ky × List Pc) = (c.key true, ps) := SM.inj hp hk' hk rfl
          obtain rfl : ps' = ps := (Prod.mk.inj e).2
          refine ⟨⟨SM.none hfi (k := kT c.fr) fun a ha e => hno a ha (kT_inj e), hbg, by omega⟩, fun N s' LL k1 k2 k3 hLL => ?_⟩
          generalize hq1 : ({ y.q with inter := true, parts := (y.q.parts.filter fun a => decide (kK a.1 ≠ kK (c.key true))) ++ [(c.key true, ps' ++ [c])] } : JQ) = q1 at hWh
          have hJ : JAt q1 y.b (y.G ++ N) LL := by
            rw [← hq1]
            refine ⟨mp, mq, mw, mn, _, fp, fq, fw, fn, Lr, L2 ++ [(bi, .map (.one (.int .u32)) (updM fi (kT c.fr) (.agg (c.cells s').toArray)) none)], hLL.trans (perm_of_sums fun f => ?_), hr.seen (seen_left _ _), ?_, PiecesAt.seen hq (seen_left _ _), WaitAt.seen hw (seen_left _ _), hn⟩
            · simp only [hi]
              simp only [List.map_append, List.map_cons, List.map_nil, List.sum_append, List.sum_cons, List.sum_nil, List.append_assoc, List.cons_append, List.nil_append] at *
              omega
            · have := SM.new (a := ((c.key true, ps' ++ [c]) : Ky × List Pc)) (v := .map (some bi)) (PartsAt'.seen hp2 (seen_left _ N)) filt_ne (L1 := [(bi, .map (.one (.int .u32)) (updM fi (kT c.fr) (.agg (c.cells s').toArray)) none)])
                ⟨bi, _, rfl, SM.pureL (SM.new (SM.mono hfi fun a _ v L h => PcAt.seen h (seen_left _ N)) (fun p hp e => hno p hp (kT_inj e)) (L1 := []) (pc_new k1 k2 k3 hlen hcs.2.2)) [], List.Perm.refl _⟩
              rw [show (kK ((c.key true, ps' ++ [c]) : Ky × List Pc).1) = kK (c.key true) from rfl, upd_back hfp] at this
              exact this
          have h4 : q1.ready.length + q1.wait.length < 1000000000 := by rw [← hq1]; exact h4
          have RUN : ∃ ps n, (c.key true, ps) ∈ q1.parts ∧ n < 1000000 ∧ AllS ps n 0 [] ocs := by rw [← hq1]; exact ⟨ps' ++ [c], n, by simp, hn0, hAll⟩
          refine ⟨⟨q1, y.b, y.G ++ N, c.key true, c.tsn, ocs⟩, LL, [], by simp, ⟨rfl, hJ, RUN⟩, fun a L' ⟨N2, hJ2, cb, cx, cn, cc, hV⟩ => ?_⟩
          refine ⟨⟨q1, y.b, y.G ++ N ++ N2, cb, cx, cn, cc, ocs, y.q'⟩, L', [], by simp, ⟨⟨_, rfl, hV⟩, hJ2, hWh, h4⟩, fun a L' ⟨N3, hJ3⟩ => ⟨true, rfl, by rw [hr2], N ++ N2 ++ N3, by rw [List.append_nil]; simpa using hJ3⟩⟩
        · exact absurd rfl (hno _ hk)
      · have i2 := perm_sum hLi f
        have i3 := perm_sum hL1 f
        clear hL hLi hL1
        simp only [List.map_append, List.map_cons, List.map_nil, List.sum_append, List.sum_cons, List.sum_nil, List.append_assoc, List.cons_append, List.nil_append] at *
        omega
    · have hnone : fp (kK (c.st, c.lo, midF true c.mid)) = none := SM.none hp (k := kK (c.key true)) fun a ha e => hk ⟨a.2, by rw [← kK_inj e]; exact ha⟩
      refine Triple.mono (triple_of_run (R := fun v L' => ∃ a : Bool, v = .bool a ∧ JptPost y a L') (h := Ann.app' (Ann.piH true y.b mp mq mw mn fp fw fn s) [.chunk ((mq, .map (.one (.int .u32)) fq none) :: (Lr ++ (Li ++ y.G)))])
        (args := [.ptr 0 0 0, .agg (c.svs y.cs)]) (L := (y.b, .cells [.bool true, .map (some mp), .map (some mq), .map (some mw), .map (some mn), .slice s.o s.l s.c] 97) :: (mp, .map kSh fp none) :: (mw, .map kSh fw none) :: (mn, .map (.one (.int .u16)) fn none) :: ((mq, .map (.one (.int .u32)) fq none) :: (Lr ++ (Li ++ y.G))))
        (run_with pi_sound _ _ _ _ _) (fun r => rfl) (fun r => by simp [Ann.app', Ann.piH, Ann.piJ, owned, Ent.blocks, SBlk.den, denL, den, locs, Ent.loc, locAt, SBlk.base, SBlk.wd]) (by simp [Ann.piH, Ann.app'])
        (pb_goal true y.b mp mq mw mn fp fw fn s c y.cs _ _ _ (fun v L' => ∃ a : Bool, v = .bool a ∧ JptPost y a L') (G0 := y.G) (w := y.q.wait) (nx := y.q.next) rfl hkd ⟨hcs.1.seen (seen_sub fun p hp => by simp [hp]), hcs.2⟩ rfl hnone hw hn rfl
          (fun hs N => stay N _ hs ?_) (fun hs => ?_))) (hL.trans (perm_of_sums fun f => by simp only [List.map_append, List.map_cons, List.map_nil, List.sum_append, List.sum_cons, List.sum_nil, List.append_assoc, List.cons_append, List.nil_append] at *; try omega)) fun v L' h => h
      · refine perm_of_sums fun f => ?_
        have i1 := perm_sum hL f
        clear hL
        simp only [List.map_append, List.map_cons, List.map_nil, List.sum_append, List.sum_cons, List.sum_nil, List.append_assoc, List.cons_append, List.nil_append] at *
        omega
      · rcases hcase with ⟨h5, -⟩ | ⟨-, hr2, ⟨h5, -⟩ | ⟨-, hbg, hfr, ⟨ps', hk', -⟩ | ⟨hno, n, ocs, hn0, hAll, hWh⟩⟩⟩
        · exact absurd h5 hs
        · cases h5
        · exact absurd ⟨ps', hk'⟩ hk
        · refine ⟨⟨hbg, by omega⟩, fun N bi s' LL k1 k2 k3 hLL => ?_⟩
          generalize hq1 : ({ y.q with inter := true, parts := y.q.parts ++ [(c.key true, [c])] } : JQ) = q1 at hWh
          have hJ : JAt q1 y.b (y.G ++ N) LL := by
            rw [← hq1]
            refine ⟨mp, mq, mw, mn, _, updM fp (kK (c.st, c.lo, midF true c.mid)) (.map (some bi)), fq, fw, fn, Lr, Li ++ [(bi, .map (.one (.int .u32)) (updM (fun _ => none) (kT c.fr) (.agg (c.cells s').toArray)) none)], hLL.trans (perm_of_sums fun f => ?_), hr.seen (seen_left _ _), ?_, PiecesAt.seen hq (seen_left _ _), WaitAt.seen hw (seen_left _ _), hn⟩
            · simp only [hi]
              simp only [List.map_append, List.map_cons, List.map_nil, List.sum_append, List.sum_cons, List.sum_nil, List.append_assoc, List.cons_append, List.nil_append] at *
              omega
            · exact SM.new (a := ((c.key true, [c]) : Ky × List Pc)) (v := .map (some bi)) (PartsAt'.seen hp (seen_left _ N)) (fun x hx e => hno x hx (kK_inj e)) (L1 := [(bi, .map (.one (.int .u32)) (updM (fun _ => none) (kT c.fr) (.agg (c.cells s').toArray)) none)])
                ⟨bi, _, rfl, SM.pureL (SM.new (key := fun p : Pc => kT p.fr) (R := Pure (PcAt (y.G ++ N))) SM.empty (fun p hp e => by simp at hp) (L1 := []) (pc_new k1 k2 k3 hlen hcs.2.2)) [], List.Perm.refl _⟩
          have h4 : q1.ready.length + q1.wait.length < 1000000000 := by rw [← hq1]; exact h4
          have RUN : ∃ ps n, (c.key true, ps) ∈ q1.parts ∧ n < 1000000 ∧ AllS ps n 0 [] ocs := by rw [← hq1]; exact ⟨[c], n, by simp, hn0, hAll⟩
          refine ⟨⟨q1, y.b, y.G ++ N, c.key true, c.tsn, ocs⟩, LL, [], by simp, ⟨rfl, hJ, RUN⟩, fun a L' ⟨N2, hJ2, cb, cx, cn, cc, hV⟩ => ?_⟩
          refine ⟨⟨q1, y.b, y.G ++ N ++ N2, cb, cx, cn, cc, ocs, y.q'⟩, L', [], by simp, ⟨⟨_, rfl, hV⟩, hJ2, hWh, h4⟩, fun a L' ⟨N3, hJ3⟩ => ⟨true, rfl, by rw [hr2], N ++ N2 ++ N3, by rw [List.append_nil]; simpa using hJ3⟩⟩
end Go.Proofs.Ytpjikjhaljennaa
