/- Joiners: pieces become a message. -/
import Derived.Test.YtpjikjhaljennaaJoF
set_option maxRecDepth 100000
set_option linter.unusedVariables false
set_option linter.unusedSimpArgs false
namespace Go.Proofs.Ytpjikjhaljennaa
open Go Go.Sx
attribute [local irreducible] Go.Sx.xrun

open Classical
theorem entersWhole : Enters Go.Proofs.Try.prog 45 := ⟨Go.Proofs.Try.f45, Go.Proofs.Try.func45, by kernel_rfl, by kernel_rfl⟩
structure WhY where
  q : JQ
  b : Nat
  G : Blks
  cb : Nat
  cx : Nat
  cn : Nat
  cc : Nat
  r : Option (List Pc)
  q' : JQ
def CsV (G : Blks) (r : Option (List Pc)) (cb cx cn cc : Nat) (v : Value) : Prop := (r = none ∧ v = .slice none 0 0) ∨ ∃ cs, r = some cs ∧ v = .slice (some ⟨cb, cx, none⟩) cn cc ∧ cn = cs.length ∧ CsAt G cb cx cs ∧ cs.length ≤ 1000000
def JwhPre (x : WhY) (vs : List Value) (L : Blks) : Prop := (∃ v, vs = [.pointer (some ⟨x.b, 0, none⟩), v] ∧ CsV x.G x.r x.cb x.cx x.cn x.cc v) ∧ JAt x.q x.b x.G L ∧ WholeIs x.q x.r x.q' ∧ x.q.ready.length + x.q.wait.length < 1000000000
def JwhPost (x : WhY) (_ : Unit) (L' : Blks) : Prop := ∃ N, JAt x.q' x.b (x.G ++ N) L'
noncomputable def jwhT : Trans := chunkR (X := WhY) (A := Unit) (fun _ => .tup []) JwhPre JwhPost
theorem wh_sound : ∀ p ∈ [((42 : Nat), midT), (82, absAllT jonT)], SoundT Go.Proofs.Try.prog p.1 p.2 := by
  intro p hp
  simp at hp
  rcases hp with rfl | rfl
  · exact midT_sound
  · exact absAllT_sound jonT_sound
theorem jwhT_sound : SoundT Go.Proofs.Try.prog 45 jwhT := chunkR_sound (val := fun _ => .tuple #[]) entersWhole (fun a ρ => rfl) (fun a => by simp) fun y vs L ⟨⟨v, h0, hv⟩, h2, h3, h4⟩ => by
  subst h0
  rcases hv with ⟨hr0, hv⟩ | ⟨cs, hr0, hv, hcn, hcs, hmax⟩
  · subst hv
    have eq' : y.q' = y.q := by
      rcases h3 with ⟨-, h⟩ | ⟨b, rest, h, -⟩
      · exact h
      · rw [hr0] at h; cases h
    exact triple_of_run (R := fun v L' => ∃ a : Unit, v = .tuple #[] ∧ JwhPost y a L') (h := [.chunk L]) (args := [.val (.pointer (some ⟨y.b, 0, none⟩)), .val (.slice none 0 0)]) (run_with no_contracts _ _ _ _ _) (fun r => rfl) (fun r => by simp [owned, Ent.blocks]) (by simp)
      (wh0_goal y.b 0 L (fun v L' => ∃ a : Unit, v = .tuple #[] ∧ JwhPost y a L') ⟨(), rfl, [], by rw [eq', List.append_nil]; exact h2⟩)
  · subst hv
    obtain ⟨mp, mq, mw, mn, rv, fp, fq, fw, fn, Lr, Li, hL, hr, hp, hq, hw, hn⟩ := h2
    rcases h3 with ⟨h, -⟩ | ⟨p0, rest, h, hcase⟩
    · rw [hr0] at h; cases h
    rw [hr0] at h
    obtain rfl := Option.some.inj h
    generalize hm : msgOf y.q.inter p0 (p0 :: rest) = m at hcase
    have hmlo : m.lo = p0.lo := by rw [← hm]; rfl
    have hmst : m.st = p0.st := by rw [← hm]; rfl
    have hmbs : m.bs = bytesOf (p0 :: rest) := by rw [← hm]; rfl
    obtain ⟨L2, Gj, hLi, hp2⟩ := SM.del hp (kK m.key)
    have hcsC : CsAt ((mn, .map (.one (.int .u16)) fn none) :: (Li ++ y.G)) y.cb y.cx (p0 :: rest) := hcs.seen (seen_sub fun p hp => List.mem_cons_of_mem _ (List.mem_append_right _ hp))
    have hy3 : ∀ z : WhX, whP3 y.G y.q.pieces (p0 :: rest) z → PiecesAt y.G (y.q.pieces.filter fun p => decide (p.tsn ∉ (p0 :: rest).map (·.tsn))) z.fq ∧ m.bs.length = z.len ∧ z.xs.take z.len = m.bs ∧ z.len ≤ z.cap := fun z hz => by
      obtain ⟨⟨-, k1, k2, k3, k4, -, -⟩, k5⟩ := hz
      rw [k5, List.take_length] at k1 k2 k3
      exact ⟨k1, by rw [hmbs, k2], by rw [hmbs]; exact k3, k4⟩
    have hbt : ∀ (z : WhX) (M : Blks), whP3 y.G y.q.pieces (p0 :: rest) z → (z.b, Blk.tab 5 z.base z.cap [.ints .u8 z.xs]) ∈ M → Bts M (some ⟨z.b, z.base, none⟩) z.len m.bs := fun z M hz hM => by
      obtain ⟨k1, k2, k3, k4⟩ := hy3 z hz
      exact Bts.tab hM k2 k4 k3
    -- what is left of the pieces and of the parts
    have fin1 : p0.lo = true → ∀ (z : WhX) (rv : Value) (Lr N : Blks) (LL : Blks), whP3 y.G y.q.pieces (p0 :: rest) z → ReadyAt (y.G ++ (Gj ++ N)) (y.q.ready ++ [m]) rv Lr →
        LL.Perm ((y.b, .cells [.bool y.q.inter, .map (some mp), .map (some mq), .map (some mw), .map (some mn), rv] 97) :: (mp, .map kSh (delM fp (kK m.key)) none) :: (mq, .map (.one (.int .u32)) z.fq none) :: (mw, .map kSh fw none) :: (mn, .map (.one (.int .u16)) fn none) :: (Lr ++ (L2 ++ (y.G ++ (Gj ++ N))))) →
        ∃ a : Unit, (Value.tuple #[] : Value) = .tuple #[] ∧ JwhPost y a LL := fun hlo z rv Lr N LL hz hrd hLL => by
      obtain ⟨k1, -⟩ := hy3 z hz
      rcases hcase with ⟨-, eq'⟩ | ⟨hlo', -⟩
      · refine ⟨(), rfl, Gj ++ N, ?_⟩
        rw [eq']
        exact ⟨mp, mq, mw, mn, rv, _, z.fq, fw, fn, Lr, L2, hLL, hrd, PartsAt'.seen hp2 (seen_left _ _), PiecesAt.seen k1 (seen_left _ _), WaitAt.seen hw (seen_left _ _), hn⟩
      · rw [hlo] at hlo'; cases hlo'
    have fin2 : ¬ p0.lo = true → ∀ (z : WhX) (rv : Value) (Lr N : Blks) (LL : Blks), whP3 y.G y.q.pieces (p0 :: rest) z → ReadyAt y.G y.q.ready rv Lr → (z.b, Blk.tab 5 z.base z.cap [.ints .u8 z.xs]) ∈ N →
        LL.Perm ((y.b, .cells [.bool y.q.inter, .map (some mp), .map (some mq), .map (some mw), .map (some mn), rv] 97) :: (mp, .map kSh (delM fp (kK m.key)) none) :: (mq, .map (.one (.int .u32)) z.fq none) :: (mw, .map kSh (updM fw (kK m.key) (.agg (m.cells ⟨some ⟨z.b, z.base, none⟩, z.len, z.cap⟩).toArray)) none) :: (mn, .map (.one (.int .u16)) fn none) :: (Lr ++ (L2 ++ (y.G ++ (Gj ++ N))))) →
        ∃ (w : OnY) (L G1 : Blks), LL.Perm (L ++ G1) ∧ JonPre w [.pointer (some ⟨y.b, 0, none⟩), .int .u16 m.st] L ∧ ∀ (a : Unit) L', JonPost w a L' → ∃ a : Unit, (Value.tuple #[] : Value) = .tuple #[] ∧ JwhPost y a (L' ++ G1) := fun hlo z rv Lr N LL hz hrd hN hLL => by
      obtain ⟨k1, k2, k3, k4⟩ := hy3 z hz
      rcases hcase with ⟨hlo', -⟩ | ⟨-, hno, hon⟩
      · exact absurd hlo' hlo
      · have hpost : ∀ (w : OnY), w = ⟨{ y.q with pieces := y.q.pieces.filter fun p => decide (p.tsn ∉ (p0 :: rest).map (·.tsn)), parts := y.q.parts.filter fun a => decide (kK a.1 ≠ kK m.key), wait := y.q.wait ++ [m] }, y.b, y.G ++ (Gj ++ N), m.st, y.q'⟩ → ∀ (a : Unit) L', JonPost w a L' → ∃ a : Unit, (Value.tuple #[] : Value) = .tuple #[] ∧ JwhPost y a (L' ++ []) := fun w hw a L' ⟨N', hJ⟩ => by
          subst hw
          exact ⟨(), rfl, Gj ++ N ++ N', by rw [List.append_nil, ← List.append_assoc]; exact hJ⟩
        refine ⟨⟨{ y.q with pieces := y.q.pieces.filter fun p => decide (p.tsn ∉ (p0 :: rest).map (·.tsn)), parts := y.q.parts.filter fun a => decide (kK a.1 ≠ kK m.key), wait := y.q.wait ++ [m] }, y.b, y.G ++ (Gj ++ N), m.st, y.q'⟩, LL, [], by simp, ⟨rfl, ?_, by rw [hmst]; exact hon, ?_⟩, hpost _ rfl⟩
        · refine ⟨mp, mq, mw, mn, rv, _, z.fq, _, fn, Lr, L2, hLL, hrd.seen (seen_left _ _), PartsAt'.seen hp2 (seen_left _ _), PiecesAt.seen k1 (seen_left _ _), ?_, hn⟩
          exact SM.new (WaitAt.seen hw (seen_left _ _)) (fun a ha e => hno a ha (kK_inj e)) (L1 := []) ⟨_, rfl, (hbt z _ hz (List.mem_append_right _ (List.mem_append_right _ hN))), k4⟩
        · show y.q.ready.length + (y.q.wait ++ [m]).length ≤ _
          rw [List.length_append, List.length_singleton]
          omega
    rcases hr with ⟨e1, e2, e3⟩ | ⟨x, hx, e2, e3⟩
    · subst e2 e3
      refine Triple.mono (triple_of_run (R := fun v L' => ∃ a : Unit, v = .tuple #[] ∧ JwhPost y a L') (h := Ann.whHN y.q.inter y.b mp mq mw mn fp fw ((mn, .map (.one (.int .u16)) fn none) :: (Li ++ y.G)) fq)
        (args := [.ptr 0 0 0, .val (.slice (some ⟨y.cb, y.cx, none⟩) y.cn y.cc)]) (L := (y.b, .cells [.bool y.q.inter, .map (some mp), .map (some mq), .map (some mw), .map (some mn), .slice none 0 0] 97) :: (mp, .map kSh fp none) :: (mq, .map (.one (.int .u32)) fq none) :: (mw, .map kSh fw none) :: ((mn, .map (.one (.int .u16)) fn none) :: (Li ++ y.G)))
        (run_with wh_sound _ _ _ _ _) (fun r => rfl) (fun r => by simp [Ann.whHN, Ann.jb, owned, Ent.blocks, SBlk.den, denL, den, locs, Ent.loc, locAt, SBlk.base, SBlk.wd]) (by simp [Ann.whHN])
        (whN_goal y.q.inter y.b mp mq mw mn fp fq fw y.cb y.cx y.cn y.cc m _ _ _ _ (fun v L' => ∃ a : Unit, v = .tuple #[] ∧ JwhPost y a L') hcsC rfl (by simp) hcn hmax hm.symm hq rfl rfl rfl
          (fun hlo z t1 t2 t3 b3 b4 cap s1 s3 s4 s2 s5 hz hc l1 l2 l3 l4 l5 => ?_) (fun hlo z t1 t2 hz => ?_))) (hL.trans (perm_of_sums fun f => by simp only [List.map_append, List.map_cons, List.map_nil, List.sum_append, List.sum_cons, List.sum_nil, List.append_assoc, List.cons_append, List.nil_append] at *; try omega)) fun v L' h => h
      · have hrd : ReadyAt (y.G ++ (Gj ++ [(z.mb, t1), (z.kb, t2), (z.b, Blk.tab 5 z.base z.cap [.ints .u8 z.xs]), (b3, t3)])) (y.q.ready ++ [m]) (.slice (some ⟨b4, 0, none⟩) 1 cap) _ :=
          .inr ⟨⟨b4, 0, 0, cap, cap, m.st :: s1, m.lo :: s2, m.mid :: s3, m.pp :: s4, .slice (some ⟨z.b, z.base, none⟩) z.len z.cap :: s5⟩, by rw [e1]; exact mw_one (s := ⟨some ⟨z.b, z.base, none⟩, z.len, z.cap⟩) (hbt z _ hz (by simp)) (hy3 z hz).2.2.2 hc l1 l2 l3 l4 l5, by rw [e1]; rfl, rfl⟩
        refine fin1 (by rw [← hmlo]; exact hlo) z _ _ _ _ hz hrd (perm_of_sums fun f => ?_)
        have := perm_sum hLi f
        simp only [List.map_append, List.map_cons, List.map_nil, List.sum_append, List.sum_cons, List.sum_nil, List.append_assoc, List.cons_append, List.nil_append] at *
        omega
      · refine fin2 (by rw [← hmlo]; exact hlo) z _ [] [(z.mb, t1), (z.kb, t2), (z.b, Blk.tab 5 z.base z.cap [.ints .u8 z.xs])] _ hz (.inl ⟨e1, rfl, rfl⟩) (by simp) (perm_of_sums fun f => ?_)
        have := perm_sum hLi f
        simp only [List.map_append, List.map_cons, List.map_nil, List.sum_append, List.sum_cons, List.sum_nil, List.append_assoc, List.cons_append, List.nil_append] at *
        omega
    · subst e2 e3
      refine Triple.mono (triple_of_run (R := fun v L' => ∃ a : Unit, v = .tuple #[] ∧ JwhPost y a L') (h := Ann.whH y.q.inter y.b mp mq mw mn fp fw x y.q.ready.length ((mn, .map (.one (.int .u16)) fn none) :: (Li ++ y.G)) fq)
        (args := [.ptr 0 0 0, .val (.slice (some ⟨y.cb, y.cx, none⟩) y.cn y.cc)]) (L := (y.b, .cells [.bool y.q.inter, .map (some mp), .map (some mq), .map (some mw), .map (some mn), .slice (some ⟨x.b, (x.base + x.o) * 5, none⟩) y.q.ready.length x.cap] 97) :: (mp, .map kSh fp none) :: (mq, .map (.one (.int .u32)) fq none) :: (mw, .map kSh fw none) :: (((mn, .map (.one (.int .u16)) fn none) :: (Li ++ y.G)) ++ [(x.b, x.blk)]))
        (run_with wh_sound _ _ _ _ _) (fun r => rfl) (fun r => by simp [Ann.whH, Ann.jb, Ann.mwB, MW.blk, owned, Ent.blocks, SBlk.den, denL, den, locs, Ent.loc, locAt, SBlk.base, SBlk.wd]) (by simp [Ann.whH])
        (wh_goal y.q.inter y.b mp mq mw mn fp fq fw x y.q.ready.length y.cb y.cx y.cn y.cc m _ _ _ _ (fun v L' => ∃ a : Unit, v = .tuple #[] ∧ JwhPost y a L') hcsC rfl (by simp) hcn hmax hm.symm hq rfl rfl rfl ⟨hx.2.1, hx.2.2.1, by omega⟩
          (fun hlo z t1 t2 t3 b3 b4 base cap s1 s3 s4 s2 s5 hz hc l1 l2 l3 l4 l5 => ?_) (fun hlo z t1 t2 hz => ?_))) (hL.trans (perm_of_sums fun f => by simp only [List.map_append, List.map_cons, List.map_nil, List.sum_append, List.sum_cons, List.sum_nil, List.append_assoc, List.cons_append, List.nil_append] at *; try omega)) fun v L' h => h
      · have hrd : ReadyAt (y.G ++ (Gj ++ [(z.mb, t1), (z.kb, t2), (z.b, Blk.tab 5 z.base z.cap [.ints .u8 z.xs]), (b3, t3)])) (y.q.ready ++ [m]) (.slice (some ⟨b4, base * 5, none⟩) (y.q.ready.length + 1) cap) _ :=
          .inr ⟨_, mw_app (b := b4) (base := base) (hx.seen (seen_left _ _)) rfl (s := ⟨some ⟨z.b, z.base, none⟩, z.len, z.cap⟩) (hbt z _ hz (by simp)) (hy3 z hz).2.2.2 hc l1 l2 l3 l4 l5, by rw [List.length_append]; rfl, rfl⟩
        refine fin1 (by rw [← hmlo]; exact hlo) z _ _ _ _ hz hrd (perm_of_sums fun f => ?_)
        have := perm_sum hLi f
        simp only [List.map_append, List.map_cons, List.map_nil, List.sum_append, List.sum_cons, List.sum_nil, List.append_assoc, List.cons_append, List.nil_append] at *
        omega
      · refine fin2 (by rw [← hmlo]; exact hlo) z _ [(x.b, x.blk)] [(z.mb, t1), (z.kb, t2), (z.b, Blk.tab 5 z.base z.cap [.ints .u8 z.xs])] _ hz (.inr ⟨x, hx, rfl, rfl⟩) (by simp) (perm_of_sums fun f => ?_)
        have := perm_sum hLi f
        simp only [List.map_append, List.map_cons, List.map_nil, List.sum_append, List.sum_cons, List.sum_nil, List.append_assoc, List.cons_append, List.nil_append] at *
        omega
end Go.Proofs.Ytpjikjhaljennaa
