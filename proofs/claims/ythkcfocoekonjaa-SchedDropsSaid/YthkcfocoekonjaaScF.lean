/- Queues: Next, as a contract. -/
import Derived.Test.YthkcfocoekonjaaScE
import Derived.Test.YthkcfocoekonjaaScDtf
import Derived.Test.YthkcfocoekonjaaScDft
import Derived.Test.YthkcfocoekonjaaScDtt
set_option maxRecDepth 100000
set_option linter.unusedVariables false
set_option linter.unusedSimpArgs false
namespace Go.Proofs.Ythkcfocoekonjaa
open Go Go.Sx
attribute [local irreducible] Go.Sx.xrun


theorem upd_id {m : Value → Option Value} {k v : Value} (h : m k = some v) : updM m k v = m := by
  funext x
  unfold updM
  split
  · rename_i e; rw [← h]; congr 1; exact e.symm
  · rfl
theorem win_mk {l sp : List Int} {b base cap : Nat} (hc : l.length ≤ cap) (hs : sp.length = cap - l.length) : ({ b := b, base := base, o := 0, N := cap, cap := cap, zs := l ++ sp, G := [] } : Win).ok l :=
  ⟨hc, by simp, by simp [hs]; omega, by show ((l ++ sp).drop 0).take l.length = l; rw [List.drop_zero, List.take_left]⟩
theorem body_at {w : Win} {body : List Int} (hw : w.ok body) {n : Nat} (hn : n ≤ body.length) {bb base cap : Nat} {sp : List Int} (c1 : n ≤ cap) (c2 : sp.length = cap - n) :
    WinNil 5 .u8 (body.take n) (.slice (some ⟨bb, base, none⟩) n cap) [bodyB w n bb base cap sp] := by
  have hl : (body.take n).length = n := by rw [List.length_take]; omega
  have h := win_copy (b := bb) (base := base) (cap := cap) (sp := sp) (win_take hw n) (by omega) (by rw [hl]; exact c2)
  rw [hl] at h
  exact .inr ⟨_, h, by simp [Win.val, hl], List.Perm.refl _⟩
theorem item_cut {w : Win} {it : QItem} (hw : w.ok it.body) {n : Nat} (hn : n ≤ it.body.length) (bi : Nat) (mid : Int) :
    ItemAt (it.cut mid n) (.pointer (some ⟨bi, 0, none⟩)) (icell bi it mid w it.body.length n :: (w.b, .tab 5 w.base w.N [.ints .u8 w.zs]) :: w.G) := by
  obtain ⟨w1, w2, w3, w4⟩ := id hw
  refine ⟨bi, .slice (some ⟨w.b, w.base + (if w.cap = n then w.o else w.o + n), none⟩) (it.body.length - n) (w.cap - n), (w.b, .tab 5 w.base w.N [.ints .u8 w.zs]) :: w.G, rfl, ?_, List.Perm.refl _⟩
  exact ⟨{ w with o := if w.cap = n then w.o else w.o + n, cap := w.cap - n }, Win.drop hw hn (fun h => by rw [if_neg (by omega)]) (by split <;> omega), by simp [Win.val, QItem.cut], List.Perm.refl _⟩
theorem rot_keys {t : Win} {s : Int} {ks : List Int} {tn : Nat} (h : t.ok (s :: ks)) (e : tn = ks.length + 1) : rotL t tn = ks := by
  obtain ⟨-, -, -, h4⟩ := h
  unfold rotL
  rw [e]
  simp only [List.length_cons] at h4
  rw [h4]
  rfl
theorem keys_at {ks sp' : List Int} {s : Int} {tn tb tbase tcap : Nat} (e : tn = ks.length + 1) (d1 : tn ≤ tcap) (d2 : sp'.length = tcap - tn) : WinNil 27 .u16 (ks ++ [s]) (tvA tb tbase tn tcap) [(tb, .tab 27 tbase tcap [.ints .u16 (ks ++ [s] ++ sp')])] := by
  subst e
  exact .inr ⟨_, win_mk (l := ks ++ [s]) (b := tb) (base := tbase) (cap := tcap) (sp := sp') (by simpa using d1) (by simpa using d2), by simp [tvA, Win.val], List.Perm.refl _⟩
theorem num_begun {inter : Bool} {nums : Int × Bool → Option Int} {it : QItem} (h : it.begun = true) : numF inter nums it = (it.mid, nums) := by unfold numF; rw [if_pos h]
theorem num_loose {nums : Int × Bool → Option Int} {it : QItem} (h : it.begun = false) (h2 : it.loose = true) : numF false nums it = (0, nums) := by unfold numF; rw [if_neg (by simp [h]), if_pos (by simp [h2])]
theorem num_T {nums : Int × Bool → Option Int} {it : QItem} (h : it.begun = false) : numF true nums it = ((nums (it.stream, it.loose)).getD 0, updN nums (it.stream, it.loose) (IntKind.wrap .u32 ((nums (it.stream, it.loose)).getD 0 + 1))) := by
  unfold numF; rw [if_neg (by simp [h]), if_neg (by simp)]; rfl
theorem num_F {nums : Int × Bool → Option Int} {it : QItem} (h : it.begun = false) (h2 : it.loose = false) :
    numF false nums it = ((nums (it.stream, it.loose)).getD 0, updN nums (it.stream, it.loose) (iand .u32 (IntKind.wrap .u32 ((nums (it.stream, it.loose)).getD 0 + 1)) 65535)) := by
  unfold numF; rw [if_neg (by simp [h]), if_neg (by simp [h2])]; rfl
theorem nextF_go {q : SQ} {most : Int} {s : Int} {it : QItem} {its : List QItem} {rest : List (Int × List QItem)} (hl : q.lines = (s, it :: its) :: rest) (hm : 1 ≤ most ∧ most ≤ q.room) {n : Nat} (hn : n = min most.toNat it.body.length) {nu : Int × (Int × Bool → Option Int)} (hnu : numF q.inter q.nums it = nu) :
    nextF q most = (⟨if q.inter then 64 else 0, !it.begun, decide (n = it.body.length), it.loose, s, nu.1, it.ppid, if q.inter then it.frag else 0, it.body.take n, it.id, it.lk, it.ln, true⟩,
        { q with lines := if decide (n = it.body.length) then (if its.length = 0 then rest else rest ++ [(s, its)]) else if q.inter then rest ++ [(s, it.cut nu.1 n :: its)] else (s, it.cut nu.1 n :: its) :: rest, nums := nu.2, held := !decide (n = it.body.length) && !q.inter, all := q.all - n }) := by
  subst hn hnu
  unfold nextF
  rw [hl]
  exact if_neg (by omega)
set_option maxHeartbeats 2000000 in
theorem next_TT {q : SQ} {b : Nat} {most : Int} {Lq : Blks} {s : Int} {it : QItem} {its : List QItem} {rest : List (Int × List QItem)} (hq : SQAt q b Lq) (hl : q.lines = (s, it :: its) :: rest) (h0 : 0 ≤ q.all ∧ q.all ≤ 1000000) (hsm : q.small) (hm : 1 ≤ most ∧ most ≤ q.room) (hi : q.inter = true) (hE : min most.toNat it.body.length = it.body.length) :
    Triple Go.Proofs.Try.prog 17 [.pointer (some ⟨b, 0, none⟩), .int .i64 most] Lq (NxR q b most) := by
  obtain ⟨mi, mn, fi, fn, t, x, w, bi, L2, L3, t1, x1, k1, y1, w1, k4, k5, k6, k7, hp⟩ := nx_open hq hl
  obtain ⟨n, hn⟩ : ∃ n, n = min most.toNat it.body.length := ⟨_, rfl⟩
  obtain ⟨nu, hnu⟩ : ∃ nu, numF q.inter q.nums it = nu := ⟨_, rfl⟩
  have he := nextF_go hl hm hn hnu
  rw [← hn] at hE
  rw [hi] at hp he hnu
  have hwn : n ≤ it.body.length := by omega
  have hrm : q.room = 1168 := by unfold SQ.room; rw [hi]; rfl
  have ht0 := Win.get t1 (i := 0) (by simp)
  simp only [Nat.add_zero, List.getElem_cons_zero] at ht0
  have hsl := hsm.1
  rw [hl] at hsl
  simp only [List.length_cons] at hsl
  obtain ⟨t2, t3, t4, t5⟩ := id t1
  obtain ⟨x2, x3, x4, x5⟩ := id x1
  obtain ⟨w2, w3, w4, w5⟩ := id w1
  simp only [List.length_cons, List.length_map] at t2 x2
  have hrot := rot_keys (tn := rest.length + 1) t1 (by simp)
  have ok : NxOk 1168 fi fn q.all most it t (rest.length + 1) x (its.length + 1) w it.body.length n bi s (q.nums (it.stream, it.loose)) :=
    ⟨⟨by omega, by omega, by omega, by omega⟩, ⟨by omega, by omega, by omega⟩, ht0, k1, ⟨by omega, by omega, by omega⟩, y1, ⟨by omega, by omega, by omega⟩, k6.2 _, h0⟩
  refine Triple.mono (triple_of_run (R := NxR q b most) (h := [.own b (.cells 6 [.tt, .mp 1, .slc 3 t.o (rest.length + 1) t.cap, .val (.bool q.held), .mp 2, .val (.int .i64 q.all)] 123), .own mi (.map (.one (.int .u16)) fi none), .own mn (.map (.many [.int .u16, .bool]) fn none), .own t.b (.tab 27 t.base t.N [.ints .u16 t.zs]),
      .own x.b (.tab 126 x.base x.N [.raws x.ps]), itemE bi it (.val (.int .u32 it.mid)) (.slc 6 w.o it.body.length w.cap) (.val (.bool it.begun)) (.val (.int .u32 it.frag)), .own w.b (.tab 5 w.base w.N [.ints .u8 w.zs]), .chunk (t.G ++ (L2 ++ (L3 ++ w.G)))])
    (args := [.ptr 0 0 0, .val (.int .i64 most)])
    (L := ((b, .cells [.bool true, .map (some mi), t.val (rest.length + 1), .bool q.held, .map (some mn), .int .i64 q.all] 123) :: (mi, .map (.one (.int .u16)) fi none) :: (mn, .map (.many [.int .u16, .bool]) fn none) :: (t.b, .tab 27 t.base t.N [.ints .u16 t.zs]) ::
        (x.b, .tab 126 x.base x.N [.raws x.ps]) :: (bi, .cells (it.cells (w.val it.body.length)) 128) :: (w.b, .tab 5 w.base w.N [.ints .u8 w.zs]) :: (t.G ++ (L2 ++ (L3 ++ w.G)))))
    (run_with (l := [(67, del16T)]) (by simpa using del16T_sound) _ _ _ _ _) (fun r => by simp [denL, den, locAt, locs, Ent.loc, SBlk.base, SBlk.wd]) (fun r => by simp [owned, itemE, QItem.cells, Win.val, Ent.blocks, SBlk.den, denL, den, locAt, locs, Ent.loc, SBlk.base, SBlk.wd]) (by simp [itemE])
    (nxTT_goal b mi mn bi q.held fi fn q.all most it t (rest.length + 1) x (its.length + 1) w it.body.length n (fun m i => i = nu.1 ∧ NumsAt nu.2 m) _ _ (nxTT_vc b mi mn bi q.held fi fn q.all most it t (rest.length + 1) x (its.length + 1) w it.body.length n (fun m i => i = nu.1 ∧ NumsAt nu.2 m) _ _ s (q.nums (it.stream, it.loose)) ok hE
      (by intro h; rw [num_begun h] at hnu; rw [← hnu]; exact ⟨rfl, k6⟩) (by intro h; rw [num_T h] at hnu; rw [← hnu]; exact ⟨rfl, k6.upd _ _⟩) ?_ ?_))) hp (fun v L' h => h)
  · intro hxn
    intro fn' mid g1 g2 g3 g4 bb base cap sp tb tbase tcap sp' hnp c1 c2 d1 d2
    obtain ⟨rfl, hnn⟩ := hnp
    rw [chA_val (body := it.body.take n)]
    have ed : decide (n = it.body.length) = true := by simp [hE]
    rw [ed] at he ⊢
    simp only [Bool.not_true, Bool.not_false, Bool.and_self, Bool.false_and, Bool.and_false, Bool.true_and, Bool.and_true] at he
    simp only [if_true] at he
    rw [if_neg (show ¬ its.length = 0 by omega)] at he
    have hln : LineAt its (xval x (its.length + 1)) ((x.b, .tab 126 x.base x.N [.raws x.ps]) :: L3) :=
      ⟨{ x with o := if x.cap = 1 then x.o else x.o + 1, cap := x.cap - 1, G := L3 }, lx_tail x1 k7, by simp [xval, LX.val], List.Perm.refl _⟩
    have hls := lines_back k5 k4 hln
    rw [hrot]
    refine nxR_mk he (mi := mi) (mn := mn) (fi := updM fi (kS s) (xval x (its.length + 1))) (fn := fn') (tv := tvA tb tbase (rest.length + 1) tcap) (Lt := [(tb, .tab 27 tbase tcap [.ints .u16 (rest.map Prod.fst ++ [s] ++ sp')])]) (Lb := [bodyB w n bb base cap sp]) (E := [g1, g2, g3, g4, icell bi it nu.1 w it.body.length n, (w.b, .tab 5 w.base w.N [.ints .u8 w.zs])] ++ w.G ++ t.G) (by simpa using keys_at (ks := rest.map Prod.fst) (s := s) (tn := rest.length + 1) (tb := tb) (tbase := tbase) (by simp) d1 d2) (hls) hnn (body_at w1 hwn c1 c2) ?_
    refine perm_of_sums fun f => ?_
    simp only [XA, qcell, bodyB]
    simp only [List.map_append, List.map_cons, List.map_nil, List.sum_append, List.sum_cons, List.sum_nil, List.append_assoc, List.cons_append, List.nil_append]
    omega
  · intro hxn fn' mid g1 g2 g3 bb base cap sp tb tbase tcap xs hnp c1 c2 d1 d2 d3
    obtain ⟨rfl, hnn⟩ := hnp
    rw [chA_val (body := it.body.take n)]
    have ed : decide (n = it.body.length) = true := by simp [hE]
    rw [ed] at he ⊢
    simp only [Bool.not_true, Bool.not_false, Bool.and_self, Bool.false_and, Bool.and_false, Bool.true_and, Bool.and_true] at he
    simp only [if_true] at he
    rw [if_pos (show its.length = 0 by omega)] at he
    rw [hrot, Nat.add_sub_cancel] at d3
    rw [del_upd]
    refine nxR_mk he (mi := mi) (mn := mn) (fi := delM fi (kS s)) (fn := fn') (tv := tvA tb tbase (rest.length + 1 - 1) tcap) (Lt := [(tb, .tab 27 tbase tcap [.ints .u16 xs])]) (Lb := [bodyB w n bb base cap sp]) (E := [g1, g2, g3, icell bi it nu.1 w it.body.length n, (w.b, .tab 5 w.base w.N [.ints .u8 w.zs]), (x.b, .tab 126 x.base x.N [.raws x.ps])] ++ w.G ++ L3 ++ t.G)
      (.inr ⟨⟨tb, tbase, 0, tcap, tcap, xs, []⟩, ⟨by simpa using d1, by simp, d2, by simpa using d3⟩, by simp [tvA, Win.val], List.Perm.refl _⟩) k5 hnn (body_at w1 hwn c1 c2) ?_
    refine perm_of_sums fun f => ?_
    simp only [XA, qcell, bodyB]
    simp only [List.map_append, List.map_cons, List.map_nil, List.sum_append, List.sum_cons, List.sum_nil, List.append_assoc, List.cons_append, List.nil_append]
    omega
set_option maxHeartbeats 2000000 in
theorem next_TF {q : SQ} {b : Nat} {most : Int} {Lq : Blks} {s : Int} {it : QItem} {its : List QItem} {rest : List (Int × List QItem)} (hq : SQAt q b Lq) (hl : q.lines = (s, it :: its) :: rest) (h0 : 0 ≤ q.all ∧ q.all ≤ 1000000) (hsm : q.small) (hm : 1 ≤ most ∧ most ≤ q.room) (hi : q.inter = true) (hE : min most.toNat it.body.length ≠ it.body.length) :
    Triple Go.Proofs.Try.prog 17 [.pointer (some ⟨b, 0, none⟩), .int .i64 most] Lq (NxR q b most) := by
  obtain ⟨mi, mn, fi, fn, t, x, w, bi, L2, L3, t1, x1, k1, y1, w1, k4, k5, k6, k7, hp⟩ := nx_open hq hl
  obtain ⟨n, hn⟩ : ∃ n, n = min most.toNat it.body.length := ⟨_, rfl⟩
  obtain ⟨nu, hnu⟩ : ∃ nu, numF q.inter q.nums it = nu := ⟨_, rfl⟩
  have he := nextF_go hl hm hn hnu
  rw [← hn] at hE
  rw [hi] at hp he hnu
  have hwn : n ≤ it.body.length := by omega
  have hrm : q.room = 1168 := by unfold SQ.room; rw [hi]; rfl
  have ht0 := Win.get t1 (i := 0) (by simp)
  simp only [Nat.add_zero, List.getElem_cons_zero] at ht0
  have hsl := hsm.1
  rw [hl] at hsl
  simp only [List.length_cons] at hsl
  obtain ⟨t2, t3, t4, t5⟩ := id t1
  obtain ⟨x2, x3, x4, x5⟩ := id x1
  obtain ⟨w2, w3, w4, w5⟩ := id w1
  simp only [List.length_cons, List.length_map] at t2 x2
  have hrot := rot_keys (tn := rest.length + 1) t1 (by simp)
  have ok : NxOk 1168 fi fn q.all most it t (rest.length + 1) x (its.length + 1) w it.body.length n bi s (q.nums (it.stream, it.loose)) :=
    ⟨⟨by omega, by omega, by omega, by omega⟩, ⟨by omega, by omega, by omega⟩, ht0, k1, ⟨by omega, by omega, by omega⟩, y1, ⟨by omega, by omega, by omega⟩, k6.2 _, h0⟩
  refine Triple.mono (triple_of_run (R := NxR q b most) (h := [.own b (.cells 6 [.tt, .mp 1, .slc 3 t.o (rest.length + 1) t.cap, .val (.bool q.held), .mp 2, .val (.int .i64 q.all)] 123), .own mi (.map (.one (.int .u16)) fi none), .own mn (.map (.many [.int .u16, .bool]) fn none), .own t.b (.tab 27 t.base t.N [.ints .u16 t.zs]),
      .own x.b (.tab 126 x.base x.N [.raws x.ps]), itemE bi it (.val (.int .u32 it.mid)) (.slc 6 w.o it.body.length w.cap) (.val (.bool it.begun)) (.val (.int .u32 it.frag)), .own w.b (.tab 5 w.base w.N [.ints .u8 w.zs]), .chunk (t.G ++ (L2 ++ (L3 ++ w.G)))])
    (args := [.ptr 0 0 0, .val (.int .i64 most)])
    (L := ((b, .cells [.bool true, .map (some mi), t.val (rest.length + 1), .bool q.held, .map (some mn), .int .i64 q.all] 123) :: (mi, .map (.one (.int .u16)) fi none) :: (mn, .map (.many [.int .u16, .bool]) fn none) :: (t.b, .tab 27 t.base t.N [.ints .u16 t.zs]) ::
        (x.b, .tab 126 x.base x.N [.raws x.ps]) :: (bi, .cells (it.cells (w.val it.body.length)) 128) :: (w.b, .tab 5 w.base w.N [.ints .u8 w.zs]) :: (t.G ++ (L2 ++ (L3 ++ w.G)))))
    (run_with (l := [(67, del16T)]) (by simpa using del16T_sound) _ _ _ _ _) (fun r => by simp [denL, den, locAt, locs, Ent.loc, SBlk.base, SBlk.wd]) (fun r => by simp [owned, itemE, QItem.cells, Win.val, Ent.blocks, SBlk.den, denL, den, locAt, locs, Ent.loc, SBlk.base, SBlk.wd]) (by simp [itemE])
    (nxTF_goal b mi mn bi q.held fi fn q.all most it t (rest.length + 1) x (its.length + 1) w it.body.length n (fun m i => i = nu.1 ∧ NumsAt nu.2 m) _ _ (nxTF_vc b mi mn bi q.held fi fn q.all most it t (rest.length + 1) x (its.length + 1) w it.body.length n (fun m i => i = nu.1 ∧ NumsAt nu.2 m) _ _ s (q.nums (it.stream, it.loose)) ok hE
      (by intro h; rw [num_begun h] at hnu; rw [← hnu]; exact ⟨rfl, k6⟩) (by intro h; rw [num_T h] at hnu; rw [← hnu]; exact ⟨rfl, k6.upd _ _⟩) ?_))) hp (fun v L' h => h)
  intro fn' mid g1 g2 g3 g4 bb base cap sp tb tbase tcap sp' hnp c1 c2 d1 d2
  obtain ⟨rfl, hnn⟩ := hnp
  rw [chA_val (body := it.body.take n)]
  have ed : decide (n = it.body.length) = false := by simp [hE]
  have hln : LineAt (it.cut nu.1 n :: its) (x.val (its.length + 1)) ((x.b, .tab 126 x.base x.N [.raws x.ps]) :: ((icell bi it nu.1 w it.body.length n :: (w.b, .tab 5 w.base w.N [.ints .u8 w.zs]) :: w.G) ++ L3)) :=
    ⟨{ x with G := (icell bi it nu.1 w it.body.length n :: (w.b, .tab 5 w.base w.N [.ints .u8 w.zs]) :: w.G) ++ L3 }, lx_same x1 (by rw [y1]; exact item_cut w1 hwn bi nu.1) k7, rfl, List.Perm.refl _⟩
  have hls := lines_back k5 k4 hln
  rw [upd_id k1] at hls
  rw [ed] at he ⊢
  simp only [Bool.not_true, Bool.not_false, Bool.and_self, Bool.false_and, Bool.and_false, Bool.true_and, Bool.and_true] at he
  
  rw [hrot]
  refine nxR_mk he (mi := mi) (mn := mn) (fi := fi) (fn := fn') (tv := tvA tb tbase (rest.length + 1) tcap) (Lt := [(tb, .tab 27 tbase tcap [.ints .u16 (rest.map Prod.fst ++ [s] ++ sp')])]) (Lb := [bodyB w n bb base cap sp]) (E := [g1, g2, g3, g4]  ++ t.G) (by simpa using keys_at (ks := rest.map Prod.fst) (s := s) (tn := rest.length + 1) (tb := tb) (tbase := tbase) (by simp) d1 d2) (hls) hnn (body_at w1 hwn c1 c2) ?_
  refine perm_of_sums fun f => ?_
  simp only [XA, qcell, bodyB]
  simp only [List.map_append, List.map_cons, List.map_nil, List.sum_append, List.sum_cons, List.sum_nil, List.append_assoc, List.cons_append, List.nil_append]
  omega
set_option maxHeartbeats 2000000 in
theorem next_FT {q : SQ} {b : Nat} {most : Int} {Lq : Blks} {s : Int} {it : QItem} {its : List QItem} {rest : List (Int × List QItem)} (hq : SQAt q b Lq) (hl : q.lines = (s, it :: its) :: rest) (h0 : 0 ≤ q.all ∧ q.all ≤ 1000000) (hsm : q.small) (hm : 1 ≤ most ∧ most ≤ q.room) (hi : q.inter = false) (hE : min most.toNat it.body.length = it.body.length) :
    Triple Go.Proofs.Try.prog 17 [.pointer (some ⟨b, 0, none⟩), .int .i64 most] Lq (NxR q b most) := by
  obtain ⟨mi, mn, fi, fn, t, x, w, bi, L2, L3, t1, x1, k1, y1, w1, k4, k5, k6, k7, hp⟩ := nx_open hq hl
  obtain ⟨n, hn⟩ : ∃ n, n = min most.toNat it.body.length := ⟨_, rfl⟩
  obtain ⟨nu, hnu⟩ : ∃ nu, numF q.inter q.nums it = nu := ⟨_, rfl⟩
  have he := nextF_go hl hm hn hnu
  rw [← hn] at hE
  rw [hi] at hp he hnu
  have hwn : n ≤ it.body.length := by omega
  have hrm : q.room = 1172 := by unfold SQ.room; rw [hi]; rfl
  have ht0 := Win.get t1 (i := 0) (by simp)
  simp only [Nat.add_zero, List.getElem_cons_zero] at ht0
  have hsl := hsm.1
  rw [hl] at hsl
  simp only [List.length_cons] at hsl
  obtain ⟨t2, t3, t4, t5⟩ := id t1
  obtain ⟨x2, x3, x4, x5⟩ := id x1
  obtain ⟨w2, w3, w4, w5⟩ := id w1
  simp only [List.length_cons, List.length_map] at t2 x2
  have hrot := rot_keys (tn := rest.length + 1) t1 (by simp)
  have ok : NxOk 1172 fi fn q.all most it t (rest.length + 1) x (its.length + 1) w it.body.length n bi s (q.nums (it.stream, it.loose)) :=
    ⟨⟨by omega, by omega, by omega, by omega⟩, ⟨by omega, by omega, by omega⟩, ht0, k1, ⟨by omega, by omega, by omega⟩, y1, ⟨by omega, by omega, by omega⟩, k6.2 _, h0⟩
  refine Triple.mono (triple_of_run (R := NxR q b most) (h := [.own b (.cells 6 [.ff, .mp 1, .slc 3 t.o (rest.length + 1) t.cap, .val (.bool q.held), .mp 2, .val (.int .i64 q.all)] 123), .own mi (.map (.one (.int .u16)) fi none), .own mn (.map (.many [.int .u16, .bool]) fn none), .own t.b (.tab 27 t.base t.N [.ints .u16 t.zs]),
      .own x.b (.tab 126 x.base x.N [.raws x.ps]), itemE bi it (.val (.int .u32 it.mid)) (.slc 6 w.o it.body.length w.cap) (.val (.bool it.begun)) (.val (.int .u32 it.frag)), .own w.b (.tab 5 w.base w.N [.ints .u8 w.zs]), .chunk (t.G ++ (L2 ++ (L3 ++ w.G)))])
    (args := [.ptr 0 0 0, .val (.int .i64 most)])
    (L := ((b, .cells [.bool false, .map (some mi), t.val (rest.length + 1), .bool q.held, .map (some mn), .int .i64 q.all] 123) :: (mi, .map (.one (.int .u16)) fi none) :: (mn, .map (.many [.int .u16, .bool]) fn none) :: (t.b, .tab 27 t.base t.N [.ints .u16 t.zs]) ::
        (x.b, .tab 126 x.base x.N [.raws x.ps]) :: (bi, .cells (it.cells (w.val it.body.length)) 128) :: (w.b, .tab 5 w.base w.N [.ints .u8 w.zs]) :: (t.G ++ (L2 ++ (L3 ++ w.G)))))
    (run_with (l := [(67, del16T)]) (by simpa using del16T_sound) _ _ _ _ _) (fun r => by simp [denL, den, locAt, locs, Ent.loc, SBlk.base, SBlk.wd]) (fun r => by simp [owned, itemE, QItem.cells, Win.val, Ent.blocks, SBlk.den, denL, den, locAt, locs, Ent.loc, SBlk.base, SBlk.wd]) (by simp [itemE])
    (nxFT_goal b mi mn bi q.held fi fn q.all most it t (rest.length + 1) x (its.length + 1) w it.body.length n (fun m i => i = nu.1 ∧ NumsAt nu.2 m) _ _ (nxFT_vc b mi mn bi q.held fi fn q.all most it t (rest.length + 1) x (its.length + 1) w it.body.length n (fun m i => i = nu.1 ∧ NumsAt nu.2 m) _ _ s (q.nums (it.stream, it.loose)) ok hE
      (by intro h; rw [num_begun h] at hnu; rw [← hnu]; exact ⟨rfl, k6⟩) (by intro h h2; rw [num_loose h h2] at hnu; rw [← hnu]; exact ⟨rfl, k6⟩) (by intro h h2; rw [num_F h h2] at hnu; rw [← hnu]; exact ⟨rfl, k6.upd _ _⟩) ?_ ?_))) hp (fun v L' h => h)
  · intro hxn
    intro fn' mid g1 g2 g3 g4 bb base cap sp tb tbase tcap sp' hnp c1 c2 d1 d2
    obtain ⟨rfl, hnn⟩ := hnp
    rw [chA_val (body := it.body.take n)]
    have ed : decide (n = it.body.length) = true := by simp [hE]
    rw [ed] at he ⊢
    simp only [Bool.not_true, Bool.not_false, Bool.and_self, Bool.false_and, Bool.and_false, Bool.true_and, Bool.and_true] at he
    simp only [if_true] at he
    rw [if_neg (show ¬ its.length = 0 by omega)] at he
    have hln : LineAt its (xval x (its.length + 1)) ((x.b, .tab 126 x.base x.N [.raws x.ps]) :: L3) :=
      ⟨{ x with o := if x.cap = 1 then x.o else x.o + 1, cap := x.cap - 1, G := L3 }, lx_tail x1 k7, by simp [xval, LX.val], List.Perm.refl _⟩
    have hls := lines_back k5 k4 hln
    rw [hrot]
    refine nxR_mk he (mi := mi) (mn := mn) (fi := updM fi (kS s) (xval x (its.length + 1))) (fn := fn') (tv := tvA tb tbase (rest.length + 1) tcap) (Lt := [(tb, .tab 27 tbase tcap [.ints .u16 (rest.map Prod.fst ++ [s] ++ sp')])]) (Lb := [bodyB w n bb base cap sp]) (E := [g1, g2, g3, g4, icell bi it nu.1 w it.body.length n, (w.b, .tab 5 w.base w.N [.ints .u8 w.zs])] ++ w.G ++ t.G) (by simpa using keys_at (ks := rest.map Prod.fst) (s := s) (tn := rest.length + 1) (tb := tb) (tbase := tbase) (by simp) d1 d2) (hls) hnn (body_at w1 hwn c1 c2) ?_
    refine perm_of_sums fun f => ?_
    simp only [XA, qcell, bodyB]
    simp only [List.map_append, List.map_cons, List.map_nil, List.sum_append, List.sum_cons, List.sum_nil, List.append_assoc, List.cons_append, List.nil_append]
    omega
  · intro hxn fn' mid g1 g2 g3 bb base cap sp tb tbase tcap xs hnp c1 c2 d1 d2 d3
    obtain ⟨rfl, hnn⟩ := hnp
    rw [chA_val (body := it.body.take n)]
    have ed : decide (n = it.body.length) = true := by simp [hE]
    rw [ed] at he ⊢
    simp only [Bool.not_true, Bool.not_false, Bool.and_self, Bool.false_and, Bool.and_false, Bool.true_and, Bool.and_true] at he
    simp only [if_true] at he
    rw [if_pos (show its.length = 0 by omega)] at he
    rw [hrot, Nat.add_sub_cancel] at d3
    rw [del_upd]
    refine nxR_mk he (mi := mi) (mn := mn) (fi := delM fi (kS s)) (fn := fn') (tv := tvA tb tbase (rest.length + 1 - 1) tcap) (Lt := [(tb, .tab 27 tbase tcap [.ints .u16 xs])]) (Lb := [bodyB w n bb base cap sp]) (E := [g1, g2, g3, icell bi it nu.1 w it.body.length n, (w.b, .tab 5 w.base w.N [.ints .u8 w.zs]), (x.b, .tab 126 x.base x.N [.raws x.ps])] ++ w.G ++ L3 ++ t.G)
      (.inr ⟨⟨tb, tbase, 0, tcap, tcap, xs, []⟩, ⟨by simpa using d1, by simp, d2, by simpa using d3⟩, by simp [tvA, Win.val], List.Perm.refl _⟩) k5 hnn (body_at w1 hwn c1 c2) ?_
    refine perm_of_sums fun f => ?_
    simp only [XA, qcell, bodyB]
    simp only [List.map_append, List.map_cons, List.map_nil, List.sum_append, List.sum_cons, List.sum_nil, List.append_assoc, List.cons_append, List.nil_append]
    omega
set_option maxHeartbeats 2000000 in
theorem next_FF {q : SQ} {b : Nat} {most : Int} {Lq : Blks} {s : Int} {it : QItem} {its : List QItem} {rest : List (Int × List QItem)} (hq : SQAt q b Lq) (hl : q.lines = (s, it :: its) :: rest) (h0 : 0 ≤ q.all ∧ q.all ≤ 1000000) (hsm : q.small) (hm : 1 ≤ most ∧ most ≤ q.room) (hi : q.inter = false) (hE : min most.toNat it.body.length ≠ it.body.length) :
    Triple Go.Proofs.Try.prog 17 [.pointer (some ⟨b, 0, none⟩), .int .i64 most] Lq (NxR q b most) := by
  obtain ⟨mi, mn, fi, fn, t, x, w, bi, L2, L3, t1, x1, k1, y1, w1, k4, k5, k6, k7, hp⟩ := nx_open hq hl
  obtain ⟨n, hn⟩ : ∃ n, n = min most.toNat it.body.length := ⟨_, rfl⟩
  obtain ⟨nu, hnu⟩ : ∃ nu, numF q.inter q.nums it = nu := ⟨_, rfl⟩
  have he := nextF_go hl hm hn hnu
  rw [← hn] at hE
  rw [hi] at hp he hnu
  have hwn : n ≤ it.body.length := by omega
  have hrm : q.room = 1172 := by unfold SQ.room; rw [hi]; rfl
  have ht0 := Win.get t1 (i := 0) (by simp)
  simp only [Nat.add_zero, List.getElem_cons_zero] at ht0
  have hsl := hsm.1
  rw [hl] at hsl
  simp only [List.length_cons] at hsl
  obtain ⟨t2, t3, t4, t5⟩ := id t1
  obtain ⟨x2, x3, x4, x5⟩ := id x1
  obtain ⟨w2, w3, w4, w5⟩ := id w1
  simp only [List.length_cons, List.length_map] at t2 x2
  have hrot := rot_keys (tn := rest.length + 1) t1 (by simp)
  have ok : NxOk 1172 fi fn q.all most it t (rest.length + 1) x (its.length + 1) w it.body.length n bi s (q.nums (it.stream, it.loose)) :=
    ⟨⟨by omega, by omega, by omega, by omega⟩, ⟨by omega, by omega, by omega⟩, ht0, k1, ⟨by omega, by omega, by omega⟩, y1, ⟨by omega, by omega, by omega⟩, k6.2 _, h0⟩
  refine Triple.mono (triple_of_run (R := NxR q b most) (h := [.own b (.cells 6 [.ff, .mp 1, .slc 3 t.o (rest.length + 1) t.cap, .val (.bool q.held), .mp 2, .val (.int .i64 q.all)] 123), .own mi (.map (.one (.int .u16)) fi none), .own mn (.map (.many [.int .u16, .bool]) fn none), .own t.b (.tab 27 t.base t.N [.ints .u16 t.zs]),
      .own x.b (.tab 126 x.base x.N [.raws x.ps]), itemE bi it (.val (.int .u32 it.mid)) (.slc 6 w.o it.body.length w.cap) (.val (.bool it.begun)) (.val (.int .u32 it.frag)), .own w.b (.tab 5 w.base w.N [.ints .u8 w.zs]), .chunk (t.G ++ (L2 ++ (L3 ++ w.G)))])
    (args := [.ptr 0 0 0, .val (.int .i64 most)])
    (L := ((b, .cells [.bool false, .map (some mi), t.val (rest.length + 1), .bool q.held, .map (some mn), .int .i64 q.all] 123) :: (mi, .map (.one (.int .u16)) fi none) :: (mn, .map (.many [.int .u16, .bool]) fn none) :: (t.b, .tab 27 t.base t.N [.ints .u16 t.zs]) ::
        (x.b, .tab 126 x.base x.N [.raws x.ps]) :: (bi, .cells (it.cells (w.val it.body.length)) 128) :: (w.b, .tab 5 w.base w.N [.ints .u8 w.zs]) :: (t.G ++ (L2 ++ (L3 ++ w.G)))))
    (run_with (l := [(67, del16T)]) (by simpa using del16T_sound) _ _ _ _ _) (fun r => by simp [denL, den, locAt, locs, Ent.loc, SBlk.base, SBlk.wd]) (fun r => by simp [owned, itemE, QItem.cells, Win.val, Ent.blocks, SBlk.den, denL, den, locAt, locs, Ent.loc, SBlk.base, SBlk.wd]) (by simp [itemE])
    (nxFF_goal b mi mn bi q.held fi fn q.all most it t (rest.length + 1) x (its.length + 1) w it.body.length n (fun m i => i = nu.1 ∧ NumsAt nu.2 m) _ _ (nxFF_vc b mi mn bi q.held fi fn q.all most it t (rest.length + 1) x (its.length + 1) w it.body.length n (fun m i => i = nu.1 ∧ NumsAt nu.2 m) _ _ s (q.nums (it.stream, it.loose)) ok hE
      (by intro h; rw [num_begun h] at hnu; rw [← hnu]; exact ⟨rfl, k6⟩) (by intro h h2; rw [num_loose h h2] at hnu; rw [← hnu]; exact ⟨rfl, k6⟩) (by intro h h2; rw [num_F h h2] at hnu; rw [← hnu]; exact ⟨rfl, k6.upd _ _⟩) ?_))) hp (fun v L' h => h)
  intro fn' mid g1 g2 g3 bb base cap sp hnp c1 c2
  obtain ⟨rfl, hnn⟩ := hnp
  rw [chA_val (body := it.body.take n)]
  have ed : decide (n = it.body.length) = false := by simp [hE]
  have hln : LineAt (it.cut nu.1 n :: its) (x.val (its.length + 1)) ((x.b, .tab 126 x.base x.N [.raws x.ps]) :: ((icell bi it nu.1 w it.body.length n :: (w.b, .tab 5 w.base w.N [.ints .u8 w.zs]) :: w.G) ++ L3)) :=
    ⟨{ x with G := (icell bi it nu.1 w it.body.length n :: (w.b, .tab 5 w.base w.N [.ints .u8 w.zs]) :: w.G) ++ L3 }, lx_same x1 (by rw [y1]; exact item_cut w1 hwn bi nu.1) k7, rfl, List.Perm.refl _⟩
  have hls := lines_back k5 k4 hln
  rw [upd_id k1] at hls
  rw [ed] at he ⊢
  simp only [Bool.not_true, Bool.not_false, Bool.and_self, Bool.false_and, Bool.and_false, Bool.true_and, Bool.and_true] at he
  refine nxR_mk he (mi := mi) (mn := mn) (fi := fi) (fn := fn') (tv := t.val (rest.length + 1)) (Lt := (t.b, .tab 27 t.base t.N [.ints .u16 t.zs]) :: t.G) (Lb := [bodyB w n bb base cap sp]) (E := [g1, g2, g3]) (.inr ⟨t, t1, by simp, List.Perm.refl _⟩) (hls.perm (List.perm_append_comm (l₁ := rest) (l₂ := [_]))) hnn (body_at w1 hwn c1 c2) ?_
  refine perm_of_sums fun f => ?_
  simp only [qcell, bodyB]
  simp only [List.map_append, List.map_cons, List.map_nil, List.sum_append, List.sum_cons, List.sum_nil, List.append_assoc, List.cons_append, List.nil_append]
  omega
end Go.Proofs.Ythkcfocoekonjaa
