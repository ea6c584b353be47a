/- SchedDrops: the run. -/
import Derived.Test.YthkcfocoekonjaaDrH
import Derived.Test.YthkcfocoekonjaaScL
set_option maxRecDepth 100000
set_option linter.unusedVariables false
set_option linter.unusedSimpArgs false
namespace Go.Proofs.Ythkcfocoekonjaa
open Go Go.Sx
attribute [local irreducible] Go.Sx.xrun

structure SdX where
  b : Nat
  i : Nat
  zs : List Int
  ws : List Int
  L : Blks
noncomputable def Ann.sd (n : Nat) (P1 : Nat → Nat → List Int → Blks → Prop) (P2 : Nat → Nat → List Int → List Int → Blks → Prop) (P3 : Nat → List Int → Blks → Prop) : FnAnn := ⟨[],
  [(7, ⟨SdX, [(fun σ y => ⟨σ.n, (29, .val (.int .i64 y.i)) :: (7, .val (.pointer (some ⟨y.b, 0, none⟩))) :: keepE σ.env [1, 2, 8, 9, 10, 28], Ann.setZ (Ann.setE σ.heap 2 (.chunk y.L)) 3 y.zs⟩, fun _ y => P1 y.b y.i y.zs y.L)], fun y => n - y.i⟩),
   (14, ⟨SdX, [(fun σ y => ⟨σ.n, (55, .val (.int .i64 y.i)) :: (7, .val (.pointer (some ⟨y.b, 0, none⟩))) :: keepE σ.env [2, 8, 9, 10], Ann.setZ (Ann.setZ (Ann.setE σ.heap 2 (.chunk y.L)) 3 y.zs) 4 y.ws⟩, fun _ y => P2 y.b y.i y.zs y.ws y.L)], fun y => 3000 - y.i⟩),
   (1000022, ⟨SdX, [(fun σ y => ⟨σ.n, (12, .val (.int .i64 y.i)) :: (55, .val (.int .i64 y.i)) :: (7, .val (.pointer (some ⟨y.b, 0, none⟩))) :: keepE σ.env [2, 8, 9, 10], Ann.setZ (Ann.setZ (Ann.setE σ.heap 2 (.chunk y.L)) 3 y.zs) 4 y.ws⟩, fun x0 y => y.i = x0.i ∧ P2 y.b y.i y.zs y.ws y.L)], fun y => 0⟩),
   (1000029, ⟨SdX, [(fun σ y => ⟨σ.n, (7, .val (.pointer (some ⟨y.b, 0, none⟩))) :: keepE σ.env [8, 9], Ann.setZ (Ann.setZ (Ann.setE σ.heap 2 (.chunk y.L)) 3 y.zs) 4 y.ws⟩, fun _ y => P3 y.b y.zs y.L)], fun y => 0⟩),
   (30, ⟨SdX, [(fun σ y => ⟨σ.n, (140, .val (.int .i64 y.i)) :: keepE σ.env [7, 8, 9, 139], σ.heap⟩, fun _ y => y.i ≤ n)], fun y => n - y.i⟩)]⟩
noncomputable def sdRun (hs : Hints) (inter : Bool) (s1 s2 : SV) (e1 e2 : Ent) (n : Nat) (P1 : Nat → Nat → List Int → Blks → Prop) (P2 : Nat → Nat → List Int → List Int → Blks → Prop) (P3 : Nat → List Int → Blks → Prop) (R : Prop → Prop) : Prop :=
  xrun Go.Proofs.Try.prog [(14, firstT), (15, newnT), (16, pushnT), (17, nextnT), (18, allnT), (37, dropT)] [(11, Ann.sd n P1 P2 P3)] hs 9 [] 11 [.val (.bool inter), s1, s2] [e1, e2, .chunk []] fun s _ => bOf s R
noncomputable def sdGoal (inter : Bool) (b : Nat) (t : TypeId) (off len cap : Nat) (zs : List Int) (b2 : Nat) (t2 : TypeId) (off2 len2 cap2 : Nat) (zs2 : List Int) (n : Nat) (P1 : Nat → Nat → List Int → Blks → Prop) (P2 : Nat → Nat → List Int → List Int → Blks → Prop) (P3 : Nat → List Int → Blks → Prop) (R : Prop → Prop) : Prop :=
  sdRun [([], (22, false))] inter (.slc 0 0 len cap) (.slc 1 0 len2 cap2) (.ro b (.tab t off cap [.ints .u16 zs])) (.ro b2 (.tab t2 off2 cap2 [.ints .i64 zs2])) n P1 P2 P3 R
noncomputable def sdNGoal (inter : Bool) (o : Option Addr) (cap : Nat) (b2 : Nat) (t2 : TypeId) (off2 len2 cap2 : Nat) (zs2 : List Int) (n : Nat) (P1 : Nat → Nat → List Int → Blks → Prop) (P2 : Nat → Nat → List Int → List Int → Blks → Prop) (P3 : Nat → List Int → Blks → Prop) (R : Prop → Prop) : Prop :=
  sdRun [([], (22, false))] inter (.val (.slice o 0 cap)) (.slc 1 0 len2 cap2) (.gone (0, 0, 0)) (.ro b2 (.tab t2 off2 cap2 [.ints .i64 zs2])) n P1 P2 P3 R
noncomputable def sdMGoal (inter : Bool) (b : Nat) (t : TypeId) (off len cap : Nat) (zs : List Int) (o2 : Option Addr) (cap2 : Nat) (n : Nat) (P1 : Nat → Nat → List Int → Blks → Prop) (P2 : Nat → Nat → List Int → List Int → Blks → Prop) (P3 : Nat → List Int → Blks → Prop) (R : Prop → Prop) : Prop :=
  sdRun [([], (22, false))] inter (.slc 0 0 len cap) (.val (.slice o2 0 cap2)) (.ro b (.tab t off cap [.ints .u16 zs])) (.gone (0, 0, 0)) n P1 P2 P3 R
noncomputable def sdNMGoal (inter : Bool) (o : Option Addr) (cap : Nat) (o2 : Option Addr) (cap2 : Nat) (n : Nat) (P1 : Nat → Nat → List Int → Blks → Prop) (P2 : Nat → Nat → List Int → List Int → Blks → Prop) (P3 : Nat → List Int → Blks → Prop) (R : Prop → Prop) : Prop :=
  sdRun [([], (22, false))] inter (.val (.slice o 0 cap)) (.val (.slice o2 0 cap2)) (.gone (0, 0, 0)) (.gone (0, 0, 0)) n P1 P2 P3 R
theorem lines_le (q : SQ) (h : ∀ l ∈ q.lines, l.2 ≠ []) : q.lines.length ≤ (allI q).length ∧ ∀ l ∈ q.lines, l.2.length ≤ (allI q).length := by
  unfold allI
  generalize q.lines = ls at h
  induction ls with
  | nil => simp
  | cons l r ih =>
    obtain ⟨h1, h2⟩ := ih fun x hx => h x (by simp [hx])
    have h3 := List.length_pos_iff.2 (h l (by simp))
    rw [List.flatMap_cons, List.length_append, List.length_cons]
    refine ⟨by omega, fun x hx => ?_⟩
    rcases List.mem_cons.1 hx with rfl | hx
    · omega
    · have := h2 x hx; omega
theorem small_of {q : SQ} (h : ∀ l ∈ q.lines, l.2 ≠ []) (hl : (allI q).length < 1000000) : q.small := by
  have h1 := lines_le q h
  exact ⟨by omega, fun l hm => ⟨List.length_pos_iff.2 (h l hm), by have := h1.2 l hm; omega⟩⟩
theorem sum_lens (q : SQ) : (q.lines.map fun l => l.2.length).sum = (allI q).length := by
  unfold allI
  rw [List.length_flatMap]
/-- What a turn does to the messages. -/
theorem next_items {q : SQ} {most : Int} {s : Int} {it : QItem} {its : List QItem} {rest : List (Int × List QItem)} (hl : q.lines = (s, it :: its) :: rest) (hne : ∀ l ∈ q.lines, l.2 ≠ []) (hm : 1 ≤ most ∧ most ≤ q.room) :
    ∃ others : List QItem, (allI q).Perm (it :: others) ∧ (allI (nextF q most).2).Perm ((if min most.toNat it.body.length = it.body.length then [] else [it.cut (numF q.inter q.nums it).1 (min most.toNat it.body.length)]) ++ others) ∧
      (∀ l ∈ (nextF q most).2.lines, l.2 ≠ []) ∧ (nextF q most).2.inter = q.inter ∧ (nextF q most).2.all = q.all - (min most.toNat it.body.length : Nat) ∧ (nextF q most).1.ok = true ∧ (nextF q most).1.id = it.id ∧ (nextF q most).1.body = it.body.take (min most.toNat it.body.length) := by
  rw [nextF_go hl hm rfl rfl]
  refine ⟨its ++ rest.flatMap Prod.snd, by unfold allI; rw [hl]; simp, ?_, ?_, rfl, rfl, rfl, rfl, rfl⟩
  · unfold allI
    simp only
    generalize min most.toNat it.body.length = n
    by_cases hn : n = it.body.length
    · simp only [hn, decide_true, if_true]
      by_cases hi : its.length = 0
      · rw [if_pos hi, List.eq_nil_of_length_eq_zero hi]; simp
      · rw [if_neg hi, List.flatMap_append]
        refine List.perm_append_comm.trans ?_
        simp
    · simp only [hn, decide_false, Bool.false_eq_true, if_false]
      split
      · rw [List.flatMap_append]
        refine List.perm_append_comm.trans ?_
        simp
      · simp
  · intro l hlm
    simp only at hlm
    have hr : ∀ l ∈ rest, l.2 ≠ [] := fun l h => hne l (by rw [hl]; simp [h])
    split at hlm
    · split at hlm
      · exact hr l hlm
      · rcases List.mem_append.1 hlm with h | h
        · exact hr l h
        · rw [List.mem_singleton.1 h]
          rename_i hi
          intro e
          exact hi (by have : its = [] := e; rw [this]; rfl)
    · split at hlm
      · rcases List.mem_append.1 hlm with h | h
        · exact hr l h
        · rw [List.mem_singleton.1 h]; simp
      · rcases List.mem_cons.1 hlm with rfl | h
        · simp
        · exact hr l h
def pcs (l : List QItem) : Nat := (l.map fun it => (it.body.length + 99) / 100).sum
theorem pcs_perm {a b : List QItem} (h : a.Perm b) : pcs a = pcs b := (h.map _).sum_nat
theorem tsum_cons (a : QItem) (r : List QItem) : tsum (a :: r) = a.body.length + tsum r := by simp [tsum]
theorem pcs_cons (a : QItem) (r : List QItem) : pcs (a :: r) = (a.body.length + 99) / 100 + pcs r := by simp [pcs]
theorem tsum_bd {l : List QItem} (h : ∀ it ∈ l, it.body.length ≤ 900) : tsum l ≤ 900 * l.length := by
  induction l with
  | nil => simp [tsum]
  | cons a r ih =>
    have h1 := h a (by simp)
    have h2 := ih fun it hit => h it (by simp [hit])
    rw [tsum_cons, List.length_cons]
    omega
/-- The law's state: what is left of each, what is gone. -/
structure DropI (n i : Nat) (q : SQ) (xs ws : List Int) : Prop where
  ne : ∀ l ∈ q.lines, l.2 ≠ []
  n20 : n ≤ 20
  xl : xs.length = 20
  wl : ws.length = 20
  few : (allI q).length ≤ 20
  each : ∀ it ∈ allI q, 0 ≤ it.id ∧ it.id < n ∧ 1 ≤ it.body.length ∧ it.body.length ≤ 900 ∧ ws.getD it.id.toNat 0 ≠ 1
  left : ∀ k < n, xs.getD k 0 = (bsum k (allI q) : Int)
  all : q.all = (tsum (allI q) : Int)
  meas : pcs (allI q) + (i - 30) ≤ 180
theorem DropI.tot {n i : Nat} {q : SQ} {xs ws : List Int} (h : DropI n i q xs ws) : tsum (allI q) ≤ 18000 := by
  have := tsum_bd fun it hit => (h.each it hit).2.2.2.1
  have := h.few
  omega
theorem DropI.small {n i : Nat} {q : SQ} {xs ws : List Int} (h : DropI n i q xs ws) : q.small := small_of h.ne (by have := h.few; omega)
theorem getD_set2 (l : List Int) (d a : Int) {i : Nat} (j : Nat) (h : i < l.length) : (l.set i a).getD j d = if j = i then a else l.getD j d := by
  by_cases e : j = i
  · subst e; rw [if_pos rfl]; exact Go.Sx.getD_set_eq l d a h
  · rw [if_neg e]; exact Go.Sx.getD_set_ne l d a e
theorem keep_bsum {id k : Int} {l : List QItem} : bsum k (keepI id l) = if k = id then 0 else bsum k l := by
  unfold bsum keepI
  rw [List.filter_filter]
  by_cases h : k = id
  · subst h
    rw [if_pos rfl, List.filter_eq_nil_iff.2 fun it _ => by simp]
    rfl
  · rw [if_neg h]
    congr 2
    refine List.filter_congr fun it _ => ?_
    by_cases e : it.id = k
    · simp [e, h]
    · simp [e]
theorem pcs_keep (id : Int) (l : List QItem) : pcs (keepI id l) ≤ pcs l := by
  induction l with
  | nil => simp [keepI]
  | cons a r ih =>
    rw [pcs_cons]
    unfold keepI at ih ⊢
    by_cases h : a.id = id
    · rw [List.filter_cons_of_neg (by simp [h])]; omega
    · rw [List.filter_cons_of_pos (by simp [h]), pcs_cons]; omega
theorem DropI.drop {n i k : Nat} {q : SQ} {xs ws : List Int} (h : DropI n i q xs ws) (hk : k < n) : (dropF q k).n = xs.getD k 0 ∧ DropI n i (dropF q k).q (xs.set k 0) (ws.set k 1) := by
  have h20 := h.n20
  have hxl := h.xl
  have hwl := h.wl
  have ht := h.tot
  have hd := dAll_n k q.inter q.lines (0, []) (by simp) (by have : tsum (q.lines.flatMap Prod.snd) = tsum (allI q) := rfl; simp only; omega)
  have hd : (dAll k q.inter (0, []) q.lines).1 = (bsum k (allI q) : Int) := by rw [hd]; simp only [allI]; omega
  rw [dropF_eq q k h.ne]
  have hp := drop_items q k
  have hb := bsum_le k (allI q)
  have hs := tsum_split k (allI q)
  have hpe : (allI ({ q with lines := dropLines q k, held := !over q k && q.held, all := IntKind.wrap .i64 (q.all - (dAll k q.inter (0, []) q.lines).1) } : SQ)).Perm (keepI k (allI q)) := hp
  refine ⟨by rw [h.left k hk]; exact hd, drop_ne q k, h20, by simp [hxl], by simp [hwl], ?_, fun it hit => ?_, fun j hj => ?_, ?_, ?_⟩
  · rw [hpe.length_eq]
    have := List.length_filter_le (fun it : QItem => decide (it.id ≠ (k : Int))) (allI q)
    have := h.few
    unfold keepI
    omega
  · have hm := hpe.mem_iff.1 hit
    obtain ⟨e1, e2⟩ := List.mem_filter.1 hm
    obtain ⟨g1, g2, g3, g4, g5⟩ := h.each it e1
    refine ⟨g1, g2, g3, g4, ?_⟩
    rw [getD_set2 _ _ _ _ (by omega), if_neg]
    · exact g5
    · simp at e2; omega
  · rw [getD_set2 _ _ _ _ (by omega), bsum_perm hpe, keep_bsum]
    by_cases e : j = k
    · subst e; simp
    · rw [if_neg e, if_neg (by omega)]; exact h.left j hj
  · show IntKind.wrap .i64 (q.all - (dAll k q.inter (0, []) q.lines).1) = _
    rw [tsum_perm hpe, hd, h.all, IntKind.wrap_i64]
    omega
  · rw [pcs_perm hpe]
    have := pcs_keep k (allI q)
    have := h.meas
    omega
theorem DropI.next {n i : Nat} {q : SQ} {xs ws : List Int} (h : DropI n i q xs ws) :
    (q.lines = [] ∧ nextF q 100 = (chZ, q)) ∨ ((nextF q 100).1.ok = true ∧ ∃ k : Nat, k < n ∧ (nextF q 100).1.id = (k : Int) ∧ ws.getD k 0 ≠ 1 ∧ ((nextF q 100).1.body.length : Int) ≤ xs.getD k 0 ∧ xs.getD k 0 ≤ 18000 ∧ DropI n (i + 1) (nextF q 100).2 (xs.set k (xs.getD k 0 - ((nextF q 100).1.body.length : Int))) ws) := by
  have hsm := h.small
  have hxl := h.xl
  have ht := h.tot
  have h20 := h.n20
  cases hl : q.lines with
  | nil => exact .inl ⟨rfl, nextF_fail hsm (.inl hl)⟩
  | cons l rest =>
    right
    obtain ⟨s, its⟩ := l
    cases its with
    | nil => exact absurd rfl (h.ne (s, []) (by rw [hl]; simp))
    | cons it its =>
      have hr : (1 : Int) ≤ 100 ∧ (100 : Int) ≤ q.room := by unfold SQ.room; split <;> omega
      obtain ⟨others, p1, p2, p3, p4, p5, p6, p7, p8⟩ := next_items hl h.ne hr
      have h100 : (100 : Int).toNat = 100 := rfl
      rw [h100] at p2 p5 p8
      obtain ⟨m, hm⟩ : ∃ m, m = min 100 it.body.length := ⟨_, rfl⟩
      rw [← hm] at p2 p5 p8
      obtain ⟨g1, g2, g3, g4, g5⟩ := h.each it (p1.mem_iff.2 (by simp))
      have hlb : (nextF q 100).1.body.length = m := by rw [p8, List.length_take]; omega
      obtain ⟨k, hk⟩ : ∃ k : Nat, it.id = (k : Int) := ⟨it.id.toNat, by omega⟩
      have hkn : k < n := by omega
      have hb := bsum_le k (allI q)
      have hbk : bsum k (allI q) = it.body.length + bsum k others := by rw [bsum_perm p1, bsum_cons, if_pos hk]
      have hlk := h.left k hkn
      have htt : tsum (allI q) = it.body.length + tsum others := by rw [tsum_perm p1, tsum_cons]
      have hpp : pcs (allI q) = (it.body.length + 99) / 100 + pcs others := by rw [pcs_perm p1, pcs_cons]
      have hfew := h.few
      have hmeas := h.meas
      rw [p1.length_eq, List.length_cons] at hfew
      refine ⟨p6, k, hkn, by rw [p7, hk], by rw [hk, Int.toNat_natCast] at g5; exact g5, by rw [hlb, hlk]; omega, by omega, p3, h20, by simp [hxl], h.wl, ?_, fun x hx => ?_, fun j hj => ?_, ?_, ?_⟩
      · rw [p2.length_eq, List.length_append]
        split <;> simp <;> omega
      · have hx := p2.mem_iff.1 hx
        rcases List.mem_append.1 hx with hx | hx
        · split at hx
          · cases hx
          · rename_i hne
            rw [List.mem_singleton.1 hx]
            refine ⟨g1, g2, ?_, ?_, g5⟩
            · show 1 ≤ (it.body.drop m).length
              rw [List.length_drop]; omega
            · show (it.body.drop m).length ≤ 900
              rw [List.length_drop]; omega
        · exact h.each x (p1.mem_iff.2 (by simp [hx]))
      · rw [getD_set2 _ _ _ _ (by omega), bsum_perm p2, bsum_append, hlb]
        have hcut : ∀ mid, (it.cut mid m).id = it.id ∧ (it.cut mid m).body.length = it.body.length - m := fun mid => ⟨rfl, List.length_drop ..⟩
        by_cases e : j = k
        · subst e
          rw [if_pos rfl, hlk, hbk]
          split
          · simp [bsum]; omega
          · rw [bsum_cons, if_pos (by rw [(hcut _).1, hk]), (hcut _).2]
            have e0 : bsum (j : Int) [] = 0 := rfl
            omega
        · rw [if_neg e, h.left j hj, bsum_perm p1, bsum_cons, if_neg (by omega)]
          split
          · simp [bsum]
          · rw [bsum_cons, if_neg (by rw [(hcut _).1, hk]; omega)]
            simp [bsum]
      · rw [p5, h.all, htt, tsum_perm p2]
        split
        · simp only [List.nil_append]; omega
        · rw [List.singleton_append, tsum_cons]
          have : (it.cut (numF q.inter q.nums it).1 m).body.length = it.body.length - m := List.length_drop ..
          omega
      · rw [pcs_perm p2]
        split
        · rw [List.nil_append]; omega
        · rw [List.singleton_append, pcs_cons]
          have : (it.cut (numF q.inter q.nums it).1 m).body.length = it.body.length - m := List.length_drop ..
          rw [this]
          omega
def dsz (zs : List Int) (j : Nat) : Nat := 1 + ((zs.getD j 0).tmod 900).toNat
def dsM (j : Nat) : Msg := ⟨j, 0, 0, (j % 4 : Nat), false, 0, 0⟩
def dsI (zs : List Int) (j : Nat) : QItem := (dsM j).item (List.replicate (dsz zs j) 0)
theorem dsz_le (zs : List Int) (j : Nat) : 1 ≤ dsz zs j ∧ dsz zs j ≤ 900 := by
  unfold dsz
  have := Int.tmod_lt_of_pos (zs.getD j 0) (show (0 : Int) < 900 by omega)
  omega
theorem ds_val {zs : List Int} (hz : ∀ z ∈ zs, (0 : Int) ≤ z ∧ z < 65536) (i : Nat) : IntKind.wrap .i64 (1 + IntKind.wrap .i64 ((zs.getD i 0).tmod 900)) = (dsz zs i : Int) := by
  have h0 : 0 ≤ zs.getD i 0 := by
    rw [List.getD_eq_getElem?_getD]
    cases h : zs[i]? with
    | none => simp
    | some z => exact (hz z (List.mem_of_getElem? h)).1
  have h1 := Int.tmod_lt_of_pos (zs.getD i 0) (show (0 : Int) < 900 by omega)
  have h2 := Int.tmod_nonneg (900 : Int) h0
  have h3 : IntKind.wrap .i64 ((zs.getD i 0).tmod 900) = (zs.getD i 0).tmod 900 := by rw [IntKind.wrap_i64]; omega
  rw [h3, IntKind.wrap_i64]
  unfold dsz
  omega
def sdP1 (zs : List Int) (n b i : Nat) (xs : List Int) (L : Blks) : Prop := i ≤ n ∧ xs = (List.range i).map (fun j => (dsz zs j : Int)) ++ List.replicate (20 - i) 0 ∧ ∃ q, SQAt q b L ∧ (∀ l ∈ q.lines, l.2 ≠ []) ∧ (allI q).Perm ((List.range i).map (dsI zs)) ∧ q.all = (tsum (allI q) : Int)
def sdP2 (n b i : Nat) (xs ws : List Int) (L : Blks) : Prop := i ≤ 3000 ∧ ∃ q, SQAt q b L ∧ DropI n i q xs ws
def sdP3 (n b : Nat) (xs : List Int) (L : Blks) : Prop := (∀ k < n, xs.getD k 0 = 0) ∧ ∃ q, SQAt q b L ∧ q.all = 0
theorem tsum_ds (zs : List Int) (i : Nat) : tsum ((List.range i).map (dsI zs)) ≤ 900 * i := by
  have := tsum_bd (l := (List.range i).map (dsI zs)) fun it hit => by
    obtain ⟨j, -, rfl⟩ := List.mem_map.1 hit
    have := dsz_le zs j
    simp [dsI, Msg.item]; omega
  simpa using this
theorem sd_small {zs : List Int} {n b i : Nat} {xs : List Int} {L : Blks} {q : SQ} (hi : i ≤ 20) (h1 : ∀ l ∈ q.lines, l.2 ≠ []) (h2 : (allI q).Perm ((List.range i).map (dsI zs))) (h3 : q.all = (tsum (allI q) : Int)) : q.small ∧ 0 ≤ q.all ∧ q.all ≤ 18000 := by
  have := tsum_ds zs i
  have e := tsum_perm h2
  have hl := h2.length_eq
  simp at hl
  exact ⟨small_of h1 (by omega), by omega, by omega⟩
theorem sd_push {zs : List Int} {i : Nat} {q q' : SQ} {code : Int} (hi : i < 20) (h1 : ∀ l ∈ q.lines, l.2 ≠ []) (h2 : (allI q).Perm ((List.range i).map (dsI zs))) (h3 : q.all = (tsum (allI q) : Int)) (h : PushP q (dsM i) (List.replicate (dsz zs i) 0) code q') :
    code = 0 ∧ (∀ l ∈ q'.lines, l.2 ≠ []) ∧ (allI q').Perm ((List.range (i + 1)).map (dsI zs)) ∧ q'.all = (tsum (allI q') : Int) := by
  have hz := dsz_le zs i
  have ht := tsum_ds zs i
  have et := tsum_perm h2
  have hit : (dsI zs i).body.length = dsz zs i := by simp [dsI, Msg.item]
  have fin : ∀ q2 : SQ, (∀ l ∈ q2.lines, l.2 ≠ []) → (allI q2).Perm (allI q ++ [dsI zs i]) → q2.all = q.all + (List.replicate (dsz zs i) (0 : Int)).length → (∀ l ∈ q2.lines, l.2 ≠ []) ∧ (allI q2).Perm ((List.range (i + 1)).map (dsI zs)) ∧ q2.all = (tsum (allI q2) : Int) := fun q2 g1 g2 g3 => by
    refine ⟨g1, ?_, ?_⟩
    · rw [List.range_succ, List.map_append]
      exact g2.trans (h2.append_right _)
    · rw [g3, tsum_perm g2, h3]
      unfold tsum
      simp only [List.map_append, List.sum_append, List.map_cons, List.map_nil, List.sum_cons, List.sum_nil, hit, List.length_replicate]
      omega
  rw [PushP, List.length_replicate] at h
  rcases h with ⟨h, -⟩ | ⟨h, -⟩ | ⟨g1, g2, g3, -⟩ | ⟨g1, g2, g3, rfl, ls, rfl, h4⟩
  · omega
  · omega
  · omega
  · refine ⟨rfl, fin _ ?_ ?_ (by rw [List.length_replicate])⟩
    · intro l hl
      rcases h4 with ⟨A, B, its, e, rfl⟩ | ⟨-, rfl⟩
      · rcases List.mem_append.1 hl with hl | hl
        · exact h1 l (by rw [e]; simp [hl])
        · rcases List.mem_cons.1 hl with rfl | hl
          · simp
          · exact h1 l (by rw [e]; simp [hl])
      · rcases List.mem_append.1 hl with hl | hl
        · exact h1 l hl
        · rw [List.mem_singleton.1 hl]; simp
    · unfold allI
      rcases h4 with ⟨A, B, its, e, rfl⟩ | ⟨-, rfl⟩
      · simp only [e, List.flatMap_append, List.flatMap_cons, List.append_assoc]
        refine List.Perm.append_left _ (List.Perm.append_left _ ?_)
        exact List.perm_append_comm
      · simp only [List.flatMap_append, List.flatMap_cons, List.flatMap_nil, List.append_nil]
        exact List.Perm.refl _
theorem set_ds (zs : List Int) {i : Nat} (hi : i < 20) : ((List.range i).map (fun j => (dsz zs j : Int)) ++ List.replicate (20 - i) 0).set i (dsz zs i : Int) = (List.range (i + 1)).map (fun j => (dsz zs j : Int)) ++ List.replicate (20 - (i + 1)) 0 := by
  obtain ⟨k, hk⟩ : ∃ k, 20 - i = k + 1 := ⟨19 - i, by omega⟩
  rw [List.set_append_right _ _ (by simp), hk, show 20 - (i + 1) = k by omega, List.range_succ]
  simp [List.replicate_succ]
theorem bsum_ds (zs : List Int) (k : Nat) : ∀ n, bsum k ((List.range n).map (dsI zs)) = if k < n then dsz zs k else 0
  | 0 => by simp [bsum]
  | n + 1 => by
    rw [List.range_succ, List.map_append, bsum_append, bsum_ds zs k n, List.map_cons, List.map_nil, bsum_cons]
    have e1 : (dsI zs n).id = n := rfl
    have e2 : (dsI zs n).body.length = dsz zs n := by simp [dsI, Msg.item]
    have e0 : bsum (k : Int) [] = 0 := rfl
    rw [e1, e2, e0]
    by_cases h : k = n
    · subst h; simp
    · by_cases h2 : k < n
      · rw [if_pos h2, if_neg (show ¬ ((n : Int) = k) by omega), if_pos (show k < n + 1 by omega)]; omega
      · rw [if_neg h2, if_neg (show ¬ ((n : Int) = k) by omega), if_neg (show ¬ k < n + 1 by omega)]
theorem pcs_ds (zs : List Int) : ∀ n, pcs ((List.range n).map (dsI zs)) ≤ 9 * n
  | 0 => by simp [pcs]
  | n + 1 => by
    have h := dsz_le zs n
    have ih := pcs_ds zs n
    have e2 : (dsI zs n).body.length = dsz zs n := by simp [dsI, Msg.item]
    unfold pcs at ih ⊢
    rw [List.range_succ]
    simp only [List.map_append, List.sum_append, List.map_cons, List.map_nil, List.sum_cons, List.sum_nil, e2]
    omega
theorem sd_start {zs : List Int} {n : Nat} {q : SQ} (hn : n ≤ 20) (h1 : ∀ l ∈ q.lines, l.2 ≠ []) (h2 : (allI q).Perm ((List.range n).map (dsI zs))) (h3 : q.all = (tsum (allI q) : Int)) :
    DropI n 0 q ((List.range n).map (fun j => (dsz zs j : Int)) ++ List.replicate (20 - n) 0) (List.replicate 20 0) := by
  refine ⟨h1, hn, by simp; omega, by simp, by rw [h2.length_eq]; simp; omega, fun it hit => ?_, fun k hk => ?_, h3, ?_⟩
  · obtain ⟨j, hj, rfl⟩ := List.mem_map.1 (h2.mem_iff.1 hit)
    have hj := List.mem_range.1 hj
    have hz := dsz_le zs j
    have e2 : (dsI zs j).body.length = dsz zs j := by simp [dsI, Msg.item]
    have e1 : (dsI zs j).id = j := rfl
    rw [e1, e2]
    refine ⟨by omega, by omega, hz.1, hz.2, ?_⟩
    rw [Int.toNat_natCast, List.getD_eq_getElem?_getD]
    rw [List.getElem?_replicate]
    split <;> simp
  · rw [bsum_perm h2, bsum_ds, if_pos hk, List.getD_eq_getElem?_getD, List.getElem?_append_left (by simpa using hk), List.getElem?_map, List.getElem?_range hk]
    rfl
  · rw [pcs_perm h2]
    have := pcs_ds zs n
    omega
theorem wrap_u64' (x : Int) : IntKind.wrap .u64 x = x % 18446744073709551616 := by
  unfold IntKind.wrap
  simp [IntKind.signed, IntKind.bits]
theorem sd_idx {z : Int} {n : Nat} (hn : 0 < n) (h20 : n ≤ 20) : IntKind.wrap .u64 (n : Int) = n ∧ ∃ k : Nat, k < n ∧ IntKind.wrap .i64 ((IntKind.wrap .u64 z).tmod (n : Int)) = (k : Int) := by
  have e1 : IntKind.wrap .u64 (n : Int) = n := by rw [wrap_u64']; omega
  have e2 : 0 ≤ IntKind.wrap .u64 z := by rw [wrap_u64']; omega
  have h1 := Int.tmod_lt_of_pos (IntKind.wrap .u64 z) (show (0 : Int) < n by omega)
  have h2 := Int.tmod_nonneg (n : Int) e2
  refine ⟨e1, ((IntKind.wrap .u64 z).tmod (n : Int)).toNat, by omega, ?_⟩
  rw [IntKind.wrap_i64]
  omega
theorem sd_end {n i : Nat} {q : SQ} {xs ws : List Int} (h : DropI n i q xs ws) (hl : q.lines = []) : (∀ k < n, xs.getD k 0 = 0) ∧ q.all = 0 := by
  have : allI q = [] := by unfold allI; rw [hl]; rfl
  refine ⟨fun k hk => by rw [h.left k hk, this]; rfl, by rw [h.all, this]; rfl⟩
end Go.Proofs.Ythkcfocoekonjaa
