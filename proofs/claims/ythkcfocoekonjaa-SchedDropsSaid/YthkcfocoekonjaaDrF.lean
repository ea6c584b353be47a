/- Drop: the run. -/
import Derived.Test.YthkcfocoekonjaaDrE
set_option maxRecDepth 100000
set_option linter.unusedVariables false
set_option linter.unusedSimpArgs false
namespace Go.Proofs.Ythkcfocoekonjaa
open Go Go.Sx
attribute [local irreducible] Go.Sx.xrun

structure DrX where
  i : Nat
  k : Nat
  a : DA
  fi : Value → Option Value
  s : Bool
  st : Int
  ln : RSl
  L : Blks
structure DrM where
  fi : Value → Option Value
  L : Blks
def Ann.goneE : Ent → Ent
  | .own b k => .gone (b, k.base, k.wd)
  | e => e
def Ann.blkE : Ent → Blks
  | .own b (.cells _ [.val v] t) => [(b, .cells [v] t)]
  | .own b (.map ks f _) => [(b, .map ks f none)]
  | _ => []
def Ann.giveAll : List Ent → List (Nat × Ent)
  | e0 :: .chunk L :: e2 :: e3 :: e4 :: e5 :: _ => [(0, Ann.goneE e0), (1, .chunk (L ++ (Ann.blkE e0 ++ (Ann.blkE e2 ++ (Ann.blkE e3 ++ (Ann.blkE e4 ++ Ann.blkE e5)))))), (2, Ann.goneE e2), (3, Ann.goneE e3), (4, Ann.goneE e4), (5, Ann.goneE e5)]
  | _ => []
def Ann.giveMap : List Ent → List (Nat × Ent)
  | e0 :: .chunk L :: _ => [(0, Ann.goneE e0), (1, .chunk (L ++ Ann.blkE e0))]
  | _ => []
def Ann.takeMap (fi : Value → Option Value) (L' : Blks) : List Ent → List (Nat × Ent)
  | .gone (mi, _) :: .chunk _ :: _ => [(0, .own mi (.map (.one (.int .u16)) fi none)), (1, .chunk L')]
  | _ => []
def Ann.giveS : List Ent → List (Nat × Ent)
  | _ :: .chunk L :: _ :: _ :: _ :: _ :: e6 :: _ => [(1, .chunk (L ++ Ann.blkE e6)), (6, Ann.goneE e6)]
  | _ => []
noncomputable def Ann.vMap : Cast := .view [⟨Unit, fun _ h => Ann.giveMap h, fun _ => [], fun _ => []⟩]
noncomputable def Ann.ptrC : Cast := .to Nat fun b => .val (.pointer (some ⟨b, 0, none⟩))
noncomputable def Ann.slcC : Cast := .to RSl fun s => .val (.slice (some ⟨s.b, s.x, none⟩) s.n s.c)
noncomputable def Ann.mapC : Cast := .to Unit fun _ => .mp 0
noncomputable def Ann.dr (mi : Nat) (P4 : DA → Nat → Nat → Blks → Prop) (Q : DrX → RSl → Blks → Prop) : FnAnn :=
  ⟨[(13, Ann.ptrC), (19, Ann.ptrC), (26, Ann.ptrC), (35, Ann.ptrC), (50, Ann.ptrC), (59, Ann.ptrC), (67, Ann.ptrC), (72, Ann.ptrC), (73, Ann.ptrC), (84, Ann.ptrC), (89, Ann.ptrC), (93, Ann.ptrC),
    (22, Ann.slcC), (31, Ann.slcC), (64, Ann.slcC), (76, Ann.slcC), (43, Ann.ptrC), (29, Ann.mapC), (53, Ann.mapC), (62, Ann.mapC), (70, Ann.mapC),
    (1000003, .view [⟨Unit, fun _ h => Ann.giveAll h, fun _ => [], fun _ => []⟩]), (1000004, .view [⟨DrM, fun y h => Ann.takeMap y.fi y.L h, fun _ => [], fun _ => []⟩]), (1000008, .view [⟨Unit, fun _ h => Ann.giveS h, fun _ => [], fun _ => []⟩]), (1000012, Ann.vMap), (1000015, Ann.vMap), (1000016, Ann.vMap)],
   [(4, ⟨DrX, [(fun σ y => ⟨σ.n, [(8, .val (.int .i64 y.i)), (2, .ptr 2 0 0), (3, .ptr 3 0 0), (6, .ptr 4 0 0), (7, .ptr 5 0 0)], [.gone (mi, 0, 1), .chunk y.L, .gone (y.a.bq, 0, 1), .gone (y.a.bk, 0, 1), .gone (y.a.bn, 0, 1), .gone (y.a.bo, 0, 1)]⟩, fun x0 y => y.a = x0.a ∧ P4 y.a y.i y.k y.L)], fun y => y.k⟩),
    (1000008, ⟨DrX, [(fun σ y => ⟨σ.n, [(11, .val (.bool y.s)), (8, .val (.int .i64 y.i)), (10, .val (.slice (some ⟨y.ln.b, y.ln.x, none⟩) y.ln.n y.ln.c)), (9, .ptr 6 0 0), (2, .ptr 2 0 0), (3, .ptr 3 0 0), (6, .ptr 4 0 0), (7, .ptr 5 0 0)],
      .own mi (.map (.one (.int .u16)) y.fi none) :: .chunk y.L :: .gone (y.a.bq, 0, 1) :: .gone (y.a.bk, 0, 1) :: .gone (y.a.bn, 0, 1) :: .gone (y.a.bo, 0, 1) :: [.own y.a.bs (.cells 1 [.val (.int .u16 y.st)] 27)]⟩, fun x0 y => y = x0)], fun _ => 0⟩),
    (1000009, ⟨DrX, [(fun σ y => ⟨σ.n, [(11, .val (.bool y.s)), (8, .val (.int .i64 y.i)), (9, .ptr 6 0 0), (2, .ptr 2 0 0), (3, .ptr 3 0 0), (6, .ptr 4 0 0), (7, .ptr 5 0 0)],
      .own mi (.map (.one (.int .u16)) y.fi none) :: .chunk y.L :: .gone (y.a.bq, 0, 1) :: .gone (y.a.bk, 0, 1) :: .gone (y.a.bn, 0, 1) :: .gone (y.a.bo, 0, 1) :: [.gone (y.a.bs, 0, 1)]⟩, fun x0 y => y.i = x0.i ∧ y.k = x0.k ∧ y.s = x0.s ∧ y.a = x0.a ∧ y.st = x0.st ∧ y.fi = updM x0.fi (.int .u16 x0.st) (.slice (some ⟨y.ln.b, y.ln.x, none⟩) y.ln.n y.ln.c) ∧ Q x0 y.ln y.L)], fun _ => 0⟩)]⟩
noncomputable def drGoal (mi b : Nat) (id : Int) (fi : Value → Option Value) (L : Blks) (P4 : DA → Nat → Nat → Blks → Prop) (Q : DrX → RSl → Blks → Prop) (R : Value → Blks → Prop) : Prop :=
  xrun Go.Proofs.Try.prog [(51, turnT), (65, dfT), (67, dnT)] [(37, Ann.dr mi P4 Q)] [] 9 [] 37 [.val (.pointer (some ⟨b, 0, none⟩)), .val (.int .i64 id)] [.own mi (.map (.one (.int .u16)) fi none), .chunk L] fun s h => R (den (locs h) s) (owned (locs h) h)
/-! What a drop does. -/
structure DSt where
  q : SQ
  n : Int
  ds : List Dc
def lineAt (q : SQ) (i : Nat) : Int × List QItem := q.lines.getD i (0, [])
noncomputable def DSt.x (d : DSt) (id : Int) (i : Nat) : DS := dL ⟨id, d.n, (lineAt d.q i).1, d.q.inter, d.ds⟩ (lineAt d.q i).2
noncomputable def servedAt (q : SQ) (id : Int) (i : Nat) : Bool := q.held && pbool (i = 0 ∧ ∃ it r, (lineAt q i).2 = it :: r ∧ it.id = id)
/-- One line is gone through. -/
noncomputable def dropStep (id : Int) (d : DSt) (i : Nat) : DSt × Nat :=
  let kept := keepI id (lineAt d.q i).2
  let x := d.x id i
  if kept = [] then (⟨{ d.q with lines := d.q.lines.eraseIdx i, held := if servedAt d.q id i then false else d.q.held }, x.n, x.ds⟩, i)
  else if servedAt d.q id i then (⟨{ d.q with lines := d.q.lines.drop 1 ++ [((lineAt d.q i).1, kept)], held := false }, x.n, x.ds⟩, i)
  else (⟨{ d.q with lines := d.q.lines.set i ((lineAt d.q i).1, kept) }, x.n, x.ds⟩, i + 1)
noncomputable def dropGo (id : Int) : Nat → DSt → Nat → DSt
  | 0, d, _ => d
  | k + 1, d, i => if i < d.q.lines.length then dropGo id k (dropStep id d i).1 (dropStep id d i).2 else d
/-- What is left, how many bytes went, and what is told of them. -/
noncomputable def dropF (q : SQ) (id : Int) : DSt :=
  let d := dropGo id (q.lines.length + 1) ⟨q, 0, []⟩ 0
  { d with q := { d.q with all := IntKind.wrap .i64 (d.q.all - d.n) } }
def boxesOf (a : DA) (id n : Int) (ov : Value) : Blks := [(a.bq, .cells [.pointer (some ⟨a.b, 0, none⟩)] 24), (a.bk, .cells [.int .i64 id] 3), (a.bn, .cells [.int .i64 n] 3), (a.bo, .cells [ov] 93)]
def DrAt (d : DSt) (id : Int) (a : DA) (mi : Nat) (L : Blks) : Prop := ∃ (mn : Nat) (tv ov : Value) (fi fn : Value → Option Value) (Lt Li Lo : Blks),
  L.Perm ((a.b, .cells [.bool d.q.inter, .map (some mi), tv, .bool d.q.held, .map (some mn), .int .i64 d.q.all] 123) :: (mi, .map (.one (.int .u16)) fi none) :: (mn, .map (.many [.int .u16, .bool]) fn none) :: (boxesOf a id d.n ov ++ (Lt ++ (Li ++ Lo)))) ∧
  WinNil 27 .u16 (d.q.lines.map Prod.fst) tv Lt ∧ LinesAt d.q.lines fi Li ∧ NumsAt d.q.nums fn ∧ OutAt d.ds ov Lo
/-- The loop's invariant: what is still to do leads to the same end. -/
def DrInv (q : SQ) (id : Int) (b mi : Nat) (a : DA) (i k : Nat) (L : Blks) : Prop :=
  a.b = b ∧ ∃ d : DSt, DrAt d id a mi L ∧ dropGo id k d i = dropGo id (q.lines.length + 1) ⟨q, 0, []⟩ 0 ∧ i ≤ d.q.lines.length ∧ d.q.lines.length - i + (if d.q.held then 1 else 0) ≤ k ∧ (∀ l ∈ d.q.lines, l.2 ≠ []) ∧ (d.q.lines.length < 1000000) ∧
    d.ds.length + (d.q.lines.map fun l => l.2.length).sum < 1000000
theorem out_sl {ds : List Dc} {v : Value} {L : Blks} (h : OutAt ds v L) : ∃ s : Sl, v = .slice s.o s.l s.c := by
  rcases h with ⟨-, h⟩ | ⟨b, base, N, cap, c, G, h1, h2, h3, h4⟩
  · exact ⟨⟨none, 0, 0⟩, h⟩
  · exact ⟨⟨_, _, _⟩, h3⟩
theorem dF_s (x : DS) (it : QItem) : (dF x it).s = x.s ∧ (dF x it).inter = x.inter := by unfold dF; split <;> exact ⟨rfl, rfl⟩
theorem dL_s : ∀ (l : List QItem) (x : DS), (dL x l).s = x.s ∧ (dL x l).inter = x.inter
  | [], x => ⟨rfl, rfl⟩
  | it :: r, x => by
    have h1 := dL_s r (dF x it)
    have h2 := dF_s x it
    exact ⟨h1.1.trans h2.1, h1.2.trans h2.2⟩
theorem le_sum_mem : ∀ {l : List Nat} {x : Nat}, x ∈ l → x ≤ l.sum
  | [], x, h => by cases h
  | a :: r, x, h => by
    rw [List.sum_cons]
    rcases List.mem_cons.1 h with rfl | h
    · omega
    · have := le_sum_mem h; omega
theorem dr_p2 {L' La Lb Lo' Lt L2 : Blks} {mn ba bk bn bo sb b : Nat} {id n s : Int} {ov pv : Value} {kq : Blk} {fn : Value → Option Value} (h1 : L'.Perm (La ++ Lb))
    (h2 : La.Perm ((bn, .cells [.int .i64 n] 3) :: (bo, .cells [ov] 93) :: ([(bk, .cells [.int .i64 id] 3), (sb, .cells [.int .u16 s] 27), (ba, .cells [pv] 24), (b, kq)] ++ Lo'))) :
    (L' ++ ((mn, .map (.many [.int .u16, .bool]) fn none) :: (Lt ++ L2))).Perm ((b, kq) :: (mn, .map (.many [.int .u16, .bool]) fn none) :: (sb, .cells [.int .u16 s] 27) :: ([(ba, .cells [pv] 24), (bk, .cells [.int .i64 id] 3), (bn, .cells [.int .i64 n] 3), (bo, .cells [ov] 93)] ++ (Lt ++ (L2 ++ (Lb ++ Lo'))))) := by
  refine perm_of_sums fun f => ?_
  have e1 := perm_sum h1 f
  have e2 := perm_sum h2 f
  simp only [List.map_append, List.map_cons, List.map_nil, List.sum_append, List.sum_cons, List.sum_nil, List.append_assoc, List.cons_append, List.nil_append] at *
  omega
theorem keep_len : ∀ (l : List QItem) (x : DS), (dL x l).ds.length + (keepI x.k l).length ≤ x.ds.length + l.length
  | [], x => by simp [dL, keepI]
  | it :: r, x => by
    have h1 := keep_len r (dF x it)
    rw [dF_k] at h1
    have e : dL x (it :: r) = dL (dF x it) r := rfl
    rw [e]
    by_cases h : it.id = x.k
    · have h2 := dF_len x it
      have e2 : keepI x.k (it :: r) = keepI x.k r := by simp [keepI, h]
      rw [e2, List.length_cons]
      omega
    · have e2 : keepI x.k (it :: r) = it :: keepI x.k r := by simp [keepI, h]
      have e3 : dF x it = x := by rw [dF, if_neg h]
      rw [e2, List.length_cons, List.length_cons]
      rw [e3] at h1 ⊢
      omega
def sumL (l : List (Int × List QItem)) : Nat := (l.map fun l => l.2.length).sum
theorem lines_at {l : List (Int × List QItem)} {i : Nat} {s : Int} {its : List QItem} (h : l[i]? = some (s, its)) : l = l.take i ++ (s, its) :: l.drop (i + 1) := by
  obtain ⟨h1, h2⟩ := List.getElem?_eq_some_iff.1 h
  rw [← h2, List.getElem_cons_drop, List.take_append_drop]
theorem sumL_at {l : List (Int × List QItem)} {i : Nat} {s : Int} {its : List QItem} (h : l[i]? = some (s, its)) : sumL l = sumL (l.take i ++ l.drop (i + 1)) + its.length := by
  have := congrArg sumL (lines_at h)
  rw [this]
  simp only [sumL, List.map_append, List.map_cons, List.sum_append, List.sum_cons]
  omega
theorem drop_nums {id : Int} {d : DSt} {i : Nat} {s : Int} {its : List QItem} (h : d.q.lines[i]? = some (s, its)) (hs : d.ds.length + sumL d.q.lines < 1000000) (l' : List (Int × List QItem)) (hl : l'.Perm (d.q.lines.take i ++ (s, keepI id its) :: d.q.lines.drop (i + 1)) ∨ l'.Perm (d.q.lines.take i ++ d.q.lines.drop (i + 1))) :
    (d.x id i).ds.length + sumL l' < 1000000 := by
  have e1 := sumL_at h
  have hla : lineAt d.q i = (s, its) := by simp [lineAt, List.getD_eq_getElem?_getD, h]
  have e2 : d.x id i = dL ⟨id, d.n, s, d.q.inter, d.ds⟩ its := by unfold DSt.x; rw [hla]
  have e3 := keep_len its ⟨id, d.n, s, d.q.inter, d.ds⟩
  rw [e2]
  have e4 : sumL l' ≤ sumL (d.q.lines.take i ++ d.q.lines.drop (i + 1)) + (keepI id its).length := by
    rcases hl with hl | hl
    · have := (hl.map fun l => l.2.length).sum_nat
      simp only [sumL]
      rw [this]
      simp only [List.map_append, List.map_cons, List.sum_append, List.sum_cons]
      omega
    · have := (hl.map fun l => l.2.length).sum_nat
      simp only [sumL]
      rw [this]
      omega
  simp only at e3
  omega
theorem drInv_of {q : SQ} {id : Int} {b mi : Nat} {a : DA} {d d' : DSt} {i i' k k' : Nat} {L : Blks} (hb : a.b = b) (hi : i < d.q.lines.length) (hk : k = k' + 1) (hgo : dropGo id k d i = dropGo id (q.lines.length + 1) ⟨q, 0, []⟩ 0)
    (hst : dropStep id d i = (d', i')) (hAt : DrAt d' id a mi L) (h1 : i' ≤ d'.q.lines.length) (h2 : d'.q.lines.length - i' + (if d'.q.held then 1 else 0) ≤ k') (h3 : ∀ l ∈ d'.q.lines, l.2 ≠ []) (h4 : d'.q.lines.length < 1000000)
    (h5 : d'.ds.length + sumL d'.q.lines < 1000000) : DrInv q id b mi a i' k' L := by
  refine ⟨hb, d', hAt, ?_, h1, h2, h3, h4, h5⟩
  rw [← hgo, hk, dropGo, if_pos hi, hst]
theorem wrapD {i n : Nat} (h : i < n) (hn : n < 1000000) : IntKind.wrap .i64 ((i : Int) + (1 : Int)) = ((i + 1 : Nat) : Int) := by rw [IntKind.wrap_i64]; omega
theorem dr_p5 {a b : Nat × Blk} {X : Blks} : (a :: b :: X).Perm (b :: (X ++ [a])) := by
  refine perm_of_sums fun f => ?_
  simp only [List.map_append, List.map_cons, List.map_nil, List.sum_append, List.sum_cons, List.sum_nil, List.append_assoc, List.cons_append, List.nil_append] at *
  omega
theorem dr_p6 {L' L2 Lb Lo : Blks} {b mn sb mi : Nat} {k1 k2 k3 k4 : Blk} {B : Blks} : ((b, k1) :: (((mn, k2) :: (sb, k3) :: (B ++ (L2 ++ (Lb ++ Lo))) ++ L') ++ [(mi, k4)])).Perm ((b, k1) :: (mi, k4) :: (mn, k2) :: (B ++ (L' ++ ((L2 ++ ((sb, k3) :: Lb)) ++ Lo)))) := by
  refine perm_of_sums fun f => ?_
  simp only [List.map_append, List.map_cons, List.map_nil, List.sum_append, List.sum_cons, List.sum_nil, List.append_assoc, List.cons_append, List.nil_append] at *
  omega
theorem dr_p7 {a : Nat × Blk} {X : Blks} : (a :: X).Perm (X ++ [a]) := by
  refine perm_of_sums fun f => ?_
  simp only [List.map_append, List.map_cons, List.map_nil, List.sum_append, List.sum_cons, List.sum_nil, List.append_assoc, List.cons_append, List.nil_append] at *
  omega
theorem dr_p8 {L Lt L2 Lb Lo : Blks} {p1 p2 p3 p4 : Nat × Blk} {B : Blks} (h : L.Perm (p1 :: p2 :: p3 :: (B ++ (Lt ++ (L2 ++ (Lb ++ Lo)))))) : (L ++ [p4]).Perm ((p1 :: p4 :: p2 :: (Lt ++ (L2 ++ Lb))) ++ (p3 :: (B ++ Lo))) := by
  refine perm_of_sums fun f => ?_
  have e1 := perm_sum h f
  simp only [List.map_append, List.map_cons, List.map_nil, List.sum_append, List.sum_cons, List.sum_nil, List.append_assoc, List.cons_append, List.nil_append] at *
  omega
theorem dr_p9 {L' Lt Li Lo : Blks} {p1 p2 p3 p4 : Nat × Blk} {B : Blks} (h : L'.Perm (p1 :: p2 :: p3 :: (Lt ++ Li))) : (L' ++ (p4 :: (B ++ Lo))).Perm (p1 :: p2 :: p3 :: (B ++ (Lt ++ ((Li ++ [p4]) ++ Lo)))) := by
  refine perm_of_sums fun f => ?_
  have e1 := perm_sum h f
  simp only [List.map_append, List.map_cons, List.map_nil, List.sum_append, List.sum_cons, List.sum_nil, List.append_assoc, List.cons_append, List.nil_append] at *
  omega
theorem dr_p10 {L Lt L2 Lb Lo : Blks} {p1 p2 p3 p4 : Nat × Blk} {B : Blks} (h : L.Perm (p1 :: p2 :: p3 :: (B ++ (Lt ++ (L2 ++ (Lb ++ Lo)))))) : (L ++ [p4]).Perm (p1 :: p4 :: p2 :: (B ++ (Lt ++ (((L2 ++ Lb) ++ [p3]) ++ Lo)))) := by
  refine perm_of_sums fun f => ?_
  have e1 := perm_sum h f
  simp only [List.map_append, List.map_cons, List.map_nil, List.sum_append, List.sum_cons, List.sum_nil, List.append_assoc, List.cons_append, List.nil_append] at *
  omega
theorem dr_p3 {L Lt R : Blks} {p1 p2 p3 : Nat × Blk} {X : Blks} (h : L.Perm (p1 :: p2 :: p3 :: (X ++ (Lt ++ R)))) : L.Perm (Lt ++ (p1 :: p2 :: p3 :: (X ++ R))) := by
  refine perm_of_sums fun f => ?_
  have e1 := perm_sum h f
  simp only [List.map_append, List.map_cons, List.map_nil, List.sum_append, List.sum_cons, List.sum_nil, List.append_assoc, List.cons_append, List.nil_append] at *
  omega
theorem dr_p4 {L : Blks} {p : Nat × Blk} {X : Blks} : (L ++ (p :: X)).Perm (p :: (X ++ L)) := by
  refine perm_of_sums fun f => ?_
  simp only [List.map_append, List.map_cons, List.map_nil, List.sum_append, List.sum_cons, List.sum_nil, List.append_assoc, List.cons_append, List.nil_append] at *
  omega
theorem dr_p1 {b mn ba bk bn bo sb : Nat} {id n s : Int} {ov : Value} {kq : Blk} {fn : Value → Option Value} {Lt Li Lo L1 L2 : Blks} {pv : Value} (h : Li.Perm (L1 ++ L2)) :
    (((b, kq) :: (mn, .map (.many [.int .u16, .bool]) fn none) :: ([(ba, .cells [pv] 24), (bk, .cells [.int .i64 id] 3), (bn, .cells [.int .i64 n] 3), (bo, .cells [ov] 93)] ++ (Lt ++ (Li ++ Lo)))) ++ [(sb, Blk.cells [.int .u16 s] 27)] : Blks).Perm
    ((((bn, .cells [.int .i64 n] 3) :: (bo, .cells [ov] 93) :: ([(bk, .cells [.int .i64 id] 3), (sb, .cells [.int .u16 s] 27), (ba, .cells [pv] 24), (b, kq)] ++ Lo)) ++ L1) ++ ((mn, .map (.many [.int .u16, .bool]) fn none) :: (Lt ++ L2))) := by
  refine perm_of_sums fun f => ?_
  have e1 := perm_sum h f
  simp only [List.map_append, List.map_cons, List.map_nil, List.sum_append, List.sum_cons, List.sum_nil, List.append_assoc, List.cons_append, List.nil_append] at *
  omega
/-- Behind the closure's call. -/
def DrMid (q : SQ) (id : Int) (b mi : Nat) (x0 : DrX) (ln : RSl) (L : Blks) : Prop :=
  x0.a.b = b ∧ ∃ (d : DSt) (its : List QItem),
    (d.q.lines[x0.i]? = some (x0.st, its) ∧ x0.s = servedAt d.q id x0.i ∧ ln.n = (keepI id its).length) ∧
    (dropGo id x0.k d x0.i = dropGo id (q.lines.length + 1) ⟨q, 0, []⟩ 0 ∧ d.q.lines.length - x0.i + (if d.q.held then 1 else 0) ≤ x0.k ∧ (∀ l ∈ d.q.lines, l.2 ≠ []) ∧ d.q.lines.length < 1000000 ∧ d.ds.length + (d.q.lines.map fun l => l.2.length).sum < 1000000) ∧
    ∃ (mn : Nat) (tv ov : Value) (fn : Value → Option Value) (Lt L2 Lb Lo : Blks),
      L.Perm ((b, .cells [.bool d.q.inter, .map (some mi), tv, .bool d.q.held, .map (some mn), .int .i64 d.q.all] 123) :: (mn, .map (.many [.int .u16, .bool]) fn none) :: (x0.a.bs, .cells [.int .u16 x0.st] 27) :: (boxesOf x0.a id (d.x id x0.i).n ov ++ (Lt ++ (L2 ++ (Lb ++ Lo))))) ∧
      WinNil 27 .u16 (d.q.lines.map Prod.fst) tv Lt ∧ LinesAt (d.q.lines.take x0.i ++ d.q.lines.drop (x0.i + 1)) (delM x0.fi (kS x0.st)) L2 ∧ x0.st ∉ (d.q.lines.take x0.i ++ d.q.lines.drop (x0.i + 1)).map Prod.fst ∧
      LineAt (keepI id its) (.slice (some ⟨ln.b, ln.x, none⟩) ln.n ln.c) Lb ∧ NumsAt d.q.nums fn ∧ OutAt (d.x id x0.i).ds ov Lo
theorem dr_goal (mi b : Nat) (id : Int) (q : SQ) (fi : Value → Option Value) (L : Blks) (P4 : DA → Nat → Nat → Blks → Prop) (Q : DrX → RSl → Blks → Prop) (R : Value → Blks → Prop) (e4 : P4 = DrInv q id b mi) (eQ : Q = DrMid q id b mi)
    (h0 : ∃ (mn : Nat) (tv : Value) (fn : Value → Option Value) (Lt Li : Blks), L.Perm ((b, .cells [.bool q.inter, .map (some mi), tv, .bool q.held, .map (some mn), .int .i64 q.all] 123) :: (mn, .map (.many [.int .u16, .bool]) fn none) :: (Lt ++ Li)) ∧
      WinNil 27 .u16 (q.lines.map Prod.fst) tv Lt ∧ LinesAt q.lines fi Li ∧ NumsAt q.nums fn)
    (hne : ∀ l ∈ q.lines, l.2 ≠ []) (hl : q.lines.length < 1000000) (hs : (q.lines.map fun l => l.2.length).sum < 1000000)
    (hR : ∀ (d : DSt) (o : Option Addr) (l c : Nat) (L' : Blks), d = dropF q id → (∃ Lq Lo, L'.Perm (Lq ++ Lo) ∧ SQAt d.q b Lq ∧ OutAt d.ds (.slice o l c) Lo) → R (.tuple #[.int .i64 d.n, .slice o l c]) L') : drGoal mi b id fi L P4 Q R :=
  Eq.mpr (by kernel_rfl) (show
  ∀ (b_1 b_2 b_3 : Nat), Value.oneCell' (Value.int IntKind.i64 (0 : Int)) = Bool.true ∧ ∀ (b_4 : Nat), ∃ (x : Unit), (mi, (0 : Nat), (1 : Nat)) = (mi, (0 : Nat), (1 : Nat)) ∧ ((0 : Nat), (0 : Nat), (0 : Nat)) = ((0 : Nat), (0 : Nat), (0 : Nat)) ∧ (b_1, (0 : Nat), (1 : Nat)) = (b_1, (0 : Nat), (1 : Nat)) ∧ (b_2, (0 : Nat), (1 : Nat)) = (b_2, (0 : Nat), (1 : Nat)) ∧ (b_3, (0 : Nat), (1 : Nat)) = (b_3, (0 : Nat), (1 : Nat)) ∧ (b_4, (0 : Nat), (1 : Nat)) = (b_4, (0 : Nat), (1 : Nat)) ∧ (∃ (G : List (Nat × Blk)), ∀ (r : List (Nat × Nat × Nat)), List.Perm
  ((mi, Blk.map (KShape.one (KS.int IntKind.u16)) fi Option.none) :: (L ++ [(b_1, Blk.cells [Value.pointer (Option.some { block := b, off := (0 : Nat) })] (24 : Nat)), (b_2, Blk.cells [Value.int IntKind.i64 id] (3 : Nat)), (b_3, Blk.cells [Value.int IntKind.i64 (0 : Int)] (3 : Nat)), (b_4, Blk.cells [Value.slice Option.none (0 : Nat) (0 : Nat)] (93 : Nat))])) (L ++ [(mi, Blk.map (KShape.one (KS.int IntKind.u16)) fi Option.none), (b_1, Blk.cells [Value.pointer (Option.some { block := b, off := (0 : Nat) })] (24 : Nat)),
  (b_2, Blk.cells [Value.int IntKind.i64 id] (3 : Nat)), (b_3, Blk.cells [Value.int IntKind.i64 (0 : Int)] (3 : Nat)), (b_4, Blk.cells [Value.slice Option.none (0 : Nat) (0 : Nat)] (93 : Nat))] ++ [] ++ [] ++ G)) ∧ ∃ (x0 : DrX), ((((0 : Int) = (↑x0.1 : Int) ∧ ((0 : Nat) = (0 : Nat) ∧ (0 : Nat) = (0 : Nat)) ∧ ((0 : Nat) = (0 : Nat) ∧ (0 : Nat) = (0 : Nat)) ∧ ((0 : Nat) = (0 : Nat) ∧ (0 : Nat) = (0 : Nat)) ∧ ((0 : Nat) = (0 : Nat) ∧ (0 : Nat) = (0 : Nat)) ∧ True) ∧ (mi, (0 : Nat), (1 : Nat)) = (mi, (0 : Nat), (1 : Nat)) ∧ L ++ [(mi, Blk.map (KShape.one (KS.int IntKind.u16)) fi Option.none),
  (b_1, Blk.cells [Value.pointer (Option.some { block := b, off := (0 : Nat) })] (24 : Nat)), (b_2, Blk.cells [Value.int IntKind.i64 id] (3 : Nat)), (b_3, Blk.cells [Value.int IntKind.i64 (0 : Int)] (3 : Nat)), (b_4, Blk.cells [Value.slice Option.none (0 : Nat) (0 : Nat)] (93 : Nat))] = x0.8 ∧ (b_1, (0 : Nat), (1 : Nat)) = (x0.3.4, (0 : Nat), (1 : Nat)) ∧ (b_2, (0 : Nat), (1 : Nat)) = (x0.3.1, (0 : Nat), (1 : Nat)) ∧ (b_3, (0 : Nat), (1 : Nat)) = (x0.3.2, (0 : Nat), (1 : Nat)) ∧ (b_4, (0 : Nat), (1 : Nat)) = (x0.3.5, (0 : Nat), (1 : Nat)) ∧ True) ∧ x0.3 = x0.3 ∧ P4 x0.3 x0.1 x0.2 x0.8) ∧
  ∀ (x : DrX), x.3 = x0.3 ∧ P4 x.3 x.1 x.2 x.8 → ∃ (x_1 : DrM), (mi, (0 : Nat), (1 : Nat)) = (mi, (0 : Nat), (1 : Nat)) ∧ ((0 : Nat), (0 : Nat), (0 : Nat)) = ((0 : Nat), (0 : Nat), (0 : Nat)) ∧ (∃ (G : List (Nat × Blk)), ∀ (r : List (Nat × Nat × Nat)), List.Perm (x.8 ++ []) ((mi, Blk.map (KShape.one (KS.int IntKind.u16)) x_1.1 Option.none) :: (x_1.2 ++ [] ++ [] ++ G))) ∧ ∃ (a : Option Go.Addr), rawCell x_1.2 x.3.4 ((0 : Nat) * (1 : Nat)) (Value.pointer a) ∧ ∃ (x_2 : Nat), (∀ (r : List (Nat × Nat × Nat)), Value.pointer (Option.some { block := x_2, off := (0 : Nat) }) = Value.pointer a) ∧
  ∃ (o : Option Go.Addr), ∃ (l : Nat), ∃ (c : Nat), rawCell x_1.2 x_2 (2 : Nat) (Value.slice o l c) ∧ ((↑x.1 : Int) < (↑l : Int) → ∃ (a : Option Go.Addr), rawCell x_1.2 x.3.4 ((0 : Nat) * (1 : Nat)) (Value.pointer a) ∧ ∃ (x_3 : Nat), (∀ (r : List (Nat × Nat × Nat)), Value.pointer (Option.some { block := x_3, off := (0 : Nat) }) = Value.pointer a) ∧ ∃ (o : Option Go.Addr), ∃ (l : Nat), ∃ (c : Nat), rawCell x_1.2 x_3 (2 : Nat) (Value.slice o l c) ∧ ∃ (x_4 : RSl), (∀ (r : List (Nat × Nat × Nat)), Value.slice (Option.some { block := x_4.1, off := x_4.2 }) x_4.3 x_4.4 = Value.slice o l c) ∧
  ((0 : Int) ≤ (↑x.1 : Int) ∧ (↑x.1 : Int) < (↑x_4.3 : Int)) ∧ ∃ (n : Int), rawCell x_1.2 x_4.1 (x_4.2 + x.1 * (1 : Nat)) (Value.int IntKind.u16 n) ∧ ∀ (b : Nat), Value.oneCell' (Value.int IntKind.u16 n) = Bool.true ∧ ∃ (a : Option Go.Addr), rawCell x_1.2 x.3.4 ((0 : Nat) * (1 : Nat)) (Value.pointer a) ∧ ∃ (x_5 : Nat), (∀ (r : List (Nat × Nat × Nat)), Value.pointer (Option.some { block := x_5, off := (0 : Nat) }) = Value.pointer a) ∧ ∃ (a : Option Nat), rawCell x_1.2 x_5 (1 : Nat) (Value.map a) ∧ ∃ (x_6 : Unit), (∀ (r : List (Nat × Nat × Nat)), Value.map (Option.some mi) = Value.map a) ∧
  ∃ (x_7 : RSl), (∀ (r : List (Nat × Nat × Nat)), Value.slice (Option.some { block := x_7.1, off := x_7.2 }) x_7.3 x_7.4 = Option.getD (x_1.1 (Value.int IntKind.u16 n)) (Value.slice Option.none (0 : Nat) (0 : Nat))) ∧ ∃ (x0_1 : DrX), (((↑x.1 : Int) = (0 : Int) → ∃ (a : Option Go.Addr), rawCell x_1.2 x.3.4 ((0 : Nat) * (1 : Nat)) (Value.pointer a) ∧ ∃ (x_8 : Nat), (∀ (r : List (Nat × Nat × Nat)), Value.pointer (Option.some { block := x_8, off := (0 : Nat) }) = Value.pointer a) ∧ ∃ (x_9 : Bool), rawCell x_1.2 x_8 (3 : Nat) (Value.bool x_9) ∧ (x_9 = Bool.true →
  ((0 : Int) ≤ (0 : Int) ∧ (0 : Int) < (↑x_7.3 : Int)) ∧ ∃ (a : Option Go.Addr), rawCell x_1.2 x_7.1 x_7.2 (Value.pointer a) ∧ ∃ (x_10 : Nat), (∀ (r : List (Nat × Nat × Nat)), Value.pointer (Option.some { block := x_10, off := (0 : Nat) }) = Value.pointer a) ∧ ∃ (n_1 : Int), rawCell x_1.2 x_10 (0 : Nat) (Value.int IntKind.i64 n_1) ∧ ∃ (n_2 : Int), rawCell x_1.2 x.3.1 ((0 : Nat) * (1 : Nat)) (Value.int IntKind.i64 n_2) ∧ ∃ (y : DrX), ((Value.bool (pbool (n_1 = n_2)) = Value.bool y.5 ∧ (↑x.1 : Int) = (↑y.1 : Int) ∧ Value.slice (Option.some { block := x_7.1, off := x_7.2 }) x_7.3 x_7.4 =
  Value.slice (Option.some { block := y.7.1, off := y.7.2 }) y.7.3 y.7.4 ∧ ((0 : Nat) = (0 : Nat) ∧ (0 : Nat) = (0 : Nat)) ∧ ((0 : Nat) = (0 : Nat) ∧ (0 : Nat) = (0 : Nat)) ∧ ((0 : Nat) = (0 : Nat) ∧ (0 : Nat) = (0 : Nat)) ∧ ((0 : Nat) = (0 : Nat) ∧ (0 : Nat) = (0 : Nat)) ∧ ((0 : Nat) = (0 : Nat) ∧ (0 : Nat) = (0 : Nat)) ∧ True) ∧ (mi = mi ∧ KShape.one (KS.int IntKind.u16) = KShape.one (KS.int IntKind.u16) ∧ x_1.1 = y.4 ∧ (Option.none : Option (Go.Value × Int)) = Option.none) ∧ x_1.2 = y.8 ∧ (x.3.4, (0 : Nat), (1 : Nat)) = (y.3.4, (0 : Nat), (1 : Nat)) ∧ (x.3.1, (0 : Nat), (1 : Nat)) = (y.3.1, (0 : Nat), (1 : Nat)) ∧
  (x.3.2, (0 : Nat), (1 : Nat)) = (y.3.2, (0 : Nat), (1 : Nat)) ∧ (x.3.5, (0 : Nat), (1 : Nat)) = (y.3.5, (0 : Nat), (1 : Nat)) ∧ (b = y.3.3 ∧ n = y.6 ∧ True) ∧ True) ∧ y = x0_1) ∧ (¬x_9 = Bool.true → ∃ (y : DrX), ((Value.bool Bool.false = Value.bool y.5 ∧ (↑x.1 : Int) = (↑y.1 : Int) ∧ Value.slice (Option.some { block := x_7.1, off := x_7.2 }) x_7.3 x_7.4 = Value.slice (Option.some { block := y.7.1, off := y.7.2 }) y.7.3 y.7.4 ∧ ((0 : Nat) = (0 : Nat) ∧ (0 : Nat) = (0 : Nat)) ∧ ((0 : Nat) = (0 : Nat) ∧ (0 : Nat) = (0 : Nat)) ∧ ((0 : Nat) = (0 : Nat) ∧ (0 : Nat) = (0 : Nat)) ∧
  ((0 : Nat) = (0 : Nat) ∧ (0 : Nat) = (0 : Nat)) ∧ ((0 : Nat) = (0 : Nat) ∧ (0 : Nat) = (0 : Nat)) ∧ True) ∧ (mi = mi ∧ KShape.one (KS.int IntKind.u16) = KShape.one (KS.int IntKind.u16) ∧ x_1.1 = y.4 ∧ (Option.none : Option (Go.Value × Int)) = Option.none) ∧ x_1.2 = y.8 ∧ (x.3.4, (0 : Nat), (1 : Nat)) = (y.3.4, (0 : Nat), (1 : Nat)) ∧ (x.3.1, (0 : Nat), (1 : Nat)) = (y.3.1, (0 : Nat), (1 : Nat)) ∧ (x.3.2, (0 : Nat), (1 : Nat)) = (y.3.2, (0 : Nat), (1 : Nat)) ∧ (x.3.5, (0 : Nat), (1 : Nat)) = (y.3.5, (0 : Nat), (1 : Nat)) ∧ (b = y.3.3 ∧ n = y.6 ∧ True) ∧ True) ∧ y = x0_1)) ∧ (¬(↑x.1 : Int) = (0 : Int) → ∃ (y : DrX),
  ((Value.bool Bool.false = Value.bool y.5 ∧ (↑x.1 : Int) = (↑y.1 : Int) ∧ Value.slice (Option.some { block := x_7.1, off := x_7.2 }) x_7.3 x_7.4 = Value.slice (Option.some { block := y.7.1, off := y.7.2 }) y.7.3 y.7.4 ∧ ((0 : Nat) = (0 : Nat) ∧ (0 : Nat) = (0 : Nat)) ∧ ((0 : Nat) = (0 : Nat) ∧ (0 : Nat) = (0 : Nat)) ∧ ((0 : Nat) = (0 : Nat) ∧ (0 : Nat) = (0 : Nat)) ∧ ((0 : Nat) = (0 : Nat) ∧ (0 : Nat) = (0 : Nat)) ∧ ((0 : Nat) = (0 : Nat) ∧ (0 : Nat) = (0 : Nat)) ∧ True) ∧ (mi = mi ∧ KShape.one (KS.int IntKind.u16) = KShape.one (KS.int IntKind.u16) ∧ x_1.1 = y.4 ∧ (Option.none : Option (Go.Value × Int)) = Option.none) ∧
  x_1.2 = y.8 ∧ (x.3.4, (0 : Nat), (1 : Nat)) = (y.3.4, (0 : Nat), (1 : Nat)) ∧ (x.3.1, (0 : Nat), (1 : Nat)) = (y.3.1, (0 : Nat), (1 : Nat)) ∧ (x.3.2, (0 : Nat), (1 : Nat)) = (y.3.2, (0 : Nat), (1 : Nat)) ∧ (x.3.5, (0 : Nat), (1 : Nat)) = (y.3.5, (0 : Nat), (1 : Nat)) ∧ (b = y.3.3 ∧ n = y.6 ∧ True) ∧ True) ∧ y = x0_1)) ∧ ∀ (x_8 : DrX), x_8 = x0_1 → ∃ (x0_2 : DrX), (∃ (x : Unit), ((0 : Nat), (0 : Nat), (0 : Nat)) = ((0 : Nat), (0 : Nat), (0 : Nat)) ∧ (x_8.3.3, (0 : Nat), (1 : Nat)) = (x_8.3.3, (0 : Nat), (1 : Nat)) ∧ (∃ (G : List (Nat × Blk)), ∀ (r : List (Nat × Nat × Nat)), List.Perm
  (x_8.8 ++ [(x_8.3.3, Blk.cells [Value.int IntKind.u16 x_8.6] (27 : Go.TypeId))]) (x_8.8 ++ [(x_8.3.3, Blk.cells [Value.int IntKind.u16 x_8.6] (27 : Go.TypeId))] ++ [] ++ [] ++ G)) ∧ ∃ (a : Option Go.Addr), rawCell (x_8.8 ++ [(x_8.3.3, Blk.cells [Value.int IntKind.u16 x_8.6] (27 : Go.TypeId))]) x_8.3.4 ((0 : Nat) * (1 : Nat)) (Value.pointer a) ∧ ∃ (x : Nat), (∀ (r : List (Nat × Nat × Nat)), Value.pointer (Option.some { block := x, off := (0 : Nat) }) = Value.pointer a) ∧ ∃ (a_1 : Option Nat), rawCell (x_8.8 ++ [(x_8.3.3, Blk.cells [Value.int IntKind.u16 x_8.6] (27 : Go.TypeId))])
  x (1 : Nat) (Value.map a_1) ∧ ∃ (x_9 : Unit), (∀ (r : List (Nat × Nat × Nat)), Value.map (Option.some mi) = Value.map a_1) ∧ ∃ (n : Int), rawCell (x_8.8 ++ [(x_8.3.3, Blk.cells [Value.int IntKind.u16 x_8.6] (27 : Go.TypeId))]) x_8.3.3 ((0 : Nat) * (1 : Nat)) (Value.int IntKind.u16 n) ∧ ∃ (x_10 : DfY), ∃ (L : List (Nat × Blk)), ∃ (G : List (Nat × Blk)), List.Perm (x_8.8 ++ [(x_8.3.3, Blk.cells [Value.int IntKind.u16 x_8.6] (27 : Go.TypeId))]) (L ++ G) ∧ DfPre x_10 [Value.slice (Option.some { block := x_8.7.1, off := x_8.7.2 }) x_8.7.3 x_8.7.4, Value.func (Go.Fn.func (66 : Nat)) #[]
  #[Value.pointer (Option.some { block := x_8.3.1, off := (0 : Nat) * (1 : Nat) }), Value.pointer (Option.some { block := x_8.3.2, off := (0 : Nat) * (1 : Nat) }), Value.pointer (Option.some { block := x_8.3.3, off := (0 : Nat) * (1 : Nat) }), Value.pointer (Option.some { block := x_8.3.4, off := (0 : Nat) * (1 : Nat) }), Value.pointer (Option.some { block := x_8.3.5, off := (0 : Nat) * (1 : Nat) })]] L ∧ ∀ (a_2 : RSl) (L' : List (Nat × Blk)), DfPost x_10 a_2 L' → (∃ (n_1 : Int), rawCell (L' ++ G) x_8.3.3 ((0 : Nat) * (1 : Nat)) (Value.int IntKind.u16 n_1) ∧ SV.val (Value.int IntKind.u16
  n_1) = SV.val (Value.int IntKind.u16 n)) ∧ (∃ (a : Option Nat), rawCell (L' ++ G) x (1 : Nat) (Value.map a) ∧ SV.val (Value.map a) = SV.val (Value.map a_1)) ∧ (∃ (a_4 : Option Go.Addr), rawCell (L' ++ G) x_8.3.4 ((0 : Nat) * (1 : Nat)) (Value.pointer a_4) ∧ SV.val (Value.pointer a_4) = SV.val (Value.pointer a)) ∧ ∃ (y : DrX), ((Value.bool x_8.5 = Value.bool y.5 ∧ (↑x_8.1 : Int) = (↑y.1 : Int) ∧ ((0 : Nat) = (0 : Nat) ∧ (0 : Nat) = (0 : Nat)) ∧ ((0 : Nat) = (0 : Nat) ∧ (0 : Nat) = (0 : Nat)) ∧ ((0 : Nat) = (0 : Nat) ∧ (0 : Nat) = (0 : Nat)) ∧ ((0 : Nat) = (0 : Nat) ∧ (0 : Nat) = (0 : Nat)) ∧
  ((0 : Nat) = (0 : Nat) ∧ (0 : Nat) = (0 : Nat)) ∧ True) ∧ (mi = mi ∧ KShape.one (KS.int IntKind.u16) = KShape.one (KS.int IntKind.u16) ∧ updM x_8.4 (Value.int IntKind.u16 n) (Value.slice (Option.some { block := a_2.1, off := a_2.2 }) a_2.3 a_2.4) = y.4 ∧ (Option.none : Option (Go.Value × Int)) = Option.none) ∧ L' ++ G = y.8 ∧ (x_8.3.4, (0 : Nat), (1 : Nat)) = (y.3.4, (0 : Nat), (1 : Nat)) ∧ (x_8.3.1, (0 : Nat), (1 : Nat)) = (y.3.1, (0 : Nat), (1 : Nat)) ∧ (x_8.3.2, (0 : Nat), (1 : Nat)) = (y.3.2, (0 : Nat), (1 : Nat)) ∧ (x_8.3.5, (0 : Nat), (1 : Nat)) = (y.3.5, (0 : Nat), (1 : Nat)) ∧ (x_8.3.3, (0 : Nat), (1 : Nat)) =
  (y.3.3, (0 : Nat), (1 : Nat)) ∧ True) ∧ y.1 = x0_2.1 ∧ y.2 = x0_2.2 ∧ y.5 = x0_2.5 ∧ y.3 = x0_2.3 ∧ y.6 = x0_2.6 ∧ y.4 = updM x0_2.4 (Value.int IntKind.u16 x0_2.6) (Value.slice (Option.some { block := y.7.1, off := y.7.2 }) y.7.3 y.7.4) ∧ Q x0_2 y.7 y.8) ∧ ∀ (x_9 : DrX), x_9.1 = x0_2.1 ∧ x_9.2 = x0_2.2 ∧ x_9.5 = x0_2.5 ∧ x_9.3 = x0_2.3 ∧ x_9.6 = x0_2.6 ∧ x_9.4 = updM x0_2.4 (Value.int IntKind.u16 x0_2.6) (Value.slice (Option.some { block := x_9.7.1, off := x_9.7.2 }) x_9.7.3 x_9.7.4) ∧ Q x0_2 x_9.7 x_9.8 → ∃ (a : Option Go.Addr),
  rawCell x_9.8 x_9.3.4 ((0 : Nat) * (1 : Nat)) (Value.pointer a) ∧ ∃ (x_10 : Nat), (∀ (r : List (Nat × Nat × Nat)), Value.pointer (Option.some { block := x_10, off := (0 : Nat) }) = Value.pointer a) ∧ ∃ (a : Option Nat), rawCell x_9.8 x_10 (1 : Nat) (Value.map a) ∧ ∃ (x_11 : Unit), (∀ (r : List (Nat × Nat × Nat)), Value.map (Option.some mi) = Value.map a) ∧ ∃ (n : Int), rawCell x_9.8 x_9.3.3 ((0 : Nat) * (1 : Nat)) (Value.int IntKind.u16 n) ∧ ∃ (x_12 : RSl), (∀ (r : List (Nat × Nat × Nat)), Value.slice (Option.some { block := x_12.1, off := x_12.2 }) x_12.3 x_12.4 = Option.getD
  (x_9.4 (Value.int IntKind.u16 n)) (Value.slice Option.none (0 : Nat) (0 : Nat))) ∧ ((↑x_12.3 : Int) = (0 : Int) → ∃ (a : Option Go.Addr), rawCell x_9.8 x_9.3.4 ((0 : Nat) * (1 : Nat)) (Value.pointer a) ∧ ∃ (x_13 : Nat), (∀ (r : List (Nat × Nat × Nat)), Value.pointer (Option.some { block := x_13, off := (0 : Nat) }) = Value.pointer a) ∧ ∃ (a : Option Nat), rawCell x_9.8 x_13 (1 : Nat) (Value.map a) ∧ ∃ (x_14 : Unit), (∀ (r : List (Nat × Nat × Nat)), Value.map (Option.some mi) = Value.map a) ∧ ∃ (n : Int), rawCell x_9.8 x_9.3.3 ((0 : Nat) * (1 : Nat)) (Value.int IntKind.u16 n) ∧
  ∃ (a : Option Go.Addr), rawCell x_9.8 x_9.3.4 ((0 : Nat) * (1 : Nat)) (Value.pointer a) ∧ ∃ (x_15 : Nat), (∀ (r : List (Nat × Nat × Nat)), Value.pointer (Option.some { block := x_15, off := (0 : Nat) }) = Value.pointer a) ∧ ∃ (a_1 : Option Go.Addr), rawCell x_9.8 x_9.3.4 ((0 : Nat) * (1 : Nat)) (Value.pointer a_1) ∧ ∃ (x_16 : Nat), (∀ (r : List (Nat × Nat × Nat)), Value.pointer (Option.some { block := x_16, off := (0 : Nat) }) = Value.pointer a_1) ∧ ∃ (o : Option Go.Addr), ∃ (l : Nat), ∃ (c : Nat), rawCell x_9.8 x_16 (2 : Nat) (Value.slice o l c) ∧ ∃ (x_17 : RSl), (∀ (r : List (Nat × Nat ×
  Nat)), Value.slice (Option.some { block := x_17.1, off := x_17.2 }) x_17.3 x_17.4 = Value.slice o l c) ∧ ∃ (x_18 : DnX), ∃ (L : List (Nat × Blk)), ∃ (G : List (Nat × Blk)), List.Perm x_9.8 (L ++ G) ∧ DnPre x_18 [Value.slice (Option.some { block := x_17.1, off := x_17.2 }) x_17.3 x_17.4, Value.int IntKind.i64 (↑x_9.1 : Int), Value.int IntKind.i64 (IntKind.wrap IntKind.i64 ((↑x_9.1 : Int) + (1 : Int)))] L ∧ ∀ (a_2 : RSl) (L' : List (Nat × Blk)), DnPost x_18 a_2 L' → (∃ (a_4 : Option Go.Addr), rawCell (L' ++ G) x_9.3.4 ((0 : Nat) * (1 : Nat)) (Value.pointer a_4) ∧ SV.val (Value.pointer a_4) =
  SV.val (Value.pointer a)) ∧ ∃ (k : Blk), ∃ (G_1 : List (Nat × Blk)), List.Perm (L' ++ G) ((x_15, k) :: G_1) ∧ Value.oneCell' (Value.slice (Option.some { block := a_2.1, off := a_2.2 }) a_2.3 a_2.4) = Bool.true ∧ ∃ (k1 : Blk), Blk.upd k (2 : Nat) (Value.slice (Option.some { block := a_2.1, off := a_2.2 }) a_2.3 a_2.4) k1 ∧ ∃ (x_19 : Unit), (mi, (0 : Nat), (1 : Nat)) = (mi, (0 : Nat), (1 : Nat)) ∧ ((0 : Nat), (0 : Nat), (0 : Nat)) = ((0 : Nat), (0 : Nat), (0 : Nat)) ∧ (∃ (G : List (Nat × Blk)), ∀ (r : List (Nat × Nat × Nat)), List.Perm ((mi, Blk.map (KShape.one (KS.int IntKind.u16)) (delM
  x_9.4 (Value.int IntKind.u16 n)) Option.none) :: (x_15, k1) :: (G_1 ++ [])) ((x_15, k1) :: (G_1 ++ [(mi, Blk.map (KShape.one (KS.int IntKind.u16)) (delM x_9.4 (Value.int IntKind.u16 n)) Option.none)] ++ [] ++ [] ++ G))) ∧ (x_9.5 = Bool.true → ∃ (a : Option Go.Addr), rawCell ((x_15, k1) :: (G_1 ++ [(mi, Blk.map (KShape.one (KS.int IntKind.u16)) (delM x_9.4 (Value.int IntKind.u16 n)) Option.none)])) x_9.3.4 ((0 : Nat) * (1 : Nat)) (Value.pointer a) ∧ ∃ (x_20 : Nat), (∀ (r : List (Nat × Nat × Nat)), Value.pointer (Option.some { block := x_20, off := (0 : Nat) }) = Value.pointer a) ∧ ∃ (k :
  Blk), ∃ (G : List (Nat × Blk)), List.Perm ((x_15, k1) :: (G_1 ++ [(mi, Blk.map (KShape.one (KS.int IntKind.u16)) (delM x_9.4 (Value.int IntKind.u16 n)) Option.none)])) ((x_20, k) :: G) ∧ ∃ (k1 : Blk), Blk.upd k (3 : Nat) (Value.bool Bool.false) k1 ∧ ∃ (y : DrX), y.2 < x.2 ∧ (((↑x_9.1 : Int) = (↑y.1 : Int) ∧ ((0 : Nat) = (0 : Nat) ∧ (0 : Nat) = (0 : Nat)) ∧ ((0 : Nat) = (0 : Nat) ∧ (0 : Nat) = (0 : Nat)) ∧ ((0 : Nat) = (0 : Nat) ∧ (0 : Nat) = (0 : Nat)) ∧ ((0 : Nat) = (0 : Nat) ∧ (0 : Nat) = (0 : Nat)) ∧ True) ∧ (mi, (0 : Nat), (1 : Nat)) = (mi, (0 : Nat), (1 : Nat)) ∧ (x_20, k1) :: G = y.8 ∧
  (x_9.3.4, (0 : Nat), (1 : Nat)) = (y.3.4, (0 : Nat), (1 : Nat)) ∧ (x_9.3.1, (0 : Nat), (1 : Nat)) = (y.3.1, (0 : Nat), (1 : Nat)) ∧ (x_9.3.2, (0 : Nat), (1 : Nat)) = (y.3.2, (0 : Nat), (1 : Nat)) ∧ (x_9.3.5, (0 : Nat), (1 : Nat)) = (y.3.5, (0 : Nat), (1 : Nat)) ∧ True) ∧ y.3 = x0.3 ∧ P4 y.3 y.1 y.2 y.8) ∧ (¬x_9.5 = Bool.true → ∃ (y : DrX), y.2 < x.2 ∧ (((↑x_9.1 : Int) = (↑y.1 : Int) ∧ ((0 : Nat) = (0 : Nat) ∧ (0 : Nat) = (0 : Nat)) ∧ ((0 : Nat) = (0 : Nat) ∧ (0 : Nat) = (0 : Nat)) ∧ ((0 : Nat) = (0 : Nat) ∧ (0 : Nat) = (0 : Nat)) ∧ ((0 : Nat) = (0 : Nat) ∧ (0 : Nat) = (0 : Nat)) ∧ True) ∧
  (mi, (0 : Nat), (1 : Nat)) = (mi, (0 : Nat), (1 : Nat)) ∧ (x_15, k1) :: (G_1 ++ [(mi, Blk.map (KShape.one (KS.int IntKind.u16)) (delM x_9.4 (Value.int IntKind.u16 n)) Option.none)]) = y.8 ∧ (x_9.3.4, (0 : Nat), (1 : Nat)) = (y.3.4, (0 : Nat), (1 : Nat)) ∧ (x_9.3.1, (0 : Nat), (1 : Nat)) = (y.3.1, (0 : Nat), (1 : Nat)) ∧ (x_9.3.2, (0 : Nat), (1 : Nat)) = (y.3.2, (0 : Nat), (1 : Nat)) ∧ (x_9.3.5, (0 : Nat), (1 : Nat)) = (y.3.5, (0 : Nat), (1 : Nat)) ∧ True) ∧ y.3 = x0.3 ∧ P4 y.3 y.1 y.2 y.8)) ∧ (¬(↑x_12.3 : Int) = (0 : Int) → (x_9.5 = Bool.true → ∃ (x_13 : Unit), (mi, (0 : Nat), (1 : Nat)) =
  (mi, (0 : Nat), (1 : Nat)) ∧ ((0 : Nat), (0 : Nat), (0 : Nat)) = ((0 : Nat), (0 : Nat), (0 : Nat)) ∧ (∃ (G : List (Nat × Blk)), ∀ (r : List (Nat × Nat × Nat)), List.Perm ((mi, Blk.map (KShape.one (KS.int IntKind.u16)) x_9.4 Option.none) :: (x_9.8 ++ [])) (x_9.8 ++ [(mi, Blk.map (KShape.one (KS.int IntKind.u16)) x_9.4 Option.none)] ++ [] ++ [] ++ G)) ∧ ∃ (a : Option Go.Addr), rawCell (x_9.8 ++ [(mi, Blk.map (KShape.one (KS.int IntKind.u16)) x_9.4 Option.none)]) x_9.3.4 ((0 : Nat) * (1 : Nat)) (Value.pointer a) ∧ ∃ (x_14 : Nat), (∀ (r : List (Nat × Nat × Nat)), Value.pointer (Option.some
  { block := x_14, off := (0 : Nat) }) = Value.pointer a) ∧ ∃ (x_15 : TvX), ∃ (L : List (Nat × Blk)), ∃ (G : List (Nat × Blk)), List.Perm (x_9.8 ++ [(mi, Blk.map (KShape.one (KS.int IntKind.u16)) x_9.4 Option.none)]) (L ++ G) ∧ TvPre x_15 [Value.pointer (Option.some { block := x_14, off := (0 : Nat) })] L ∧ ∀ (a : Unit) (L' : List (Nat × Blk)), TvPost x_15 a L' → ∃ (y : DrX), y.2 < x.2 ∧ (((↑x_9.1 : Int) = (↑y.1 : Int) ∧ ((0 : Nat) = (0 : Nat) ∧ (0 : Nat) = (0 : Nat)) ∧ ((0 : Nat) = (0 : Nat) ∧ (0 : Nat) = (0 : Nat)) ∧ ((0 : Nat) = (0 : Nat) ∧ (0 : Nat) = (0 : Nat)) ∧ ((0 : Nat) = (0 : Nat) ∧
  (0 : Nat) = (0 : Nat)) ∧ True) ∧ (mi, (0 : Nat), (1 : Nat)) = (mi, (0 : Nat), (1 : Nat)) ∧ L' ++ G = y.8 ∧ (x_9.3.4, (0 : Nat), (1 : Nat)) = (y.3.4, (0 : Nat), (1 : Nat)) ∧ (x_9.3.1, (0 : Nat), (1 : Nat)) = (y.3.1, (0 : Nat), (1 : Nat)) ∧ (x_9.3.2, (0 : Nat), (1 : Nat)) = (y.3.2, (0 : Nat), (1 : Nat)) ∧ (x_9.3.5, (0 : Nat), (1 : Nat)) = (y.3.5, (0 : Nat), (1 : Nat)) ∧ True) ∧ y.3 = x0.3 ∧ P4 y.3 y.1 y.2 y.8) ∧ (¬x_9.5 = Bool.true → ∃ (x_13 : Unit), (mi, (0 : Nat), (1 : Nat)) = (mi, (0 : Nat), (1 : Nat)) ∧ ((0 : Nat), (0 : Nat), (0 : Nat)) = ((0 : Nat), (0 : Nat), (0 : Nat)) ∧
  (∃ (G : List (Nat × Blk)), ∀ (r : List (Nat × Nat × Nat)), List.Perm ((mi, Blk.map (KShape.one (KS.int IntKind.u16)) x_9.4 Option.none) :: (x_9.8 ++ [])) (x_9.8 ++ [(mi, Blk.map (KShape.one (KS.int IntKind.u16)) x_9.4 Option.none)] ++ [] ++ [] ++ G)) ∧ ∃ (y : DrX), y.2 < x.2 ∧ ((IntKind.wrap IntKind.i64 ((↑x_9.1 : Int) + (1 : Int)) = (↑y.1 : Int) ∧ ((0 : Nat) = (0 : Nat) ∧ (0 : Nat) = (0 : Nat)) ∧ ((0 : Nat) = (0 : Nat) ∧ (0 : Nat) = (0 : Nat)) ∧ ((0 : Nat) = (0 : Nat) ∧ (0 : Nat) = (0 : Nat)) ∧ ((0 : Nat) = (0 : Nat) ∧ (0 : Nat) = (0 : Nat)) ∧ True) ∧ (mi, (0 : Nat), (1 : Nat)) =
  (mi, (0 : Nat), (1 : Nat)) ∧ x_9.8 ++ [(mi, Blk.map (KShape.one (KS.int IntKind.u16)) x_9.4 Option.none)] = y.8 ∧ (x_9.3.4, (0 : Nat), (1 : Nat)) = (y.3.4, (0 : Nat), (1 : Nat)) ∧ (x_9.3.1, (0 : Nat), (1 : Nat)) = (y.3.1, (0 : Nat), (1 : Nat)) ∧ (x_9.3.2, (0 : Nat), (1 : Nat)) = (y.3.2, (0 : Nat), (1 : Nat)) ∧ (x_9.3.5, (0 : Nat), (1 : Nat)) = (y.3.5, (0 : Nat), (1 : Nat)) ∧ True) ∧ y.3 = x0.3 ∧ P4 y.3 y.1 y.2 y.8))) ∧ (¬(↑x.1 : Int) < (↑l : Int) → ∃ (a : Option Go.Addr), rawCell x_1.2 x.3.4 ((0 : Nat) * (1 : Nat)) (Value.pointer a) ∧ ∃ (x_3 : Nat),
  (∀ (r : List (Nat × Nat × Nat)), Value.pointer (Option.some { block := x_3, off := (0 : Nat) }) = Value.pointer a) ∧ ∃ (n : Int), rawCell x_1.2 x_3 (5 : Nat) (Value.int IntKind.i64 n) ∧ ∃ (n_1 : Int), rawCell x_1.2 x.3.2 ((0 : Nat) * (1 : Nat)) (Value.int IntKind.i64 n_1) ∧ ∃ (k : Blk), ∃ (G : List (Nat × Blk)), List.Perm x_1.2 ((x_3, k) :: G) ∧ Value.oneCell' (Value.int IntKind.i64 (IntKind.wrap IntKind.i64 (n - n_1))) = Bool.true ∧ ∃ (k1 : Blk), Blk.upd k (5 : Nat) (Value.int IntKind.i64 (IntKind.wrap IntKind.i64 (n - n_1))) k1 ∧ ∃ (n : Int),
  rawCell ((x_3, k1) :: G) x.3.2 ((0 : Nat) * (1 : Nat)) (Value.int IntKind.i64 n) ∧ ∃ (o : Option Go.Addr), ∃ (l : Nat), ∃ (c : Nat), rawCell ((x_3, k1) :: G) x.3.5 ((0 : Nat) * (1 : Nat)) (Value.slice o l c) ∧ R (Value.tuple #[Value.int IntKind.i64 n, Value.slice o l c]) ((mi, Blk.map (KShape.one (KS.int IntKind.u16)) x_1.1 Option.none) :: (x_3, k1) :: (G ++ []))) from by
  subst e4 eQ
  simp only [eq_self, true_and, and_true, false_and, and_false, or_false, false_or, and_self, Nat.zero_add, Nat.add_zero, Nat.sub_zero, Nat.zero_mul, Nat.mul_one, Int.toNat_natCast, cond_true, cond_false, forall_const, implies_true, Nat.beq_refl, ne_eq, not_false_eq_true, not_true_eq_false, Classical.not_not, List.cons.injEq, List.append_nil, List.nil_append, Go.Value.int.injEq, Go.Value.bool.injEq, Go.Value.slice.injEq, Nat.le_refl, Nat.zero_le, Go.Sx.one_int, Go.Sx.one_bool, Go.Sx.one_slice, Go.Sx.one_ptr, Go.Sx.one_map, Int.cast_ofNat_Int, reduceCtorEq, Nat.reduceLeDiff, Nat.reduceMul, Nat.reduceAdd, Nat.reduceSub, Nat.reduceEqDiff, Int.reduceLE, Int.reduceLT, Int.reduceEq, Int.reduceAdd, Int.reduceSub, Int.reduceNeg, Int.reduceMul, Nat.reduceBEq]
  intro b1 b2 b3 b4
  refine ⟨(), ⟨[], ?_⟩, ⟨0, q.lines.length + 1, ⟨b2, b3, 0, b1, b4, b, []⟩, fi, false, 0, ⟨0, 0, 0, 0⟩, _⟩, ⟨⟨rfl, rfl, rfl, rfl, rfl, rfl⟩, rfl, ⟨q, 0, []⟩, ?_, rfl, Nat.zero_le _, ?_, hne, hl, by simpa using hs⟩, fun y ⟨ya, hb, d, hd, hgo, hi, hk, hne', hl', hs'⟩ => ?_⟩
  · refine perm_of_sums fun f => ?_
    simp only [List.map_append, List.map_cons, List.map_nil, List.sum_append, List.sum_cons, List.sum_nil, List.append_assoc, List.cons_append, List.nil_append] at *
    omega
  · obtain ⟨mn, tv, fn, Lt, Li, g1, g2, g3, g4⟩ := h0
    refine ⟨mn, tv, .slice none 0 0, fi, fn, Lt, Li, [], ?_, g2, g3, g4, .inl ⟨rfl, rfl⟩⟩
    refine perm_of_sums fun f => ?_
    have e1 := perm_sum g1 f
    simp only [boxesOf]
    simp only [List.map_append, List.map_cons, List.map_nil, List.sum_append, List.sum_cons, List.sum_nil, List.append_assoc, List.cons_append, List.nil_append] at *
    omega
  · show q.lines.length - 0 + (if q.held = true then 1 else 0) ≤ q.lines.length + 1
    split <;> omega
  · obtain ⟨mn, tv, ov, fi2, fn, Lt, Li, Lo, g1, g2, g3, g4, g5⟩ := hd
    obtain ⟨sl, rfl, gsl⟩ := winNil_sl g2
    rw [List.length_map] at gsl
    subst hb
    have mq : (y.a.b, Blk.cells [.bool d.q.inter, .map (some mi), .slice sl.o sl.l sl.c, .bool d.q.held, .map (some mn), .int .i64 d.q.all] 123) ∈ (y.a.b, Blk.cells [.bool d.q.inter, .map (some mi), .slice sl.o sl.l sl.c, .bool d.q.held, .map (some mn), .int .i64 d.q.all] 123) :: (mn, .map (.many [.int .u16, .bool]) fn none) :: (boxesOf y.a id d.n ov ++ (Lt ++ (Li ++ Lo))) := by simp
    have mbq : (y.a.bq, Blk.cells [.pointer (some ⟨y.a.b, 0, none⟩)] 24) ∈ (y.a.b, Blk.cells [.bool d.q.inter, .map (some mi), .slice sl.o sl.l sl.c, .bool d.q.held, .map (some mn), .int .i64 d.q.all] 123) :: (mn, .map (.many [.int .u16, .bool]) fn none) :: (boxesOf y.a id d.n ov ++ (Lt ++ (Li ++ Lo))) := by simp [boxesOf]
    have mbk : (y.a.bk, Blk.cells [.int .i64 id] 3) ∈ (y.a.b, Blk.cells [.bool d.q.inter, .map (some mi), .slice sl.o sl.l sl.c, .bool d.q.held, .map (some mn), .int .i64 d.q.all] 123) :: (mn, .map (.many [.int .u16, .bool]) fn none) :: (boxesOf y.a id d.n ov ++ (Lt ++ (Li ++ Lo))) := by simp [boxesOf]
    have mbn : (y.a.bn, Blk.cells [.int .i64 d.n] 3) ∈ (y.a.b, Blk.cells [.bool d.q.inter, .map (some mi), .slice sl.o sl.l sl.c, .bool d.q.held, .map (some mn), .int .i64 d.q.all] 123) :: (mn, .map (.many [.int .u16, .bool]) fn none) :: (boxesOf y.a id d.n ov ++ (Lt ++ (Li ++ Lo))) := by simp [boxesOf]
    refine ⟨⟨fi2, (y.a.b, Blk.cells [.bool d.q.inter, .map (some mi), .slice sl.o sl.l sl.c, .bool d.q.held, .map (some mn), .int .i64 d.q.all] 123) :: (mn, .map (.many [.int .u16, .bool]) fn none) :: (boxesOf y.a id d.n ov ++ (Lt ++ (Li ++ Lo)))⟩, ⟨[], ?_⟩, _, rawCell_cells mbq rfl, y.a.b, rfl, sl.o, sl.l, sl.c, rawCell_cells mq rfl, fun hlt => ?_, fun hge => ?_⟩
    · refine g1.trans ?_
      rw [List.append_nil]
      exact List.Perm.swap _ _ _
    · have hi' : y.i < d.q.lines.length := by omega
      obtain ⟨s, its, hln⟩ : ∃ s its, d.q.lines[y.i]? = some (s, its) := ⟨d.q.lines[y.i].1, d.q.lines[y.i].2, by rw [List.getElem?_eq_getElem hi']⟩
      have hla : lineAt d.q y.i = (s, its) := by simp [lineAt, List.getD_eq_getElem?_getD, hln]
      have hAB : d.q.lines = d.q.lines.take y.i ++ (s, its) :: d.q.lines.drop (y.i + 1) := by
        have := List.getElem_of_getElem? hln
        obtain ⟨h1, h2⟩ := this
        rw [← h2, List.getElem_cons_drop, List.take_append_drop]
      have g3' := g3
      rw [hAB] at g3'
      obtain ⟨lv, L1, L2, k1, k2, k3, k4, k5⟩ := lines_out g3'
      obtain ⟨rl, rfl, krl⟩ := line_sl k3
      rcases g2 with ⟨hnil, -⟩ | ⟨w, w1, w2, w3⟩
      · rw [List.map_eq_nil_iff] at hnil; rw [hnil] at hi'; simp at hi'
      injection w2 with ew1 ew2 ew3
      obtain ⟨v1, v2, v3, v4⟩ := w1
      rw [List.length_map] at v1 v4 ew2
      have hws : w.zs.getD (w.o + y.i) 0 = s := by
        have := congrArg (fun x => x[y.i]?) v4
        simp only [List.getElem?_take_of_lt hi', List.getElem?_drop, List.getElem?_map, hln] at this
        rw [List.getD_eq_getElem?_getD, this]; rfl
      have hits : its ≠ [] := hne' (s, its) (List.mem_of_getElem? hln)
      refine ⟨_, rawCell_cells mbq rfl, y.a.b, rfl, sl.o, sl.l, sl.c, rawCell_cells mq rfl, ⟨w.b, (w.base + w.o) * 1, sl.l, sl.c⟩, ⟨ew1.symm, rfl, rfl⟩, by show (0 : Int) ≤ y.i ∧ (y.i : Int) < sl.l; omega, s, ?_, fun sb => ⟨_, rawCell_cells mbq rfl, y.a.b, rfl, some mi, rawCell_cells mq rfl, (), rfl, rl, ?_, ⟨y.i, y.k, { y.a with bs := sb }, fi2, servedAt d.q id y.i, s, rl, ((y.a.b, Blk.cells [.bool d.q.inter, .map (some mi), .slice sl.o sl.l sl.c, .bool d.q.held, .map (some mn), .int .i64 d.q.all] 123) :: (mn, .map (.many [.int .u16, .bool]) fn none) :: (boxesOf y.a id d.n ov ++ (Lt ++ (Li ++ Lo))))⟩, ⟨?_, ?_⟩, ?_⟩⟩
      · refine rawCell_tab1 (base := w.base) (N := w.N) (i := w.o + y.i) (t := 27) (c := .ints .u16 w.zs) ?_ (by omega) (by show (w.base + w.o) * 1 + y.i = _; omega) (by show _ = Value.int .u16 (w.zs.getD (w.o + y.i) 0); rw [hws])
        have : (w.b, Blk.tab 27 w.base w.N [.ints .u16 w.zs]) ∈ Lt := w3.mem_iff.2 (by simp)
        simp [this]
      · show _ = (fi2 (kS s)).getD _
        rw [k1]; rfl
      · intro h0
        have hsv : servedAt d.q id y.i = (d.q.held && pbool (∃ it r, its = it :: r ∧ it.id = id)) := by
          unfold servedAt
          rw [hla]
          simp [show y.i = 0 by omega]
        refine ⟨_, rawCell_cells mbq rfl, y.a.b, rfl, d.q.held, rawCell_cells mq rfl, fun hh => ?_, fun hh => ⟨_, ?_, rfl⟩⟩
        · have k3c := k3
          obtain ⟨x, u1, u2, u3⟩ := k3c
          obtain ⟨t1, t2, t3, t4⟩ := u1
          obtain ⟨it, r, rfl⟩ : ∃ it r, its = it :: r := by cases its with | nil => exact absurd rfl hits | cons a r => exact ⟨a, r, rfl⟩
          have hzip : ((it :: r).zip ((x.ps.drop x.o).take (it :: r).length))[0]? = some (it, x.ps.getD x.o .nilIface) := by
            obtain ⟨it', e1, e2, -⟩ := zip_get (its := it :: r) (ps := x.ps) (N := x.N) (o := x.o) (i := 0) (by omega) t3 (by simp)
            simp at e1
            subst e1
            exact e2
          obtain ⟨Z1, Z2, z1, ib, iv, iL, zp, zw, zpp⟩ := SepL.get t4 hzip
          injection u2 with eu1 eu2 eu3
          injection eu1 with eu1
          injection eu1 with eb ex
          have hin : ∀ p ∈ L1, p ∈ Li := fun p hp => k2.mem_iff.2 (by simp [hp])
          refine ⟨by rw [krl]; simp, some ⟨ib, 0, none⟩, ?_, ib, rfl, it.id, ?_, id, rawCell_cells mbk rfl, _, ?_, rfl⟩
          · refine rawCell_tab1 (base := x.base) (N := x.N) (i := x.o) (t := 126) (c := .raws x.ps) ?_ (by have := t1; simp at this; omega) (by rw [ex]; omega) (by show _ = x.ps.getD x.o _; rw [← zp])
            have := hin (x.b, Blk.tab 126 x.base x.N [.raws x.ps]) (u3.mem_iff.2 (by simp))
            rw [eb]
            simp [this]
          · have h1 : (ib, Blk.cells (it.cells iv) 128) ∈ x.G := z1.mem_iff.2 (List.mem_append_left _ (zpp.mem_iff.2 (by simp)))
            have := hin _ (u3.mem_iff.2 (List.mem_cons_of_mem _ h1))
            exact rawCell_cells (l := it.cells iv) (t := 128) (by simp [this]) rfl
          · refine ⟨⟨?_, rfl, rfl, rfl, rfl⟩, rfl, rfl, rfl, rfl, rfl, rfl, rfl, rfl⟩
            show pbool (it.id = id) = servedAt d.q id y.i
            rw [hsv, hh]
            simp [pbool]
        · refine ⟨⟨?_, rfl, rfl, rfl, rfl⟩, rfl, rfl, rfl, rfl, rfl, rfl, rfl, rfl⟩
          show false = servedAt d.q id y.i
          rw [hsv]; simp [hh]
      · intro h0
        refine ⟨_, ?_, rfl⟩
        refine ⟨⟨?_, rfl, rfl, rfl, rfl⟩, rfl, rfl, rfl, rfl, rfl, rfl, rfl, rfl⟩
        have hi0 : y.i ≠ 0 := by omega
        show false = servedAt d.q id y.i
        simp [servedAt, hi0, pbool]
      · rintro x8 rfl
        have hx : d.x id y.i = dL ⟨id, d.n, s, d.q.inter, d.ds⟩ its := by unfold DSt.x; rw [hla]
        have hlen : d.ds.length + its.length < 1000000 := by
          have := le_sum_mem (l := d.q.lines.map fun l => l.2.length) (List.mem_map.2 ⟨(s, its), List.mem_of_getElem? hln, rfl⟩)
          simp only at this
          omega
        have mbs : (sb, Blk.cells [.int .u16 s] 27) ∈ ((y.a.b, Blk.cells [.bool d.q.inter, .map (some mi), .slice sl.o sl.l sl.c, .bool d.q.held, .map (some mn), .int .i64 d.q.all] 123) :: (mn, .map (.many [.int .u16, .bool]) fn none) :: (boxesOf y.a id d.n ov ++ (Lt ++ (Li ++ Lo)))) ++ [(sb, Blk.cells [.int .u16 s] 27)] := by simp
        refine ⟨⟨y.i, y.k, { y.a with bs := sb }, fi2, servedAt d.q id y.i, s, rl, []⟩, ⟨(), ⟨[], ?_⟩, _, rawCell_cells (List.mem_append_left _ mbq) rfl, y.a.b, rfl, some mi, rawCell_cells (List.mem_append_left _ mq) rfl, (), rfl, s, rawCell_cells mbs rfl,
          ⟨⟨id, d.n, s, d.q.inter, d.ds⟩, ⟨y.a.bk, y.a.bn, sb, y.a.bq, y.a.bo, y.a.b, [.map (some mi), .slice sl.o sl.l sl.c, .bool d.q.held, .map (some mn), .int .i64 d.q.all]⟩, its, .slice (some ⟨rl.b, rl.x, none⟩) rl.n rl.c⟩,
          ((y.a.bn, .cells [.int .i64 d.n] 3) :: (y.a.bo, .cells [ov] 93) :: ([(y.a.bk, .cells [.int .i64 id] 3), (sb, .cells [.int .u16 s] 27), (y.a.bq, .cells [.pointer (some ⟨y.a.b, 0, none⟩)] 24), (y.a.b, .cells [.bool d.q.inter, .map (some mi), .slice sl.o sl.l sl.c, .bool d.q.held, .map (some mn), .int .i64 d.q.all] 123)] ++ Lo)) ++ L1, (mn, .map (.many [.int .u16, .bool]) fn none) :: (Lt ++ L2), ?_, ⟨rfl, hlen, _, _, List.Perm.refl _, ⟨ov, Lo, g5, List.Perm.refl _⟩, k3⟩, ?_⟩, ?_⟩
        · simp
        · exact dr_p1 k2
        · rintro a2 L' ⟨c1, La, Lb, c2, ⟨ov', Lo', c3, c4⟩, c5⟩
          have e1 := dL_k its ⟨id, d.n, s, d.q.inter, d.ds⟩
          obtain ⟨e2, e3⟩ := dL_s its ⟨id, d.n, s, d.q.inter, d.ds⟩
          simp only [dRest, e1, e2, e3] at c4
          simp only at c1 c5
          have hpm := dr_p2 (mn := mn) (fn := fn) (Lt := Lt) (L2 := L2) c2 c4
          refine ⟨⟨s, rawCell_cells (l := [.int .u16 s]) (t := 27) (hpm.mem_iff.2 (by simp)) rfl, rfl⟩, ⟨some mi, rawCell_cells (l := [.bool d.q.inter, .map (some mi), .slice sl.o sl.l sl.c, .bool d.q.held, .map (some mn), .int .i64 d.q.all]) (t := 123) (hpm.mem_iff.2 (by simp)) rfl, rfl⟩, ⟨_, rawCell_cells (l := [.pointer (some ⟨y.a.b, 0, none⟩)]) (t := 24) (hpm.mem_iff.2 (by simp)) rfl, rfl⟩,
            ⟨y.i, y.k, { y.a with bs := sb }, updM fi2 (.int .u16 s) (.slice (some ⟨a2.b, a2.x, none⟩) a2.n a2.c), servedAt d.q id y.i, s, a2, L' ++ ((mn, .map (.many [.int .u16, .bool]) fn none) :: (Lt ++ L2))⟩, ⟨⟨rfl, rfl⟩, rfl, rfl, rfl, rfl, rfl, rfl, rfl⟩, rfl, rfl, rfl, rfl, rfl, rfl, rfl, d, its, ⟨hln, rfl, c1⟩, ⟨hgo, hk, hne', hl', hs'⟩, mn, .slice sl.o sl.l sl.c, ov', fn, Lt, L2, Lb, Lo', ?_, .inr ⟨w, ⟨by simpa using v1, v2, v3, by simpa using v4⟩, by rw [List.length_map]; show Value.slice _ _ _ = Value.slice _ _ _; rw [ew1, ew2, ew3], w3⟩, ?_, ?_, ?_, g4, ?_⟩
          · rw [hx]; exact hpm
          · exact k5
          · exact k4
          · exact c5
          · rw [hx]; exact c3
        · rintro ⟨i9, k9, a9, fi9, s9, st9, ln9, L9⟩ ⟨r1, r2, r3, r4, r5, r6, hb9, d9, its9, ⟨q1, q2, q3⟩, ⟨q4, q5, q6, q7, q8⟩, mn9, tv9, ov9, fn9, Lt9, L29, Lb9, Lo9, p1, p2, p3, p4, p5, p6, p7⟩
          simp only at r1 r2 r3 r4 r5 r6 q1 q2 q3 q4 q5 p1 p3 p4 p5 p7 hb9
          subst r1 r2 r3 r4 r5 r6
          clear hgo hi hk hne' hl' hs' g1 g3 g4 g5 h0 mq mbq mbk mbn hla hAB k1 k2 k3 k4 k5 v1 v2 v3 v4 hws hits hx hlen mbs
          have hi9 : y.i < d9.q.lines.length := (List.getElem?_eq_some_iff.1 q1).1
          rcases p2 with ⟨p2, -⟩ | ⟨w9, w91, rfl, w93⟩
          · rw [List.map_eq_nil_iff] at p2; rw [p2] at hi9; simp at hi9
          obtain ⟨k', hk'⟩ : ∃ k', y.k = k' + 1 := ⟨y.k - 1, by omega⟩
          have hla9 : lineAt d9.q y.i = (st9, its9) := by simp [lineAt, List.getD_eq_getElem?_getD, q1]
          have mq9 : (y.a.b, Blk.cells [.bool d9.q.inter, .map (some mi), w9.val (d9.q.lines.map Prod.fst).length, .bool d9.q.held, .map (some mn9), .int .i64 d9.q.all] 123) ∈ L9 := p1.mem_iff.2 (by simp)
          have mbq9 : (y.a.bq, Blk.cells [.pointer (some ⟨y.a.b, 0, none⟩)] 24) ∈ L9 := p1.mem_iff.2 (by simp [boxesOf])
          have mbs9 : (sb, Blk.cells [.int .u16 st9] 27) ∈ L9 := p1.mem_iff.2 (by simp)
          refine ⟨_, rawCell_cells mbq9 rfl, y.a.b, rfl, some mi, rawCell_cells mq9 rfl, (), rfl, st9, rawCell_cells mbs9 rfl, ln9, by simp [updM], fun hz => ?_, fun hz => ⟨fun hsv => ?_, fun hsv => ?_⟩⟩
          · have hkp : keepI id its9 = [] := List.length_eq_zero_iff.1 (by omega)
            have hst : ∀ h, (if servedAt d9.q id y.i = true then false else d9.q.held) = h → dropStep id d9 y.i = (⟨{ d9.q with lines := d9.q.lines.eraseIdx y.i, held := h }, (d9.x id y.i).n, (d9.x id y.i).ds⟩, y.i) := fun h eh => by
              unfold dropStep
              simp only [hla9]
              rw [if_pos hkp, eh]
            have hel : (d9.q.lines.eraseIdx y.i).length = d9.q.lines.length - 1 := List.length_eraseIdx_of_lt hi9
            have hee : d9.q.lines.eraseIdx y.i = d9.q.lines.take y.i ++ d9.q.lines.drop (y.i + 1) := List.eraseIdx_eq_take_drop_succ ..
            have hem : (d9.q.lines.map Prod.fst).eraseIdx y.i = (d9.q.lines.eraseIdx y.i).map Prod.fst := by rw [hee, List.eraseIdx_eq_take_drop_succ, List.map_append, List.map_take, List.map_drop]
            have hne9 : ∀ l ∈ d9.q.lines.eraseIdx y.i, l.2 ≠ [] := fun l hl => q6 l (List.mem_of_mem_eraseIdx hl)
            have hnum := drop_nums (id := id) q1 q8 (d9.q.lines.eraseIdx y.i) (.inr (by rw [hee]))
            refine ⟨_, rawCell_cells mbq9 rfl, y.a.b, rfl, some mi, rawCell_cells mq9 rfl, (), rfl, st9, rawCell_cells mbs9 rfl, _, rawCell_cells mbq9 rfl, y.a.b, rfl, _, rawCell_cells mbq9 rfl, y.a.b, rfl, _, _, _, rawCell_cells mq9 rfl, ⟨w9.b, (w9.base + w9.o) * 1, (d9.q.lines.map Prod.fst).length, w9.cap⟩, ⟨rfl, rfl, rfl⟩,
              ⟨d9.q.lines.map Prod.fst, w9.val (d9.q.lines.map Prod.fst).length, y.i⟩, Lt9, (y.a.b, .cells [.bool d9.q.inter, .map (some mi), w9.val (d9.q.lines.map Prod.fst).length, .bool d9.q.held, .map (some mn9), .int .i64 d9.q.all] 123) :: (mn9, .map (.many [.int .u16, .bool]) fn9 none) :: (sb, .cells [.int .u16 st9] 27) :: (boxesOf y.a id (d9.x id y.i).n ov9 ++ (L29 ++ (Lb9 ++ Lo9))),
              dr_p3 p1, ⟨by rw [wrapD hi9 q7]; rfl, by simpa using hi9, by simpa using q7, w9, w91, rfl, w93⟩, fun a2 L' ⟨c1, c2⟩ => ⟨⟨_, rawCell_cells (l := [.pointer (some ⟨y.a.b, 0, none⟩)]) (t := 24) (by simp [boxesOf]) rfl, rfl⟩, _, _, dr_p4, _, upd_cells (by simp), (), ⟨[], by rw [List.append_nil]; exact dr_p5⟩, fun hsv => ?_, fun hsv => ?_⟩⟩
            · have hh : servedAt d9.q id y.i = true := by rw [← q2]; exact hsv
              refine ⟨_, rawCell_cells (l := [.pointer (some ⟨y.a.b, 0, none⟩)]) (t := 24) (by simp [boxesOf]) rfl, y.a.b, rfl, _, _, List.Perm.refl _, _, upd_cells (by simp), ⟨y.i, k', y.a, fi, false, 0, ⟨0, 0, 0, 0⟩, _⟩, by show k' < y.k; omega, ⟨rfl, rfl, rfl, rfl, rfl, rfl⟩, ya, ?_⟩
              refine drInv_of rfl hi9 hk' q4 (hst false (by rw [if_pos hh])) ⟨mn9, _, ov9, _, fn9, L', L29 ++ ((sb, .cells [.int .u16 st9] 27) :: Lb9), Lo9, dr_p6, .inr (by rw [← hem]; exact c2), (by rw [del_upd, hee]; exact p3.more _), p6, p7⟩ (by show y.i ≤ (d9.q.lines.eraseIdx y.i).length; omega) (by show (d9.q.lines.eraseIdx y.i).length - y.i + 0 ≤ k'; omega) hne9 (by show (d9.q.lines.eraseIdx y.i).length < 1000000; omega) hnum
            · have hh : ¬ servedAt d9.q id y.i = true := by rw [← q2]; exact hsv
              refine ⟨⟨y.i, k', y.a, fi, false, 0, ⟨0, 0, 0, 0⟩, _⟩, by show k' < y.k; omega, ⟨rfl, rfl, rfl, rfl, rfl, rfl⟩, ya, ?_⟩
              refine drInv_of rfl hi9 hk' q4 (hst d9.q.held (by rw [if_neg hh])) ⟨mn9, _, ov9, _, fn9, L', L29 ++ ((sb, .cells [.int .u16 st9] 27) :: Lb9), Lo9, dr_p6, .inr (by rw [← hem]; exact c2), (by rw [del_upd, hee]; exact p3.more _), p6, p7⟩ (by show y.i ≤ (d9.q.lines.eraseIdx y.i).length; omega) (by show (d9.q.lines.eraseIdx y.i).length - y.i + (if d9.q.held = true then 1 else 0) ≤ k'; omega) hne9 (by show (d9.q.lines.eraseIdx y.i).length < 1000000; omega) hnum
          · have hkp : keepI id its9 ≠ [] := fun e => hz (by rw [q3, e]; rfl)
            have hh : servedAt d9.q id y.i = true := by rw [← q2]; exact hsv
            have hi0 : y.i = 0 ∧ d9.q.held = true := by
              unfold servedAt at hh
              rw [Bool.and_eq_true] at hh
              refine ⟨?_, hh.1⟩
              have := hh.2
              simp only [pbool, decide_eq_true_eq] at this
              exact this.1
            obtain ⟨hi0, hheld⟩ := hi0
            rw [hi0] at q1 p3 p4 hi9 hla9
            rw [List.take_zero, List.nil_append] at p3 p4
            have hls : d9.q.lines = (st9, its9) :: d9.q.lines.drop 1 := by simpa using lines_at q1
            have hst : dropStep id d9 y.i = (⟨{ d9.q with lines := d9.q.lines.drop 1 ++ [(st9, keepI id its9)], held := false }, (d9.x id y.i).n, (d9.x id y.i).ds⟩, y.i) := by
              unfold dropStep
              rw [hi0] at hh ⊢
              simp only [hla9]
              rw [if_neg hkp, if_pos hh]
            have hfst : ((st9, keepI id its9) :: d9.q.lines.drop 1).map Prod.fst = d9.q.lines.map Prod.fst := by rw [List.map_cons]; conv => rhs; rw [hls, List.map_cons]
            have hlen2 : (d9.q.lines.drop 1).length + 1 = d9.q.lines.length := by rw [List.length_drop]; omega
            refine ⟨(), ⟨[], by rw [List.append_nil]; exact dr_p7⟩, _, rawCell_cells (List.mem_append_left _ mbq9) rfl, y.a.b, rfl, ⟨{ d9.q with lines := (st9, keepI id its9) :: d9.q.lines.drop 1 }, y.a.b, mi, st9, keepI id its9, d9.q.lines.drop 1⟩,
              (y.a.b, .cells [.bool d9.q.inter, .map (some mi), w9.val (d9.q.lines.map Prod.fst).length, .bool d9.q.held, .map (some mn9), .int .i64 d9.q.all] 123) :: (mi, .map (.one (.int .u16)) (updM fi2 (.int .u16 st9) (.slice (some ⟨ln9.b, ln9.x, none⟩) ln9.n ln9.c)) none) :: (mn9, .map (.many [.int .u16, .bool]) fn9 none) :: (Lt9 ++ (L29 ++ Lb9)),
              (sb, .cells [.int .u16 st9] 27) :: (boxesOf y.a id (d9.x id y.i).n ov9 ++ Lo9), dr_p8 p1, ⟨rfl, rfl, List.length_pos_iff.2 hkp, by show ((st9, keepI id its9) :: d9.q.lines.drop 1).length < 1000000; rw [List.length_cons]; omega, mn9, _, _, fn9, Lt9, L29 ++ Lb9, List.Perm.refl _, .inr ⟨w9, by rw [hfst]; exact w91, by rw [hfst], w93⟩, ?_, p6⟩, fun u L' c1 => ?_⟩
            · exact (lines_back p3 p4 p5).perm List.perm_append_comm
            · obtain ⟨mn', tv', fi', fn', Lt', Li', u1, u2, u3, u4⟩ := c1
              have hnum := drop_nums (id := id) (i := 0) q1 q8 (d9.q.lines.drop 1 ++ [(st9, keepI id its9)]) (.inl List.perm_append_comm)
              refine ⟨⟨y.i, k', y.a, fi, false, 0, ⟨0, 0, 0, 0⟩, _⟩, by show k' < y.k; omega, ⟨rfl, rfl, rfl, rfl, rfl, rfl⟩, ya, ?_⟩
              refine drInv_of rfl (by omega) hk' q4 hst ⟨mn', tv', ov9, fi', fn', Lt', Li' ++ [(sb, .cells [.int .u16 st9] 27)], Lo9, dr_p9 u1, u2, u3.more _, u4, p7⟩ (by show y.i ≤ (d9.q.lines.drop 1 ++ [(st9, keepI id its9)]).length; omega) ?_ ?_ ?_ (by rw [hi0]; exact hnum)
              · show (d9.q.lines.drop 1 ++ [(st9, keepI id its9)]).length - y.i + 0 ≤ k'
                rw [if_pos hheld] at q5
                rw [List.length_append, List.length_singleton]
                omega
              · intro l hl
                rcases List.mem_append.1 hl with hl | hl
                · exact q6 l (List.mem_of_mem_drop hl)
                · rw [List.mem_singleton.1 hl]; exact hkp
              · show (d9.q.lines.drop 1 ++ [(st9, keepI id its9)]).length < 1000000
                rw [List.length_append, List.length_singleton]
                omega
          · have hkp : keepI id its9 ≠ [] := fun e => hz (by rw [q3, e]; rfl)
            have hh : ¬ servedAt d9.q id y.i = true := by rw [← q2]; exact hsv
            have hst : dropStep id d9 y.i = (⟨{ d9.q with lines := d9.q.lines.set y.i (st9, keepI id its9) }, (d9.x id y.i).n, (d9.x id y.i).ds⟩, y.i + 1) := by
              unfold dropStep
              simp only [hla9]
              rw [if_neg hkp, if_neg hh]
            have hset : d9.q.lines.set y.i (st9, keepI id its9) = d9.q.lines.take y.i ++ (st9, keepI id its9) :: d9.q.lines.drop (y.i + 1) := List.set_eq_take_append_cons_drop .. |>.trans (by rw [if_pos hi9])
            have hfst : (d9.q.lines.set y.i (st9, keepI id its9)).map Prod.fst = d9.q.lines.map Prod.fst := by
              rw [hset]
              conv => rhs; rw [lines_at q1]
              simp only [List.map_append, List.map_cons]
            have hnum := drop_nums (id := id) q1 q8 (d9.q.lines.set y.i (st9, keepI id its9)) (.inl (by rw [hset]))
            refine ⟨(), ⟨[], by rw [List.append_nil]; exact dr_p7⟩, ⟨y.i + 1, k', y.a, fi, false, 0, ⟨0, 0, 0, 0⟩, _⟩, by show k' < y.k; omega, ⟨wrapD hi9 q7, rfl, rfl, rfl, rfl, rfl⟩, ya, ?_⟩
            refine drInv_of rfl hi9 hk' q4 hst ⟨mn9, _, ov9, _, fn9, Lt9, (L29 ++ Lb9) ++ [(sb, .cells [.int .u16 st9] 27)], Lo9, dr_p10 p1, .inr ⟨w9, by rw [hfst]; exact w91, by rw [hfst], w93⟩, ?_, p6, p7⟩ (by show y.i + 1 ≤ (d9.q.lines.set y.i _).length; rw [List.length_set]; omega) (by show (d9.q.lines.set y.i _).length - (y.i + 1) + (if d9.q.held = true then 1 else 0) ≤ k'; rw [List.length_set]; omega) ?_ (by show (d9.q.lines.set y.i _).length < 1000000; rw [List.length_set]; exact q7) hnum
            · refine LinesAt.more ?_ _
              show LinesAt (d9.q.lines.set y.i (st9, keepI id its9)) _ _
              rw [hset]
              refine (lines_back p3 p4 p5).perm (List.perm_append_comm.trans ?_)
              rw [List.singleton_append]
              exact List.perm_middle.symm
            · intro l hl
              rcases List.mem_or_eq_of_mem_set hl with hl | rfl
              · exact q6 l hl
              · exact hkp
    · have hend : dropGo id y.k d y.i = d := by
        cases hkk : y.k with
        | zero => rfl
        | succ k => rw [dropGo, if_neg (by omega)]
      rw [hend] at hgo
      obtain ⟨so, rfl⟩ := out_sl g5
      have hF : dropF q id = { d with q := { d.q with all := IntKind.wrap .i64 (d.q.all - d.n) } } := by
        unfold dropF
        simp only [← hgo]
      refine ⟨_, rawCell_cells mbq rfl, y.a.b, rfl, d.q.all, rawCell_cells mq rfl, d.n, rawCell_cells mbn rfl, _, _, List.Perm.refl _, _, upd_cells (by simp), d.n, rawCell_cells (t := 3) (l := [.int .i64 d.n]) (by simp [boxesOf]) rfl, so.o, so.l, so.c, rawCell_cells (t := 93) (l := [.slice so.o so.l so.c]) (by simp [boxesOf]) rfl, ?_⟩
      refine hR { d with q := { d.q with all := IntKind.wrap .i64 (d.q.all - d.n) } } so.o so.l so.c _ hF.symm ⟨(y.a.b, Blk.cells [.bool d.q.inter, .map (some mi), .slice sl.o sl.l sl.c, .bool d.q.held, .map (some mn), .int .i64 (IntKind.wrap .i64 (d.q.all - d.n))] 123) :: (mi, .map (.one (.int .u16)) fi2 none) :: (mn, .map (.many [.int .u16, .bool]) fn none) :: (Lt ++ Li), Lo ++ boxesOf y.a id d.n (.slice so.o so.l so.c), ?_, ⟨mi, mn, _, fi2, fn, Lt, Li, List.Perm.refl _, g2, g3, g4⟩, ?_⟩
      · simp only [List.set_cons_zero, List.set_cons_succ]
        refine perm_of_sums fun f => ?_
        simp only [List.map_append, List.map_cons, List.map_nil, List.sum_append, List.sum_cons, List.sum_nil, List.append_assoc, List.cons_append, List.nil_append] at *
        omega
      · rcases g5 with h | ⟨b', base', N', cap', c', G', h1, h2, h3, h4⟩
        · exact .inl h
        · exact .inr ⟨b', base', N', cap', c', G' ++ boxesOf y.a id d.n (.slice so.o so.l so.c), h1, h2, h3, by simpa using h4.append_right (boxesOf y.a id d.n (.slice so.o so.l so.c))⟩)
end Go.Proofs.Ythkcfocoekonjaa
