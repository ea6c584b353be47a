/- Drop: slices.DeleteFunc. -/
import Derived.Test.YthkcfocoekonjaaDrB
set_option maxRecDepth 100000
set_option linter.unusedVariables false
set_option linter.unusedSimpArgs false
namespace Go.Proofs.Ythkcfocoekonjaa
open Go Go.Sx
attribute [local irreducible] Go.Sx.xrun

structure IfX where
  i : Nat
  L : Blks
structure DfX where
  i : Nat
  j : Nat
  ps : List Value
  L : Blks
def Ann.setR : List Ent → List Value → List Ent
  | [], _ => []
  | .own b (.tab t base N [.raws _]) :: r, ps => .own b (.tab t base N [.raws ps]) :: r
  | x :: r, ps => x :: Ann.setR r ps
noncomputable def Ann.if86 (len : Nat) (P2 : Nat → Blks → Prop) : FnAnn := ⟨[(15, .to Nat fun b => .val (.pointer (some ⟨b, 0, none⟩)))], [(2, ⟨IfX, [(fun σ y => ⟨σ.n, (8, .val (.int .i64 y.i)) :: keepE σ.env [0, 1, 7], Ann.setE σ.heap 1 (.chunk y.L)⟩, fun _ y => P2 y.i y.L)], fun y => len - y.i⟩)]⟩
noncomputable def Ann.df65 (len : Nat) (P5 : Nat → Nat → List Value → Blks → Prop) : FnAnn := ⟨[(25, .to Nat fun b => .val (.pointer (some ⟨b, 0, none⟩)))], [(5, ⟨DfX, [(fun σ y => ⟨σ.n, (5, .val (.int .i64 y.i)) :: (6, .val (.int .i64 y.j)) :: keepE σ.env [0, 1], Ann.setR (Ann.setE σ.heap 1 (.chunk y.L)) y.ps⟩, fun _ y => P5 y.i y.j y.ps y.L)], fun y => len - y.j⟩)]⟩
noncomputable def dfGoal (a : DA) (b base o N len cap : Nat) (ps : List Value) (L : Blks) (P2 : Nat → Blks → Prop) (P5 : Nat → Nat → List Value → Blks → Prop) (R : Value → Blks → Prop) : Prop :=
  xrun Go.Proofs.Try.prog [(66, dcT)] [(65, Ann.df65 len P5), (86, Ann.if86 len P2)] [] 9 [] 65 [.slc 0 o len cap, .fn 66 [.val (.pointer (some ⟨a.bk, 0, none⟩)), .val (.pointer (some ⟨a.bn, 0, none⟩)), .val (.pointer (some ⟨a.bs, 0, none⟩)), .val (.pointer (some ⟨a.bq, 0, none⟩)), .val (.pointer (some ⟨a.bo, 0, none⟩))]]
    [.own b (.tab 126 base N [.raws ps]), .chunk L] fun s h => R (den (locs h) s) (owned (locs h) h)
/-! DeleteFunc with the drop's closure. -/
noncomputable def dL (x : DS) (l : List QItem) : DS := l.foldl dF x
theorem dF_k (x : DS) (it : QItem) : (dF x it).k = x.k := by unfold dF; split <;> rfl
theorem dL_k : ∀ (l : List QItem) (x : DS), (dL x l).k = x.k
  | [], x => rfl
  | it :: r, x => (dL_k r (dF x it)).trans (dF_k x it)
theorem dF_len (x : DS) (it : QItem) : (dF x it).ds.length ≤ x.ds.length + 1 := by
  unfold dF
  split
  · show (if it.begun = true then x.ds ++ [dcOf x it] else x.ds).length ≤ _
    split <;> simp
  · omega
theorem dL_len : ∀ (l : List QItem) (x : DS), (dL x l).ds.length ≤ x.ds.length + l.length
  | [], x => by simp [dL]
  | it :: r, x => by
    have h1 := dL_len r (dF x it)
    have h2 := dF_len x it
    have e : dL x (it :: r) = dL (dF x it) r := rfl
    rw [e, List.length_cons]
    omega
theorem dL_snoc (x : DS) (l : List QItem) (it : QItem) : dL x (l ++ [it]) = dF (dL x l) it := by simp [dL, List.foldl_append]
theorem dL_miss : ∀ {l : List QItem} {x : DS}, (∀ it ∈ l, it.id ≠ x.k) → dL x l = x
  | [], x, _ => rfl
  | it :: r, x, h => by
    have e : dF x it = x := by rw [dF, if_neg (h it (by simp))]
    show dL (dF x it) r = x
    rw [e]
    exact dL_miss fun y hy => h y (by simp [hy])
theorem SepL.sub {α : Type} {R : α → Blks → Prop} {l' l : List α} (h : l'.Sublist l) : ∀ {L : Blks}, SepL R l L → SepL R l' L := by
  induction h with
  | slnil => intro L h; trivial
  | cons a _ ih =>
    rintro L ⟨L1, L2, h1, -, h3⟩
    exact ((ih h3).more L1).permL (List.perm_append_comm.trans h1.symm)
  | cons_cons a _ ih =>
    rintro L ⟨L1, L2, h1, h2, h3⟩
    exact ⟨L1, L2, h1, h2, ih h3⟩
noncomputable def keepZ (k : Int) (zs : List (QItem × Value)) : List (QItem × Value) := zs.filter fun z => decide (z.1.id ≠ k)
def DfP2 (x : DS) (a : DA) (its : List QItem) (LG : Blks) (i : Nat) (L : Blks) : Prop := i ≤ its.length ∧ (∀ it ∈ its.take i, it.id ≠ x.k) ∧ ∃ Lx, L.Perm (Lx ++ LG) ∧ dState x a Lx
def DfP5 (x : DS) (a : DA) (its : List QItem) (ps : List Value) (o N : Nat) (LG : Blks) (i j : Nat) (ps' : List Value) (L : Blks) : Prop :=
  j ≤ its.length ∧ i ≤ j ∧ i = (keepZ x.k ((its.zip ((ps.drop o).take its.length)).take j)).length ∧ ps'.length = N ∧ (ps'.drop o).take i = (keepZ x.k ((its.zip ((ps.drop o).take its.length)).take j)).map Prod.snd ∧
  (∀ m, j ≤ m → m < its.length → ps'.getD (o + m) .nilIface = ps.getD (o + m) .nilIface) ∧ ∃ Lx, L.Perm (Lx ++ LG) ∧ dState (dL x (its.take j)) a Lx
theorem zip_get {its : List QItem} {ps : List Value} {o N i : Nat} (hN : o + its.length ≤ N) (hp : ps.length = N) (hi : i < its.length) :
    ∃ it, its[i]? = some it ∧ (its.zip ((ps.drop o).take its.length))[i]? = some (it, ps.getD (o + i) .nilIface) ∧ its.take (i + 1) = its.take i ++ [it] ∧
      (its.zip ((ps.drop o).take its.length)).take (i + 1) = (its.zip ((ps.drop o).take its.length)).take i ++ [(it, ps.getD (o + i) .nilIface)] := by
  have h1 : its[i]? = some its[i] := List.getElem?_eq_getElem hi
  have h2 : ((ps.drop o).take its.length)[i]? = some (ps.getD (o + i) .nilIface) := by
    rw [List.getElem?_take_of_lt hi, List.getElem?_drop, List.getD_eq_getElem?_getD, List.getElem?_eq_getElem (show o + i < ps.length by omega)]; rfl
  have h3 : (its.zip ((ps.drop o).take its.length))[i]? = some (its[i], ps.getD (o + i) .nilIface) := by
    rw [List.getElem?_zip_eq_some]; exact ⟨h1, h2⟩
  refine ⟨its[i], h1, h3, ?_, ?_⟩
  · rw [List.take_add_one, h1]; rfl
  · rw [List.take_add_one, h3]; rfl
theorem set_take {ps : List Value} {o i N : Nat} {v : Value} {l : List Value} (h : (ps.drop o).take i = l) (hN : ps.length = N) (hi : o + i < N) : ((ps.set (o + i) v).drop o).take (i + 1) = l ++ [v] := by
  rw [List.take_add_one, List.drop_set, if_neg (by omega), show o + i - o = i by omega, List.take_set_of_le (Nat.le_refl _), h, List.getElem?_set_self (by rw [List.length_drop]; omega)]
  rfl
theorem final_take {ps : List Value} {o i len cap N : Nat} {v : Value} (hi : i ≤ len) (hlc : len ≤ cap) (hN : o + cap ≤ N) (hp : ps.length = N) :
    ((List.take (if cap = i then o else o + i) ps ++ List.replicate (len - i) v ++ List.drop ((if cap = i then o else o + i) + (len - i)) ps).drop o).take i = (ps.drop o).take i ∧
    (List.take (if cap = i then o else o + i) ps ++ List.replicate (len - i) v ++ List.drop ((if cap = i then o else o + i) + (len - i)) ps).length = N := by
  by_cases hc : cap = i
  · rw [if_pos hc, show len - i = 0 by omega, List.replicate_zero, List.append_nil, Nat.add_zero, List.take_append_drop]
    exact ⟨rfl, hp⟩
  · rw [if_neg hc]
    refine ⟨?_, by simp; omega⟩
    rw [List.append_assoc, List.drop_append_of_le_length (by rw [List.length_take]; omega), List.drop_take, List.take_append_of_le_length (by rw [List.length_take, List.length_drop]; omega), show o + i - o = i by omega, List.take_take, Nat.min_self]
theorem df_goal (x : DS) (a : DA) (b base o N len cap : Nat) (its : List QItem) (ps : List Value) (L LG : Blks) (P2 : Nat → Blks → Prop) (P5 : Nat → Nat → List Value → Blks → Prop) (R : Value → Blks → Prop)
    (e2 : P2 = DfP2 x a its LG) (e5 : P5 = DfP5 x a its ps o N LG) (hlen : len = its.length) (hlc : len ≤ cap) (hN : o + cap ≤ N) (hp : ps.length = N) (hsm : x.ds.length + its.length < 1000000)
    (hL : ∃ Lx, L.Perm (Lx ++ LG) ∧ dState x a Lx) (hG : SepL (fun (q : QItem × Value) L => ItemAt q.1 q.2 L) (its.zip ((ps.drop o).take its.length)) LG)
    (hR : ∀ (ps' : List Value) (L' Lx : Blks), ps'.length = N → (ps'.drop o).take (keepZ x.k (its.zip ((ps.drop o).take its.length))).length = (keepZ x.k (its.zip ((ps.drop o).take its.length))).map Prod.snd → L'.Perm (Lx ++ LG) → dState (dL x its) a Lx →
      R (.slice (some ⟨b, base + o, none⟩) (keepZ x.k (its.zip ((ps.drop o).take its.length))).length cap) ((b, .tab 126 base N [.raws ps']) :: L')) : dfGoal a b base o N len cap ps L P2 P5 R :=
  Eq.mpr (by kernel_rfl) (show
  ∃ (x0 : IfX), ((((0 : Int) = (↑x0.1 : Int) ∧ (o = o ∧ len = len ∧ cap = cap) ∧ (Value.pointer (Option.some { block := a.1, off := (0 : Nat) }) = Value.pointer (Option.some { block := a.1, off := (0 : Nat) }) ∧ Value.pointer (Option.some { block := a.2, off := (0 : Nat) }) = Value.pointer (Option.some { block := a.2, off := (0 : Nat) }) ∧ Value.pointer (Option.some { block := a.3, off := (0 : Nat) }) = Value.pointer (Option.some { block := a.3, off := (0 : Nat) }) ∧
  Value.pointer (Option.some { block := a.4, off := (0 : Nat) }) = Value.pointer (Option.some { block := a.4, off := (0 : Nat) }) ∧ Value.pointer (Option.some { block := a.5, off := (0 : Nat) }) = Value.pointer (Option.some { block := a.5, off := (0 : Nat) }) ∧ True) ∧ (↑len : Int) = (↑len : Int) ∧ True) ∧ (b = b ∧ base = base ∧ N = N ∧ ps = ps ∧ True) ∧ L = x0.2 ∧ True) ∧ P2 x0.1 x0.2) ∧ ∀ (x : IfX), P2 x.1 x.2 → ((↑x.1 : Int) < (↑len : Int) → ((0 : Int) ≤ (↑x.1 : Int) ∧ (↑x.1 : Int) < (↑len : Int)) ∧ o + x.1 < N ∧ ∃ (x_1 : Nat),
  (∀ (r : List (Nat × Nat × Nat)), Value.pointer (Option.some { block := x_1, off := (0 : Nat) }) = List.getD ps (o + x.1) Value.nilIface) ∧ ∃ (x_2 : DcX), ∃ (L : List (Nat × Blk)), ∃ (G : List (Nat × Blk)), List.Perm x.2 (L ++ G) ∧ DcPre x_2 [Value.pointer (Option.some { block := x_1, off := (0 : Nat) }), Value.pointer (Option.some { block := a.1, off := (0 : Nat) }), Value.pointer (Option.some { block := a.2, off := (0 : Nat) }), Value.pointer (Option.some { block := a.3, off := (0 : Nat) }),
  Value.pointer (Option.some { block := a.4, off := (0 : Nat) }), Value.pointer (Option.some { block := a.5, off := (0 : Nat) })] L ∧ ∀ (a_3 : Bool) (L' : List (Nat × Blk)), DcPost x_2 a_3 L' → (a_3 = Bool.true → ((↑x.1 : Int) = (-1 : Int) → R (Value.slice (Option.some { block := b, off := (base + o) * (1 : Nat) }) len cap) ((b, Blk.tab (126 : Go.TypeId) base N [Col.raws ps]) :: (L' ++ G ++ []))) ∧ (¬(↑x.1 : Int) = (-1 : Int) → ∃ (x0 : DfX), ((((↑x.1 : Int) = (↑x0.1 : Int) ∧ IntKind.wrap IntKind.i64 ((↑x.1 : Int) + (1 : Int)) = (↑x0.2 : Int) ∧ (o = o ∧ len = len ∧ cap = cap) ∧
  (Value.pointer (Option.some { block := a.1, off := (0 : Nat) }) = Value.pointer (Option.some { block := a.1, off := (0 : Nat) }) ∧ Value.pointer (Option.some { block := a.2, off := (0 : Nat) }) = Value.pointer (Option.some { block := a.2, off := (0 : Nat) }) ∧ Value.pointer (Option.some { block := a.3, off := (0 : Nat) }) = Value.pointer (Option.some { block := a.3, off := (0 : Nat) }) ∧ Value.pointer (Option.some { block := a.4, off := (0 : Nat) }) = Value.pointer (Option.some { block := a.4, off := (0 : Nat) }) ∧ Value.pointer (Option.some { block := a.5, off := (0 : Nat) }) =
  Value.pointer (Option.some { block := a.5, off := (0 : Nat) }) ∧ True) ∧ True) ∧ (b = b ∧ base = base ∧ N = N ∧ ps = x0.3 ∧ True) ∧ L' ++ G = x0.4 ∧ True) ∧ P5 x0.1 x0.2 x0.3 x0.4) ∧ ∀ (x : DfX), P5 x.1 x.2 x.3 x.4 → ((↑x.2 : Int) < (↑len : Int) → ((0 : Int) ≤ (↑x.2 : Int) ∧ (↑x.2 : Int) < (↑len : Int)) ∧ o + x.2 < N ∧ ∃ (x_3 : Nat), (∀ (r : List (Nat × Nat × Nat)), Value.pointer (Option.some { block := x_3, off := (0 : Nat) }) = List.getD x.3 (o + x.2) Value.nilIface) ∧ ∃ (x_4 : DcX), ∃ (L : List (Nat × Blk)), ∃ (G : List (Nat × Blk)), List.Perm x.4 (L ++ G) ∧ DcPre x_4
  [Value.pointer (Option.some { block := x_3, off := (0 : Nat) }), Value.pointer (Option.some { block := a.1, off := (0 : Nat) }), Value.pointer (Option.some { block := a.2, off := (0 : Nat) }), Value.pointer (Option.some { block := a.3, off := (0 : Nat) }), Value.pointer (Option.some { block := a.4, off := (0 : Nat) }), Value.pointer (Option.some { block := a.5, off := (0 : Nat) })] L ∧ ∀ (a_9 : Bool) (L' : List (Nat × Blk)), DcPost x_4 a_9 L' → (a_9 = Bool.false → ((0 : Int) ≤ (↑x.1 : Int) ∧ (↑x.1 : Int) < (↑len : Int)) ∧ o + x.1 < N ∧
  Value.oneCell' (Value.pointer (Option.some { block := x_3, off := (0 : Nat) })) = Bool.true ∧ ∃ (y : DfX), len - y.2 < len - x.2 ∧ ((IntKind.wrap IntKind.i64 ((↑x.1 : Int) + (1 : Int)) = (↑y.1 : Int) ∧ IntKind.wrap IntKind.i64 ((↑x.2 : Int) + (1 : Int)) = (↑y.2 : Int) ∧ (o = o ∧ len = len ∧ cap = cap) ∧ (Value.pointer (Option.some { block := a.1, off := (0 : Nat) }) = Value.pointer (Option.some { block := a.1, off := (0 : Nat) }) ∧ Value.pointer (Option.some { block := a.2, off := (0 : Nat) }) = Value.pointer (Option.some { block := a.2, off := (0 : Nat) }) ∧
  Value.pointer (Option.some { block := a.3, off := (0 : Nat) }) = Value.pointer (Option.some { block := a.3, off := (0 : Nat) }) ∧ Value.pointer (Option.some { block := a.4, off := (0 : Nat) }) = Value.pointer (Option.some { block := a.4, off := (0 : Nat) }) ∧ Value.pointer (Option.some { block := a.5, off := (0 : Nat) }) = Value.pointer (Option.some { block := a.5, off := (0 : Nat) }) ∧ True) ∧ True) ∧ (b = b ∧ base = base ∧ N = N ∧ List.set x.3 (o + x.1) (Value.pointer (Option.some { block := x_3, off := (0 : Nat) })) = y.3 ∧ True) ∧ L' ++ G = y.4 ∧ True) ∧ P5 y.1 y.2 y.3 y.4) ∧
  (¬a_9 = Bool.false → ∃ (y : DfX), len - y.2 < len - x.2 ∧ (((↑x.1 : Int) = (↑y.1 : Int) ∧ IntKind.wrap IntKind.i64 ((↑x.2 : Int) + (1 : Int)) = (↑y.2 : Int) ∧ (o = o ∧ len = len ∧ cap = cap) ∧ (Value.pointer (Option.some { block := a.1, off := (0 : Nat) }) = Value.pointer (Option.some { block := a.1, off := (0 : Nat) }) ∧ Value.pointer (Option.some { block := a.2, off := (0 : Nat) }) = Value.pointer (Option.some { block := a.2, off := (0 : Nat) }) ∧ Value.pointer (Option.some { block := a.3, off := (0 : Nat) }) = Value.pointer (Option.some { block := a.3, off := (0 : Nat) }) ∧
  Value.pointer (Option.some { block := a.4, off := (0 : Nat) }) = Value.pointer (Option.some { block := a.4, off := (0 : Nat) }) ∧ Value.pointer (Option.some { block := a.5, off := (0 : Nat) }) = Value.pointer (Option.some { block := a.5, off := (0 : Nat) }) ∧ True) ∧ True) ∧ (b = b ∧ base = base ∧ N = N ∧ x.3 = y.3 ∧ True) ∧ L' ++ G = y.4 ∧ True) ∧ P5 y.1 y.2 y.3 y.4)) ∧ (¬(↑x.2 : Int) < (↑len : Int) → ((0 : Int) ≤ (↑x.1 : Int) ∧ (↑x.1 : Int) ≤ (↑len : Int)) ∧ (if cap = x.1 then o else o + x.1) + (len - x.1) ≤ N ∧ ((0 : Int) ≤ (↑x.1 : Int) ∧ (↑x.1 : Int) ≤ (↑cap : Int)) ∧
  R (Value.slice (Option.some { block := b, off := (base + o) * (1 : Nat) }) x.1 cap) ((b, Blk.tab (126 : Go.TypeId) base N [Col.raws (List.take (if cap = x.1 then o else o + x.1) x.3 ++ List.replicate (len - x.1) (Value.pointer Option.none) ++ List.drop ((if cap = x.1 then o else o + x.1) + (len - x.1)) x.3)]) :: (x.4 ++ []))))) ∧ (¬a_3 = Bool.true → ∃ (y : IfX), len - y.1 < len - x.1 ∧ ((IntKind.wrap IntKind.i64 ((↑x.1 : Int) + (1 : Int)) = (↑y.1 : Int) ∧ (o = o ∧ len = len ∧ cap = cap) ∧
  (Value.pointer (Option.some { block := a.1, off := (0 : Nat) }) = Value.pointer (Option.some { block := a.1, off := (0 : Nat) }) ∧ Value.pointer (Option.some { block := a.2, off := (0 : Nat) }) = Value.pointer (Option.some { block := a.2, off := (0 : Nat) }) ∧ Value.pointer (Option.some { block := a.3, off := (0 : Nat) }) = Value.pointer (Option.some { block := a.3, off := (0 : Nat) }) ∧ Value.pointer (Option.some { block := a.4, off := (0 : Nat) }) = Value.pointer (Option.some { block := a.4, off := (0 : Nat) }) ∧
  Value.pointer (Option.some { block := a.5, off := (0 : Nat) }) = Value.pointer (Option.some { block := a.5, off := (0 : Nat) }) ∧ True) ∧ (↑len : Int) = (↑len : Int) ∧ True) ∧ (b = b ∧ base = base ∧ N = N ∧ ps = ps ∧ True) ∧ L' ++ G = y.2 ∧ True) ∧ P2 y.1 y.2)) ∧ (¬(↑x.1 : Int) < (↑len : Int) → ((-1 : Int) = (-1 : Int) → R (Value.slice (Option.some { block := b, off := (base + o) * (1 : Nat) }) len cap) ((b, Blk.tab (126 : Go.TypeId) base N [Col.raws ps]) :: (x.2 ++ []))) ∧ (¬(-1 : Int) = (-1 : Int) → ∃ (x0 : DfX), ((((-1 : Int) = (↑x0.1 : Int) ∧
  IntKind.wrap IntKind.i64 ((-1 : Int) + (1 : Int)) = (↑x0.2 : Int) ∧ (o = o ∧ len = len ∧ cap = cap) ∧ (Value.pointer (Option.some { block := a.1, off := (0 : Nat) }) = Value.pointer (Option.some { block := a.1, off := (0 : Nat) }) ∧ Value.pointer (Option.some { block := a.2, off := (0 : Nat) }) = Value.pointer (Option.some { block := a.2, off := (0 : Nat) }) ∧ Value.pointer (Option.some { block := a.3, off := (0 : Nat) }) = Value.pointer (Option.some { block := a.3, off := (0 : Nat) }) ∧
  Value.pointer (Option.some { block := a.4, off := (0 : Nat) }) = Value.pointer (Option.some { block := a.4, off := (0 : Nat) }) ∧ Value.pointer (Option.some { block := a.5, off := (0 : Nat) }) = Value.pointer (Option.some { block := a.5, off := (0 : Nat) }) ∧ True) ∧ True) ∧ (b = b ∧ base = base ∧ N = N ∧ ps = x0.3 ∧ True) ∧ x.2 = x0.4 ∧ True) ∧ P5 x0.1 x0.2 x0.3 x0.4) ∧ ∀ (x : DfX), P5 x.1 x.2 x.3 x.4 → ((↑x.2 : Int) < (↑len : Int) → ((0 : Int) ≤ (↑x.2 : Int) ∧ (↑x.2 : Int) < (↑len : Int)) ∧ o + x.2 < N ∧ ∃ (x_1 : Nat),
  (∀ (r : List (Nat × Nat × Nat)), Value.pointer (Option.some { block := x_1, off := (0 : Nat) }) = List.getD x.3 (o + x.2) Value.nilIface) ∧ ∃ (x_2 : DcX), ∃ (L : List (Nat × Blk)), ∃ (G : List (Nat × Blk)), List.Perm x.4 (L ++ G) ∧ DcPre x_2 [Value.pointer (Option.some { block := x_1, off := (0 : Nat) }), Value.pointer (Option.some { block := a.1, off := (0 : Nat) }), Value.pointer (Option.some { block := a.2, off := (0 : Nat) }), Value.pointer (Option.some { block := a.3, off := (0 : Nat) }),
  Value.pointer (Option.some { block := a.4, off := (0 : Nat) }), Value.pointer (Option.some { block := a.5, off := (0 : Nat) })] L ∧ ∀ (a_6 : Bool) (L' : List (Nat × Blk)), DcPost x_2 a_6 L' → (a_6 = Bool.false → ((0 : Int) ≤ (↑x.1 : Int) ∧ (↑x.1 : Int) < (↑len : Int)) ∧ o + x.1 < N ∧ Value.oneCell' (Value.pointer (Option.some { block := x_1, off := (0 : Nat) })) = Bool.true ∧ ∃ (y : DfX), len - y.2 < len - x.2 ∧ ((IntKind.wrap IntKind.i64 ((↑x.1 : Int) + (1 : Int)) = (↑y.1 : Int) ∧ IntKind.wrap IntKind.i64 ((↑x.2 : Int) + (1 : Int)) = (↑y.2 : Int) ∧ (o = o ∧ len = len ∧ cap = cap) ∧
  (Value.pointer (Option.some { block := a.1, off := (0 : Nat) }) = Value.pointer (Option.some { block := a.1, off := (0 : Nat) }) ∧ Value.pointer (Option.some { block := a.2, off := (0 : Nat) }) = Value.pointer (Option.some { block := a.2, off := (0 : Nat) }) ∧ Value.pointer (Option.some { block := a.3, off := (0 : Nat) }) = Value.pointer (Option.some { block := a.3, off := (0 : Nat) }) ∧ Value.pointer (Option.some { block := a.4, off := (0 : Nat) }) = Value.pointer (Option.some { block := a.4, off := (0 : Nat) }) ∧ Value.pointer (Option.some { block := a.5, off := (0 : Nat) }) =
  Value.pointer (Option.some { block := a.5, off := (0 : Nat) }) ∧ True) ∧ True) ∧ (b = b ∧ base = base ∧ N = N ∧ List.set x.3 (o + x.1) (Value.pointer (Option.some { block := x_1, off := (0 : Nat) })) = y.3 ∧ True) ∧ L' ++ G = y.4 ∧ True) ∧ P5 y.1 y.2 y.3 y.4) ∧ (¬a_6 = Bool.false → ∃ (y : DfX), len - y.2 < len - x.2 ∧ (((↑x.1 : Int) = (↑y.1 : Int) ∧ IntKind.wrap IntKind.i64 ((↑x.2 : Int) + (1 : Int)) = (↑y.2 : Int) ∧ (o = o ∧ len = len ∧ cap = cap) ∧ (Value.pointer (Option.some { block := a.1, off := (0 : Nat) }) = Value.pointer (Option.some { block := a.1, off := (0 : Nat) }) ∧
  Value.pointer (Option.some { block := a.2, off := (0 : Nat) }) = Value.pointer (Option.some { block := a.2, off := (0 : Nat) }) ∧ Value.pointer (Option.some { block := a.3, off := (0 : Nat) }) = Value.pointer (Option.some { block := a.3, off := (0 : Nat) }) ∧ Value.pointer (Option.some { block := a.4, off := (0 : Nat) }) = Value.pointer (Option.some { block := a.4, off := (0 : Nat) }) ∧ Value.pointer (Option.some { block := a.5, off := (0 : Nat) }) = Value.pointer (Option.some { block := a.5, off := (0 : Nat) }) ∧ True) ∧ True) ∧
  (b = b ∧ base = base ∧ N = N ∧ x.3 = y.3 ∧ True) ∧ L' ++ G = y.4 ∧ True) ∧ P5 y.1 y.2 y.3 y.4)) ∧ (¬(↑x.2 : Int) < (↑len : Int) → ((0 : Int) ≤ (↑x.1 : Int) ∧ (↑x.1 : Int) ≤ (↑len : Int)) ∧ (if cap = x.1 then o else o + x.1) + (len - x.1) ≤ N ∧ ((0 : Int) ≤ (↑x.1 : Int) ∧ (↑x.1 : Int) ≤ (↑cap : Int)) ∧ R (Value.slice (Option.some { block := b, off := (base + o) * (1 : Nat) }) x.1 cap) ((b, Blk.tab (126 : Go.TypeId) base N [Col.raws (List.take (if cap = x.1 then o else o + x.1) x.3 ++ List.replicate (len - x.1) (Value.pointer Option.none) ++
  List.drop ((if cap = x.1 then o else o + x.1) + (len - x.1)) x.3)]) :: (x.4 ++ []))))) from by
  subst hlen e2 e5
  simp only [eq_self, true_and, and_true, false_and, and_false, or_false, false_or, and_self, Nat.zero_add, Nat.add_zero, Nat.sub_zero, Nat.zero_mul, Nat.mul_one, Int.toNat_natCast, cond_true, cond_false, forall_const, implies_true, Nat.beq_refl, ne_eq, not_false_eq_true, not_true_eq_false, Classical.not_not, List.cons.injEq, List.append_nil, List.nil_append, Go.Value.int.injEq, Go.Value.bool.injEq, Go.Value.slice.injEq, Nat.le_refl, Nat.zero_le, Go.Sx.one_int, Go.Sx.one_bool, Go.Sx.one_slice, Go.Sx.one_ptr, Go.Sx.one_map, Int.cast_ofNat_Int, reduceCtorEq, Nat.reduceLeDiff, Nat.reduceMul, Nat.reduceAdd, Nat.reduceSub, Nat.reduceEqDiff, Int.reduceLE, Int.reduceLT, Int.reduceEq, Int.reduceAdd, Int.reduceSub, Int.reduceNeg, Int.reduceMul, Nat.reduceBEq]
  have hzl : (its.zip ((ps.drop o).take its.length)).length = its.length := by rw [List.length_zip, List.length_take, List.length_drop]; omega
  have hzt : ∀ j, j ≤ its.length → ((its.zip ((ps.drop o).take its.length)).take j).map Prod.fst = its.take j := fun j hj => by
    rw [List.map_take, List.map_fst_zip (by rw [List.length_take, List.length_drop]; omega)]
  have hzs : ∀ j, ((its.zip ((ps.drop o).take its.length)).take j).map Prod.snd = (ps.drop o).take (min j its.length) := fun j => by
    rw [List.map_take, List.map_snd_zip (by rw [List.length_take]; omega), List.take_take]
  refine ⟨⟨0, L⟩, ⟨⟨rfl, rfl⟩, by show 0 ≤ _; omega, by simp, hL⟩, fun y ⟨h1, h2, Lx, h3, h4⟩ => ⟨fun hlt => ?_, fun hge => ?_⟩⟩
  · obtain ⟨it, g1, g2, g3, g4⟩ := zip_get (its := its) (ps := ps) (N := N) (o := o) (i := y.1) (by omega) hp (by omega)
    obtain ⟨Li, L2, g5, g6⟩ := SepL.get hG g2
    obtain ⟨ib, iv, iL, gp, gw, gpp⟩ := id g6
    refine ⟨by omega, by omega, ib, gp.symm, ⟨x, a, it, ps.getD (o + y.1) .nilIface, Li⟩, Lx ++ Li, L2, ?_, ⟨?_, by show x.ds.length < _; omega, g6, Lx, List.Perm.refl _, h4⟩, fun r L' ⟨k1, La, k2, k3⟩ => ⟨fun hr => ⟨fun h => h.elim, ⟨y.1, y.1 + 1, ps, L' ++ L2⟩, ⟨⟨⟨rfl, ix_succ (n := its.length) (by omega) (by omega)⟩, rfl, rfl⟩, ?_⟩, ?_⟩, fun hr => ⟨⟨y.1 + 1, L' ++ L2⟩, by show _ - (y.1 + 1) < _; omega, ⟨ix_succ (n := its.length) (by omega) (by omega), rfl⟩, by show y.1 + 1 ≤ _; omega, ?_, La, ?_, ?_⟩⟩⟩
    · exact h3.trans (by rw [List.append_assoc]; exact g5.append_left Lx)
    · rw [← gp]; rfl
    · have hid : it.id = x.k := by rw [hr] at k1; exact of_decide_eq_true k1.symm
      have hmiss : keepZ x.k ((its.zip ((ps.drop o).take its.length)).take y.1) = (its.zip ((ps.drop o).take its.length)).take y.1 := by
        refine List.filter_eq_self.2 fun z hz => decide_eq_true ?_
        refine h2 z.1 ?_
        rw [← hzt y.1 h1]
        exact List.mem_map_of_mem hz
      have hk : keepZ x.k ((its.zip ((ps.drop o).take its.length)).take (y.1 + 1)) = (its.zip ((ps.drop o).take its.length)).take y.1 := by
        rw [g4, keepZ, List.filter_append, List.filter_cons_of_neg (by simp [hid]), List.filter_nil, List.append_nil]; exact hmiss
      refine ⟨by show y.1 + 1 ≤ _; omega, by show y.1 ≤ y.1 + 1; omega, ?_, hp, ?_, fun _ _ _ => rfl, La, ?_, ?_⟩
      · show y.1 = _
        rw [hk, List.length_take]; omega
      · show (ps.drop o).take y.1 = _
        rw [hk, hzs, Nat.min_eq_left h1]
      · show (L' ++ L2).Perm _
        refine (k2.append_right L2).trans ?_
        rw [List.append_assoc]
        exact g5.symm.append_left La
      · show dState (dL x (its.take (y.1 + 1))) a La
        rw [g3, dL_snoc, dL_miss h2]
        exact k3
    · intro z ⟨q1, q2, q3, q4, q5, q6, Lz, q7, q8⟩
      refine ⟨fun hlt2 => ?_, fun hge2 => ?_⟩
      · obtain ⟨it2, g1', g2', g3', g4'⟩ := zip_get (its := its) (ps := ps) (N := N) (o := o) (i := z.2) (by omega) hp (by omega)
        obtain ⟨Li2, L22, g5', g6'⟩ := SepL.get hG g2'
        obtain ⟨ib2, iv2, iL2, gp2, gw2, gpp2⟩ := id g6'
        have hget := q6 z.2 (Nat.le_refl _) (by omega)
        have hdl := dL_len (its.take z.2) x
        rw [List.length_take] at hdl
        refine ⟨by omega, by omega, ib2, (hget.trans gp2).symm, ⟨dL x (its.take z.2), a, it2, ps.getD (o + z.2) .nilIface, Li2⟩, Lz ++ Li2, L22, ?_, ⟨?_, by show (dL x (its.take z.2)).ds.length < _; omega, g6', Lz, List.Perm.refl _, q8⟩, fun r2 L2' ⟨k1', La2, k2', k3'⟩ => ?_⟩
        · exact q7.trans (by rw [List.append_assoc]; exact g5'.append_left Lz)
        · rw [← gp2]; rfl
        · have hkk : (dL x (its.take z.2)).k = x.k := dL_k _ _
          have hperm : (L2' ++ L22).Perm (La2 ++ LG) := (k2'.append_right L22).trans (by rw [List.append_assoc]; exact g5'.symm.append_left La2)
          have hst : dState (dL x (its.take (z.2 + 1))) a La2 := by rw [g3', dL_snoc]; exact k3'
          refine ⟨fun hr2 => ⟨by omega, by omega, ⟨z.1 + 1, z.2 + 1, z.3.set (o + z.1) (.pointer (some ⟨ib2, 0, none⟩)), L2' ++ L22⟩, by show _ - (z.2 + 1) < _; omega, ⟨⟨ix_succ (n := its.length) (by omega) (by omega), ix_succ (n := its.length) (by omega) (by omega)⟩, rfl, rfl⟩, by show z.2 + 1 ≤ _; omega, by show z.1 + 1 ≤ z.2 + 1; omega, ?_, ?_, ?_, ?_, La2, hperm, hst⟩,
            fun hr2 => ⟨⟨z.1, z.2 + 1, z.3, L2' ++ L22⟩, by show _ - (z.2 + 1) < _; omega, ⟨⟨rfl, ix_succ (n := its.length) (by omega) (by omega)⟩, rfl, rfl⟩, by show z.2 + 1 ≤ _; omega, by show z.1 ≤ z.2 + 1; omega, ?_, q4, ?_, fun m hm1 hm2 => q6 m (by have : z.2 + 1 ≤ m := hm1; omega) hm2, La2, hperm, hst⟩⟩
          · skip
            have hid : it2.id ≠ x.k := by rw [hr2] at k1'; have := of_decide_eq_false k1'.symm; rwa [hkk] at this
            have hk : keepZ x.k ((its.zip ((ps.drop o).take its.length)).take (z.2 + 1)) = keepZ x.k ((its.zip ((ps.drop o).take its.length)).take z.2) ++ [(it2, ps.getD (o + z.2) .nilIface)] := by
              rw [g4', keepZ, List.filter_append, List.filter_cons_of_pos (by simp [hid]), List.filter_nil]; rfl
            show z.1 + 1 = _
            rw [hk, List.length_append, List.length_singleton, ← q3]
          · show (z.3.set _ _).length = N
            rw [List.length_set]; exact q4
          · skip
            have hid : it2.id ≠ x.k := by rw [hr2] at k1'; have := of_decide_eq_false k1'.symm; rwa [hkk] at this
            have hk : keepZ x.k ((its.zip ((ps.drop o).take its.length)).take (z.2 + 1)) = keepZ x.k ((its.zip ((ps.drop o).take its.length)).take z.2) ++ [(it2, ps.getD (o + z.2) .nilIface)] := by
              rw [g4', keepZ, List.filter_append, List.filter_cons_of_pos (by simp [hid]), List.filter_nil]; rfl
            show ((z.3.set (o + z.1) _).drop o).take (z.1 + 1) = _
            rw [hk, List.map_append, set_take q5 q4 (by omega)]
            exact congrArg (fun v => _ ++ [v]) gp2.symm
          · intro m hm1 hm2
            have hm1 : z.2 + 1 ≤ m := hm1
            show (z.3.set (o + z.1) _).getD (o + m) _ = _
            rw [Go.Sx.getD_set_ne _ _ _ (by omega)]
            exact q6 m (by omega) hm2
          · skip
            have hid : it2.id = x.k := by
              have h : r2 = true := by simpa using hr2
              rw [h] at k1'; have := of_decide_eq_true k1'.symm; rwa [hkk] at this
            have hk : keepZ x.k ((its.zip ((ps.drop o).take its.length)).take (z.2 + 1)) = keepZ x.k ((its.zip ((ps.drop o).take its.length)).take z.2) := by
              rw [g4', keepZ, List.filter_append, List.filter_cons_of_neg (by simp [hid]), List.filter_nil, List.append_nil]; rfl
            show z.1 = _
            rw [hk]; exact q3
          · skip
            have hid : it2.id = x.k := by
              have h : r2 = true := by simpa using hr2
              rw [h] at k1'; have := of_decide_eq_true k1'.symm; rwa [hkk] at this
            have hk : keepZ x.k ((its.zip ((ps.drop o).take its.length)).take (z.2 + 1)) = keepZ x.k ((its.zip ((ps.drop o).take its.length)).take z.2) := by
              rw [g4', keepZ, List.filter_append, List.filter_cons_of_neg (by simp [hid]), List.filter_nil, List.append_nil]; rfl
            show (z.3.drop o).take z.1 = _
            rw [hk]; exact q5
      · have hj : z.2 = its.length := by omega
        have htk : (its.zip ((ps.drop o).take its.length)).take z.2 = its.zip ((ps.drop o).take its.length) := List.take_of_length_le (by rw [hzl, hj]; omega)
        have hfin := final_take (ps := z.3) (o := o) (i := z.1) (len := its.length) (cap := cap) (N := N) (v := .pointer none) (by omega) hlc hN q4
        rw [htk] at q3 q5
        have hdl : dL x (its.take z.2) = dL x its := by rw [List.take_of_length_le (by omega)]
        rw [hdl] at q8
        refine ⟨by omega, ?_, by omega, ?_⟩
        · by_cases hc : cap = z.1
          · rw [if_pos hc]; omega
          · rw [if_neg hc]; omega
        · have := hR _ z.4 Lz hfin.2 (by rw [← q3, hfin.1]; exact q5) q7 q8
          rw [← q3] at this
          exact this
    · show ∀ it' ∈ its.take (y.1 + 1), it'.id ≠ x.k
      intro it' hit
      rw [g3, List.mem_append, List.mem_singleton] at hit
      have hr' : r = false := by simpa using hr
      rw [hr'] at k1
      rcases hit with h | rfl
      · exact h2 it' h
      · exact of_decide_eq_false k1.symm
    · show (L' ++ L2).Perm _
      refine (k2.append_right L2).trans ?_
      rw [List.append_assoc]
      exact g5.symm.append_left La
    · have hr' : r = false := by simpa using hr
      rw [hr'] at k1
      have hne : it.id ≠ x.k := of_decide_eq_false k1.symm
      have e : dF x it = x := by rw [dF, if_neg hne]
      rw [← e]; exact k3
  · have hi : y.1 = its.length := by omega
    have hall : ∀ it ∈ its, it.id ≠ x.k := fun it hit => h2 it (by rw [hi, List.take_length]; exact hit)
    have hk : keepZ x.k (its.zip ((ps.drop o).take its.length)) = its.zip ((ps.drop o).take its.length) := by
      refine List.filter_eq_self.2 fun z hz => decide_eq_true ?_
      exact hall z.1 (List.of_mem_zip hz).1
    have := hR ps y.2 Lx hp (by rw [hk, hzl, List.map_snd_zip (by rw [List.length_take]; omega)]) h3 (by rw [dL_miss hall]; exact h4)
    rw [hk, hzl] at this
    exact ⟨this, fun h => h.elim⟩)
end Go.Proofs.Ythkcfocoekonjaa
