/- Symbolic values, blocks, ownership of blocks: the words of the symbolic executor. -/
import Derived.Orders
import Derived.KernelRfl
import Derived.Laws.Sem
import Derived.OrdersHeld
set_option linter.unusedVariables false
set_option linter.unusedSimpArgs false
namespace Go.Sx
open Classical

/-- A column of a table: one cell of each element. -/
inductive Col where
  | ints (k : IntKind) (xs : List Int)
  | bools (xs : List Bool)
  | raws (xs : List Value)

def Col.len : Col → Nat
  | .ints _ xs => xs.length
  | .bools xs => xs.length
  | .raws xs => xs.length
def Col.get : Col → Nat → Value
  | .ints k xs, i => .int k (xs.getD i 0)
  | .bools xs, i => .bool (xs.getD i false)
  | .raws xs, i => xs.getD i .nilIface

/-- The shape of a map's keys. -/
inductive KS where
  | int (k : IntKind)
  | bool
  | str
inductive KShape where
  | one (s : KS)
  | many (l : List KS)
def KS.is : KS → Value → Prop
  | .int k, .int k' _ => k = k'
  | .bool, .bool _ => True
  | .str, .string _ => True
  | _, _ => False
def KS.all : List KS → List Value → Prop
  | [], [] => True
  | s :: ss, v :: vs => s.is v ∧ KS.all ss vs
  | _, _ => False
def KShape.is : KShape → Value → Prop
  | .one s, v => s.is v
  | .many l, .agg cs => KS.all l cs.toList
  | _, _ => False

noncomputable def getM (es : List MapEntry) (k : Value) : Option Value := (es.find? fun e => decide (e.key = k)).map (·.val)
noncomputable def updM (m : Value → Option Value) (k v : Value) : Value → Option Value := fun x => if x = k then some v else m x
noncomputable def delM (m : Value → Option Value) (k : Value) : Value → Option Value := fun x => if x = k then none else m x

structure GoodMap (ks : KShape) (es : Array MapEntry) (clock : Nat) : Prop where
  keys : ∀ e ∈ es.toList, ks.is e.key
  nodup : (es.toList.map (·.key)).Nodup
  born : (es.toList.map (·.born)).Nodup
  old : ∀ e ∈ es.toList, e.born < clock

/-- What a block holds. -/
inductive Blk where
  | cells (l : List Value) (t : TypeId)
  | tab (t : TypeId) (base len : Nat) (cols : List Col)
  | map (ks : KShape) (m : Value → Option Value) (st : Option (Value × Int))
  | obj (o : Obj)

def Blk.holds : Blk → Obj → Prop
  | .cells l t, o => o = .cells l.toArray t (0, 0)
  | .tab t base len cols, o => ∃ arr lo hi, o = .cells arr t (lo, hi) ∧ (∀ c ∈ cols, c.len = len ∧ ∀ i, i < len → (c.get i).oneCell' = true) ∧
      (∀ i j c, i < len → cols[j]? = some c → arr[(base + i) * cols.length + j]? = some (c.get i)) ∧
      (∀ x, base * cols.length ≤ x → x < (base + len) * cols.length → ¬ (lo ≤ x ∧ x < hi))
  | .map ks m st, o => ∃ es clock, o = .map es clock ∧ GoodMap ks es clock ∧ (∀ k, m k = getM es.toList k) ∧ ∀ k s, st = some (k, s) → ∃ e ∈ es.toList, e.key = k ∧ (e.born : Int) = s
  | .obj o', o => o = o'

def Owns (w : World) (L : List (Nat × Blk)) : Prop :=
  (∀ p ∈ L, ∃ o, w.heap[p.1]? = some o ∧ p.2.holds o) ∧ (L.map Prod.fst).Nodup

structure Rest (w w' : World) : Prop where
  os : w'.os = w.os
  tape : w'.tape = w.tape
  output : w'.output = w.output
  size : w.heap.size ≤ w'.heap.size

theorem Rest.refl (w : World) : Rest w w := ⟨rfl, rfl, rfl, Nat.le_refl _⟩
theorem Rest.trans {a b c : World} (h : Rest a b) (k : Rest b c) : Rest a c :=
  ⟨k.os.trans h.os, k.tape.trans h.tape, k.output.trans h.output, Nat.le_trans h.size k.size⟩

theorem Owns.perm {w : World} {L L' : List (Nat × Blk)} (h : Owns w L) (p : L.Perm L') : Owns w L' :=
  ⟨fun x hx => h.1 x (p.mem_iff.2 hx), (p.map Prod.fst).nodup_iff.1 h.2⟩
theorem Owns.sub {w : World} {L L' : List (Nat × Blk)} (h : Owns w L) (p : L'.Sublist L) : Owns w L' :=
  ⟨fun x hx => h.1 x (p.subset hx), (p.map Prod.fst).nodup h.2⟩
theorem Owns.get {w : World} {L : List (Nat × Blk)} (h : Owns w L) {b : Nat} {k : Blk} (hm : (b, k) ∈ L) : ∃ o, w.heap[b]? = some o ∧ k.holds o := h.1 _ hm
theorem Owns.lt {w : World} {L : List (Nat × Blk)} (h : Owns w L) {b : Nat} (hm : b ∈ L.map Prod.fst) : b < w.heap.size := by
  obtain ⟨p, hp, rfl⟩ := List.mem_map.1 hm
  obtain ⟨o, ho, _⟩ := h.1 p hp
  exact (Array.getElem?_eq_some_iff.1 ho).1

/-- One block is written: the others stay. -/
theorem Owns.write {w w' : World} {A B : List (Nat × Blk)} {b : Nat} {k k' : Blk} (h : Owns w (A ++ (b, k) :: B))
    (ho : ∃ o, w'.heap[b]? = some o ∧ k'.holds o) (hs : ∀ c, c ≠ b → w'.heap[c]? = w.heap[c]?) : Owns w' (A ++ (b, k') :: B) := by
  have hnd := h.2
  refine ⟨fun p hp => ?_, by simpa using hnd⟩
  rw [List.mem_append, List.mem_cons] at hp
  simp only [List.map_append, List.map_cons, List.nodup_append, List.nodup_cons] at hnd
  rcases hp with hp | rfl | hp
  · have hne : p.1 ≠ b := fun e => hnd.2.2 p.1 (List.mem_map_of_mem hp) b (by simp) e
    rw [hs _ hne]
    exact h.1 p (by simp [hp])
  · exact ho
  · have hne : p.1 ≠ b := fun e => hnd.2.1.1 (e ▸ List.mem_map_of_mem hp)
    rw [hs _ hne]
    exact h.1 p (by simp [hp])

/-- A new block. -/
theorem Owns.alloc {w : World} {A B : List (Nat × Blk)} {o : Obj} {k : Blk} (h : Owns w (A ++ B)) (hk : k.holds o) :
    Owns { w with heap := w.heap.push o } (A ++ (w.heap.size, k) :: B) := by
  refine ⟨fun p hp => ?_, ?_⟩
  · rw [List.mem_append, List.mem_cons] at hp
    have old : p ∈ A ++ B → ∃ o', (w.heap.push o)[p.1]? = some o' ∧ p.2.holds o' := fun hm => by
      obtain ⟨o', h1, h2⟩ := h.1 p hm
      have := (Array.getElem?_eq_some_iff.1 h1).1
      exact ⟨o', by rw [Array.getElem?_push, if_neg (by omega)]; exact h1, h2⟩
    rcases hp with hp | rfl | hp
    · exact old (by simp [hp])
    · exact ⟨o, by simp, hk⟩
    · exact old (by simp [hp])
  · have hp : (A ++ (w.heap.size, k) :: B).Perm ((w.heap.size, k) :: (A ++ B)) := List.perm_middle
    refine ((hp.map Prod.fst).nodup_iff).2 ?_
    simp only [List.map_cons, List.nodup_cons]
    exact ⟨fun hm => Nat.lt_irrefl _ (h.lt hm), h.2⟩

/-- Symbolic values. A pointer names a POSITION in the symbolic heap. -/
inductive SV where
  | top
  | val (v : Value)
  | tt
  | ff
  | prop (p : Prop)
  | ptr (n i j : Nat)
  | slc (n o len cap : Nat)
  | mp (n : Nat)
  | agg (l : List SV)
  | tup (l : List SV)
  | ifc (t : TypeId) (v : SV)
  | fn (f : FuncId) (caps : List SV)
  | arr (k : IntKind) (l : List Int)
  | sl (o : Option Addr) (len cap : Nat)
  | bfn (f : FuncId) (first : List SV)

abbrev Loc := Nat × Nat × Nat      -- block, base, width

def locAt : List Loc → Nat → Loc
  | [], _ => (0, 0, 0)
  | l :: _, 0 => l
  | _ :: r, n + 1 => locAt r n

mutual
noncomputable def den (ρ : List Loc) : SV → Value
  | .top => .nilIface
  | .val v => v
  | .tt => .bool true
  | .ff => .bool false
  | .prop p => .bool (decide p)
  | .ptr n i j => .pointer (some ⟨(locAt ρ n).1, ((locAt ρ n).2.1 + i) * (locAt ρ n).2.2 + j, none⟩)
  | .slc n o len cap => .slice (some ⟨(locAt ρ n).1, ((locAt ρ n).2.1 + o) * (locAt ρ n).2.2, none⟩) len cap
  | .mp n => .map (some (locAt ρ n).1)
  | .agg l => .agg (denL ρ l).toArray
  | .tup l => .tuple (denL ρ l).toArray
  | .ifc t v => .iface t (den ρ v)
  | .fn f caps => .func (.func f) #[] (denL ρ caps).toArray
  | .arr k l => .agg (l.map (Value.int k)).toArray
  | .sl o l c => .slice o l c
  | .bfn f first => .func (.func f) (denL ρ first).toArray #[]
noncomputable def denL (ρ : List Loc) : List SV → List Value
  | [] => []
  | v :: r => den ρ v :: denL ρ r
end

theorem denL_eq (ρ : List Loc) (l : List SV) : denL ρ l = l.map (den ρ) := by
  induction l with
  | nil => rfl
  | cons a r ih => simp [denL, ih]

/-- What the symbolic heap says of one block. -/
inductive SBlk where
  | cells (wd : Nat) (l : List SV) (t : TypeId)
  | tab (t : TypeId) (base len : Nat) (cols : List Col)
  | map (ks : KShape) (m : Value → Option Value) (st : Option (Value × Int))
  | obj (o : Obj)

inductive Ent where
  | own (b : Nat) (k : SBlk)
  | ro (b : Nat) (k : SBlk)
  | chunk (L : List (Nat × Blk))
  | gone (l : Loc)

def SBlk.base : SBlk → Nat
  | .tab _ base _ _ => base
  | _ => 0
def SBlk.wd : SBlk → Nat
  | .cells wd _ _ => wd
  | .tab _ _ _ cols => cols.length
  | _ => 1
def Ent.loc : Ent → Loc
  | .own b k => (b, k.base, k.wd)
  | .ro b k => (b, k.base, k.wd)
  | .chunk _ => (0, 0, 0)
  | .gone l => l
def locs : List Ent → List Loc
  | [] => []
  | e :: r => e.loc :: locs r
theorem locs_eq (h : List Ent) : locs h = h.map Ent.loc := by
  induction h with
  | nil => rfl
  | cons a r ih => simp [locs, ih]

noncomputable def SBlk.den (ρ : List Loc) : SBlk → Blk
  | .cells _ l t => .cells (denL ρ l) t
  | .tab t base len cols => .tab t base len cols
  | .map ks m st => .map ks m st
  | .obj o => .obj o

noncomputable def Ent.blocks (ρ : List Loc) : Ent → List (Nat × Blk)
  | .own b k => [(b, k.den ρ)]
  | .chunk L => L
  | _ => []
noncomputable def owned (ρ : List Loc) : List Ent → List (Nat × Blk)
  | [] => []
  | e :: r => e.blocks ρ ++ owned ρ r
theorem owned_append (ρ : List Loc) (a b : List Ent) : owned ρ (a ++ b) = owned ρ a ++ owned ρ b := by
  induction a with
  | nil => rfl
  | cons x r ih => simp [owned, ih]

/-- The heap `h'` knows every position of `h`, at the same place. -/
def Ext (h h' : List Ent) : Prop := ∃ r, locs h' = locs h ++ r
theorem Ext.refl (h : List Ent) : Ext h h := ⟨[], by simp⟩
theorem Ext.trans {a b c : List Ent} (h : Ext a b) (k : Ext b c) : Ext a c := by
  obtain ⟨r, hr⟩ := h
  obtain ⟨s, hs⟩ := k
  exact ⟨r ++ s, by rw [hs, hr, List.append_assoc]⟩

/-- The symbolic value stands for `v`, however far the heap grows. -/
def Std (h : List Ent) (s : SV) (v : Value) : Prop := ∀ r, den (locs h ++ r) s = v
theorem Std.ext {h h' : List Ent} {s : SV} {v : Value} (e : Ext h h') (k : Std h s v) : Std h' s v := fun r => by
  obtain ⟨q, hq⟩ := e
  rw [hq, List.append_assoc]
  exact k _

end Go.Sx

/- Regions in any order: quiet operations are taken first; what they answered must stay true in every world in which they may still come up. -/
set_option linter.unusedVariables false
set_option linter.unusedSimpArgs false
namespace Go.Sx
section
variable {P : Program} {ops : Array Oper} {N : Act → World → Prop}

def Q0 (N : Act → World → Prop) : Exit → Act → World → Prop := fun e a w => e = .normal ∧ N a w

/-- `i` comes up ahead of `j` in every order. -/
def pre (ops : Array Oper) (i j : Nat) : Bool := ((Region.before ops).getD j 0).testBit i

theorem fold_bits (acc : Array Nat) (l : List Edge) (s : Nat) (i : Nat)
    (h : (l.foldl (fun s e => if Region.binds .any e then s ||| 2 ^ e.on ||| acc.getD e.on 0 else s) s).testBit i = true) :
    s.testBit i = true ∨ ∃ e ∈ l, Region.binds .any e = true ∧ (e.on = i ∨ (acc.getD e.on 0).testBit i = true) := by
  induction l generalizing s with
  | nil => exact .inl h
  | cons e r ih =>
    rw [List.foldl_cons] at h
    rcases ih _ h with h1 | ⟨e', he', h2⟩
    · by_cases hb : Region.binds .any e = true
      · rw [if_pos hb, Nat.testBit_or, Nat.testBit_or] at h1
        simp only [Bool.or_eq_true] at h1
        rcases h1 with (h1 | h1) | h1
        · exact .inl h1
        · rw [Nat.testBit_two_pow] at h1
          exact .inr ⟨e, by simp, hb, .inl (by simpa using h1)⟩
        · exact .inr ⟨e, by simp, hb, .inr h1⟩
      · rw [if_neg hb] at h1; exact .inl h1
    · exact .inr ⟨e', by simp [he'], h2⟩

def beforeStep (acc : Array Nat) (o : Oper) : Array Nat :=
  acc.push (o.after.foldl (fun s e => if Region.binds .any e then s ||| 2 ^ e.on ||| acc.getD e.on 0 else s) 0)

theorem before_aux (l : List Oper) : ∀ (acc : Array Nat),
    (∀ j, j < acc.size → (l.foldl beforeStep acc)[j]? = acc[j]?) ∧
    ∀ k o i, l[k]? = some o → ((l.foldl beforeStep acc).getD (acc.size + k) 0).testBit i = true →
      ∃ e ∈ o.after.toList, Region.binds .any e = true ∧ (e.on = i ∨ (e.on < acc.size + k ∧ ((l.foldl beforeStep acc).getD e.on 0).testBit i = true)) := by
  induction l with
  | nil => intro acc; exact ⟨fun _ _ => rfl, fun k o i h => by simp at h⟩
  | cons o r ih =>
    intro acc
    obtain ⟨h1, h2⟩ := ih (beforeStep acc o)
    have hs : (beforeStep acc o).size = acc.size + 1 := by simp [beforeStep]
    have hkeep : ∀ j, j < acc.size → (r.foldl beforeStep (beforeStep acc o))[j]? = acc[j]? := fun j hj => by
      rw [h1 j (by omega)]
      simp only [beforeStep, Array.getElem?_push]
      rw [if_neg (by omega)]
    refine ⟨hkeep, ?_⟩
    intro k o' i hk ht
    rw [List.foldl_cons] at ht ⊢
    cases k with
    | zero =>
      simp only [List.getElem?_cons_zero, Option.some.injEq] at hk
      subst hk
      have hv : (r.foldl beforeStep (beforeStep acc o)).getD (acc.size + 0) 0 = o.after.foldl (fun s e => if Region.binds .any e then s ||| 2 ^ e.on ||| acc.getD e.on 0 else s) 0 := by
        rw [Array.getD_eq_getD_getElem?, Nat.add_zero, h1 _ (by omega)]
        simp [beforeStep]
      rw [hv, ← Array.foldl_toList] at ht
      rcases fold_bits acc o.after.toList 0 i ht with h0 | ⟨e, he, hb, h3⟩
      · simp at h0
      · refine ⟨e, he, hb, h3.imp id fun h4 => ?_⟩
        have hlt : e.on < acc.size := by
          rcases Nat.lt_or_ge e.on acc.size with h | h
          · exact h
          · rw [Array.getD_eq_getD_getElem?, Array.getElem?_eq_none h] at h4; simp at h4
        refine ⟨by omega, ?_⟩
        rw [Array.getD_eq_getD_getElem?, hkeep _ hlt, ← Array.getD_eq_getD_getElem?]
        exact h4
    | succ k =>
      simp only [List.getElem?_cons_succ] at hk
      have := h2 k o' i hk (by rw [hs]; rw [show acc.size + 1 + k = acc.size + (k + 1) by omega]; exact ht)
      rw [hs] at this
      obtain ⟨e, he, hb, h3⟩ := this
      exact ⟨e, he, hb, h3.imp id fun ⟨h4, h5⟩ => ⟨by omega, h5⟩⟩

theorem pre_spec {i j : Nat} {o : Oper} (hj : ops[j]? = some o) (h : pre ops i j = true) :
    ∃ e ∈ o.after, Region.binds .any e = true ∧ (e.on = i ∨ (e.on < j ∧ pre ops i e.on = true)) := by
  have hb : Region.before ops = ops.toList.foldl beforeStep #[] := by
    rw [Array.foldl_toList]; rfl
  unfold pre at h ⊢
  rw [hb] at h ⊢
  have := (before_aux ops.toList #[]).2 j o i (by simpa using hj) (by simpa using h)
  simpa using this

def Closed (ops : Array Oper) (listed : Array Bool) : Prop :=
  ∀ j o, ops[j]? = some o → listed.getD j false = true → ∀ e ∈ o.after, Region.binds .any e = true → listed.getD e.on false = true

theorem pre_listed {listed : Array Bool} (hc : Closed ops listed) {i : Nat} : ∀ (j : Nat) (o : Oper), ops[j]? = some o →
    (∀ e ∈ o.after, Region.binds .any e = true → listed.getD e.on false = true) → pre ops i j = true → listed.getD i false = true := by
  intro j
  induction j using Nat.strongRecOn with
  | _ j ih =>
    intro o ho hall hp
    obtain ⟨e, he, hb, h | ⟨hlt, h⟩⟩ := pre_spec ho hp
    · exact h ▸ hall e he hb
    · have hl := hall e he hb
      cases ho' : ops[e.on]? with
      | none =>
        have : Region.before ops = ops.toList.foldl beforeStep #[] := by rw [Array.foldl_toList]; rfl
        exfalso
        have hjs := (Array.getElem?_eq_some_iff.1 ho).1
        have := Array.getElem?_eq_none_iff.1 ho'
        omega
      | some o' => exact ih e.on hlt o' ho' (hc e.on o' ho' hl) h

theorem Closed.step {listed : Array Bool} (hc : Closed ops listed) {j : Nat} (hj : j ∈ Region.ready .any ops listed) : Closed ops (listed.setIfInBounds j true) := by
  intro k o ho hk e he hb
  obtain ⟨_, oj, hoj, hall⟩ := mem_ready.1 hj
  by_cases hkj : k = j
  · subst hkj
    rw [hoj] at ho
    cases ho
    exact getD_set_true (hall e he hb)
  · rw [getD_set_ne false (Ne.symm hkj)] at hk
    exact getD_set_true (hc k o ho hk e he hb)

abbrev Pend := List (Nat × (World → Prop))
def keepP (ops : Array Oper) (j : Nat) (pend : Pend) : Pend := pend.filter fun p => !pre ops p.1 j

def wpAnyT (P : Program) (ops : Array Oper) (N : Act → World → Prop) : Nat → Pend → Array Bool → Act → World → Prop
  | 0, _, listed, a, w => Region.ready .any ops listed = [] ∧ N a w
  | fuel + 1, pend, listed, a, w =>
    (Region.ready .any ops listed = [] → N a w) ∧
    ∀ j ∈ Region.ready .any ops listed, wpOp P ops (Q0 N) j (fun a' w' => (∀ p ∈ keepP ops j pend, p.2 w') ∧
      wpAnyT P ops N fuel (keepP ops j pend) (listed.setIfInBounds j true) a' w') a w

theorem wpAny_of_T : ∀ (fuel : Nat) (pend : Pend) (listed : Array Bool) (a : Act) (w : World), wpAnyT P ops N fuel pend listed a w → wpAny P .any ops (Q0 N) fuel listed a w
  | 0, _, _, _, _, h => ⟨h.1, rfl, h.2⟩
  | fuel + 1, _, _, _, _, h => ⟨fun hr => ⟨rfl, h.1 hr⟩, fun i hi => wpOp_mono (fun a' w' h' => wpAny_of_T fuel _ _ a' w' h'.2) (h.2 i hi)⟩

theorem wpAnyT_less : ∀ (fuel : Nat) (pend pend' : Pend) (listed : Array Bool) (a : Act) (w : World), (∀ p ∈ pend', p ∈ pend) →
    wpAnyT P ops N fuel pend listed a w → wpAnyT P ops N fuel pend' listed a w
  | 0, _, _, _, _, _, _, h => h
  | fuel + 1, pend, pend', listed, a, w, hs, h => by
    have hk : ∀ j, ∀ p ∈ keepP ops j pend', p ∈ keepP ops j pend := fun j p hp => by
      unfold keepP at *
      rw [List.mem_filter] at *
      exact ⟨hs p hp.1, hp.2⟩
    exact ⟨h.1, fun j hj => wpOp_mono (fun a' w' h' => ⟨fun p hp => h'.1 p (hk j p hp), wpAnyT_less fuel _ _ _ a' w' (hk j) h'.2⟩) (h.2 j hj)⟩

theorem wpAnyT_first {i : Nat} {oi : Oper} {v : Value} {T : World → Prop} (hi : ops[i]? = some oi)
    (hsel : ∀ (j : Nat) (o : Oper) cs b, ops[j]? = some o → o.op ≠ .select cs b) :
    ∀ (fuel : Nat) (pend : Pend) (listed : Array Bool) (a : Act) (w : World),
      (∀ j oj, ops[j]? = some oj → j ≠ i → listed.getD j true = false → (∀ e ∈ oj.after, Region.binds .any e = true → e.on ≠ i) → oi.apart ops oj = true) →
      Closed ops listed → i ∈ Region.ready .any ops listed → YieldsIf P ops T oi v a → T w → (∀ p ∈ pend, p.2 w) →
      wpAnyT P ops N fuel ((i, T) :: pend) (listed.setIfInBounds i true) (a.put oi.dst v) w → wpAnyT P ops N (fuel + 1) pend listed a w := by
  intro fuel
  have hQ : ∀ c a w, Q0 N (.panic c) (a.put oi.dst v) w → Q0 N (.panic c) a w := fun c a w h => by simp [Q0] at h
  induction fuel with
  | zero =>
    intro pend listed a w _ _ hr hy hT hp H
    refine ⟨fun h => (by rw [h] at hr; cases hr), fun j hj => ?_⟩
    by_cases hji : j = i
    · subst hji
      exact hy.wpOp hi hT ⟨fun p h => hp p ((List.mem_filter.1 h).1), H⟩
    · have := ready_mono hj hji
      rw [H.1] at this
      cases this
  | succ fuel ih =>
    intro pend listed a w hfree hc hr hy hT hp H
    refine ⟨fun h => (by rw [h] at hr; cases hr), fun j hj => ?_⟩
    by_cases hji : j = i
    · subst hji
      refine hy.wpOp hi hT ⟨fun p h => hp p ((List.mem_filter.1 h).1), wpAnyT_less _ _ _ _ _ _ (fun p h => ?_) H⟩
      exact List.mem_cons_of_mem _ ((List.mem_filter.1 h).1)
    · have h1 := H.2 j (ready_mono hj hji)
      obtain ⟨hjun, oj, hoj, hall⟩ := mem_ready.1 hj
      have hiun : listed.getD i false = false := by
        have h0 := (mem_ready.1 hr).1
        rcases Nat.lt_or_ge i listed.size with h' | h'
        · simp [h'] at h0 ⊢; exact h0
        · simp [Array.getElem?_eq_none h']
      have hnot : ∀ e ∈ oj.after, Region.binds .any e = true → e.on ≠ i := fun e he hb heq => by
        have h1 := hall e he hb
        rw [heq, hiun] at h1
        cases h1
      have hnp : pre ops i j = false := by
        cases hpi : pre ops i j with
        | false => rfl
        | true => have := pre_listed hc j oj hoj hall hpi; rw [hiun] at this; cases this
      have hkp : keepP ops j ((i, T) :: pend) = (i, T) :: keepP ops j pend := by
        simp [keepP, hnp]
      rw [hkp] at h1
      have h2 := wpOp_putIf hoj (hfree j oj hoj hji hjun hnot) (fun cs b => hsel i oi cs b hi) (fun cs b => hsel j oj cs b hoj) hQ hy h1
      have hfree' : ∀ k ok, ops[k]? = some ok → k ≠ i → (listed.setIfInBounds j true).getD k true = false →
          (∀ e ∈ ok.after, Region.binds .any e = true → e.on ≠ i) → oi.apart ops ok = true := fun k ok hk hki hun hno => by
        refine hfree k ok hk hki ?_ hno
        by_cases hjk : j = k
        · subst hjk; exact hjun
        · rw [getD_set_ne true hjk] at hun; exact hun
      refine wpOp_mono (fun a' w' h3 => ?_) h2
      obtain ⟨hy', hall', h4⟩ := h3
      refine ⟨fun p h => hall' p (by simp [h]), ih (keepP ops j pend) (listed.setIfInBounds j true) a' w' hfree' (hc.step hj) (ready_mono hr (Ne.symm hji)) hy' (hall' (i, T) (by simp)) (fun p h => hall' p (by simp [h])) ?_⟩
      rw [Array.setIfInBounds_comm _ _ hji]
      exact h4

theorem wp_region_T {id : Nat} {a : Act} {w : World} {Q : Exit → Act → World → Prop} (hm : P.follows .mixedOrders = true)
    (h : wpAnyT P ops (Q .normal) ops.size [] (Array.replicate ops.size false) a { w with drawn := w.drawn + 1 }) : (Code.region id ops true).wp P Q a w :=
  wp_mono (wp_region_any hm (wpAny_of_T _ _ _ _ _ h)) fun _ _ _ ⟨he, hn⟩ => he ▸ hn
end
end Go.Sx

/- The quiet operations, symbolically: they answer a value and leave the world alone. -/
set_option linter.unusedVariables false
set_option linter.unusedSimpArgs false
namespace Go.Sx
open Classical

def look : List (Nat × SV) → Nat → SV
  | [], _ => .top
  | (u, s) :: r, t => bif Nat.beq u t then s else look r t

def sv1 : Value → SV
  | .bool true => .tt
  | .bool false => .ff
  | v => .val v
def svL : List Value → List SV
  | [] => []
  | v :: r => sv1 v :: svL r
def svOf : Value → SV
  | .agg cs => .agg (svL cs.toList)
  | v => sv1 v

def ev (env : List (Nat × SV)) : Operand → SV
  | .tmp t => look env t
  | .const v => svOf v
  | .global g => .val (.pointer (some ⟨g, 0, none⟩))
  | .func f => .fn f []

def entAt : List Ent → Nat → Option Ent
  | [], _ => none
  | e :: _, 0 => some e
  | _ :: r, n + 1 => entAt r n

def kSame (k k' : IntKind) (A : Prop) : Prop :=
  match k, k' with
  | .i8, .i8 => A | .i16, .i16 => A | .i32, .i32 => A | .i64, .i64 => A
  | .u8, .u8 => A | .u16, .u16 => A | .u32, .u32 => A | .u64, .u64 => A
  | _, _ => False
theorem kSame_iff {k k' : IntKind} {A : Prop} (h : kSame k k' A) : k = k' ∧ A := by
  cases k <;> cases k' <;> first | exact ⟨rfl, h⟩ | exact h.elim

def nth : List SV → Nat → (SV → Prop) → Prop
  | [], _, _ => False
  | s :: _, 0, K => K s
  | _ :: r, n + 1, K => nth r n K
def nthCol : List Col → Nat → (Col → Prop) → Prop
  | [], _, _ => False
  | s :: _, 0, K => K s
  | _ :: r, n + 1, K => nthCol r n K

theorem nth_get {l : List SV} : ∀ {n : Nat} {K : SV → Prop}, nth l n K → ∃ s, l[n]? = some s ∧ K s := by
  induction l with
  | nil => intro n K h; exact h.elim
  | cons a r ih =>
    intro n K h
    cases n with
    | zero => exact ⟨a, rfl, h⟩
    | succ n => obtain ⟨s, h1, h2⟩ := ih h; exact ⟨s, by simpa using h1, h2⟩
theorem nthCol_get {l : List Col} : ∀ {n : Nat} {K : Col → Prop}, nthCol l n K → ∃ s, l[n]? = some s ∧ K s := by
  induction l with
  | nil => intro n K h; exact h.elim
  | cons a r ih =>
    intro n K h
    cases n with
    | zero => exact ⟨a, rfl, h⟩
    | succ n => obtain ⟨s, h1, h2⟩ := ih h; exact ⟨s, by simpa using h1, h2⟩

def Col.sv : Col → Nat → SV
  | .ints k xs, i => .val (.int k (xs.getD i 0))
  | .bools xs, i => .val (.bool (xs.getD i false))
  | .raws xs, i => .val (xs.getD i .nilIface)
theorem Col.sv_den (ρ : List Loc) (c : Col) (i : Nat) : den ρ (c.sv i) = c.get i := by cases c <;> rfl

def SBlk.load (k : SBlk) (i j : Nat) (K : SV → Prop) : Prop :=
  match k with
  | .cells wd l _ => nth l (i * wd + j) fun s => match s with | .top => False | s => K s
  | .tab _ _ len cols => i < len ∧ nthCol cols j fun c => K (c.sv i)
  | _ => False

/-- Cell (i, j) and those behind it. -/
def SBlk.loadN (k : SBlk) : Nat → Nat → Nat → (List SV → Prop) → Prop
  | 0, _, _, K => K []
  | s + 1, i, j, K => k.load i j fun v => bif Nat.beq (j + 1) k.wd then k.loadN s (i + 1) 0 fun vs => K (v :: vs) else k.loadN s i (j + 1) fun vs => K (v :: vs)

/-- What is known of the world. -/
structure Ctx (F : List (Nat × Blk)) (h : List Ent) (w : World) : Prop where
  owns : ∀ r, Owns w (owned (locs h ++ r) h ++ F)
  ro : ∀ b k, Ent.ro b k ∈ h → ∃ o, (b, Blk.obj o) ∈ F ∧ ∀ r, (k.den (locs h ++ r)).holds o

def Ent.blk : Ent → Option (Nat × SBlk)
  | .own b k => some (b, k)
  | .ro b k => some (b, k)
  | _ => none

theorem entAt_get {h : List Ent} : ∀ {n : Nat} {e : Ent}, entAt h n = some e → h[n]? = some e := by
  induction h with
  | nil => intro n e h; cases h
  | cons a r ih =>
    intro n e h
    cases n with
    | zero => exact h
    | succ n => simpa using ih h
theorem locAt_get (ρ : List Loc) : ∀ (n : Nat), locAt ρ n = (ρ[n]?).getD (0, 0, 0) := by
  induction ρ with
  | nil => intro n; rfl
  | cons a r ih =>
    intro n
    cases n with
    | zero => rfl
    | succ n => simpa [locAt] using ih n
theorem entAt_loc {h : List Ent} {n : Nat} {e : Ent} (he : entAt h n = some e) (r : List Loc) : locAt (locs h ++ r) n = e.loc := by
  have := entAt_get he
  have hlt := (List.getElem?_eq_some_iff.1 this).1
  rw [locAt_get, List.getElem?_append_left (by rw [locs_eq]; simpa using hlt), locs_eq, List.getElem?_map, this]
  rfl
theorem owned_mem {ρ : List Loc} {h : List Ent} {b : Nat} {k : SBlk} (hm : Ent.own b k ∈ h) : (b, k.den ρ) ∈ owned ρ h := by
  induction h with
  | nil => cases hm
  | cons a r ih =>
    rw [owned, List.mem_append]
    rcases List.mem_cons.1 hm with rfl | hm
    · exact .inl (by simp [Ent.blocks])
    · exact .inr (ih hm)

theorem Ctx.blk {F : List (Nat × Blk)} {h : List Ent} {w : World} (c : Ctx F h w) {n : Nat} {e : Ent} {b : Nat} {k : SBlk} (he : entAt h n = some e) (hb : e.blk = some (b, k)) :
    (∃ o, w.heap[b]? = some o ∧ ∀ r, (k.den (locs h ++ r)).holds o) ∧ ∀ r, locAt (locs h ++ r) n = (b, k.base, k.wd) := by
  have hm : e ∈ h := List.mem_of_getElem? (entAt_get he)
  constructor
  · cases e with
    | own b' k' =>
      cases hb
      obtain ⟨o, ho, _⟩ := (c.owns []).1 (b, k.den (locs h ++ [])) (List.mem_append_left _ (owned_mem hm))
      refine ⟨o, ho, fun r => ?_⟩
      obtain ⟨o', ho', hk⟩ := (c.owns r).1 (b, k.den (locs h ++ r)) (List.mem_append_left _ (owned_mem hm))
      rw [ho] at ho'
      cases ho'
      exact hk
    | ro b' k' =>
      cases hb
      obtain ⟨o, ho, hk⟩ := c.ro b k hm
      obtain ⟨o', ho', hk'⟩ := (c.owns []).1 (b, .obj o) (List.mem_append_right _ ho)
      exact ⟨o, by rw [ho', show o' = o from hk'], hk⟩
    | chunk L => cases hb
    | gone l => cases hb
  · intro r
    rw [entAt_loc he]
    cases e <;> cases hb <;> rfl

def objCell : Obj → Nat → Option Value
  | .cells c _ _, x => c[x]?
  | _, _ => none
theorem cell_obj {w : World} {b x : Nat} {o : Obj} {v : Value} (h : w.heap[b]? = some o) (hc : objCell o x = some v) : w.cell? ⟨b, x, none⟩ = some v := by
  unfold World.cell?
  simp only [h]
  cases o <;> simp_all [objCell]

theorem SBlk.load_sound {h : List Ent} {k : SBlk} {i j : Nat} {K : SV → Prop} {o : Obj} (ho : ∀ r, (k.den (locs h ++ r)).holds o) (hk : k.load i j K) :
    ∃ s v, K s ∧ s ≠ .top ∧ Std h s v ∧ objCell o ((k.base + i) * k.wd + j) = some v := by
  cases k with
  | cells wd l t =>
    obtain ⟨s, h1, h2⟩ := nth_get hk
    have hs : s ≠ .top := by rintro rfl; exact h2
    have hK : K s := by cases s <;> first | exact h2 | exact absurd rfl hs
    have hcell : ∀ r, objCell o ((0 + i) * wd + j) = some (Sx.den (locs h ++ r) s) := fun r => by
      have := ho r
      simp only [SBlk.den, Blk.holds] at this
      subst this
      simp only [objCell, Nat.zero_add, List.getElem?_toArray, denL_eq, List.getElem?_map, h1, Option.map_some]
    refine ⟨s, Sx.den (locs h ++ []) s, hK, hs, fun r => ?_, hcell []⟩
    have := hcell r
    rw [hcell []] at this
    exact (Option.some.inj this).symm
  | tab t base len cols =>
    obtain ⟨hi, hk⟩ := hk
    obtain ⟨c, h1, h2⟩ := nthCol_get hk
    obtain ⟨arr, lo, hi', rfl, -, h3, -⟩ := ho []
    refine ⟨c.sv i, c.get i, h2, by cases c <;> simp [Col.sv], fun r => Col.sv_den _ _ _, ?_⟩
    simpa [objCell, SBlk.base, SBlk.wd] using h3 i j c hi h1
  | map ks m st => exact hk.elim
  | obj o' => exact hk.elim

/-- Lists of values that stand for lists of symbolic values. -/
def StdL (h : List Ent) (l : List SV) (vs : List Value) : Prop := ∀ r, denL (locs h ++ r) l = vs

theorem SBlk.loadN_sound {h : List Ent} {k : SBlk} {o : Obj} (ho : ∀ r, (k.den (locs h ++ r)).holds o) : ∀ {s i j : Nat} {K : List SV → Prop}, k.loadN s i j K →
    ∃ l vs, K l ∧ StdL h l vs ∧ vs.length = s ∧ ∀ x, x < s → objCell o ((k.base + i) * k.wd + j + x) = vs[x]? := by
  intro s
  induction s with
  | zero => intro i j K hk; exact ⟨[], [], hk, fun _ => rfl, rfl, fun x hx => by omega⟩
  | succ s ih =>
    intro i j K hk
    obtain ⟨sv, v, h1, -, h2, h3⟩ := SBlk.load_sound ho hk
    have key : ∀ i' j', (k.base + i') * k.wd + j' = (k.base + i) * k.wd + j + 1 → k.loadN s i' j' (fun vs => K (sv :: vs)) →
        ∃ l vs, K l ∧ StdL h l vs ∧ vs.length = s + 1 ∧ ∀ x, x < s + 1 → objCell o ((k.base + i) * k.wd + j + x) = vs[x]? := by
      intro i' j' he hk'
      obtain ⟨l, vs, h4, h5, h6, h7⟩ := ih hk'
      refine ⟨sv :: l, v :: vs, h4, fun r => by simp [denL, h2 r, h5 r], by simp [h6], fun x hx => ?_⟩
      cases x with
      | zero => simpa using h3
      | succ x =>
        have := h7 x (by omega)
        rw [he] at this
        simpa [show (k.base + i) * k.wd + j + 1 + x = (k.base + i) * k.wd + j + (x + 1) by omega] using this
    cases hb : Nat.beq (j + 1) k.wd with
    | true =>
      simp only [hb, cond_true] at h1
      have hw : j + 1 = k.wd := Nat.eq_of_beq_eq_true hb
      refine key (i + 1) 0 ?_ h1
      rw [← Nat.add_assoc, Nat.add_mul, Nat.one_mul]
      omega
    | false =>
      simp only [hb, cond_false] at h1
      exact key i (j + 1) (by omega) h1

theorem run_loadCellsFrom {P : Program} {w : World} {b x : Nat} : ∀ (s : Nat) (vs : List Value) (i : Nat) (acc : Array Value), vs.length = s →
    (∀ y, y < s → w.cell? ⟨b, x + (i + y), none⟩ = vs[y]?) → (loadCellsFrom ⟨b, x, none⟩ i s acc).run P w = .ok (acc ++ vs.toArray) w := by
  intro s
  induction s with
  | zero => intro vs i acc hl _; cases vs <;> simp_all [loadCellsFrom]
  | succ s ih =>
    intro vs i acc hl hc
    cases vs with
    | nil => simp at hl
    | cons v vs =>
      have h0 := hc 0 (by omega)
      have ha : Addr.add ⟨b, x, none⟩ i = ⟨b, x + i, none⟩ := by
        unfold Addr.add
        split
        · subst_vars; rfl
        · rfl
      simp only [loadCellsFrom, Sem.run_bind, run_load, ha]
      simp only [Nat.add_zero, List.getElem?_cons_zero] at h0
      rw [h0]
      simp only [Result.andThen_ok]
      rw [ih vs (i + 1) (acc.push v) (by simpa using hl) (fun y hy => by have := hc (y + 1) (by omega); rw [show i + 1 + y = i + (y + 1) by omega, this]; simp)]
      congr 1
      simp

theorem run_loadCells {P : Program} {w : World} {b x s : Nat} {vs : List Value} (hl : vs.length = s) (hc : ∀ y, y < s → w.cell? ⟨b, x + y, none⟩ = vs[y]?) :
    (loadCells ⟨b, x, none⟩ s).run P w = .ok vs.toArray w := by
  unfold loadCells
  rw [run_loadCellsFrom s vs 0 #[] hl (fun y hy => by rw [Nat.zero_add]; exact hc y hy)]
  simp

def lenV0 : List Value → Nat
  | [] => 0
  | _ :: r => lenV0 r + 1
/-- Cells of an object that is known whole, of these kinds. -/
def loadObj (o : Obj) : List Value → Nat → (List SV → Prop) → Prop
  | [], _, K => K []
  | .int k _ :: zs, x, K => ∃ z : Int, objCell o x = some (.int k z) ∧ loadObj o zs (x + 1) fun l => K (.val (.int k z) :: l)
  | .bool _ :: zs, x, K => ∃ b : Bool, objCell o x = some (.bool b) ∧ loadObj o zs (x + 1) fun l => K (.val (.bool b) :: l)
  | .slice _ _ _ :: zs, x, K => ∃ (a : Option Addr) (ln c : Nat), objCell o x = some (.slice a ln c) ∧ loadObj o zs (x + 1) fun l => K (.val (.slice a ln c) :: l)
  | .string _ :: zs, x, K => ∃ s : ByteArray, objCell o x = some (.string s) ∧ loadObj o zs (x + 1) fun l => K (.val (.string s) :: l)
  | _ :: zs, x, K => ∃ v : Value, objCell o x = some v ∧ loadObj o zs (x + 1) fun l => K (.val v :: l)
theorem loadObj_sound {h : List Ent} {o : Obj} : ∀ {zs : List Value} {x : Nat} {K : List SV → Prop}, loadObj o zs x K → ∃ l vs, K l ∧ StdL h l vs ∧ (∀ s ∈ l, s ≠ .top) ∧ vs.length = zs.length ∧ ∀ y, y < zs.length → objCell o (x + y) = vs[y]?
  | [], x, K, hk => ⟨[], [], hk, fun _ => rfl, by simp, rfl, fun y hy => by simp at hy⟩
  | z :: zs, x, K, hk => by
    have key : ∀ v : Value, objCell o x = some v → loadObj o zs (x + 1) (fun l => K (.val v :: l)) → ∃ l vs, K l ∧ StdL h l vs ∧ (∀ s ∈ l, s ≠ .top) ∧ vs.length = (z :: zs).length ∧ ∀ y, y < (z :: zs).length → objCell o (x + y) = vs[y]? := by
      intro v hv hk
      obtain ⟨l, vs, h1, h2, h3, h4, h5⟩ := loadObj_sound (h := h) hk
      refine ⟨.val v :: l, v :: vs, h1, fun r => by simp [denL, den, h2 r], by simpa using h3, by simp [h4], fun y hy => ?_⟩
      cases y with
      | zero => simpa using hv
      | succ y =>
        have := h5 y (by simpa using hy)
        rw [show x + (y + 1) = x + 1 + y by omega, this]; simp
    cases z with
    | int k n => obtain ⟨z, h1, h2⟩ := hk; exact key _ h1 h2
    | bool b => obtain ⟨z, h1, h2⟩ := hk; exact key _ h1 h2
    | slice a l c => obtain ⟨a', l', c', h1, h2⟩ := hk; exact key _ h1 h2
    | string s => obtain ⟨z, h1, h2⟩ := hk; exact key _ h1 h2
    | _ => obtain ⟨z, h1, h2⟩ := hk; exact key _ h1 h2
def xloadO (P : Program) (o : Obj) (x : Nat) (t : TypeId) (K : SV → Prop) : Prop :=
  match P.underlying t, P.info? t with
  | some d, some inf => (match inf.zero with
    | none => False
    | some z => (match d with
      | .struct _ => bif Nat.beq (lenV0 z.cells.toList) inf.size then loadObj o z.cells.toList x fun l => K (.agg l) else False
      | .array _ _ => bif Nat.beq (lenV0 z.cells.toList) inf.size then loadObj o z.cells.toList x fun l => K (.agg l) else False
      | _ => loadObj o [z] x fun l => (match l with | [s] => K s | _ => False)))
  | _, _ => False

/-- A load through a pointer. -/
def xload0 (P : Program) (h : List Ent) (n i j : Nat) (t : TypeId) (K : SV → Prop) : Prop :=
  match entAt h n with
  | none => False
  | some e =>
    match e.blk with
    | none => False
    | some (_, .obj o) => xloadO P o (i + j) t K
    | some (_, k) =>
      match P.underlying t with
      | none => False
      | some (.struct _) => (match P.info? t with | none => False | some inf => k.loadN inf.size i j fun l => K (.agg l))
      | some (.array _ _) => (match P.info? t with | none => False | some inf => (match k, j with
        | .tab _ _ len [.ints kk xs], 0 => i + inf.size ≤ len ∧ K (.arr kk ((xs.drop i).take inf.size))
        | k, j => k.loadN inf.size i j fun l => K (.agg l)))
      | some _ => k.load i j K

theorem run_underlying' {P : Program} {w : World} {t : TypeId} {d : TypeDesc} (h : P.underlying t = some d) : (underlying t).run P w = .ok d w := by
  simp [underlying, h]
theorem run_typeInfo' {P : Program} {w : World} {t : TypeId} {i : TypeInfo} (h : P.info? t = some i) : (typeInfo t).run P w = .ok i w := by
  simp [typeInfo, h]
theorem run_sizeOf' {P : Program} {w : World} {t : TypeId} {i : TypeInfo} (h : P.info? t = some i) : (sizeOf t).run P w = .ok i.size w := by
  simp [sizeOf, run_typeInfo' h]

theorem xload0_sound {P : Program} {F : List (Nat × Blk)} {h : List Ent} {w : World} (c : Ctx F h w) {n i j : Nat} {t : TypeId} {K : SV → Prop} (hx : xload0 P h n i j t K) :
    ∃ s v, K s ∧ s ≠ .top ∧ Std h s v ∧ ∀ r, (loadVar t ⟨(locAt (locs h ++ r) n).1, ((locAt (locs h ++ r) n).2.1 + i) * (locAt (locs h ++ r) n).2.2 + j, none⟩).run P w = .ok v w := by
  unfold xload0 at hx
  split at hx
  · exact hx.elim
  rename_i e he
  split at hx
  · exact hx.elim
  · rename_i b o0 hb
    obtain ⟨⟨o, ho, hk⟩, hl⟩ := c.blk he hb
    have hoo : o = o0 := hk []
    subst hoo
    have hl0 : ∀ r, ((locAt (locs h ++ r) n).2.1 + i) * (locAt (locs h ++ r) n).2.2 + j = i + j := fun r => by rw [hl r]; simp [SBlk.base, SBlk.wd]
    have hl1 : ∀ r, (locAt (locs h ++ r) n).1 = b := fun r => by rw [hl r]
    have lenV0_eq : ∀ l : List Value, lenV0 l = l.length := fun l => by
      induction l with
      | nil => rfl
      | cons a r ih => simp [lenV0, ih]
    unfold xloadO at hx
    split at hx
    · rename_i d inf hu hinf
      split at hx
      · exact hx.elim
      · rename_i z hz
        have agg : (isAgg t).run P w = .ok true w → (bif Nat.beq (lenV0 z.cells.toList) inf.size then loadObj o z.cells.toList (i + j) (fun l => K (.agg l)) else False) →
            ∃ s v, K s ∧ s ≠ .top ∧ Std h s v ∧ ∀ r, (loadVar t ⟨(locAt (locs h ++ r) n).1, ((locAt (locs h ++ r) n).2.1 + i) * (locAt (locs h ++ r) n).2.2 + j, none⟩).run P w = .ok v w := by
          intro hagg hx
          obtain ⟨hsz, hx⟩ : Nat.beq (lenV0 z.cells.toList) inf.size = true ∧ loadObj o z.cells.toList (i + j) (fun l => K (.agg l)) := by
            cases hb : Nat.beq (lenV0 z.cells.toList) inf.size with
            | true => rw [hb] at hx; exact ⟨rfl, hx⟩
            | false => rw [hb] at hx; exact hx.elim
          have hsz := Nat.eq_of_beq_eq_true hsz
          rw [lenV0_eq] at hsz
          obtain ⟨l, vs, h1, h2, _, h3, h4⟩ := loadObj_sound (h := h) hx
          refine ⟨.agg l, .agg vs.toArray, h1, by simp, fun r => by simp [den, h2 r], fun r => ?_⟩
          rw [hl0 r, hl1 r]
          have hc : ∀ y, y < inf.size → w.cell? ⟨b, i + j + y, none⟩ = vs[y]? := fun y hy => by
            have := h4 y (by omega)
            rw [List.getElem?_eq_getElem (by omega)] at this ⊢
            exact cell_obj ho this
          simp only [loadVar, Sem.run_bind, hagg, Result.andThen_ok, if_true, run_sizeOf' hinf]
          rw [run_loadCells (by omega) hc]
          simp
        split at hx
        · exact agg (by simp [isAgg, run_underlying' hu]) hx
        · exact agg (by simp [isAgg, run_underlying' hu]) hx
        · rename_i hns hna
          have hagg : (isAgg t).run P w = .ok false w := by
            simp only [isAgg, Sem.run_bind, run_underlying' hu, Result.andThen_ok]
            cases d <;> first | rfl | exact absurd rfl (hns _) | exact absurd rfl (hna _ _)
          obtain ⟨l, vs, h1, h2, h2', h3, h4⟩ := loadObj_sound (h := h) hx
          match l, vs, h3 with
          | [s], [v], _ =>
            have hstd : Std h s v := fun r => by have := h2 r; simpa [denL] using this
            refine ⟨s, v, h1, h2' s (by simp), hstd, fun r => ?_⟩
            rw [hl0 r, hl1 r]
            have hcell := h4 0 (by simp)
            simp only [Nat.add_zero, List.getElem?_cons_zero] at hcell
            simp only [loadVar, Sem.run_bind, hagg, Result.andThen_ok, Bool.false_eq_true, if_false, run_load, cell_obj ho hcell]
          | [], [v], _ => exact h1.elim
          | _ :: _ :: _, _, _ => exact h1.elim
    · exact hx.elim
  rename_i b k _ hb
  obtain ⟨⟨o, ho, hk⟩, hl⟩ := c.blk he hb
  have agg : ∀ inf, P.info? t = some inf → (isAgg t).run P w = .ok true w → k.loadN inf.size i j (fun l => K (.agg l)) →
      ∃ s v, K s ∧ s ≠ .top ∧ Std h s v ∧ ∀ r, (loadVar t ⟨(locAt (locs h ++ r) n).1, ((locAt (locs h ++ r) n).2.1 + i) * (locAt (locs h ++ r) n).2.2 + j, none⟩).run P w = .ok v w := by
    intro inf hinf hagg hx
    obtain ⟨l, vs, h1, h2, h3, h4⟩ := SBlk.loadN_sound hk hx
    refine ⟨.agg l, .agg vs.toArray, h1, by simp, fun r => by simp [den, h2 r], fun r => ?_⟩
    rw [hl r]
    have hc : ∀ y, y < inf.size → w.cell? ⟨b, (k.base + i) * k.wd + j + y, none⟩ = vs[y]? := fun y hy => by
      have := h4 y hy
      rw [List.getElem?_eq_getElem (by omega)] at this ⊢
      exact cell_obj ho this
    simp only [loadVar, Sem.run_bind, hagg, Result.andThen_ok, if_true, run_sizeOf' hinf]
    rw [run_loadCells h3 hc]
    simp
  have one : (isAgg t).run P w = .ok false w → k.load i j K →
      ∃ s v, K s ∧ s ≠ .top ∧ Std h s v ∧ ∀ r, (loadVar t ⟨(locAt (locs h ++ r) n).1, ((locAt (locs h ++ r) n).2.1 + i) * (locAt (locs h ++ r) n).2.2 + j, none⟩).run P w = .ok v w := by
    intro hagg hx
    obtain ⟨s, v, h1, h2, h3, h4⟩ := SBlk.load_sound hk hx
    refine ⟨s, v, h1, h2, h3, fun r => ?_⟩
    rw [hl r]
    simp only [loadVar, Sem.run_bind, hagg, Result.andThen_ok, Bool.false_eq_true, if_false, run_load, cell_obj ho h4]
  split at hx
  · exact hx.elim
  · rename_i hu
    split at hx
    · exact hx.elim
    · rename_i inf hinf
      exact agg inf hinf (by simp [isAgg, run_underlying' hu]) hx
  · rename_i hu
    split at hx
    · exact hx.elim
    · rename_i inf hinf
      have hagg : (isAgg t).run P w = .ok true w := by simp [isAgg, run_underlying' hu]
      split at hx
      · rename_i base len kk xs _
        obtain ⟨hle, hx⟩ := hx
        obtain ⟨arr, lo, hi, rfl, g1, g2, g3⟩ := hk []
        have hlen : xs.length = len := (g1 (.ints kk xs) (by simp)).1
        refine ⟨_, .agg (((xs.drop i).take inf.size).map (Value.int kk)).toArray, hx, by simp, fun r => rfl, fun r => ?_⟩
        rw [hl r]
        have hc : ∀ y, y < inf.size → w.cell? ⟨b, (base + i) * 1 + 0 + y, none⟩ = (((xs.drop i).take inf.size).map (Value.int kk))[y]? := fun y hy => by
          have := g2 (i + y) 0 _ (by omega) rfl
          have hg : (Col.ints kk xs).get (i + y) = .int kk (xs.getD (i + y) 0) := rfl
          rw [hg] at this
          rw [List.getElem?_map, List.getElem?_take_of_lt hy, List.getElem?_drop, List.getElem?_eq_getElem (by omega)]
          rw [List.getD_eq_getElem?_getD, List.getElem?_eq_getElem (by omega)] at this
          refine cell_obj ho ?_
          simp only [objCell]
          simp only [List.length_singleton, Nat.mul_one, Nat.add_zero, Option.getD_some] at this
          rw [show (base + i) * 1 + 0 + y = base + (i + y) by omega]
          exact this
        simp only [loadVar, Sem.run_bind, hagg, Result.andThen_ok, if_true, run_sizeOf' hinf]
        have hlc := run_loadCells (P := P) (w := w) (b := b) (x := (base + i) * 1 + 0) (s := inf.size) (vs := ((xs.drop i).take inf.size).map (Value.int kk)) (by rw [List.length_map, List.length_take, List.length_drop]; omega) hc
        simp only [SBlk.base, SBlk.wd, List.length_singleton]
        rw [hlc]
        simp
      · exact agg inf hinf hagg hx
  · rename_i d hns hna hu
    refine one ?_ hx
    simp only [isAgg, Sem.run_bind, run_underlying' hu, Result.andThen_ok]
    cases d <;> first | rfl | exact absurd rfl (hns _) | exact absurd rfl (hna _ _)

end Go.Sx

/- Raw addresses: cells of blocks that lie in the chunk, read without a position of their own. -/
set_option linter.unusedVariables false
set_option linter.unusedSimpArgs false
namespace Go.Sx
open Classical

/-- A contract over a chunk: the first one that the heap has. -/
def chunkAt : List Ent → Nat → Option (Nat × List (Nat × Blk))
  | [], _ => none
  | .chunk L :: _, n => some (n, L)
  | _ :: r, n => chunkAt r (n + 1)

theorem chunkAt_spec : ∀ {h : List Ent} {i n : Nat} {L : List (Nat × Blk)}, chunkAt h i = some (n, L) → i ≤ n ∧ entAt h (n - i) = some (.chunk L)
  | [], _, _, _, hc => by cases hc
  | e :: r, i, n, L, hc => by
    have other : chunkAt r (i + 1) = some (n, L) → i ≤ n ∧ entAt (e :: r) (n - i) = some (.chunk L) := fun hc => by
      obtain ⟨h1, h2⟩ := chunkAt_spec hc
      refine ⟨by omega, ?_⟩
      rw [show n - i = (n - (i + 1)) + 1 by omega]
      exact h2
    cases e with
    | chunk L' =>
      simp only [chunkAt, Option.some.injEq, Prod.mk.injEq] at hc
      obtain ⟨rfl, rfl⟩ := hc
      exact ⟨Nat.le_refl _, by simp [entAt]⟩
    | _ => exact other hc

/-- A raw address. -/
def rawA (a : Option Addr) (F : Nat → Nat → Prop) : Prop :=
  match a with
  | some ⟨b, x, none⟩ => F b x
  | _ => False
theorem rawA_spec {a : Option Addr} {F : Nat → Nat → Prop} (h : rawA a F) : ∃ b x, a = some ⟨b, x, none⟩ ∧ F b x := by
  unfold rawA at h
  split at h
  · exact ⟨_, _, rfl, h⟩
  · exact h.elim
/-- The block holds this value in this cell. -/
def Blk.at : Blk → Nat → Value → Prop
  | .cells l _, x, v => l[x]? = some v
  | .tab _ base len cols, x, v => ∃ i j c, x = (base + i) * cols.length + j ∧ i < len ∧ cols[j]? = some c ∧ v = c.get i
  | .obj o, x, v => objCell o x = some v
  | .map _ _ _, _, _ => False
def rawCell (L : List (Nat × Blk)) (b x : Nat) (v : Value) : Prop := ∃ k, (b, k) ∈ L ∧ k.at x v
/-- There is a value of this kind. -/
def exLike : Value → (Value → Prop) → Prop
  | .int k _, F => ∃ n : Int, F (.int k n)
  | .bool _, F => ∃ x : Bool, F (.bool x)
  | .slice _ _ _, F => ∃ (o : Option Addr) (l c : Nat), F (.slice o l c)
  | .pointer _, F => ∃ a : Option Addr, F (.pointer a)
  | .map _, F => ∃ a : Option Nat, F (.map a)
  | .string _, F => ∃ s : ByteArray, F (.string s)
  | _, F => ∃ v : Value, F v
def rawL (L : List (Nat × Blk)) (b : Nat) : List Value → Nat → (List SV → Prop) → Prop
  | [], _, K => K []
  | z :: r, x, K => exLike z fun v => rawCell L b x v ∧ rawL L b r (x + 1) fun l => K (.val v :: l)
def xraw (P : Program) (h : List Ent) (b x : Nat) (t : TypeId) (K : SV → Prop) : Prop :=
  match chunkAt h 0 with
  | none => False
  | some (_, L) => match P.underlying t with
    | none => False
    | some d => match P.info? t with
      | none => False
      | some inf => match inf.zero with
        | none => False
        | some z => (match d with
          | .struct _ => bif Nat.beq (lenV0 z.cells.toList) inf.size then rawL L b z.cells.toList x fun l => K (.agg l) else False
          | .array n e => (match P.underlying e with
            | some (.int k) => bif Nat.beq n inf.size then ∃ xs : List Int, (xs.length = n ∧ ∀ i, i < n → rawCell L b (x + i) (.int k (xs.getD i 0))) ∧ K (.arr k xs) else False
            | _ => bif Nat.beq (lenV0 z.cells.toList) inf.size then rawL L b z.cells.toList x fun l => K (.agg l) else False)
          | _ => exLike z fun v => rawCell L b x v ∧ K (.val v))

/-- There are columns of these kinds. -/
def exCols : List Value → (List Col → Prop) → Prop
  | [], F => F []
  | .int k _ :: r, F => ∃ xs : List Int, exCols r fun cs => F (.ints k xs :: cs)
  | .bool _ :: r, F => ∃ xs : List Bool, exCols r fun cs => F (.bools xs :: cs)
  | _ :: r, F => ∃ xs : List Value, exCols r fun cs => F (.raws xs :: cs)
def winOf (o len : Nat) : Col → Col
  | .ints k xs => .ints k ((xs.drop o).take len)
  | .bools xs => .bools ((xs.drop o).take len)
  | .raws xs => .raws ((xs.drop o).take len)
/-- These columns lie in the chunk at that address. -/
def rawTab0 (L : List (Nat × Blk)) (b x len : Nat) (cs : List Col) : Prop := ∃ t base N cols o, (b, Blk.tab t base N cols) ∈ L ∧ x = (base + o) * cols.length ∧ o + len ≤ N ∧ cs = cols.map (winOf o len)
def rawTab (L : List (Nat × Blk)) (b x len : Nat) (cs : List Col) : Prop := rawTab0 L b x len cs ∨
  (0 < len ∧ ∃ k xs, cs = [.ints k xs] ∧ xs.length = len ∧ ∀ i, i < len → rawCell L b (x + i) (.int k (xs.getD i 0))) ∨
  (0 < len ∧ 0 < cs.length ∧ (∀ d ∈ cs, d.len = len) ∧ ∀ i j d, i < len → cs[j]? = some d → rawCell L b (x + i * cs.length + j) (d.get i) ∧ (d.get i).oneCell' = true)
theorem exCols_spec : ∀ {z : List Value} {F : List Col → Prop}, exCols z F → ∃ cs, F cs
  | [], F, h => ⟨[], h⟩
  | v :: r, F, h => by
    cases v <;> (obtain ⟨xs, h⟩ := h; obtain ⟨cs, h⟩ := exCols_spec h; exact ⟨_, h⟩)
theorem exLike_spec {z : Value} {F : Value → Prop} (h : exLike z F) : ∃ v, F v := by
  cases z <;> simp only [exLike] at h
  case slice => obtain ⟨o, l, c, h⟩ := h; exact ⟨_, h⟩
  all_goals (obtain ⟨a, h⟩ := h; exact ⟨_, h⟩)
theorem at_spec {k : Blk} {o : Obj} {x : Nat} {v : Value} (hk : k.holds o) (ha : k.at x v) : objCell o x = some v := by
  cases k with
  | cells l t =>
    simp only [Blk.holds] at hk
    subst hk
    simp only [Blk.at] at ha
    simp [objCell, ha]
  | tab t base len cols =>
    obtain ⟨arr, lo, hi, rfl, h1, h2, h3⟩ := hk
    obtain ⟨i, j, c, rfl, hi, hj, rfl⟩ := ha
    exact h2 i j c hi hj
  | obj o' =>
    simp only [Blk.holds] at hk
    subst hk
    exact ha
  | map ks m st => exact ha.elim
theorem owned_chunk {ρ : List Loc} {h : List Ent} {L : List (Nat × Blk)} {p : Nat × Blk} (hm : Ent.chunk L ∈ h) (hp : p ∈ L) : p ∈ owned ρ h := by
  induction h with
  | nil => cases hm
  | cons a r ih =>
    rw [owned, List.mem_append]
    rcases List.mem_cons.1 hm with rfl | hm
    · exact .inl hp
    · exact .inr (ih hm)
theorem Ctx.chunk {F : List (Nat × Blk)} {h : List Ent} {w : World} (c : Ctx F h w) {n b : Nat} {L : List (Nat × Blk)} {k : Blk} (he : entAt h n = some (.chunk L)) (hm : (b, k) ∈ L) : ∃ o, w.heap[b]? = some o ∧ k.holds o :=
  (c.owns []).get (List.mem_append_left _ (owned_chunk (List.mem_of_getElem? (entAt_get he)) hm))
theorem rawCell_spec {F : List (Nat × Blk)} {h : List Ent} {w : World} (c : Ctx F h w) {n b x : Nat} {L : List (Nat × Blk)} {v : Value} (he : entAt h n = some (.chunk L)) (hr : rawCell L b x v) : ∃ o, w.heap[b]? = some o ∧ objCell o x = some v := by
  obtain ⟨k, h1, h2⟩ := hr
  obtain ⟨o, h3, h4⟩ := c.chunk he h1
  exact ⟨o, h3, at_spec h4 h2⟩
theorem rawL_sound {F : List (Nat × Blk)} {h : List Ent} {w : World} (c : Ctx F h w) {n b : Nat} {L : List (Nat × Blk)} (he : entAt h n = some (.chunk L)) : ∀ {zs : List Value} {x : Nat} {K : List SV → Prop}, rawL L b zs x K →
    ∃ l vs, K l ∧ StdL h l vs ∧ vs.length = zs.length ∧ ∀ y, y < zs.length → w.cell? ⟨b, x + y, none⟩ = vs[y]?
  | [], x, K, hk => ⟨[], [], hk, fun _ => rfl, rfl, fun y hy => by simp at hy⟩
  | z :: zs, x, K, hk => by
    obtain ⟨v, h1, h2⟩ := exLike_spec hk
    obtain ⟨o, h3, h4⟩ := rawCell_spec c he h1
    obtain ⟨l, vs, k1, k2, k3, k4⟩ := rawL_sound c he h2
    refine ⟨.val v :: l, v :: vs, k1, fun r => by simp [denL, den, k2 r], by simp [k3], fun y hy => ?_⟩
    cases y with
    | zero => simpa using cell_obj h3 h4
    | succ y =>
      have := k4 y (by simpa using hy)
      rw [show x + (y + 1) = x + 1 + y by omega, this]; simp
theorem xraw_sound {P : Program} {F : List (Nat × Blk)} {h : List Ent} {w : World} (c : Ctx F h w) {b x : Nat} {t : TypeId} {K : SV → Prop} (hx : xraw P h b x t K) :
    ∃ s v, K s ∧ s ≠ .top ∧ Std h s v ∧ (loadVar t ⟨b, x, none⟩).run P w = .ok v w := by
  unfold xraw at hx
  split at hx
  · exact hx.elim
  rename_i n L hc
  obtain ⟨-, he⟩ := chunkAt_spec hc
  rw [Nat.sub_zero] at he
  split at hx
  · exact hx.elim
  rename_i d hu
  split at hx
  · exact hx.elim
  rename_i inf hinf
  split at hx
  · exact hx.elim
  rename_i z hz
  have lenV0_eq : ∀ l : List Value, lenV0 l = l.length := fun l => by
    induction l with
    | nil => rfl
    | cons a r ih => simp [lenV0, ih]
  have agg : (isAgg t).run P w = .ok true w → (bif Nat.beq (lenV0 z.cells.toList) inf.size then rawL L b z.cells.toList x (fun l => K (.agg l)) else False) →
      ∃ s v, K s ∧ s ≠ .top ∧ Std h s v ∧ (loadVar t ⟨b, x, none⟩).run P w = .ok v w := by
    intro hagg hx
    cases hb : Nat.beq (lenV0 z.cells.toList) inf.size with
    | false => rw [hb] at hx; exact hx.elim
    | true =>
      rw [hb] at hx
      have hsz := Nat.eq_of_beq_eq_true hb
      rw [lenV0_eq] at hsz
      obtain ⟨l, vs, h1, h2, h3, h4⟩ := rawL_sound c he hx
      refine ⟨.agg l, .agg vs.toArray, h1, by simp, fun r => by simp [den, h2 r], ?_⟩
      simp only [loadVar, Sem.run_bind, hagg, Result.andThen_ok, if_true, run_sizeOf' hinf]
      rw [run_loadCells (by omega) fun y hy => h4 y (by omega)]
      simp
  split at hx
  · exact agg (by simp [isAgg, run_underlying' hu]) hx
  · rename_i n e
    have hagg : (isAgg t).run P w = .ok true w := by simp [isAgg, run_underlying' hu]
    split at hx
    · rename_i k _
      cases hb : Nat.beq n inf.size with
      | false => rw [hb] at hx; exact hx.elim
      | true =>
        rw [hb] at hx
        have hsz := Nat.eq_of_beq_eq_true hb
        obtain ⟨xs, ⟨g1, g2⟩, hx⟩ := hx
        refine ⟨.arr k xs, .agg (xs.map (Value.int k)).toArray, hx, by simp, fun r => by simp only [den], ?_⟩
        simp only [loadVar, Sem.run_bind, hagg, Result.andThen_ok, if_true, run_sizeOf' hinf]
        rw [run_loadCells (vs := xs.map (Value.int k)) (by simp; omega) fun y hy => by
          obtain ⟨o, h3, h4⟩ := rawCell_spec c he (g2 y (by omega))
          rw [cell_obj h3 h4]
          simp [List.getElem?_map, List.getElem?_eq_getElem (show y < xs.length by omega), List.getD_eq_getElem?_getD]]
        simp
    · exact agg hagg hx
  · rename_i hns hna
    have hagg : (isAgg t).run P w = .ok false w := by
      simp only [isAgg, Sem.run_bind, run_underlying' hu, Result.andThen_ok]
      cases d <;> first | rfl | exact absurd rfl (hns _) | exact absurd rfl (hna _ _)
    obtain ⟨v, h1, h2⟩ := exLike_spec hx
    obtain ⟨o, h3, h4⟩ := rawCell_spec c he h1
    refine ⟨.val v, v, h2, by simp, fun r => rfl, ?_⟩
    simp only [loadVar, Sem.run_bind, hagg, Result.andThen_ok, Bool.false_eq_true, if_false, run_load, cell_obj h3 h4]
/-- A load through a pointer to a position; if the position was given away, from the chunk. -/
def xload (P : Program) (h : List Ent) (n i j : Nat) (t : TypeId) (K : SV → Prop) : Prop :=
  match entAt h n with
  | some (.gone l) => xraw P h l.1 ((l.2.1 + i) * l.2.2 + j) t K
  | _ => xload0 P h n i j t K
theorem xload_sound {P : Program} {F : List (Nat × Blk)} {h : List Ent} {w : World} (c : Ctx F h w) {n i j : Nat} {t : TypeId} {K : SV → Prop} (hx : xload P h n i j t K) :
    ∃ s v, K s ∧ s ≠ .top ∧ Std h s v ∧ ∀ r, (loadVar t ⟨(locAt (locs h ++ r) n).1, ((locAt (locs h ++ r) n).2.1 + i) * (locAt (locs h ++ r) n).2.2 + j, none⟩).run P w = .ok v w := by
  unfold xload at hx
  split at hx
  · rename_i l he
    obtain ⟨s, v, h1, h2, h3, h4⟩ := xraw_sound c hx
    refine ⟨s, v, h1, h2, h3, fun r => ?_⟩
    rw [entAt_loc he r]
    exact h4
  · exact xload0_sound c hx
end Go.Sx
