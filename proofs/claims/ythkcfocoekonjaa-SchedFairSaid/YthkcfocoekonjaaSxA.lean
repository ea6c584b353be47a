/- Symbolic values, blocks, ownership of blocks: the words of the symbolic executor. -/
import Derived.Orders
import Derived.KernelRfl
import Derived.Laws.Sem
set_option linter.unusedVariables false
set_option linter.unusedSimpArgs false
namespace Go.Sx
open Classical

/-- A column of a table: one cell of each element. -/
inductive Col where
  | ints (k : IntKind) (xs : List Int)
  | bools (xs : List Bool)
  | raws (xs : List Value)

def Col.len : Col → Nat
  | .ints _ xs => xs.length
  | .bools xs => xs.length
  | .raws xs => xs.length
def Col.get : Col → Nat → Value
  | .ints k xs, i => .int k (xs.getD i 0)
  | .bools xs, i => .bool (xs.getD i false)
  | .raws xs, i => xs.getD i .nilIface

/-- The shape of a map's keys. -/
inductive KS where
  | int (k : IntKind)
  | bool
  | str
inductive KShape where
  | one (s : KS)
  | many (l : List KS)
def KS.is : KS → Value → Prop
  | .int k, .int k' _ => k = k'
  | .bool, .bool _ => True
  | .str, .string _ => True
  | _, _ => False
def KS.all : List KS → List Value → Prop
  | [], [] => True
  | s :: ss, v :: vs => s.is v ∧ KS.all ss vs
  | _, _ => False
def KShape.is : KShape → Value → Prop
  | .one s, v => s.is v
  | .many l, .agg cs => KS.all l cs.toList
  | _, _ => False

noncomputable def getM (es : List MapEntry) (k : Value) : Option Value := (es.find? fun e => decide (e.key = k)).map (·.val)
noncomputable def updM (m : Value → Option Value) (k v : Value) : Value → Option Value := fun x => if x = k then some v else m x
noncomputable def delM (m : Value → Option Value) (k : Value) : Value → Option Value := fun x => if x = k then none else m x

structure GoodMap (ks : KShape) (es : Array MapEntry) (clock : Nat) : Prop where
  keys : ∀ e ∈ es.toList, ks.is e.key
  nodup : (es.toList.map (·.key)).Nodup
  born : (es.toList.map (·.born)).Nodup
  old : ∀ e ∈ es.toList, e.born < clock

/-- What a block holds. -/
inductive Blk where
  | cells (l : List Value) (t : TypeId)
  | tab (t : TypeId) (base len : Nat) (cols : List Col)
  | map (ks : KShape) (m : Value → Option Value) (st : Option (Value × Int))
  | obj (o : Obj)

def Blk.holds : Blk → Obj → Prop
  | .cells l t, o => o = .cells l.toArray t (0, 0)
  | .tab t base len cols, o => ∃ arr lo hi, o = .cells arr t (lo, hi) ∧ (∀ c ∈ cols, c.len = len ∧ ∀ i, i < len → (c.get i).oneCell' = true) ∧
      (∀ i j c, i < len → cols[j]? = some c → arr[(base + i) * cols.length + j]? = some (c.get i)) ∧
      (∀ x, base * cols.length ≤ x → x < (base + len) * cols.length → ¬ (lo ≤ x ∧ x < hi))
  | .map ks m st, o => ∃ es clock, o = .map es clock ∧ GoodMap ks es clock ∧ (∀ k, m k = getM es.toList k) ∧ ∀ k s, st = some (k, s) → ∃ e ∈ es.toList, e.key = k ∧ (e.born : Int) = s
  | .obj o', o => o = o'

def Owns (w : World) (L : List (Nat × Blk)) : Prop :=
  (∀ p ∈ L, ∃ o, w.heap[p.1]? = some o ∧ p.2.holds o) ∧ (L.map Prod.fst).Nodup

structure Rest (w w' : World) : Prop where
  os : w'.os = w.os
  tape : w'.tape = w.tape
  output : w'.output = w.output
  size : w.heap.size ≤ w'.heap.size

theorem Rest.refl (w : World) : Rest w w := ⟨rfl, rfl, rfl, Nat.le_refl _⟩
theorem Rest.trans {a b c : World} (h : Rest a b) (k : Rest b c) : Rest a c :=
  ⟨k.os.trans h.os, k.tape.trans h.tape, k.output.trans h.output, Nat.le_trans h.size k.size⟩

theorem Owns.perm {w : World} {L L' : List (Nat × Blk)} (h : Owns w L) (p : L.Perm L') : Owns w L' :=
  ⟨fun x hx => h.1 x (p.mem_iff.2 hx), (p.map Prod.fst).nodup_iff.1 h.2⟩
theorem Owns.sub {w : World} {L L' : List (Nat × Blk)} (h : Owns w L) (p : L'.Sublist L) : Owns w L' :=
  ⟨fun x hx => h.1 x (p.subset hx), (p.map Prod.fst).nodup h.2⟩
theorem Owns.get {w : World} {L : List (Nat × Blk)} (h : Owns w L) {b : Nat} {k : Blk} (hm : (b, k) ∈ L) : ∃ o, w.heap[b]? = some o ∧ k.holds o := h.1 _ hm
theorem Owns.lt {w : World} {L : List (Nat × Blk)} (h : Owns w L) {b : Nat} (hm : b ∈ L.map Prod.fst) : b < w.heap.size := by
  obtain ⟨p, hp, rfl⟩ := List.mem_map.1 hm
  obtain ⟨o, ho, _⟩ := h.1 p hp
  exact (Array.getElem?_eq_some_iff.1 ho).1

/-- One block is written: the others stay. -/
theorem Owns.write {w w' : World} {A B : List (Nat × Blk)} {b : Nat} {k k' : Blk} (h : Owns w (A ++ (b, k) :: B))
    (ho : ∃ o, w'.heap[b]? = some o ∧ k'.holds o) (hs : ∀ c, c ≠ b → w'.heap[c]? = w.heap[c]?) : Owns w' (A ++ (b, k') :: B) := by
  have hnd := h.2
  refine ⟨fun p hp => ?_, by simpa using hnd⟩
  rw [List.mem_append, List.mem_cons] at hp
  simp only [List.map_append, List.map_cons, List.nodup_append, List.nodup_cons] at hnd
  rcases hp with hp | rfl | hp
  · have hne : p.1 ≠ b := fun e => hnd.2.2 p.1 (List.mem_map_of_mem hp) b (by simp) e
    rw [hs _ hne]
    exact h.1 p (by simp [hp])
  · exact ho
  · have hne : p.1 ≠ b := fun e => hnd.2.1.1 (e ▸ List.mem_map_of_mem hp)
    rw [hs _ hne]
    exact h.1 p (by simp [hp])

/-- A new block. -/
theorem Owns.alloc {w : World} {A B : List (Nat × Blk)} {o : Obj} {k : Blk} (h : Owns w (A ++ B)) (hk : k.holds o) :
    Owns { w with heap := w.heap.push o } (A ++ (w.heap.size, k) :: B) := by
  refine ⟨fun p hp => ?_, ?_⟩
  · rw [List.mem_append, List.mem_cons] at hp
    have old : p ∈ A ++ B → ∃ o', (w.heap.push o)[p.1]? = some o' ∧ p.2.holds o' := fun hm => by
      obtain ⟨o', h1, h2⟩ := h.1 p hm
      have := (Array.getElem?_eq_some_iff.1 h1).1
      exact ⟨o', by rw [Array.getElem?_push, if_neg (by omega)]; exact h1, h2⟩
    rcases hp with hp | rfl | hp
    · exact old (by simp [hp])
    · exact ⟨o, by simp, hk⟩
    · exact old (by simp [hp])
  · have hp : (A ++ (w.heap.size, k) :: B).Perm ((w.heap.size, k) :: (A ++ B)) := List.perm_middle
    refine ((hp.map Prod.fst).nodup_iff).2 ?_
    simp only [List.map_cons, List.nodup_cons]
    exact ⟨fun hm => Nat.lt_irrefl _ (h.lt hm), h.2⟩

/-- Symbolic values. A pointer names a POSITION in the symbolic heap. -/
inductive SV where
  | top
  | val (v : Value)
  | tt
  | ff
  | prop (p : Prop)
  | ptr (n i j : Nat)
  | slc (n o len cap : Nat)
  | mp (n : Nat)
  | agg (l : List SV)
  | tup (l : List SV)
  | ifc (t : TypeId) (v : SV)
  | fn (f : FuncId) (caps : List SV)

abbrev Loc := Nat × Nat × Nat      -- block, base, width

def locAt : List Loc → Nat → Loc
  | [], _ => (0, 0, 0)
  | l :: _, 0 => l
  | _ :: r, n + 1 => locAt r n

mutual
noncomputable def den (ρ : List Loc) : SV → Value
  | .top => .nilIface
  | .val v => v
  | .tt => .bool true
  | .ff => .bool false
  | .prop p => .bool (decide p)
  | .ptr n i j => .pointer (some ⟨(locAt ρ n).1, ((locAt ρ n).2.1 + i) * (locAt ρ n).2.2 + j, none⟩)
  | .slc n o len cap => .slice (some ⟨(locAt ρ n).1, ((locAt ρ n).2.1 + o) * (locAt ρ n).2.2, none⟩) len cap
  | .mp n => .map (some (locAt ρ n).1)
  | .agg l => .agg (denL ρ l).toArray
  | .tup l => .tuple (denL ρ l).toArray
  | .ifc t v => .iface t (den ρ v)
  | .fn f caps => .func (.func f) #[] (denL ρ caps).toArray
noncomputable def denL (ρ : List Loc) : List SV → List Value
  | [] => []
  | v :: r => den ρ v :: denL ρ r
end

theorem denL_eq (ρ : List Loc) (l : List SV) : denL ρ l = l.map (den ρ) := by
  induction l with
  | nil => rfl
  | cons a r ih => simp [denL, ih]

/-- What the symbolic heap says of one block. -/
inductive SBlk where
  | cells (wd : Nat) (l : List SV) (t : TypeId)
  | tab (t : TypeId) (base len : Nat) (cols : List Col)
  | map (ks : KShape) (m : Value → Option Value) (st : Option (Value × Int))
  | obj (o : Obj)

inductive Ent where
  | own (b : Nat) (k : SBlk)
  | ro (b : Nat) (k : SBlk)
  | chunk (L : List (Nat × Blk))
  | gone (l : Loc)

def SBlk.base : SBlk → Nat
  | .tab _ base _ _ => base
  | _ => 0
def SBlk.wd : SBlk → Nat
  | .cells wd _ _ => wd
  | .tab _ _ _ cols => cols.length
  | _ => 1
def Ent.loc : Ent → Loc
  | .own b k => (b, k.base, k.wd)
  | .ro b k => (b, k.base, k.wd)
  | .chunk _ => (0, 0, 0)
  | .gone l => l
def locs : List Ent → List Loc
  | [] => []
  | e :: r => e.loc :: locs r
theorem locs_eq (h : List Ent) : locs h = h.map Ent.loc := by
  induction h with
  | nil => rfl
  | cons a r ih => simp [locs, ih]

noncomputable def SBlk.den (ρ : List Loc) : SBlk → Blk
  | .cells _ l t => .cells (denL ρ l) t
  | .tab t base len cols => .tab t base len cols
  | .map ks m st => .map ks m st
  | .obj o => .obj o

noncomputable def Ent.blocks (ρ : List Loc) : Ent → List (Nat × Blk)
  | .own b k => [(b, k.den ρ)]
  | .chunk L => L
  | _ => []
noncomputable def owned (ρ : List Loc) : List Ent → List (Nat × Blk)
  | [] => []
  | e :: r => e.blocks ρ ++ owned ρ r
theorem owned_append (ρ : List Loc) (a b : List Ent) : owned ρ (a ++ b) = owned ρ a ++ owned ρ b := by
  induction a with
  | nil => rfl
  | cons x r ih => simp [owned, ih]

/-- The heap `h'` knows every position of `h`, at the same place. -/
def Ext (h h' : List Ent) : Prop := ∃ r, locs h' = locs h ++ r
theorem Ext.refl (h : List Ent) : Ext h h := ⟨[], by simp⟩
theorem Ext.trans {a b c : List Ent} (h : Ext a b) (k : Ext b c) : Ext a c := by
  obtain ⟨r, hr⟩ := h
  obtain ⟨s, hs⟩ := k
  exact ⟨r ++ s, by rw [hs, hr, List.append_assoc]⟩

/-- The symbolic value stands for `v`, however far the heap grows. -/
def Std (h : List Ent) (s : SV) (v : Value) : Prop := ∀ r, den (locs h ++ r) s = v
theorem Std.ext {h h' : List Ent} {s : SV} {v : Value} (e : Ext h h') (k : Std h s v) : Std h' s v := fun r => by
  obtain ⟨q, hq⟩ := e
  rw [hq, List.append_assoc]
  exact k _

end Go.Sx
