/- Queues of messages: what they are, and how they lie in memory. -/
import Derived.Test.YthkcfocoekonjaaPgA
set_option maxRecDepth 100000
set_option linter.unusedVariables false
set_option linter.unusedSimpArgs false
namespace Go.Proofs.Ythkcfocoekonjaa
open Go Go.Sx

/-- A slice as a value. -/
structure Sl where
  o : Option Addr
  l : Nat
  c : Nat
/-- A message that waits. -/
structure QItem where
  id : Int
  lk : Int
  ln : Int
  stream : Int
  loose : Bool
  mid : Int
  ppid : Int
  begun : Bool
  frag : Int
  body : List Int
def QItem.cells (it : QItem) (v : Value) : List Value :=
  [.int .i64 it.id, .int .i64 it.lk, .int .u32 it.ln, .int .u16 it.stream, .bool it.loose, .int .u32 it.mid, .int .u32 it.ppid, v, .bool it.begun, .int .u32 it.frag]
def ItemAt (it : QItem) (p : Value) (L : Blks) : Prop := ∃ b v L1, p = .pointer (some ⟨b, 0, none⟩) ∧ WinAt 5 .u8 it.body v L1 ∧ L.Perm ((b, .cells (it.cells v) 128) :: L1)
/-- A stream's messages: a slice of pointers. -/
structure LX where
  b : Nat
  base : Nat
  o : Nat
  N : Nat
  cap : Nat
  ps : List Value
  G : Blks
def LX.val (x : LX) (n : Nat) : Value := .slice (some ⟨x.b, (x.base + x.o) * 1, none⟩) n x.cap
def LX.ok (x : LX) (its : List QItem) : Prop := its.length ≤ x.cap ∧ x.o + x.cap ≤ x.N ∧ x.ps.length = x.N ∧ SepL (fun (q : QItem × Value) L => ItemAt q.1 q.2 L) (its.zip ((x.ps.drop x.o).take its.length)) x.G
def LineAt (its : List QItem) (v : Value) (L : Blks) : Prop := ∃ x : LX, x.ok its ∧ v = x.val its.length ∧ L.Perm ((x.b, .tab 126 x.base x.N [.raws x.ps]) :: x.G)
structure SQ where
  inter : Bool
  held : Bool
  lines : List (Int × List QItem)
  nums : Int × Bool → Option Int
  all : Int
def kS (s : Int) : Value := .int .u16 s
def kN (s : Int × Bool) : Value := .agg #[.int .u16 s.1, .bool s.2]
def LinesAt (lines : List (Int × List QItem)) (m : Value → Option Value) (L : Blks) : Prop :=
  (lines.map Prod.fst).Nodup ∧ (∀ k, m k ≠ none → ∃ q ∈ lines, k = kS q.1) ∧ SepL (fun (q : Int × List QItem) L => ∃ v, m (kS q.1) = some v ∧ LineAt q.2 v L) lines L
def NumsAt (nums : Int × Bool → Option Int) (m : Value → Option Value) : Prop := (∀ k, m k ≠ none → ∃ s, k = kN s) ∧ ∀ s, m (kN s) = (nums s).map (Value.int .u32)
def SQAt (q : SQ) (b : Nat) (L : Blks) : Prop := ∃ (mi mn : Nat) (tv : Value) (fi fn : Value → Option Value) (Lt Li : Blks),
  L.Perm ((b, .cells [.bool q.inter, .map (some mi), tv, .bool q.held, .map (some mn), .int .i64 q.all] 123) :: (mi, .map (.one (.int .u16)) fi none) :: (mn, .map (.many [.int .u16, .bool]) fn none) :: (Lt ++ Li)) ∧
  WinNil 27 .u16 (q.lines.map Prod.fst) tv Lt ∧ LinesAt q.lines fi Li ∧ NumsAt q.nums fn

/-! Windows that grow. -/
theorem win_app {x : Win} {l : List Int} (h : x.ok l) {a : Int} {b base cap : Nat} {sp : List Int} (hc : l.length + 1 ≤ cap) (hs : sp.length = cap - (l.length + 1)) :
    ({ b := b, base := base, o := 0, N := cap, cap := cap, zs := (x.zs.drop x.o).take l.length ++ [a] ++ sp, G := [] } : Win).ok (l ++ [a]) := by
  obtain ⟨h1, h2, h3, h4⟩ := h
  rw [h4]
  refine ⟨by simpa using hc, by simp, by simp [hs]; omega, ?_⟩
  show ((l ++ [a] ++ sp).drop 0).take (l ++ [a]).length = _
  rw [List.drop_zero, List.take_left]
theorem win_one {a : Int} {b base cap : Nat} {sp : List Int} (hc : 1 ≤ cap) (hs : sp.length = cap - 1) : ({ b := b, base := base, o := 0, N := cap, cap := cap, zs := a :: sp, G := [] } : Win).ok [a] :=
  ⟨hc, by simp, by simp [hs]; omega, by simp⟩
theorem win_at {t : TypeId} {k : IntKind} {x : Win} {l : List Int} {n : Nat} {L G : Blks} (h : x.ok l) (hn : n = l.length) (hp : L.Perm ((x.b, .tab t x.base x.N [.ints k x.zs]) :: G)) : WinAt t k l (x.val n) L :=
  ⟨{ x with G := G }, h, by rw [hn]; rfl, hp⟩
theorem lx_app {x : LX} {its : List QItem} {it : QItem} (hx : x.ok its) {p : Value} {Lp : Blks} (hp : ItemAt it p Lp) {b base cap : Nat} {sp : List Value} (hc : its.length + 1 ≤ cap) (hs : sp.length = cap - (its.length + 1)) :
    ({ b := b, base := base, o := 0, N := cap, cap := cap, ps := (x.ps.drop x.o).take its.length ++ [p] ++ sp, G := x.G ++ Lp } : LX).ok (its ++ [it]) := by
  obtain ⟨h1, h2, h3, h4⟩ := hx
  have hl : ((x.ps.drop x.o).take its.length).length = its.length := by rw [List.length_take, List.length_drop]; omega
  refine ⟨by simpa using hc, by simp, ?_, ?_⟩
  · simp only [List.length_append, hl, List.length_singleton, hs]; omega
  · show SepL _ ((its ++ [it]).zip (((((x.ps.drop x.o).take its.length ++ [p] ++ sp).drop 0)).take (its ++ [it]).length)) _
    rw [List.drop_zero, List.take_left' (by simp [hl]), List.zip_append hl.symm]
    exact h4.app (SepL.one hp)
theorem lx_one {it : QItem} {p : Value} {Lp : Blks} (hp : ItemAt it p Lp) {b base cap : Nat} {sp : List Value} (hc : 1 ≤ cap) (hs : sp.length = cap - 1) :
    ({ b := b, base := base, o := 0, N := cap, cap := cap, ps := p :: sp, G := Lp } : LX).ok [it] :=
  ⟨hc, by simp, by simp [hs]; omega, by simpa using SepL.one (R := fun (q : QItem × Value) L => ItemAt q.1 q.2 L) (a := (it, p)) hp⟩
theorem line_at {x : LX} {its : List QItem} {n : Nat} {L : Blks} (h : x.ok its) (hn : n = its.length) (hp : L.Perm ((x.b, .tab 126 x.base x.N [.raws x.ps]) :: x.G)) : LineAt its (x.val n) L :=
  ⟨x, h, by rw [hn], hp⟩

/-! Streams in the map. -/
theorem kS_inj {a b : Int} (h : kS a = kS b) : a = b := by unfold kS at h; injection h
theorem updM_same (m : Value → Option Value) (k v : Value) : updM m k v k = some v := by simp [updM]
theorem updM_ne (m : Value → Option Value) {k k' : Value} (v : Value) (h : k' ≠ k) : updM m k v k' = m k' := by simp [updM, h]
theorem delM_same (m : Value → Option Value) (k : Value) : delM m k k = none := by simp [delM]
theorem delM_ne (m : Value → Option Value) {k k' : Value} (h : k' ≠ k) : delM m k k' = m k' := by simp [delM, h]
theorem del_upd (m : Value → Option Value) (k v : Value) : delM (updM m k v) k = delM m k := by
  funext x
  unfold delM updM
  split <;> rfl
theorem LinesAt.perm {l l' : List (Int × List QItem)} {m : Value → Option Value} {L : Blks} (h : LinesAt l m L) (p : l.Perm l') : LinesAt l' m L :=
  ⟨((p.map _).nodup_iff).1 h.1, fun k hk => by obtain ⟨q, h1, h2⟩ := h.2.1 k hk; exact ⟨q, p.mem_iff.1 h1, h2⟩, h.2.2.perm p⟩
theorem LinesAt.more {l : List (Int × List QItem)} {m : Value → Option Value} {L : Blks} (h : LinesAt l m L) (G : Blks) : LinesAt l m (L ++ G) := ⟨h.1, h.2.1, h.2.2.more G⟩
theorem LinesAt.permL {l : List (Int × List QItem)} {m : Value → Option Value} {L L' : Blks} (h : LinesAt l m L) (p : L.Perm L') : LinesAt l m L' := ⟨h.1, h.2.1, h.2.2.permL p⟩
theorem lines_none {l : List (Int × List QItem)} {m : Value → Option Value} {L : Blks} (h : LinesAt l m L) {s : Int} (hs : s ∉ l.map Prod.fst) : m (kS s) = none := by
  cases hm : m (kS s) with
  | none => rfl
  | some v =>
    obtain ⟨q, h1, h2⟩ := h.2.1 (kS s) (by rw [hm]; simp)
    exact absurd (by rw [kS_inj h2]; exact List.mem_map_of_mem h1) hs
theorem lines_new {l : List (Int × List QItem)} {m : Value → Option Value} {L L1 : Blks} (h : LinesAt l m L) {s : Int} (hs : s ∉ l.map Prod.fst) {its : List QItem} {v : Value} (hl : LineAt its v L1) :
    LinesAt (l ++ [(s, its)]) (updM m (kS s) v) (L ++ L1) := by
  refine ⟨?_, fun k hk => ?_, SepL.app (h.2.2.mono fun q hq L ⟨v', h1, h2⟩ => ⟨v', ?_, h2⟩) (SepL.one ⟨v, updM_same _ _ _, hl⟩)⟩
  · rw [List.map_append, List.nodup_append]
    exact ⟨h.1, by simp, fun a ha b hb => by simp at hb; subst hb; rintro rfl; exact hs ha⟩
  · by_cases e : k = kS s
    · exact ⟨(s, its), by simp, e⟩
    · rw [updM_ne _ _ e] at hk
      obtain ⟨q, h1, h2⟩ := h.2.1 k hk
      exact ⟨q, by simp [h1], h2⟩
  · rw [updM_ne _ _ fun e => hs (by rw [← kS_inj e]; exact List.mem_map_of_mem hq)]
    exact h1
/-- One stream is taken out. -/
theorem lines_out {A B : List (Int × List QItem)} {m : Value → Option Value} {L : Blks} {s : Int} {its : List QItem} (h : LinesAt (A ++ (s, its) :: B) m L) :
    ∃ v L1 L2, m (kS s) = some v ∧ L.Perm (L1 ++ L2) ∧ LineAt its v L1 ∧ s ∉ (A ++ B).map Prod.fst ∧ LinesAt (A ++ B) (delM m (kS s)) L2 := by
  obtain ⟨h1, h2, h3⟩ := h
  obtain ⟨L1, L2, k1, ⟨v, k2, k3⟩, k4⟩ := h3.mid
  have hp : (A ++ (s, its) :: B).Perm ((s, its) :: (A ++ B)) := List.perm_middle
  have hn := ((hp.map Prod.fst).nodup_iff).1 h1
  simp only [List.map_cons, List.nodup_cons] at hn
  refine ⟨v, L1, L2, k2, k1, k3, hn.1, hn.2, fun k hk => ?_, k4.mono fun q hq L ⟨v', e1, e2⟩ => ⟨v', ?_, e2⟩⟩
  · have hne : k ≠ kS s := by rintro rfl; rw [delM_same] at hk; exact hk rfl
    rw [delM_ne _ hne] at hk
    obtain ⟨q, e1, e2⟩ := h2 k hk
    rcases List.mem_cons.1 (hp.mem_iff.1 e1) with rfl | e1
    · exact absurd e2 hne
    · exact ⟨q, e1, e2⟩
  · rw [delM_ne _ fun e => hn.1 (by rw [← kS_inj e]; exact List.mem_map_of_mem hq)]
    exact e1
theorem upd_del (m : Value → Option Value) (k v : Value) : updM (delM m k) k v = updM m k v := by
  funext x
  unfold delM updM
  split
  · rfl
  · rename_i h; simp [h]
theorem lines_back {l : List (Int × List QItem)} {m : Value → Option Value} {L L1 : Blks} {s : Int} (h : LinesAt l (delM m (kS s)) L) (hs : s ∉ l.map Prod.fst) {its : List QItem} {v : Value} (hl : LineAt its v L1) :
    LinesAt (l ++ [(s, its)]) (updM m (kS s) v) (L ++ L1) := by
  have := lines_new h hs hl
  rwa [upd_del] at this
end Go.Proofs.Ythkcfocoekonjaa
