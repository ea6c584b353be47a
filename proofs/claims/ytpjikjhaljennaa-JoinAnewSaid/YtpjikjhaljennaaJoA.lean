/- Joiners: what they are, how they lie in memory, what they do. -/
import Derived.Test.YtpjikjhaljennaaSxPx
import Derived.Test.YtpjikjhaljennaaPgA
set_option maxRecDepth 100000
set_option linter.unusedVariables false
set_option linter.unusedSimpArgs false
namespace Go.Proofs.Ytpjikjhaljennaa
open Go Go.Sx
attribute [local irreducible] Go.Sx.xrun

open Classical
/-! Bytes that a slice value shows. -/
def Bts (L : Blks) (o : Option Addr) (l : Nat) (bs : List Int) : Prop := bs.length = l ∧ (0 < l → ∃ b x, o = some ⟨b, x, none⟩ ∧ ∀ i, i < l → rawCell L b (x + i) (.int .u8 (bs.getD i 0)))
theorem seen_left (L G : Blks) : SeenIn L (L ++ G) := fun _ _ _ ⟨k, h1, h2⟩ => ⟨k, List.mem_append_left _ h1, h2⟩
theorem seen_right (L G : Blks) : SeenIn G (L ++ G) := fun _ _ _ ⟨k, h1, h2⟩ => ⟨k, List.mem_append_right _ h1, h2⟩
theorem seen_perm {L L' : Blks} (h : L.Perm L') : SeenIn L L' := fun _ _ _ ⟨k, h1, h2⟩ => ⟨k, h.mem_iff.1 h1, h2⟩
theorem seen_sub {L L' : Blks} (h : ∀ p ∈ L, p ∈ L') : SeenIn L L' := fun _ _ _ ⟨k, h1, h2⟩ => ⟨k, h _ h1, h2⟩
theorem SeenIn.trans {L L' L'' : Blks} (h : SeenIn L L') (h' : SeenIn L' L'') : SeenIn L L'' := fun b x v hc => h' b x v (h b x v hc)
theorem Bts.seen {L L' : Blks} {o : Option Addr} {l : Nat} {bs : List Int} (hb : Bts L o l bs) (h : SeenIn L L') : Bts L' o l bs :=
  ⟨hb.1, fun hl => let ⟨b, x, e, hc⟩ := hb.2 hl; ⟨b, x, e, fun i hi => h _ _ _ (hc i hi)⟩⟩
theorem Bts.raw {L : Blks} {b x l : Nat} {bs : List Int} (hb : Bts L (some ⟨b, x, none⟩) l bs) (hl : 0 < l) : rawTab L b x l [.ints .u8 bs] := by
  obtain ⟨b', x', e, hc⟩ := hb.2 hl
  simp at e
  obtain ⟨rfl, rfl⟩ := e
  exact .inr (.inl ⟨hl, .u8, bs, rfl, hb.1, hc⟩)
theorem Bts.tab {L : Blks} {b base cap n : Nat} {t : TypeId} {xs bs : List Int} (hm : (b, Blk.tab t base cap [.ints .u8 xs]) ∈ L) (h1 : bs.length = n) (h2 : n ≤ cap) (h3 : xs.take n = bs) : Bts L (some ⟨b, base, none⟩) n bs := by
  refine ⟨h1, fun h0 => ⟨b, base, rfl, fun i hi => ⟨_, hm, i, 0, .ints .u8 xs, by simp, by omega, rfl, ?_⟩⟩⟩
  show Value.int .u8 _ = Value.int .u8 _
  rw [← h3, List.getD_eq_getElem?_getD, List.getD_eq_getElem?_getD, List.getElem?_take_of_lt hi]

/-! Pieces and messages. -/
structure JS where
  o : Option Addr
  l : Nat
  c : Nat
structure Pc where
  kd : Int
  bg : Bool
  en : Bool
  lo : Bool
  tsn : Int
  st : Int
  mid : Int
  pp : Int
  fr : Int
  bs : List Int
def Pc.zero : Pc := ⟨0, false, false, false, 0, 0, 0, 0, 0, []⟩
def Pc.cells (p : Pc) (s : JS) : List Value := [.int .u8 p.kd, .bool p.bg, .bool p.en, .bool p.lo, .bool false, .int .u32 p.tsn, .int .u16 p.st, .int .u32 p.mid, .int .u32 p.pp, .int .u32 p.fr, .int .u32 0, .int .u32 0, .int .u16 0, .int .u16 0,
  .slice none 0 0, .slice none 0 0, .slice none 0 0, .slice none 0 0, .slice s.o s.l s.c]
def Pc.svs (p : Pc) (s : JS) : List SV := [.val (.int .u8 p.kd), .val (.bool p.bg), .val (.bool p.en), .val (.bool p.lo), .val (.bool false), .val (.int .u32 p.tsn), .val (.int .u16 p.st), .val (.int .u32 p.mid), .val (.int .u32 p.pp), .val (.int .u32 p.fr), .val (.int .u32 0), .val (.int .u32 0), .val (.int .u16 0), .val (.int .u16 0),
  .val (.slice none 0 0), .val (.slice none 0 0), .val (.slice none 0 0), .val (.slice none 0 0), .sl s.o s.l s.c]
def PcAt (G : Blks) (p : Pc) (v : Value) : Prop := ∃ s : JS, v = .agg (p.cells s).toArray ∧ Bts G s.o s.l p.bs ∧ s.l ≤ s.c ∧ 0 < s.l ∧ s.l ≤ 100000
structure Mg where
  st : Int
  lo : Bool
  mid : Int
  pp : Int
  bs : List Int
def Mg.zero : Mg := ⟨0, false, 0, 0, []⟩
def Mg.cells (m : Mg) (s : JS) : List Value := [.int .u16 m.st, .bool m.lo, .int .u32 m.mid, .int .u32 m.pp, .slice s.o s.l s.c]
def Mg.svs (m : Mg) (s : JS) : List SV := [.val (.int .u16 m.st), .val (.bool m.lo), .val (.int .u32 m.mid), .val (.int .u32 m.pp), .sl s.o s.l s.c]
def MgAt (G : Blks) (m : Mg) (v : Value) : Prop := ∃ s : JS, v = .agg (m.cells s).toArray ∧ Bts G s.o s.l m.bs ∧ s.l ≤ s.c
abbrev Ky := Int × Bool × Int
def kT (t : Int) : Value := .int .u32 t
def kK (k : Ky) : Value := .agg #[.int .u16 k.1, .bool k.2.1, .int .u32 k.2.2]
def kSt (s : Int) : Value := .int .u16 s
def Mg.key (m : Mg) : Ky := (m.st, m.lo, m.mid)
theorem kT_inj {a b : Int} (h : kT a = kT b) : a = b := by unfold kT at h; injection h
theorem kSt_inj {a b : Int} (h : kSt a = kSt b) : a = b := by unfold kSt at h; injection h
theorem kK_inj {a b : Ky} (h : kK a = kK b) : a = b := by
  obtain ⟨a1, a2, a3⟩ := a
  obtain ⟨b1, b2, b3⟩ := b
  unfold kK at h
  simpa using h
theorem PcAt.seen {G G' : Blks} {p : Pc} {v : Value} (h : PcAt G p v) (hs : SeenIn G G') : PcAt G' p v :=
  let ⟨s, h1, h2, h3⟩ := h; ⟨s, h1, h2.seen hs, h3⟩
theorem MgAt.seen {G G' : Blks} {m : Mg} {v : Value} (h : MgAt G m v) (hs : SeenIn G G') : MgAt G' m v :=
  let ⟨s, h1, h2, h3⟩ := h; ⟨s, h1, h2.seen hs, h3⟩

/-! Maps whose entries own blocks. -/
theorem jupd_same (m : Value → Option Value) (k v : Value) : updM m k v k = some v := by simp [updM]
theorem jupd_ne (m : Value → Option Value) {k k' : Value} (v : Value) (h : k' ≠ k) : updM m k v k' = m k' := by simp [updM, h]
theorem jdel_same (m : Value → Option Value) (k : Value) : delM m k k = none := by simp [delM]
theorem jdel_ne (m : Value → Option Value) {k k' : Value} (h : k' ≠ k) : delM m k k' = m k' := by simp [delM, h]
def SM {α : Type} (key : α → Value) (R : α → Value → Blks → Prop) (l : List α) (m : Value → Option Value) (L : Blks) : Prop :=
  (l.map key).Nodup ∧ (∀ k, m k ≠ none → ∃ q ∈ l, k = key q) ∧ SepL (fun q L => ∃ v, m (key q) = some v ∧ R q v L) l L
section
variable {α : Type} {key : α → Value} {R R' : α → Value → Blks → Prop} {l l' : List α} {m : Value → Option Value} {L L' : Blks}
theorem SM.empty : SM key R [] (fun _ => none) [] := ⟨List.nodup_nil, fun k h => absurd rfl h, trivial⟩
theorem SM.emptyL (L : Blks) : SM key R [] (fun _ => none) L := ⟨List.nodup_nil, fun k h => absurd rfl h, trivial⟩
theorem SM.perm (h : SM key R l m L) (p : l.Perm l') : SM key R l' m L :=
  ⟨((p.map _).nodup_iff).1 h.1, fun k hk => by obtain ⟨q, h1, h2⟩ := h.2.1 k hk; exact ⟨q, p.mem_iff.1 h1, h2⟩, h.2.2.perm p⟩
theorem SM.more (h : SM key R l m L) (G : Blks) : SM key R l m (L ++ G) := ⟨h.1, h.2.1, h.2.2.more G⟩
theorem SM.permL (h : SM key R l m L) (p : L.Perm L') : SM key R l m L' := ⟨h.1, h.2.1, h.2.2.permL p⟩
theorem SM.mono (h : SM key R l m L) (hr : ∀ a ∈ l, ∀ v L, R a v L → R' a v L) : SM key R' l m L :=
  ⟨h.1, h.2.1, h.2.2.mono fun a ha L ⟨v, h1, h2⟩ => ⟨v, h1, hr a ha v L h2⟩⟩
theorem SM.none (h : SM key R l m L) {k : Value} (hk : ∀ a ∈ l, key a ≠ k) : m k = none := by
  cases hm : m k with
  | none => rfl
  | some v =>
    obtain ⟨q, h1, h2⟩ := h.2.1 k (by rw [hm]; simp)
    exact absurd h2.symm (hk q h1)
theorem SM.new (h : SM key R l m L) {a : α} (hk : ∀ x ∈ l, key x ≠ key a) {v : Value} {L1 : Blks} (hl : R a v L1) : SM key R (l ++ [a]) (updM m (key a) v) (L ++ L1) := by
  refine ⟨?_, fun k hk' => ?_, SepL.app (h.2.2.mono fun q hq L ⟨v', h1, h2⟩ => ⟨v', ?_, h2⟩) (SepL.one ⟨v, jupd_same _ _ _, hl⟩)⟩
  · rw [List.map_append, List.nodup_append]
    refine ⟨h.1, by simp, fun x hx y hy => ?_⟩
    simp at hy
    subst hy
    obtain ⟨q, hq, rfl⟩ := List.mem_map.1 hx
    exact hk q hq
  · by_cases e : k = key a
    · exact ⟨a, by simp, e⟩
    · rw [jupd_ne _ _ e] at hk'
      obtain ⟨q, h1, h2⟩ := h.2.1 k hk'
      exact ⟨q, by simp [h1], h2⟩
  · rw [jupd_ne _ _ (hk q hq)]
    exact h1
/-- One entry is taken out. -/
theorem SM.out {A B : List α} {a : α} (h : SM key R (A ++ a :: B) m L) : ∃ v L1 L2, m (key a) = some v ∧ L.Perm (L1 ++ L2) ∧ R a v L1 ∧ (∀ x ∈ A ++ B, key x ≠ key a) ∧ SM key R (A ++ B) (delM m (key a)) L2 := by
  obtain ⟨h1, h2, h3⟩ := h
  obtain ⟨L1, L2, k1, ⟨v, k2, k3⟩, k4⟩ := h3.mid
  have hp : (A ++ a :: B).Perm (a :: (A ++ B)) := List.perm_middle
  have hn : ((a :: (A ++ B)).map key).Nodup := ((hp.map key).nodup_iff).1 h1
  rw [List.map_cons, List.nodup_cons] at hn
  have hne : ∀ x ∈ A ++ B, key x ≠ key a := fun x hx e => hn.1 (by rw [← e]; exact List.mem_map_of_mem hx)
  refine ⟨v, L1, L2, k2, k1, k3, hne, hn.2, fun k hk => ?_, k4.mono fun q hq L ⟨v', e1, e2⟩ => ⟨v', by rw [jdel_ne _ (hne q hq)]; exact e1, e2⟩⟩
  by_cases e : k = key a
  · rw [e, jdel_same] at hk
    exact absurd rfl hk
  · rw [jdel_ne _ e] at hk
    obtain ⟨q, h5, h6⟩ := h2 k hk
    rcases List.mem_cons.1 (hp.mem_iff.1 h5) with rfl | h5
    · exact absurd h6 e
    · exact ⟨q, h5, h6⟩
theorem SM.get (h : SM key R l m L) {a : α} (ha : a ∈ l) : ∃ v L1 L2, m (key a) = some v ∧ L.Perm (L1 ++ L2) ∧ R a v L1 := by
  obtain ⟨A, B, rfl⟩ := List.append_of_mem ha
  obtain ⟨v, L1, L2, h1, h2, h3, -⟩ := h.out
  exact ⟨v, L1, L2, h1, h2, h3⟩
theorem jdel_none {k : Value} (h : m k = Option.none) : delM m k = m := by
  funext x
  unfold delM
  split
  · rename_i e; rw [e, h]
  · rfl
theorem jupd_del (v : Value) (k : Value) : updM (delM m k) k v = updM m k v := by
  funext x
  unfold delM updM
  split <;> simp_all
theorem SM.inj (h : SM key R l m L) {a b : α} (ha : a ∈ l) (hb : b ∈ l) (e : key a = key b) : a = b := by
  obtain ⟨A, B, rfl⟩ := List.append_of_mem ha
  obtain ⟨v, L1, L2, -, -, -, h4, -⟩ := h.out
  rcases List.mem_append.1 hb with hb | hb
  · exact absurd e.symm (h4 b (List.mem_append_left _ hb))
  · rcases List.mem_cons.1 hb with rfl | hb
    · rfl
    · exact absurd e.symm (h4 b (List.mem_append_right _ hb))
/-- What is deleted is filtered away. -/
theorem SM.del (h : SM key R l m L) (k : Value) : ∃ L2 G, L.Perm (L2 ++ G) ∧ SM key R (l.filter fun a => decide (key a ≠ k)) (delM m k) L2 := by
  by_cases hk : ∃ a ∈ l, key a = k
  · obtain ⟨a, ha, rfl⟩ := hk
    obtain ⟨A, B, rfl⟩ := List.append_of_mem ha
    obtain ⟨v, L1, L2, h1, h2, h3, h4, h5⟩ := h.out
    refine ⟨L2, L1, h2.trans List.perm_append_comm, ?_⟩
    have e : ((A ++ a :: B).filter fun x => decide (key x ≠ key a)) = A ++ B := by
      rw [List.filter_append, List.filter_cons_of_neg (by simp), List.filter_eq_self.2 fun x hx => ?_, List.filter_eq_self.2 fun x hx => ?_]
      · simpa using h4 x (List.mem_append_right _ hx)
      · simpa using h4 x (List.mem_append_left _ hx)
    rw [e]
    exact h5
  · have hk' : ∀ a ∈ l, key a ≠ k := fun a ha e => hk ⟨a, ha, e⟩
    rw [List.filter_eq_self.2 fun x hx => by simpa using hk' x hx, jdel_none (h.none hk')]
    exact ⟨L, [], by simp, h⟩
end
/-- Entries that own nothing. -/
def Pure {α : Type} (R : α → Value → Prop) : α → Value → Blks → Prop := fun a v _ => R a v
theorem SM.pureL {α : Type} {key : α → Value} {R : α → Value → Prop} {l : List α} {m : Value → Option Value} {L : Blks} (h : SM key (Pure R) l m L) (L' : Blks) : SM key (Pure R) l m L' := by
  have h0 : ∀ a ∈ l, ∃ v, m (key a) = some v ∧ R a v := fun a ha => by
    obtain ⟨v, L1, L2, h1, -, h2⟩ := h.get ha
    exact ⟨v, h1, h2⟩
  refine ⟨h.1, h.2.1, ?_⟩
  have : ∀ (l' : List α), (∀ a ∈ l', a ∈ l) → SepL (fun q (_ : Blks) => ∃ v, m (key q) = some v ∧ Pure R q v []) l' [] := fun l' => by
    induction l' with
    | nil => exact fun _ => trivial
    | cons a r ih => exact fun hs => ⟨[], [], List.Perm.refl _, h0 a (hs a (by simp)), ih fun x hx => hs x (by simp [hx])⟩
  exact ((this l fun a ha => ha).permL (List.Perm.refl _)).more L'

/-! Joiners. -/
structure JQ where
  inter : Bool
  parts : List (Ky × List Pc)
  pieces : List Pc
  wait : List Mg
  next : Int → Int
  ready : List Mg
/-- A slice of messages. -/
structure MW where
  b : Nat
  base : Nat
  o : Nat
  N : Nat
  cap : Nat
  c1 : List Int
  c2 : List Bool
  c3 : List Int
  c4 : List Int
  c5 : List Value
def MW.blk (x : MW) : Blk := .tab 38 x.base x.N [.ints .u16 x.c1, .bools x.c2, .ints .u32 x.c3, .ints .u32 x.c4, .raws x.c5]
def MW.row (x : MW) (G : Blks) (i : Nat) (m : Mg) : Prop := x.c1.getD i 0 = m.st ∧ x.c2.getD i false = m.lo ∧ x.c3.getD i 0 = m.mid ∧ x.c4.getD i 0 = m.pp ∧ ∃ s : JS, x.c5.getD i .nilIface = .slice s.o s.l s.c ∧ Bts G s.o s.l m.bs ∧ s.l ≤ s.c
def MW.ok (x : MW) (G : Blks) (ms : List Mg) : Prop := (x.c1.length = x.N ∧ x.c2.length = x.N ∧ x.c3.length = x.N ∧ x.c4.length = x.N ∧ x.c5.length = x.N) ∧ ms.length ≤ x.cap ∧ x.o + x.cap ≤ x.N ∧ ∀ i m, ms[i]? = some m → x.row G (x.o + i) m
def ReadyAt (G : Blks) (ms : List Mg) (v : Value) (L : Blks) : Prop := (ms = [] ∧ v = .slice none 0 0 ∧ L = []) ∨
  ∃ x : MW, x.ok G ms ∧ v = .slice (some ⟨x.b, (x.base + x.o) * 5, none⟩) ms.length x.cap ∧ L = [(x.b, x.blk)]
def NextAt (next : Int → Int) (m : Value → Option Value) : Prop := (∀ k, m k ≠ none → ∃ s, k = kSt s) ∧ ∀ s, (m (kSt s)).getD (.int .u32 0) = .int .u32 (next s)
def InnAt (G : Blks) (a : Ky × List Pc) (v : Value) (L : Blks) : Prop := ∃ bi fi, v = .map (some bi) ∧ SM (fun p : Pc => kT p.fr) (Pure (PcAt G)) a.2 fi [] ∧ L.Perm [(bi, .map (.one (.int .u32)) fi none)]
def PartsAt' (G : Blks) (parts : List (Ky × List Pc)) (m : Value → Option Value) (L : Blks) : Prop := SM (fun a : Ky × List Pc => kK a.1) (InnAt G) parts m L
def PiecesAt (G : Blks) (ps : List Pc) (m : Value → Option Value) : Prop := SM (fun p : Pc => kT p.tsn) (Pure (PcAt G)) ps m []
def WaitAt (G : Blks) (ms : List Mg) (m : Value → Option Value) : Prop := SM (fun a : Mg => kK a.key) (Pure (MgAt G)) ms m []
abbrev kSh : KShape := .many [.int .u16, .bool, .int .u32]
def JAt (q : JQ) (b : Nat) (G L : Blks) : Prop := ∃ (mp mq mw mn : Nat) (rv : Value) (fp fq fw fn : Value → Option Value) (Lr Li : Blks),
  L.Perm ((b, .cells [.bool q.inter, .map (some mp), .map (some mq), .map (some mw), .map (some mn), rv] 97) :: (mp, .map kSh fp none) :: (mq, .map (.one (.int .u32)) fq none) :: (mw, .map kSh fw none) :: (mn, .map (.one (.int .u16)) fn none) :: (Lr ++ (Li ++ G))) ∧
  ReadyAt G q.ready rv Lr ∧ PartsAt' G q.parts fp Li ∧ PiecesAt G q.pieces fq ∧ WaitAt G q.wait fw ∧ NextAt q.next fn

/-! What it shows does not hang on more blocks. -/
theorem MW.row.seen {x : MW} {G G' : Blks} {i : Nat} {m : Mg} (h : x.row G i m) (hs : SeenIn G G') : x.row G' i m :=
  let ⟨h1, h2, h3, h4, s, h5, h6, h7⟩ := h; ⟨h1, h2, h3, h4, s, h5, h6.seen hs, h7⟩
theorem MW.ok.seen {x : MW} {G G' : Blks} {ms : List Mg} (h : x.ok G ms) (hs : SeenIn G G') : x.ok G' ms := ⟨h.1, h.2.1, h.2.2.1, fun i m hm => (h.2.2.2 i m hm).seen hs⟩
theorem ReadyAt.seen {G G' : Blks} {ms : List Mg} {v : Value} {L : Blks} (h : ReadyAt G ms v L) (hs : SeenIn G G') : ReadyAt G' ms v L := by
  rcases h with h | ⟨x, h1, h2⟩
  · exact .inl h
  · exact .inr ⟨x, h1.seen hs, h2⟩
theorem PiecesAt.seen {G G' : Blks} {ps : List Pc} {m : Value → Option Value} (h : PiecesAt G ps m) (hs : SeenIn G G') : PiecesAt G' ps m := SM.mono h fun a _ v L h => PcAt.seen h hs
theorem WaitAt.seen {G G' : Blks} {ms : List Mg} {m : Value → Option Value} (h : WaitAt G ms m) (hs : SeenIn G G') : WaitAt G' ms m := SM.mono h fun a _ v L h => MgAt.seen h hs
theorem InnAt.seen {G G' : Blks} {a : Ky × List Pc} {v : Value} {L : Blks} (h : InnAt G a v L) (hs : SeenIn G G') : InnAt G' a v L :=
  let ⟨bi, fi, h1, h2, h3⟩ := h; ⟨bi, fi, h1, SM.mono h2 fun a _ v L h => PcAt.seen h hs, h3⟩
theorem PartsAt'.seen {G G' : Blks} {ps : List (Ky × List Pc)} {m : Value → Option Value} {L : Blks} (h : PartsAt' G ps m L) (hs : SeenIn G G') : PartsAt' G' ps m L := SM.mono h fun a _ v L h => InnAt.seen h hs

/-! What a joiner does. -/
def kindF (i : Bool) : Int := if i = true then 64 else 0
def midF (i : Bool) (n : Int) : Int := if i = true then n else iand .u32 n 65535
def lessF (a b : Int) : Prop := IntKind.wrap .i32 (IntKind.wrap .u32 (b - a)) > 0
def lessS (a b : Int) : Prop := IntKind.wrap .i16 (IntKind.wrap .u16 (IntKind.wrap .u16 b - IntKind.wrap .u16 a)) > 0
def behindF (i : Bool) (a b : Int) : Prop := if i = true then lessF a b else lessS a b
def Pc.key (i : Bool) (p : Pc) : Ky := (p.st, p.lo, midF i p.mid)
def JQ.stale (q : JQ) (k : Ky) : Prop := k.2.1 = false ∧ ((∃ m ∈ q.wait, m.key = k) ∨ behindF q.inter k.2.2 (q.next k.1))
def fitsF (a b : Pc) : Prop := a.st = b.st ∧ (a.lo = b.lo ∧ (a.lo = true ∨ IntKind.wrap .u16 a.mid = IntKind.wrap .u16 b.mid))
/-- The first piece of a run of numbers, going back. -/
inductive BackS (ps : List Pc) : Nat → Int → Option Int → Prop
  | bg {t : Int} {p : Pc} (hp : p ∈ ps) (ht : p.tsn = t) (hb : p.bg = true) : BackS ps 0 t (some t)
  | no {t : Int} {p : Pc} (hp : p ∈ ps) (ht : p.tsn = t) (hb : p.bg = false) (hn : ∀ c ∈ ps, c.tsn = IntKind.wrap .u32 (t - 1) → c.en = true ∨ ¬ fitsF c p) : BackS ps 0 t none
  | st {n : Nat} {t : Int} {p c : Pc} {r : Option Int} (hp : p ∈ ps) (ht : p.tsn = t) (hb : p.bg = false) (hc : c ∈ ps) (hct : c.tsn = IntKind.wrap .u32 (t - 1)) (he : c.en = false) (hf : fitsF c p)
      (h : BackS ps n (IntKind.wrap .u32 (t - 1)) r) : BackS ps (n + 1) t r
/-- The pieces of a run of numbers, going on. -/
inductive FwdS (ps : List Pc) (p0 : Pc) : Nat → Int → List Pc → Pc → Option (List Pc) → Prop
  | en {t : Int} {out : List Pc} {p : Pc} (he : p.en = true) : FwdS ps p0 0 t out p (some (out ++ [p]))
  | no {t : Int} {out : List Pc} {p : Pc} (he : p.en = false) (hn : ∀ c ∈ ps, c.tsn = IntKind.wrap .u32 (t + 1) → c.bg = true ∨ ¬ fitsF c p0) : FwdS ps p0 0 t out p none
  | st {n : Nat} {t : Int} {out : List Pc} {p c : Pc} {r : Option (List Pc)} (he : p.en = false) (hc : c ∈ ps) (hct : c.tsn = IntKind.wrap .u32 (t + 1)) (hb : c.bg = false) (hf : fitsF c p0)
      (h : FwdS ps p0 n (IntKind.wrap .u32 (t + 1)) (out ++ [p]) c r) : FwdS ps p0 (n + 1) t out p r
def RunS (ps : List Pc) (t : Int) (r : Option (List Pc)) : Prop := ∃ n x, BackS ps n t x ∧ ((x = none ∧ r = none) ∨ ∃ t0 p0 n', x = some t0 ∧ p0 ∈ ps ∧ p0.tsn = t0 ∧ n' < 1000000 ∧ FwdS ps p0 n' t0 [] p0 r)
/-- The pieces of a message by their own numbers. -/
inductive AllS (ps : List Pc) : Nat → Int → List Pc → Option (List Pc) → Prop
  | no {i : Int} {out : List Pc} (hn : ∀ c ∈ ps, c.fr ≠ i) : AllS ps 0 i out none
  | en {i : Int} {out : List Pc} {c : Pc} (hc : c ∈ ps) (hi : c.fr = i) (he : c.en = true) : AllS ps 0 i out (some (out ++ [c]))
  | st {n : Nat} {i : Int} {out : List Pc} {c : Pc} {r : Option (List Pc)} (hc : c ∈ ps) (hi : c.fr = i) (he : c.en = false) (h : AllS ps n (IntKind.wrap .u32 (i + 1)) (out ++ [c]) r) : AllS ps (n + 1) i out r
/-- On with a stream. -/
inductive OnS (i : Bool) (s : Int) : Nat → List Mg → Int → List Mg → List Mg → Int → List Mg → Prop
  | stop {w : List Mg} {n : Int} {r : List Mg} (hn : ∀ m ∈ w, m.key ≠ (s, false, n)) : OnS i s 0 w n r w n r
  | step {k : Nat} {w : List Mg} {n : Int} {r : List Mg} {m : Mg} {w' : List Mg} {n' : Int} {r' : List Mg} (hm : m ∈ w) (hk : m.key = (s, false, n))
      (h : OnS i s k (w.filter fun x => decide (kK x.key ≠ kK (s, false, n))) (midF i (IntKind.wrap .u32 (n + 1))) (r ++ [m]) w' n' r') : OnS i s (k + 1) w n r w' n' r'
def updN (f : Int → Int) (s v : Int) : Int → Int := fun x => if x = s then v else f x
def OnIs (q : JQ) (s : Int) (q' : JQ) : Prop := ∃ k w n r, OnS q.inter s k q.wait (q.next s) q.ready w n r ∧ q' = { q with wait := w, next := updN q.next s n, ready := r }
def msgOf (i : Bool) (b : Pc) (cs : List Pc) : Mg := ⟨b.st, b.lo, midF i b.mid, b.pp, (cs.map (·.bs)).flatten⟩
/-- Pieces become a message. -/
def WholeIs (q : JQ) (r : Option (List Pc)) (q' : JQ) : Prop := (r = none ∧ q' = q) ∨ ∃ b rest, r = some (b :: rest) ∧
  ((b.lo = true ∧ q' = { q with pieces := q.pieces.filter fun p => decide (p.tsn ∉ (b :: rest).map (·.tsn)), parts := q.parts.filter fun a => decide (kK a.1 ≠ kK (msgOf q.inter b (b :: rest)).key), ready := q.ready ++ [msgOf q.inter b (b :: rest)] }) ∨
   (b.lo = false ∧ (∀ m ∈ q.wait, m.key ≠ (msgOf q.inter b (b :: rest)).key) ∧
    OnIs { q with pieces := q.pieces.filter fun p => decide (p.tsn ∉ (b :: rest).map (·.tsn)), parts := q.parts.filter fun a => decide (kK a.1 ≠ kK (msgOf q.inter b (b :: rest)).key), wait := q.wait ++ [msgOf q.inter b (b :: rest)] } b.st q'))
end Go.Proofs.Ytpjikjhaljennaa
