/- Timers: the document's table; its Stop. -/
import Derived.Test.YthkcfocoekonjaaTmQ
import Derived.Test.YthkcfocoekonjaaSxY
set_option maxRecDepth 100000
set_option linter.unusedVariables false
set_option linter.unusedSimpArgs false
namespace Go.Proofs.Ythkcfocoekonjaa
open Go Go.Sx
attribute [local irreducible] Go.Sx.xrun

/-- What a call leaves: a new value in the cell, and blocks. -/
def LeftG (ty b : Nat) (R : Value → Value → Blks → Prop) (r : Value) (L' : Blks) : Prop := ∃ v' L1, R r v' L1 ∧ L'.Perm ((b, .cells [v'] ty) :: L1)
/-- A call on a cell that stands at a position and holds a slice; the rest lies in the chunk. -/
noncomputable def cellG {X A : Type} (ty : TypeId) (ret : A → SV) (pre : X → List Value → Value → Blks → Prop) (post : X → A → Value → Blks → Prop) : Trans := fun args h K => match args with
  | .ptr p 0 0 :: rest => bif noTop rest then (match entAt h p with
    | some (.own b (.cells 1 [.val v] t)) => bif Nat.beq t ty then (match chunkAt h 0 with
      | none => False
      | some (n, L0) => ∃ (x : X) (L G : Blks), L0.Perm (L ++ G) ∧ pre x (denL (locs h) rest) v L ∧ ∀ (a : A) (s : Sl) (L' : Blks), post x a (.slice s.o s.l s.c) L' →
          setK h p (.own b (.cells 1 [.val (.slice s.o s.l s.c)] ty)) fun h1 => setK h1 n (.chunk (L' ++ G)) fun h2 => K (ret a) h2) else False
    | _ => False) else False
  | _ => False
/-- The same, where a list of numbers is answered. -/
noncomputable def cellK {X : Type} (ty : TypeId) (pre : X → List Value → Value → Blks → Prop) (post : X → List Int → Value → Blks → Prop) : Trans := fun args h K => match args with
  | .ptr p 0 0 :: rest => bif noTop rest then (match entAt h p with
    | some (.own b (.cells 1 [.val v] t)) => bif Nat.beq t ty then (match chunkAt h 0 with
      | none => False
      | some (n, L0) => ∃ (x : X) (L G : Blks), L0.Perm (L ++ G) ∧ pre x (denL (locs h) rest) v L ∧
          (∀ (s : Sl) (L' : Blks), post x [] (.slice s.o s.l s.c) L' →
            setK h p (.own b (.cells 1 [.val (.slice s.o s.l s.c)] ty)) fun h1 => setK h1 n (.chunk (L' ++ G)) fun h2 => K (.val (.slice none 0 0)) h2) ∧
          ∀ (ks : List Int) (s : Sl) (L' : Blks) (b' base' cap' : Nat) (zs' : List Int), post x ks (.slice s.o s.l s.c) L' → 0 < ks.length → ks.length ≤ cap' → zs'.length = cap' → zs'.take ks.length = ks →
            setK h p (.own b (.cells 1 [.val (.slice s.o s.l s.c)] ty)) fun h1 => setK h1 n (.chunk (L' ++ G)) fun h2 => appK h2 (.own b' (.tab 3 base' cap' [.ints .i64 zs'])) fun h3 => K (.slc (lenE h) 0 ks.length cap') h3) else False
    | _ => False) else False
  | _ => False
/-- Rows, one after the other, as a slice of the document's table. -/
structure FX where
  b : Nat
  base : Nat
  o : Nat
  N : Nat
  cap : Nat
  ks : List Int
  ats : List Int
  G : Blks
def FX.ok (x : FX) (S : List Row) : Prop := S.length ≤ x.cap ∧ x.o + x.cap ≤ x.N ∧ x.ks.length = x.N ∧ x.ats.length = x.N ∧ (x.ks.drop x.o).take S.length = S.map (·.2) ∧ (x.ats.drop x.o).take S.length = S.map (·.1)
def FX.val (x : FX) (n : Nat) : Value := .slice (some ⟨x.b, (x.base + x.o) * 2, none⟩) n x.cap
def FAt (S : List Row) (v : Value) (L : Blks) : Prop := (S = [] ∧ v = .slice none 0 0) ∨ ∃ x : FX, x.ok S ∧ v = x.val S.length ∧ L.Perm ((x.b, .tab 90 x.base x.N [.ints .i64 x.ks, .ints .u64 x.ats]) :: x.G)
noncomputable def vwF (b p n : Nat) (m : Nat) : Cast := .view [
  ⟨Unit, fun _ _ => [(p, .own b (.cells 1 [.val (.slice none 0 0)] 85))], fun _ => [.gone (0, 0, 0)], fun _ => []⟩,
  ⟨FX × Nat, fun x h => [(p, .own b (.cells 1 [.slc n x.1.o x.2 x.1.cap] 85)), (m, .chunk x.1.G)], fun x => [.own x.1.b (.tab 90 x.1.base x.1.N [.ints .i64 x.1.ks, .ints .u64 x.1.ats])], fun _ => []⟩]
structure FsX where
  i : Nat
  k : Nat
  b : Nat
  base : Nat
  cap : Nat
  ks : List Int
  ats : List Int
def fRow (k cap : Nat) (ks ats : List Int) (T : List Row) : Prop := T.length = k ∧ (0 < k → k ≤ cap ∧ ks.length = cap ∧ ats.length = cap ∧ ks.take k = T.map (·.2) ∧ ats.take k = T.map (·.1))
noncomputable def fl (kind : Int) (S : List Row) : List Row := S.filter fun r => decide (r.2 ≠ kind)
noncomputable def Ann.fs (b : Nat) (kind : Int) (S : List Row) : FnAnn := ⟨[(1000002, vwF b 0 2 1)], [(3, ⟨FsX, [
  (fun σ x => ⟨σ.n, (5, .val (.slice none 0 0)) :: (14, .val (.int .i64 x.i)) :: keepE σ.env [0, 1, 12, 13], σ.heap⟩, fun _ x => x.k = 0 ∧ x.i ≤ S.length ∧ fl kind (S.take x.i) = []),
  (fun σ x => ⟨σ.n, (5, .slc 3 0 x.k x.cap) :: (14, .val (.int .i64 x.i)) :: keepE σ.env [0, 1, 12, 13], σ.heap ++ [.own x.b (.tab 90 x.base x.cap [.ints .i64 x.ks, .ints .u64 x.ats])]⟩, fun _ x => 0 < x.k ∧ x.i ≤ S.length ∧ fRow x.k x.cap x.ks x.ats (fl kind (S.take x.i)))],
  fun x => S.length - x.i⟩)]⟩
noncomputable def fsGoal (b : Nat) (kind : Int) (S : List Row) (v : Value) (L : Blks) : Prop :=
  xrun Go.Proofs.Try.prog [] [(34, Ann.fs b kind S)] [] 9 [] 34 [.ptr 0 0 0, .val (.int .i64 kind)] [.own b (.cells 1 [.val v] 85), .chunk L] fun s h => bOf s fun p => (p ↔ (fl kind S).length < S.length) ∧ LeftG 85 b (fun _ v' L' => FAt (fl kind S) v' L') (.bool true) (owned (locs h) h)

theorem cellG_sound {f : FuncId} (he : Enters Go.Proofs.Try.prog f) {X A : Type} {ty : TypeId} {ret : A → SV} {val : A → Value} {pre : X → List Value → Value → Blks → Prop} {post : X → A → Value → Blks → Prop}
    (hd : ∀ a ρ, den ρ (ret a) = val a) (hn : ∀ a, ret a ≠ .top) (hsl : ∀ x a v L, post x a v L → ∃ s : Sl, v = .slice s.o s.l s.c)
    (ht : ∀ x vs b v L, pre x vs v L → Triple Go.Proofs.Try.prog f (.pointer (some ⟨b, 0, none⟩) :: vs) ((b, .cells [v] ty) :: L) (LeftG ty b fun r v' L1 => ∃ a, r = val a ∧ post x a v' L1)) : SoundT Go.Proofs.Try.prog f (cellG ty ret pre post) := by
  intro F h w args vs K c ha hx
  refine ⟨he, ?_⟩
  unfold cellG at hx
  split at hx
  · rename_i p rest
    obtain ⟨hnt, hx⟩ := bif_false hx
    split at hx
    · rename_i b v t hep
      obtain ⟨hty, hx⟩ := bif_false hx
      have hty := Nat.eq_of_beq_eq_true hty
      subst hty
      split at hx
      · exact hx.elim
      · rename_i n L0 hc
        obtain ⟨x, L, G, h1, h2, h3⟩ := hx
        obtain ⟨-, h4⟩ := chunkAt_spec hc
        rw [Nat.sub_zero] at h4
        have hne : p ≠ n := by rintro rfl; rw [hep] at h4; cases h4
        obtain ⟨-, hloc⟩ := c.blk hep rfl
        have hvs : vs = .pointer (some ⟨b, 0, none⟩) :: denL (locs h) rest := by
          have := ha []
          rw [List.append_nil] at this
          rw [← this]
          show den (locs h) (.ptr p 0 0) :: denL (locs h) rest = _
          have e1 := hloc []
          rw [List.append_nil] at e1
          simp [den, e1, SBlk.base, SBlk.wd]
        rw [hvs]
        refine frame_many (G := G) c [(p, .own b (.cells 1 [.val v] t)), (n, .chunk L0)] (by simp [hep, h4]) (by simp [hne]) (L := (b, .cells [v] t) :: L) (by simp [blksOf, Ent.blocks, SBlk.den, denL, den]; exact h1) (ht x _ b v L h2) fun r L' hr => ?_
        obtain ⟨v', L1, ⟨a, rfl, hpost⟩, hperm⟩ := hr
        obtain ⟨sl, rfl⟩ := hsl x a v' L1 hpost
        have h6 := setK_spec (setK_spec (h3 a sl L1 hpost))
        refine ⟨ret a, [(p, .own b (.cells 1 [.val (.slice sl.o sl.l sl.c)] t)), (n, .chunk (L1 ++ G))], [], [], ?_, rfl, ?_, fun q => ?_, by simp, hn a, fun q => hd a _⟩
        · rw [List.append_nil]; exact h6
        · intro y hy
          simp at hy
          rcases hy with rfl | rfl
          · exact ⟨_, hep, rfl⟩
          · exact ⟨_, h4, rfl⟩
        · simp only [blksOf, Ent.blocks, owned, SBlk.den, denL, den, List.append_nil, List.cons_append, List.nil_append]
          exact (hperm.append_right G).symm
    · exact hx.elim
  · exact hx.elim

theorem cellK_sound {f : FuncId} (he : Enters Go.Proofs.Try.prog f) {X : Type} {ty : TypeId} {pre : X → List Value → Value → Blks → Prop} {post : X → List Int → Value → Blks → Prop}
    (hsl : ∀ x a v L, post x a v L → ∃ s : Sl, v = .slice s.o s.l s.c) (hmore : ∀ x a v L G, post x a v L → post x a v (L ++ G))
    (ht : ∀ x vs b v L, pre x vs v L → Triple Go.Proofs.Try.prog f (.pointer (some ⟨b, 0, none⟩) :: vs) ((b, .cells [v] ty) :: L) (LeftG ty b fun r v' L1 => ∃ ks L2 L3, post x ks v' L2 ∧ KAt ks r L3 ∧ L1.Perm (L2 ++ L3))) : SoundT Go.Proofs.Try.prog f (cellK ty pre post) := by
  intro F h w args vs K c ha hx
  refine ⟨he, ?_⟩
  unfold cellK at hx
  split at hx
  · rename_i p rest
    obtain ⟨hnt, hx⟩ := bif_false hx
    split at hx
    · rename_i b v t hep
      obtain ⟨hty, hx⟩ := bif_false hx
      have hty := Nat.eq_of_beq_eq_true hty
      subst hty
      split at hx
      · exact hx.elim
      · rename_i n L0 hc
        obtain ⟨x, L, G, h1, h2, h3, h3'⟩ := hx
        obtain ⟨-, h4⟩ := chunkAt_spec hc
        rw [Nat.sub_zero] at h4
        have hne : p ≠ n := by rintro rfl; rw [hep] at h4; cases h4
        obtain ⟨-, hloc⟩ := c.blk hep rfl
        have hvs : vs = .pointer (some ⟨b, 0, none⟩) :: denL (locs h) rest := by
          have := ha []
          rw [List.append_nil] at this
          rw [← this]
          show den (locs h) (.ptr p 0 0) :: denL (locs h) rest = _
          have e1 := hloc []
          rw [List.append_nil] at e1
          simp [den, e1, SBlk.base, SBlk.wd]
        rw [hvs]
        refine frame_many (G := G) c [(p, .own b (.cells 1 [.val v] t)), (n, .chunk L0)] (by simp [hep, h4]) (by simp [hne]) (L := (b, .cells [v] t) :: L) (by simp [blksOf, Ent.blocks, SBlk.den, denL, den]; exact h1) (ht x _ b v L h2) fun r L' hr => ?_
        obtain ⟨v', L1, ⟨ks, L2, L3, hpost, hK, hp2⟩, hperm⟩ := hr
        obtain ⟨sl, rfl⟩ := hsl x ks v' L2 hpost
        rcases hK with ⟨rfl, rfl⟩ | ⟨b', base', cap', zs', G3, rfl, k1, k2, k3, k4, k5⟩
        · have h6 := setK_spec (setK_spec (h3 sl (L2 ++ L3) (hmore _ _ _ _ _ hpost)))
          refine ⟨.val (.slice none 0 0), [(p, .own b (.cells 1 [.val (.slice sl.o sl.l sl.c)] t)), (n, .chunk ((L2 ++ L3) ++ G))], [], [], ?_, rfl, ?_, fun q => ?_, by simp, by simp, fun q => rfl⟩
          · rw [List.append_nil]; exact h6
          · intro y hy
            simp at hy
            rcases hy with rfl | rfl
            · exact ⟨_, hep, rfl⟩
            · exact ⟨_, h4, rfl⟩
          · simp only [blksOf, Ent.blocks, owned, SBlk.den, denL, den, List.append_nil, List.cons_append, List.nil_append]
            exact ((hperm.trans (hp2.cons _)).append_right G).symm
        · have h6 := appK_iff (setK_spec (setK_spec (h3' ks sl (L2 ++ G3) b' base' cap' zs' (hmore _ _ _ _ _ hpost) k1 k2 k3 k4)))
          refine ⟨.slc (lenE h) 0 ks.length cap', [(p, .own b (.cells 1 [.val (.slice sl.o sl.l sl.c)] t)), (n, .chunk ((L2 ++ G3) ++ G))], [.own b' (.tab 3 base' cap' [.ints .i64 zs'])], [], ?_, rfl, ?_, fun q => ?_, by simp, by simp, fun q => ?_⟩
          · exact h6
          · intro y hy
            simp at hy
            rcases hy with rfl | rfl
            · exact ⟨_, hep, rfl⟩
            · exact ⟨_, h4, rfl⟩
          · simp only [blksOf, Ent.blocks, owned, SBlk.den, denL, den, List.append_nil, List.cons_append, List.nil_append]
            refine List.Perm.trans ?_ (hperm.append_right G).symm
            refine List.Perm.cons _ ?_
            refine List.Perm.trans ?_ ((hp2.trans (k5.append_left L2)).append_right G).symm
            simp only [List.append_assoc, List.cons_append, List.nil_append]
            refine List.Perm.append_left L2 ?_
            rw [← List.append_assoc]
            exact List.perm_append_comm
          · have e2 := loc_new ((h.set p (.own b (.cells 1 [.val (.slice sl.o sl.l sl.c)] t))).set n (.chunk ((L2 ++ G3) ++ G))) b' (.tab 3 base' cap' [.ints .i64 zs']) q
            have e3 : lenE ((h.set p (.own b (.cells 1 [.val (.slice sl.o sl.l sl.c)] t))).set n (.chunk ((L2 ++ G3) ++ G))) = lenE h := by rw [lenE_set, lenE_set]
            rw [e3] at e2
            simp only [putAt, den, e2, SBlk.base, SBlk.wd, Nat.add_zero]
            rfl
    · exact hx.elim
  · exact hx.elim

/-! Rows that are put out one by one. -/
theorem fRow_one {kk aa : Int} {cap : Nat} {sp sq : List Int} (h : 1 ≤ cap) (h1 : sp.length = cap - 1) (h2 : sq.length = cap - 1) : fRow 1 cap (kk :: sp) (aa :: sq) [(aa, kk)] :=
  ⟨rfl, fun _ => ⟨h, by simp [h1]; omega, by simp [h2]; omega, by simp, by simp⟩⟩
theorem fRow_app {k cap cap' : Nat} {ks ats : List Int} {T : List Row} {kk aa : Int} {sp sq : List Int} (h : fRow k cap ks ats T) (h0 : 0 < k) (hc : k + 1 ≤ cap') (h1 : sp.length = cap' - (k + 1)) (h2 : sq.length = cap' - (k + 1)) :
    fRow (k + 1) cap' (List.take k ks ++ [kk] ++ sp) (List.take k ats ++ [aa] ++ sq) (T ++ [(aa, kk)]) := by
  obtain ⟨a1, a2⟩ := h
  obtain ⟨b1, b2, b3, b4, b5⟩ := a2 h0
  have l1 : (List.take k ks).length = k := by rw [b4]; simp [a1]
  have l2 : (List.take k ats).length = k := by rw [b5]; simp [a1]
  refine ⟨by simp [a1], fun _ => ⟨hc, by simp only [List.length_append, l1, List.length_singleton, h1]; omega, by simp only [List.length_append, l2, List.length_singleton, h2]; omega, ?_, ?_⟩⟩
  · rw [List.take_left' (by simp only [List.length_append, l1, List.length_singleton]), b4]; simp
  · rw [List.take_left' (by simp only [List.length_append, l2, List.length_singleton]), b5]; simp
theorem fat_of {k b base cap : Nat} {ks ats : List Int} {T : List Row} {L G : Blks} (h : fRow k cap ks ats T) (h0 : 0 < k) (hp : L.Perm ((b, .tab 90 base cap [.ints .i64 ks, .ints .u64 ats]) :: G)) :
    FAt T (.slice (some ⟨b, base * 2, none⟩) k cap) L := by
  obtain ⟨a1, a2⟩ := h
  obtain ⟨b1, b2, b3, b4, b5⟩ := a2 h0
  subst a1
  exact .inr ⟨⟨b, base, 0, cap, cap, ks, ats, G⟩, ⟨b1, by simp, b2, b3, b4, b5⟩, rfl, hp⟩
theorem off_get {xs : List Int} {S : List Row} {f : Row → Int} {o i : Nat} (h : (xs.drop o).take S.length = S.map f) (hi : i < S.length) : xs.getD (o + i) 0 = f S[i] := by
  have h1 : ((xs.drop o).take S.length)[i]? = (S.map f)[i]? := by rw [h]
  rw [List.getElem?_take, if_pos hi, List.getElem?_drop, List.getElem?_map, List.getElem?_eq_getElem hi] at h1
  simp [List.getD, h1]
theorem take_succ' {S : List Row} {i : Nat} (hi : i < S.length) : S.take (i + 1) = S.take i ++ [S[i]] := by rw [List.take_append_getElem hi]
theorem fl_succ {kind : Int} {S : List Row} {i : Nat} (hi : i < S.length) : fl kind (S.take (i + 1)) = fl kind (S.take i) ++ if S[i].2 ≠ kind then [S[i]] else [] := by
  unfold fl
  rw [take_succ' hi, List.filter_append]
  congr 1
  by_cases h : S[i].2 = kind
  · simp [h]
  · simp [h]
theorem fl_nil (kind : Int) : fl kind [] = [] := rfl
theorem perm_last2 {G : Blks} {p q : Nat × Blk} : (G ++ [p, q]).Perm (q :: (G ++ [p])) := by
  have : G ++ [p, q] = (G ++ [p]) ++ [q] := by simp
  rw [this]
  exact List.perm_append_comm (l₂ := [q])
theorem view_perm {b ty : Nat} {v : Value} {L G : Blks} {q : Nat × Blk} (h : L.Perm (q :: G)) : ((b, Blk.cells [v] ty) :: L).Perm ((b, Blk.cells [v] ty) :: (G ++ [q])) :=
  List.Perm.cons _ (h.trans (List.perm_append_comm (l₁ := [q]) (l₂ := G)))
theorem FAt.more {S : List Row} {v : Value} {L : Blks} (h : FAt S v L) (G : Blks) : FAt S v (L ++ G) := by
  rcases h with h | ⟨x, h1, h2, h3⟩
  · exact .inl h
  · exact .inr ⟨{ x with G := x.G ++ G }, h1, h2, by simpa using h3.append_right G⟩
theorem FAt.sl {S : List Row} {v : Value} {L : Blks} (h : FAt S v L) : ∃ s : Sl, v = .slice s.o s.l s.c := by
  rcases h with ⟨-, h⟩ | ⟨x, h1, h2, h3⟩
  · exact ⟨⟨none, 0, 0⟩, h⟩
  · exact ⟨⟨_, _, _⟩, h2⟩

theorem fs_vc (b : Nat) (kind : Int) (S : List Row) (v : Value) (L : Blks) (hF : FAt S v L) (hb : S.length < 1000000) :
    (∃ (x : Unit),
    (b, (0 : Nat), (1 : Nat)) = (b, (0 : Nat), (1 : Nat)) ∧
      (∃ (G : List (Nat × Go.Sx.Blk)),
          ∀ (r : List (Nat × Nat × Nat)), List.Perm [(b, Go.Sx.Blk.cells [v] (85 : Go.TypeId))] ((b, Go.Sx.Blk.cells [Go.Value.slice Option.none (0 : Nat) (0 : Nat)] (85 : Go.TypeId)) :: G)) ∧
        ∃ (x0 : FsX),
          (((Go.Value.slice Option.none (0 : Nat) (0 : Nat) = Go.Value.slice Option.none (0 : Nat) (0 : Nat) ∧
                    (0 : Int) = (↑x0.1 : Int) ∧
                      ((0 : Nat) = (0 : Nat) ∧ (0 : Nat) = (0 : Nat)) ∧
                        kind = kind ∧ Go.Value.slice Option.none (0 : Nat) (0 : Nat) = Go.Value.slice Option.none (0 : Nat) (0 : Nat) ∧ (↑(0 : Nat) : Int) = (↑(0 : Nat) : Int) ∧ True) ∧
                  (b = b ∧ Go.Value.slice Option.none (0 : Nat) (0 : Nat) = Go.Value.slice Option.none (0 : Nat) (0 : Nat) ∧ True) ∧
                    L = L ∧ ((0 : Nat), (0 : Nat), (0 : Nat)) = ((0 : Nat), (0 : Nat), (0 : Nat)) ∧ True) ∧
                x0.2 = (0 : Nat) ∧ x0.1 ≤ List.length S ∧ fl kind (List.take x0.1 S) = [] ∨
              ((False ∧
                    (0 : Int) = (↑x0.1 : Int) ∧
                      ((0 : Nat) = (0 : Nat) ∧ (0 : Nat) = (0 : Nat)) ∧
                        kind = kind ∧ Go.Value.slice Option.none (0 : Nat) (0 : Nat) = Go.Value.slice Option.none (0 : Nat) (0 : Nat) ∧ (↑(0 : Nat) : Int) = (↑(0 : Nat) : Int) ∧ True) ∧
                  (b = b ∧ Go.Value.slice Option.none (0 : Nat) (0 : Nat) = Go.Value.slice Option.none (0 : Nat) (0 : Nat) ∧ True) ∧
                    L = L ∧ ((0 : Nat), (0 : Nat), (0 : Nat)) = ((0 : Nat), (0 : Nat), (0 : Nat)) ∧ False ∧ True) ∧
                (0 : Nat) < x0.2 ∧ x0.1 ≤ List.length S ∧ fRow x0.2 x0.5 x0.6 x0.7 (fl kind (List.take x0.1 S))) ∧
            (∀ (x : FsX),
                x.2 = (0 : Nat) ∧ x.1 ≤ List.length S ∧ fl kind (List.take x.1 S) = [] →
                  ((↑x.1 : Int) < (↑(0 : Nat) : Int) → False) ∧
                    (¬(↑x.1 : Int) < (↑(0 : Nat) : Int) →
                      Go.Value.oneCell' (Go.Value.slice Option.none (0 : Nat) (0 : Nat)) = Bool.true ∧
                        ((↑(0 : Nat) : Int) < (↑(0 : Nat) : Int) ↔ List.length (fl kind S) < List.length S) ∧
                          LeftG (85 : Nat) b (fun (x v' : Go.Value) (L' : Go.Sx.Blks) => FAt (fl kind S) v' L') (Go.Value.bool Bool.true)
                            ((b, Go.Sx.Blk.cells [Go.Value.slice Option.none (0 : Nat) (0 : Nat)] (85 : Go.TypeId)) :: (L ++ [])))) ∧
              ∀ (x : FsX),
                (0 : Nat) < x.2 ∧ x.1 ≤ List.length S ∧ fRow x.2 x.5 x.6 x.7 (fl kind (List.take x.1 S)) →
                  ((↑x.1 : Int) < (↑(0 : Nat) : Int) → False) ∧
                    (¬(↑x.1 : Int) < (↑(0 : Nat) : Int) →
                      ((↑x.2 : Int) < (↑(0 : Nat) : Int) ↔ List.length (fl kind S) < List.length S) ∧
                        LeftG (85 : Nat) b (fun (x v' : Go.Value) (L' : Go.Sx.Blks) => FAt (fl kind S) v' L') (Go.Value.bool Bool.true)
                          ((b, Go.Sx.Blk.cells [Go.Value.slice (Option.some { block := x.3, off := x.4 * (2 : Nat) }) x.2 x.5] (85 : Go.TypeId)) ::
                            (L ++ [(x.3, Go.Sx.Blk.tab (90 : Go.TypeId) x.4 x.5 [Go.Sx.Col.ints Go.IntKind.i64 x.6, Go.Sx.Col.ints Go.IntKind.u64 x.7])])))) ∨
  ∃ (x : FX × Nat),
    (b, (0 : Nat), (1 : Nat)) = (b, (0 : Nat), (1 : Nat)) ∧
      ((0 : Nat), (0 : Nat), (0 : Nat)) = ((0 : Nat), (0 : Nat), (0 : Nat)) ∧
        (∃ (G : List (Nat × Go.Sx.Blk)),
            ∀ (r : List (Nat × Nat × Nat)),
              List.Perm ((b, Go.Sx.Blk.cells [v] (85 : Go.TypeId)) :: (L ++ []))
                ((b, Go.Sx.Blk.cells [Go.Value.slice (Option.some { block := x.1.1, off := (x.1.2 + x.1.3) * (2 : Nat) }) x.2 x.1.5] (85 : Go.TypeId)) ::
                  (x.1.8 ++ [] ++ [(x.1.1, Go.Sx.Blk.tab (90 : Go.TypeId) x.1.2 x.1.4 [Go.Sx.Col.ints Go.IntKind.i64 x.1.6, Go.Sx.Col.ints Go.IntKind.u64 x.1.7])] ++ G))) ∧
          ∃ (x0 : FsX),
            (((Go.Value.slice Option.none (0 : Nat) (0 : Nat) = Go.Value.slice Option.none (0 : Nat) (0 : Nat) ∧
                      (0 : Int) = (↑x0.1 : Int) ∧ ((0 : Nat) = (0 : Nat) ∧ (0 : Nat) = (0 : Nat)) ∧ kind = kind ∧ (x.1.3 = x.1.3 ∧ x.2 = x.2 ∧ x.1.5 = x.1.5) ∧ (↑x.2 : Int) = (↑x.2 : Int) ∧ True) ∧
                    (b = b ∧ (x.1.3 = x.1.3 ∧ x.2 = x.2 ∧ x.1.5 = x.1.5) ∧ True) ∧ x.1.8 = x.1.8 ∧ (x.1.1 = x.1.1 ∧ x.1.2 = x.1.2 ∧ x.1.4 = x.1.4 ∧ x.1.6 = x.1.6 ∧ x.1.7 = x.1.7 ∧ True) ∧ True) ∧
                  x0.2 = (0 : Nat) ∧ x0.1 ≤ List.length S ∧ fl kind (List.take x0.1 S) = [] ∨
                ((False ∧
                      (0 : Int) = (↑x0.1 : Int) ∧ ((0 : Nat) = (0 : Nat) ∧ (0 : Nat) = (0 : Nat)) ∧ kind = kind ∧ (x.1.3 = x.1.3 ∧ x.2 = x.2 ∧ x.1.5 = x.1.5) ∧ (↑x.2 : Int) = (↑x.2 : Int) ∧ True) ∧
                    (b = b ∧ (x.1.3 = x.1.3 ∧ x.2 = x.2 ∧ x.1.5 = x.1.5) ∧ True) ∧
                      x.1.8 = x.1.8 ∧ (x.1.1 = x.1.1 ∧ x.1.2 = x.1.2 ∧ x.1.4 = x.1.4 ∧ x.1.6 = x.1.6 ∧ x.1.7 = x.1.7 ∧ True) ∧ False ∧ True) ∧
                  (0 : Nat) < x0.2 ∧ x0.1 ≤ List.length S ∧ fRow x0.2 x0.5 x0.6 x0.7 (fl kind (List.take x0.1 S))) ∧
              (∀ (x_1 : FsX),
                  x_1.2 = (0 : Nat) ∧ x_1.1 ≤ List.length S ∧ fl kind (List.take x_1.1 S) = [] →
                    ((↑x_1.1 : Int) < (↑x.2 : Int) →
                        ((0 : Int) ≤ (↑x_1.1 : Int) ∧ (↑x_1.1 : Int) < (↑x.2 : Int)) ∧
                          x.1.3 + x_1.1 < x.1.4 ∧
                            x.1.3 + x_1.1 < x.1.4 ∧
                              ∀ (b_1 : Nat),
                                Go.Value.oneCell' (Go.Value.int Go.IntKind.i64 (List.getD x.1.6 (x.1.3 + x_1.1) (0 : Int))) = Bool.true ∧
                                  Go.Value.oneCell' (Go.Value.int Go.IntKind.u64 (List.getD x.1.7 (x.1.3 + x_1.1) (0 : Int))) = Bool.true ∧
                                    (List.getD x.1.6 (x.1.3 + x_1.1) (0 : Int) ≠ kind →
                                        ∀ (b_2 : Nat),
                                          Go.Value.oneCell' (Go.Value.int Go.IntKind.i64 (List.getD x.1.6 (x.1.3 + x_1.1) (0 : Int))) = Bool.true ∧
                                            Go.Value.oneCell' (Go.Value.int Go.IntKind.u64 (List.getD x.1.7 (x.1.3 + x_1.1) (0 : Int))) = Bool.true ∧
                                              (16 : Nat) ≤ (140737488355328 : Nat) ∧
                                                ∀ (b_3 cap' : Nat),
                                                  (1 : Nat) ≤ cap' →
                                                    ∀ (sp : List Int),
                                                      List.length sp = cap' - (1 : Nat) →
                                                        ∀ (sp_1 : List Int),
                                                          List.length sp_1 = cap' - (1 : Nat) →
                                                            ∃ (y : FsX),
                                                              List.length S - y.1 < List.length S - x_1.1 ∧
                                                                (((Go.Value.slice (Option.some { block := b_3, off := (0 : Nat) * (2 : Nat) }) (1 : Nat) cap' =
                                                                          Go.Value.slice Option.none (0 : Nat) (0 : Nat) ∧
                                                                        Go.IntKind.wrap Go.IntKind.i64 ((↑x_1.1 : Int) + (1 : Int)) = (↑y.1 : Int) ∧
                                                                          ((0 : Nat) = (0 : Nat) ∧ (0 : Nat) = (0 : Nat)) ∧
                                                                            kind = kind ∧ (x.1.3 = x.1.3 ∧ x.2 = x.2 ∧ x.1.5 = x.1.5) ∧ (↑x.2 : Int) = (↑x.2 : Int) ∧ True) ∧
                                                                      (b = b ∧ (x.1.3 = x.1.3 ∧ x.2 = x.2 ∧ x.1.5 = x.1.5) ∧ True) ∧
                                                                        x.1.8 = x.1.8 ∧ (x.1.1 = x.1.1 ∧ x.1.2 = x.1.2 ∧ x.1.4 = x.1.4 ∧ x.1.6 = x.1.6 ∧ x.1.7 = x.1.7 ∧ True) ∧ True) ∧
                                                                    y.2 = (0 : Nat) ∧ y.1 ≤ List.length S ∧ fl kind (List.take y.1 S) = [] ∨
                                                                  ((((0 : Nat) = (0 : Nat) ∧ (1 : Nat) = y.2 ∧ cap' = y.5) ∧
                                                                        Go.IntKind.wrap Go.IntKind.i64 ((↑x_1.1 : Int) + (1 : Int)) = (↑y.1 : Int) ∧
                                                                          ((0 : Nat) = (0 : Nat) ∧ (0 : Nat) = (0 : Nat)) ∧
                                                                            kind = kind ∧ (x.1.3 = x.1.3 ∧ x.2 = x.2 ∧ x.1.5 = x.1.5) ∧ (↑x.2 : Int) = (↑x.2 : Int) ∧ True) ∧
                                                                      (b = b ∧ (x.1.3 = x.1.3 ∧ x.2 = x.2 ∧ x.1.5 = x.1.5) ∧ True) ∧
                                                                        x.1.8 = x.1.8 ∧
                                                                          (x.1.1 = x.1.1 ∧ x.1.2 = x.1.2 ∧ x.1.4 = x.1.4 ∧ x.1.6 = x.1.6 ∧ x.1.7 = x.1.7 ∧ True) ∧
                                                                            (b_3 = y.3 ∧
                                                                                (0 : Nat) = y.4 ∧
                                                                                  cap' = y.5 ∧
                                                                                    List.getD x.1.6 (x.1.3 + x_1.1) (0 : Int) :: sp = y.6 ∧
                                                                                      List.getD x.1.7 (x.1.3 + x_1.1) (0 : Int) :: sp_1 = y.7 ∧ True) ∧
                                                                              True) ∧
                                                                    (0 : Nat) < y.2 ∧ y.1 ≤ List.length S ∧ fRow y.2 y.5 y.6 y.7 (fl kind (List.take y.1 S)))) ∧
                                      (¬List.getD x.1.6 (x.1.3 + x_1.1) (0 : Int) ≠ kind →
                                        ∃ (y : FsX),
                                          List.length S - y.1 < List.length S - x_1.1 ∧
                                            (((Go.Value.slice Option.none (0 : Nat) (0 : Nat) = Go.Value.slice Option.none (0 : Nat) (0 : Nat) ∧
                                                    Go.IntKind.wrap Go.IntKind.i64 ((↑x_1.1 : Int) + (1 : Int)) = (↑y.1 : Int) ∧
                                                      ((0 : Nat) = (0 : Nat) ∧ (0 : Nat) = (0 : Nat)) ∧
                                                        kind = kind ∧ (x.1.3 = x.1.3 ∧ x.2 = x.2 ∧ x.1.5 = x.1.5) ∧ (↑x.2 : Int) = (↑x.2 : Int) ∧ True) ∧
                                                  (b = b ∧ (x.1.3 = x.1.3 ∧ x.2 = x.2 ∧ x.1.5 = x.1.5) ∧ True) ∧
                                                    x.1.8 = x.1.8 ∧ (x.1.1 = x.1.1 ∧ x.1.2 = x.1.2 ∧ x.1.4 = x.1.4 ∧ x.1.6 = x.1.6 ∧ x.1.7 = x.1.7 ∧ True) ∧ True) ∧
                                                y.2 = (0 : Nat) ∧ y.1 ≤ List.length S ∧ fl kind (List.take y.1 S) = [] ∨
                                              ((False ∧
                                                    Go.IntKind.wrap Go.IntKind.i64 ((↑x_1.1 : Int) + (1 : Int)) = (↑y.1 : Int) ∧
                                                      ((0 : Nat) = (0 : Nat) ∧ (0 : Nat) = (0 : Nat)) ∧
                                                        kind = kind ∧ (x.1.3 = x.1.3 ∧ x.2 = x.2 ∧ x.1.5 = x.1.5) ∧ (↑x.2 : Int) = (↑x.2 : Int) ∧ True) ∧
                                                  (b = b ∧ (x.1.3 = x.1.3 ∧ x.2 = x.2 ∧ x.1.5 = x.1.5) ∧ True) ∧
                                                    x.1.8 = x.1.8 ∧ (x.1.1 = x.1.1 ∧ x.1.2 = x.1.2 ∧ x.1.4 = x.1.4 ∧ x.1.6 = x.1.6 ∧ x.1.7 = x.1.7 ∧ True) ∧ (b_1 = y.3 ∧ False) ∧ True) ∧
                                                (0 : Nat) < y.2 ∧ y.1 ≤ List.length S ∧ fRow y.2 y.5 y.6 y.7 (fl kind (List.take y.1 S))))) ∧
                      (¬(↑x_1.1 : Int) < (↑x.2 : Int) →
                        Go.Value.oneCell' (Go.Value.slice Option.none (0 : Nat) (0 : Nat)) = Bool.true ∧
                          ((↑(0 : Nat) : Int) < (↑x.2 : Int) ↔ List.length (fl kind S) < List.length S) ∧
                            LeftG (85 : Nat) b (fun (x v' : Go.Value) (L' : Go.Sx.Blks) => FAt (fl kind S) v' L') (Go.Value.bool Bool.true)
                              ((b, Go.Sx.Blk.cells [Go.Value.slice Option.none (0 : Nat) (0 : Nat)] (85 : Go.TypeId)) ::
                                (x.1.8 ++ [(x.1.1, Go.Sx.Blk.tab (90 : Go.TypeId) x.1.2 x.1.4 [Go.Sx.Col.ints Go.IntKind.i64 x.1.6, Go.Sx.Col.ints Go.IntKind.u64 x.1.7])])))) ∧
                ∀ (x_1 : FsX),
                  (0 : Nat) < x_1.2 ∧ x_1.1 ≤ List.length S ∧ fRow x_1.2 x_1.5 x_1.6 x_1.7 (fl kind (List.take x_1.1 S)) →
                    ((↑x_1.1 : Int) < (↑x.2 : Int) →
                        ((0 : Int) ≤ (↑x_1.1 : Int) ∧ (↑x_1.1 : Int) < (↑x.2 : Int)) ∧
                          x.1.3 + x_1.1 < x.1.4 ∧
                            x.1.3 + x_1.1 < x.1.4 ∧
                              ∀ (b_1 : Nat),
                                Go.Value.oneCell' (Go.Value.int Go.IntKind.i64 (List.getD x.1.6 (x.1.3 + x_1.1) (0 : Int))) = Bool.true ∧
                                  Go.Value.oneCell' (Go.Value.int Go.IntKind.u64 (List.getD x.1.7 (x.1.3 + x_1.1) (0 : Int))) = Bool.true ∧
                                    (List.getD x.1.6 (x.1.3 + x_1.1) (0 : Int) ≠ kind →
                                        ∀ (b_2 : Nat),
                                          Go.Value.oneCell' (Go.Value.int Go.IntKind.i64 (List.getD x.1.6 (x.1.3 + x_1.1) (0 : Int))) = Bool.true ∧
                                            Go.Value.oneCell' (Go.Value.int Go.IntKind.u64 (List.getD x.1.7 (x.1.3 + x_1.1) (0 : Int))) = Bool.true ∧
                                              (x_1.2 ≤ x_1.5 ∧ (0 : Nat) + x_1.5 ≤ x_1.5) ∧
                                                (0 : Nat) + x_1.2 ≤ x_1.5 ∧
                                                  (x_1.2 + (1 : Nat)) * (16 : Nat) ≤ (140737488355328 : Nat) ∧
                                                    ∀ (b_3 base cap' : Nat),
                                                      x_1.2 + (1 : Nat) ≤ cap' →
                                                        (x_1.2 + (1 : Nat) ≤ x_1.5 → cap' = x_1.5) →
                                                          ∀ (sp : List Int),
                                                            List.length sp = cap' - (x_1.2 + (1 : Nat)) →
                                                              ∀ (sp_1 : List Int),
                                                                List.length sp_1 = cap' - (x_1.2 + (1 : Nat)) →
                                                                  ∃ (y : FsX),
                                                                    List.length S - y.1 < List.length S - x_1.1 ∧
                                                                      (((Go.Value.slice (Option.some { block := b_3, off := base * (2 : Nat) }) (x_1.2 + (1 : Nat)) cap' =
                                                                                Go.Value.slice Option.none (0 : Nat) (0 : Nat) ∧
                                                                              Go.IntKind.wrap Go.IntKind.i64 ((↑x_1.1 : Int) + (1 : Int)) = (↑y.1 : Int) ∧
                                                                                ((0 : Nat) = (0 : Nat) ∧ (0 : Nat) = (0 : Nat)) ∧
                                                                                  kind = kind ∧ (x.1.3 = x.1.3 ∧ x.2 = x.2 ∧ x.1.5 = x.1.5) ∧ (↑x.2 : Int) = (↑x.2 : Int) ∧ True) ∧
                                                                            (b = b ∧ (x.1.3 = x.1.3 ∧ x.2 = x.2 ∧ x.1.5 = x.1.5) ∧ True) ∧
                                                                              x.1.8 = x.1.8 ∧ (x.1.1 = x.1.1 ∧ x.1.2 = x.1.2 ∧ x.1.4 = x.1.4 ∧ x.1.6 = x.1.6 ∧ x.1.7 = x.1.7 ∧ True) ∧ True) ∧
                                                                          y.2 = (0 : Nat) ∧ y.1 ≤ List.length S ∧ fl kind (List.take y.1 S) = [] ∨
                                                                        ((((0 : Nat) = (0 : Nat) ∧ x_1.2 + (1 : Nat) = y.2 ∧ cap' = y.5) ∧
                                                                              Go.IntKind.wrap Go.IntKind.i64 ((↑x_1.1 : Int) + (1 : Int)) = (↑y.1 : Int) ∧
                                                                                ((0 : Nat) = (0 : Nat) ∧ (0 : Nat) = (0 : Nat)) ∧
                                                                                  kind = kind ∧ (x.1.3 = x.1.3 ∧ x.2 = x.2 ∧ x.1.5 = x.1.5) ∧ (↑x.2 : Int) = (↑x.2 : Int) ∧ True) ∧
                                                                            (b = b ∧ (x.1.3 = x.1.3 ∧ x.2 = x.2 ∧ x.1.5 = x.1.5) ∧ True) ∧
                                                                              x.1.8 = x.1.8 ∧
                                                                                (x.1.1 = x.1.1 ∧ x.1.2 = x.1.2 ∧ x.1.4 = x.1.4 ∧ x.1.6 = x.1.6 ∧ x.1.7 = x.1.7 ∧ True) ∧
                                                                                  (b_3 = y.3 ∧
                                                                                      base = y.4 ∧
                                                                                        cap' = y.5 ∧
                                                                                          List.take x_1.2 x_1.6 ++ [List.getD x.1.6 (x.1.3 + x_1.1) (0 : Int)] ++ sp = y.6 ∧
                                                                                            List.take x_1.2 x_1.7 ++ [List.getD x.1.7 (x.1.3 + x_1.1) (0 : Int)] ++ sp_1 = y.7 ∧ True) ∧
                                                                                    True) ∧
                                                                          (0 : Nat) < y.2 ∧ y.1 ≤ List.length S ∧ fRow y.2 y.5 y.6 y.7 (fl kind (List.take y.1 S)))) ∧
                                      (¬List.getD x.1.6 (x.1.3 + x_1.1) (0 : Int) ≠ kind →
                                        ∃ (y : FsX),
                                          List.length S - y.1 < List.length S - x_1.1 ∧
                                            (((Go.Value.slice (Option.some { block := x_1.3, off := x_1.4 * (2 : Nat) }) x_1.2 x_1.5 = Go.Value.slice Option.none (0 : Nat) (0 : Nat) ∧
                                                    Go.IntKind.wrap Go.IntKind.i64 ((↑x_1.1 : Int) + (1 : Int)) = (↑y.1 : Int) ∧
                                                      ((0 : Nat) = (0 : Nat) ∧ (0 : Nat) = (0 : Nat)) ∧
                                                        kind = kind ∧ (x.1.3 = x.1.3 ∧ x.2 = x.2 ∧ x.1.5 = x.1.5) ∧ (↑x.2 : Int) = (↑x.2 : Int) ∧ True) ∧
                                                  (b = b ∧ (x.1.3 = x.1.3 ∧ x.2 = x.2 ∧ x.1.5 = x.1.5) ∧ True) ∧
                                                    x.1.8 = x.1.8 ∧ (x.1.1 = x.1.1 ∧ x.1.2 = x.1.2 ∧ x.1.4 = x.1.4 ∧ x.1.6 = x.1.6 ∧ x.1.7 = x.1.7 ∧ True) ∧ True) ∧
                                                y.2 = (0 : Nat) ∧ y.1 ≤ List.length S ∧ fl kind (List.take y.1 S) = [] ∨
                                              ((((0 : Nat) = (0 : Nat) ∧ x_1.2 = y.2 ∧ x_1.5 = y.5) ∧
                                                    Go.IntKind.wrap Go.IntKind.i64 ((↑x_1.1 : Int) + (1 : Int)) = (↑y.1 : Int) ∧
                                                      ((0 : Nat) = (0 : Nat) ∧ (0 : Nat) = (0 : Nat)) ∧
                                                        kind = kind ∧ (x.1.3 = x.1.3 ∧ x.2 = x.2 ∧ x.1.5 = x.1.5) ∧ (↑x.2 : Int) = (↑x.2 : Int) ∧ True) ∧
                                                  (b = b ∧ (x.1.3 = x.1.3 ∧ x.2 = x.2 ∧ x.1.5 = x.1.5) ∧ True) ∧
                                                    x.1.8 = x.1.8 ∧
                                                      (x.1.1 = x.1.1 ∧ x.1.2 = x.1.2 ∧ x.1.4 = x.1.4 ∧ x.1.6 = x.1.6 ∧ x.1.7 = x.1.7 ∧ True) ∧
                                                        (x_1.3 = y.3 ∧ x_1.4 = y.4 ∧ x_1.5 = y.5 ∧ x_1.6 = y.6 ∧ x_1.7 = y.7 ∧ True) ∧ True) ∧
                                                (0 : Nat) < y.2 ∧ y.1 ≤ List.length S ∧ fRow y.2 y.5 y.6 y.7 (fl kind (List.take y.1 S))))) ∧
                      (¬(↑x_1.1 : Int) < (↑x.2 : Int) →
                        ((↑x_1.2 : Int) < (↑x.2 : Int) ↔ List.length (fl kind S) < List.length S) ∧
                          LeftG (85 : Nat) b (fun (x v' : Go.Value) (L' : Go.Sx.Blks) => FAt (fl kind S) v' L') (Go.Value.bool Bool.true)
                            ((b, Go.Sx.Blk.cells [Go.Value.slice (Option.some { block := x_1.3, off := x_1.4 * (2 : Nat) }) x_1.2 x_1.5] (85 : Go.TypeId)) ::
                              (x.1.8 ++
                                [(x.1.1, Go.Sx.Blk.tab (90 : Go.TypeId) x.1.2 x.1.4 [Go.Sx.Col.ints Go.IntKind.i64 x.1.6, Go.Sx.Col.ints Go.IntKind.u64 x.1.7]),
                                  (x_1.3, Go.Sx.Blk.tab (90 : Go.TypeId) x_1.4 x_1.5 [Go.Sx.Col.ints Go.IntKind.i64 x_1.6, Go.Sx.Col.ints Go.IntKind.u64 x_1.7])]))) := by
  simp only [eq_self, true_and, and_true, false_and, and_false, or_false, false_or, and_self, Nat.zero_add, Nat.add_zero, Nat.sub_zero, Nat.zero_mul, Nat.mul_one, Int.toNat_natCast, cond_true, cond_false, forall_const, implies_true, Nat.beq_refl, ne_eq, not_false_eq_true, not_true_eq_false, Classical.not_not, List.cons.injEq, List.append_nil, List.nil_append, Go.Value.int.injEq, Go.Value.bool.injEq, Go.Value.slice.injEq, Nat.le_refl, Nat.zero_le, Go.Sx.one_int, Go.Sx.one_bool, Go.Sx.one_slice, Go.Sx.one_ptr, Go.Sx.one_map, reduceCtorEq, Nat.reduceLeDiff, Nat.reduceMul]
  rcases hF with ⟨rfl, rfl⟩ | ⟨x, ⟨o1, o2, o3, o4, o5, o6⟩, rfl, hp⟩
  · refine .inl ⟨(), ⟨[], by simp⟩, ⟨0, 0, 0, 0, 0, [], []⟩, by simp [fl], fun y ⟨h1, h2, h3⟩ => ⟨fun h => by omega, fun _ => ⟨by simp [fl], _, L, .inl ⟨rfl, rfl⟩, List.Perm.refl _⟩⟩, fun y ⟨h1, h2, h3⟩ => ?_⟩
    have := h3.1
    simp [fl] at this
    omega
  · refine .inr ⟨(x, S.length), ⟨[], by rw [List.append_nil]; exact view_perm hp⟩, ⟨0, 0, 0, 0, 0, [], []⟩, by simp [fl], fun y ⟨h1, h2, h3⟩ => ⟨fun hlt => ?_, fun hge => ?_⟩, fun y ⟨h1, h2, h3⟩ => ⟨fun hlt => ?_, fun hge => ?_⟩⟩
    · have hi : y.i < S.length := by omega
      have e1 := off_get o5 hi
      have e2 := off_get o6 hi
      have es := fl_succ (kind := kind) hi
      rw [h3] at es
      simp only [e1, e2, ix_succ hi hb]
      refine ⟨⟨by omega, hlt⟩, by omega, by omega, fun hne b2 cap' c1 sp c2 sq c3 => ?_, fun he => ?_⟩
      · rw [if_pos hne] at es
        exact ⟨⟨y.i + 1, 1, b2, 0, cap', _, _⟩, by show S.length - (y.i + 1) < S.length - y.i; omega, by and_intros <;> rfl, Nat.one_pos, hi, by show fRow 1 cap' _ _ (fl kind (S.take (y.i + 1))); rw [es]; exact fRow_one c1 c2 c3⟩
      · rw [if_neg (by simp [he])] at es
        exact ⟨⟨y.i + 1, 0, 0, 0, 0, [], []⟩, by show S.length - (y.i + 1) < S.length - y.i; omega, rfl, rfl, hi, es⟩
    · have hi : y.i = S.length := by omega
      rw [hi, List.take_length] at h3
      refine ⟨by rw [h3]; simp, _, _, by rw [h3]; exact .inl ⟨rfl, rfl⟩, List.Perm.refl _⟩
    · have hi : y.i < S.length := by omega
      have e1 := off_get o5 hi
      have e2 := off_get o6 hi
      have es := fl_succ (kind := kind) hi
      have hk : y.k ≤ y.i := by
        rw [← h3.1]
        refine Nat.le_trans (List.length_filter_le _ _) ?_
        simp
        omega
      simp only [e1, e2, ix_succ hi hb]
      refine ⟨⟨by omega, hlt⟩, by omega, by omega, fun hne => ⟨(h3.2 h1).1, (h3.2 h1).1, by omega, fun b2 base cap' c1 c2 sp c3 sq c4 => ?_⟩, fun he => ?_⟩
      · rw [if_pos hne] at es
        exact ⟨⟨y.i + 1, y.k + 1, b2, base, cap', _, _⟩, by show S.length - (y.i + 1) < S.length - y.i; omega, by and_intros <;> rfl, Nat.succ_pos _, hi, by show fRow (y.k + 1) cap' _ _ (fl kind (S.take (y.i + 1))); rw [es]; exact fRow_app h3 h1 c1 c3 c4⟩
      · rw [if_neg (by simp [he]), List.append_nil] at es
        exact ⟨⟨y.i + 1, y.k, y.b, y.base, y.cap, y.ks, y.ats⟩, by show S.length - (y.i + 1) < S.length - y.i; omega, by simp, h1, hi, by show fRow y.k y.cap y.ks y.ats (fl kind (S.take (y.i + 1))); rw [es]; exact h3⟩
    · have hi : y.i = S.length := by omega
      rw [hi, List.take_length] at h3
      refine ⟨by rw [h3.1]; omega, _, _, fat_of (G := x.G ++ [(x.b, .tab 90 x.base x.N [.ints .i64 x.ks, .ints .u64 x.ats])]) h3 h1 perm_last2, List.Perm.refl _⟩
theorem fs_goal (b : Nat) (kind : Int) (S : List Row) (v : Value) (L : Blks) (hF : FAt S v L) (hb : S.length < 1000000) : fsGoal b kind S v L := Eq.mpr (by kernel_rfl) (fs_vc b kind S v L hF hb)
end Go.Proofs.Ythkcfocoekonjaa
