/- Timers: the document's table; Set, Due; At. -/
import Derived.Test.YthkcfocoekonjaaTmR
set_option maxRecDepth 100000
set_option linter.unusedVariables false
set_option linter.unusedSimpArgs false
namespace Go.Proofs.Ythkcfocoekonjaa
open Go Go.Sx
attribute [local irreducible] Go.Sx.xrun

noncomputable def fstopT : Trans := cellG (A := Prop) 85 (fun p => .prop p) (fun (x : KX) vs v L => vs = [.int .i64 x.kind] ∧ FAt x.S v L ∧ x.S.length < 1000000) fun x p v' L' => (p ↔ (fl x.kind x.S).length < x.S.length) ∧ FAt (fl x.kind x.S) v' L'
/-- A row comes ahead of the first one that is greater. -/
def insR (a : Row) : List Row → List Row
  | [] => [a]
  | x :: r => if a.1 < x.1 ∨ (a.1 = x.1 ∧ a.2 < x.2) then a :: x :: r else x :: insR a r
structure FtX where
  i : Nat
  d : Bool
  k : Nat
  b : Nat
  base : Nat
  cap : Nat
  ks : List Int
  ats : List Int
def ftCur (a : Row) (S : List Row) (i : Nat) (d : Bool) : List Row := if d = true then insR a (S.take i) else S.take i
def ftInv (a : Row) (S : List Row) (x : FtX) : Prop := x.i ≤ S.length ∧ (x.d = true ↔ ∃ r ∈ S.take x.i, rlt a r) ∧ fRow x.k x.cap x.ks x.ats (ftCur a S x.i x.d)
def Ann.last : List Ent → List Ent
  | [] => []
  | [e] => [e]
  | _ :: r => Ann.last r
/-- Behind the question whether the row comes here: what is put out so far. -/
def ftMid (a : Row) (S : List Row) (x0 x : FtX) : Prop := x.i = x0.i ∧ (x.d = true ↔ ∃ r ∈ S.take (x0.i + 1), rlt a r) ∧ fRow x.k x.cap x.ks x.ats (if x.d = true then (if x0.d = true then insR a (S.take x0.i) else S.take x0.i ++ [a]) else S.take x0.i)
noncomputable def Ann.ft (b : Nat) (a : Row) (S : List Row) : FnAnn := ⟨[(1000003, vwF b 0 2 1)], [(4, ⟨FtX, [
  (fun σ x => ⟨σ.n, (6, .val (.slice none 0 0)) :: (7, .val (.bool x.d)) :: (18, .val (.int .i64 x.i)) :: keepE σ.env [0, 1, 2, 16, 17], σ.heap⟩, fun _ x => x.k = 0 ∧ ftInv a S x),
  (fun σ x => ⟨σ.n, (6, .slc 3 0 x.k x.cap) :: (7, .val (.bool x.d)) :: (18, .val (.int .i64 x.i)) :: keepE σ.env [0, 1, 2, 16, 17], σ.heap ++ [.own x.b (.tab 90 x.base x.cap [.ints .i64 x.ks, .ints .u64 x.ats])]⟩, fun _ x => 0 < x.k ∧ ftInv a S x)],
  fun x => S.length - x.i⟩),
  (1000009, ⟨FtX, [
  (fun σ x => ⟨σ.n, (6, .val (.slice none 0 0)) :: (7, .val (.bool x.d)) :: (9, .ptr 3 0 0) :: keepE σ.env [0, 1, 2, 16, 17, 18], List.take 3 σ.heap ++ Ann.last σ.heap⟩, fun x0 x => x.k = 0 ∧ ftMid a S x0 x),
  (fun σ x => ⟨σ.n, (6, .slc 4 0 x.k x.cap) :: (7, .val (.bool x.d)) :: (9, .ptr 3 0 0) :: keepE σ.env [0, 1, 2, 16, 17, 18], List.take 3 σ.heap ++ Ann.last σ.heap ++ [.own x.b (.tab 90 x.base x.cap [.ints .i64 x.ks, .ints .u64 x.ats])]⟩, fun x0 x => 0 < x.k ∧ ftMid a S x0 x)],
  fun _ => 0⟩)]⟩
noncomputable def ftGoal (b : Nat) (kind at_ : Int) (S : List Row) (v : Value) (L : Blks) : Prop :=
  xrun Go.Proofs.Try.prog [(34, fstopT)] [(33, Ann.ft b (at_, kind) (fl kind S))] [] 9 [] 33 [.ptr 0 0 0, .val (.int .i64 kind), .val (.int .u64 at_)] [.own b (.cells 1 [.val v] 85), .chunk L]
    fun s h => LeftG 85 b (fun r v' L' => r = .tuple #[] ∧ FAt (insR (at_, kind) (fl kind S)) v' L') (den (locs h) s) (owned (locs h) h)
structure FdX where
  o0 : Nat
  c0 : Nat
  off : Nat
  i : Nat
  b : Nat
  base : Nat
  cap : Nat
  zs : List Int
def Ann.adv : List Ent → Nat → Nat → List Ent
  | .own b (.cells 1 [.slc n o l c] t) :: r, off, i => .own b (.cells 1 [.slc n off (l - i) (c - i)] t) :: r
  | h, _, _ => h
def fdInv (now : Int) (S : List Row) (i : Nat) : Prop := i ≤ S.length ∧ ∀ r ∈ S.take i, r.1 ≤ now
def fdOff (x0 x : FdX) : Prop := x.o0 = x0.o0 ∧ x.c0 = x0.c0 ∧ (x.i < x.c0 → x.off = x.o0 + x.i) ∧ x.off + (x.c0 - x.i) ≤ x.o0 + x.c0
noncomputable def Ann.fd (b : Nat) (now : Int) (S : List Row) : FnAnn := ⟨[(1000001, vwF b 0 2 1)], [(2, ⟨FdX, [
  (fun σ x => ⟨σ.n, (5, .val (.slice none 0 0)) :: keepE σ.env [0, 1], σ.heap⟩, fun x0 x => x.i = 0 ∧ x = x0),
  (fun σ x => ⟨σ.n, (5, .slc 3 0 x.i x.cap) :: keepE σ.env [0, 1], Ann.adv σ.heap x.off x.i ++ [.own x.b (.tab 3 x.base x.cap [.ints .i64 x.zs])]⟩, fun x0 x => 0 < x.i ∧ fdOff x0 x ∧ fdInv now S x.i ∧ x.i ≤ x.cap ∧ x.zs.length = x.cap ∧ x.zs.take x.i = (S.take x.i).map (·.2))],
  fun x => S.length - x.i⟩)]⟩
def DueF (now : Int) (S out S' : List Row) : Prop := ∃ i, fdInv now S i ∧ out = S.take i ∧ S' = S.drop i ∧ ∀ r, S'.head? = some r → now < r.1
noncomputable def fdGoal (b : Nat) (now : Int) (S : List Row) (v : Value) (L : Blks) : Prop :=
  xrun Go.Proofs.Try.prog [] [(35, Ann.fd b now S)] [] 9 [] 35 [.ptr 0 0 0, .val (.int .u64 now)] [.own b (.cells 1 [.val v] 85), .chunk L]
    fun s h => LeftG 85 b (fun r v' L1 => ∃ out S' L2 L3, DueF now S out S' ∧ FAt S' v' L2 ∧ KAt (out.map (·.2)) r L3 ∧ L1.Perm (L2 ++ L3)) (den (locs h) s) (owned (locs h) h)
/-- At: the queue's own tick. -/
structure QX where
  b1 : Nat
  base : Nat
  cap : Nat
  len : Nat
  xs : List Int
  ys : List Int
  G : Blks
noncomputable def vwQ (b p n m : Nat) : Cast := .view [
  ⟨Unit, fun _ _ => [(p, .own b (.cells 1 [.val (.slice none 0 0)] 70))], fun _ => [.gone (0, 0, 0)], fun _ => []⟩,
  ⟨QX, fun x h => [(p, .own b (.cells 1 [.slc n 0 x.len x.cap] 70)), (m, .chunk x.G)], fun x => [.own x.b1 (.tab 150 x.base x.cap [.ints .u64 x.xs, .ints .i64 x.ys])], fun _ => []⟩]
def atF (S : List Row) (kind a : Int) (p : Prop) : Prop := (¬ p → a = 0 ∧ ∀ r ∈ S, r.2 ≠ kind) ∧ (p → ∃ r ∈ S, r.2 = kind ∧ r.1 = a)
noncomputable def taGoal (b : Nat) (kind : Int) (q : List Row) (v : Value) (L : Blks) : Prop :=
  xrun Go.Proofs.Try.prog [] [(36, ⟨[(1000000, vwQ b 0 2 1)], []⟩), (84, Ann.ix kind q)] [] 9 [] 36 [.ptr 0 0 0, .val (.int .i64 kind)] [.own b (.cells 1 [.val v] 70), .chunk L]
    fun s h => match s with
      | .tup [.val (.int .u64 a), p] => bOf p fun p => atF q kind a p ∧ LeftG 70 b (fun _ v' L' => QAt q v' L') (.bool true) (owned (locs h) h)
      | _ => False

theorem perm_last3 {G : Blks} {p q r : Nat × Blk} : (G ++ [p, q, r]).Perm (r :: (G ++ [p, q])) := by
  have : G ++ [p, q, r] = (G ++ [p, q]) ++ [r] := by simp
  rw [this]
  exact List.perm_append_comm (l₂ := [r])
theorem run_own {f : FuncId} {T : Trans} {ty b : Nat} {v : Value} {L : Blks} {args : List SV} {vs : List Value} {R : Value → Blks → Prop} {K : SV → List Ent → Prop} (hs : SoundT Go.Proofs.Try.prog f T)
    (ha : StdL [.own b (.cells 1 [.val v] ty), .chunk L] args vs) (hx : T args [.own b (.cells 1 [.val v] ty), .chunk L] K) (hK : ∀ s h', K s h' → R (den (locs h') s) (owned (locs h') h')) :
    Triple Go.Proofs.Try.prog f vs ((b, .cells [v] ty) :: L) R :=
  triple_of_runK hs ha (fun r => by simp [owned, Ent.blocks, SBlk.den, denL, den]) (by simp) hx hK
theorem LeftG.to {ty b : Nat} {R R' : Value → Value → Blks → Prop} {r r' : Value} {L : Blks} (h : LeftG ty b R r L) (hr : ∀ v' L1, R r v' L1 → R' r' v' L1) : LeftG ty b R' r' L := by
  obtain ⟨v', L1, h1, h2⟩ := h
  exact ⟨v', L1, hr v' L1 h1, h2⟩
theorem enters33 : Enters Go.Proofs.Try.prog 33 := ⟨Go.Proofs.Try.f33, Go.Proofs.Try.func33, by kernel_rfl, by kernel_rfl⟩
theorem enters34 : Enters Go.Proofs.Try.prog 34 := ⟨Go.Proofs.Try.f34, Go.Proofs.Try.func34, by kernel_rfl, by kernel_rfl⟩
theorem enters35 : Enters Go.Proofs.Try.prog 35 := ⟨Go.Proofs.Try.f35, Go.Proofs.Try.func35, by kernel_rfl, by kernel_rfl⟩
theorem enters36 : Enters Go.Proofs.Try.prog 36 := ⟨Go.Proofs.Try.f36, Go.Proofs.Try.func36, by kernel_rfl, by kernel_rfl⟩
open Classical in
theorem fstopT_sound : SoundT Go.Proofs.Try.prog 34 fstopT := cellG_sound (val := fun p => .bool (decide p)) enters34 (fun a ρ => rfl) (fun a => by simp) (fun x a v L ⟨_, h⟩ => h.sl) fun ⟨S, kind, at_⟩ vs b v L ⟨h1, h2, h3⟩ => by
  subst h1
  refine run_own (run_with no_contracts _ _ _ _ _) (fun r => rfl) (fs_goal b kind S v L h2 h3) fun s h' hk => ?_
  obtain ⟨p, ⟨e1, e2⟩, hd⟩ := bOf_spec hk (locs h')
  exact e2.to fun v' L1 h => ⟨p, hd, e1, h⟩

/-! A row comes into its place. -/
theorem insR_old {a x : Row} : ∀ {p : List Row}, (∃ r ∈ p, rlt a r) → insR a (p ++ [x]) = insR a p ++ [x]
  | [], h => by simp at h
  | y :: p, h => by
    by_cases hy : rlt a y
    · have hy' := hy
      unfold rlt at hy'
      simp [insR, hy']
    · have hy' := hy
      unfold rlt at hy'
      have : ∃ r ∈ p, rlt a r := by
        obtain ⟨r, h1, h2⟩ := h
        rcases List.mem_cons.1 h1 with rfl | h1
        · exact absurd h2 hy
        · exact ⟨r, h1, h2⟩
      simp [insR, hy', insR_old this]
theorem insR_end {a : Row} : ∀ {p : List Row}, ¬ (∃ r ∈ p, rlt a r) → insR a p = p ++ [a]
  | [], h => rfl
  | y :: p, h => by
    have hy : ¬ rlt a y := fun hy => h ⟨y, by simp, hy⟩
    have hy' := hy
    unfold rlt at hy'
    have : ¬ ∃ r ∈ p, rlt a r := fun ⟨r, h1, h2⟩ => h ⟨r, by simp [h1], h2⟩
    simp [insR, hy', insR_end this]
theorem insR_new {a x : Row} (hx : rlt a x) : ∀ {p : List Row}, ¬ (∃ r ∈ p, rlt a r) → insR a (p ++ [x]) = p ++ [a] ++ [x]
  | [], h => by
    unfold rlt at hx
    simp [insR, hx]
  | y :: p, h => by
    have hy : ¬ rlt a y := fun hy => h ⟨y, by simp, hy⟩
    have hy' := hy
    unfold rlt at hy'
    have : ¬ ∃ r ∈ p, rlt a r := fun ⟨r, h1, h2⟩ => h ⟨r, by simp [h1], h2⟩
    have e := insR_new hx this
    simp only [List.cons_append, insR, if_neg hy', e]
theorem any_succ {a : Row} {T : List Row} {i : Nat} (hi : i < T.length) : (∃ r ∈ T.take (i + 1), rlt a r) ↔ (∃ r ∈ T.take i, rlt a r) ∨ rlt a T[i] := by
  rw [take_succ' hi]
  constructor
  · rintro ⟨r, h1, h2⟩
    rcases List.mem_append.1 h1 with h1 | h1
    · exact .inl ⟨r, h1, h2⟩
    · rw [List.mem_singleton.1 h1] at h2; exact .inr h2
  · rintro (⟨r, h1, h2⟩ | h)
    · exact ⟨r, List.mem_append_left _ h1, h2⟩
    · exact ⟨_, List.mem_append_right _ (List.mem_singleton_self _), h⟩
theorem mid_no {a : Row} {T : List Row} {y : FtX} (h : ftInv a T y) (hi : y.i < T.length) (hd : y.d = true ∨ ¬ rlt a T[y.i]) : ftMid a T y y := by
  obtain ⟨h1, h2, h3⟩ := h
  refine ⟨rfl, ?_, ?_⟩
  · rw [any_succ hi, h2]
    rcases hd with hd | hd
    · exact ⟨.inl, fun _ => h2.1 hd⟩
    · exact ⟨.inl, fun h => h.resolve_right hd⟩
  · cases hd' : y.d with
    | true => simpa [ftCur, hd'] using h3
    | false => simpa [ftCur, hd'] using h3
theorem mid_yes {a : Row} {T : List Row} {y : FtX} {k b base cap : Nat} {ks ats : List Int} (hi : y.i < T.length) (hd : y.d = false) (hr : rlt a T[y.i]) (h : fRow k cap ks ats (T.take y.i ++ [a])) :
    ftMid a T y ⟨y.i, true, k, b, base, cap, ks, ats⟩ := by
  refine ⟨rfl, ?_, ?_⟩
  · rw [any_succ hi]
    exact ⟨fun _ => .inr hr, fun _ => rfl⟩
  · simpa [hd] using h
theorem cur_next {a : Row} {T : List Row} {y z : FtX} (h : ftInv a T y) (hi : y.i < T.length) (hz : ftMid a T y z) :
    (if z.d = true then (if y.d = true then insR a (T.take y.i) else T.take y.i ++ [a]) else T.take y.i) ++ [T[y.i]] = ftCur a T (y.i + 1) z.d := by
  obtain ⟨h1, h2, h3⟩ := h
  obtain ⟨k1, k2, k3⟩ := hz
  unfold ftCur
  cases hzd : z.d with
  | false =>
    simp only [Bool.false_eq_true, if_false]
    exact (take_succ' hi).symm
  | true =>
    simp only [if_true]
    cases hyd : y.d with
    | true =>
      simp only [if_true]
      rw [take_succ' hi, insR_old (h2.1 hyd)]
    | false =>
      have hn : ¬ ∃ r ∈ T.take y.i, rlt a r := fun h => by have := h2.2 h; rw [hyd] at this; cases this
      have hr : rlt a T[y.i] := ((any_succ hi).1 (k2.1 hzd)).resolve_left hn
      simp only [Bool.false_eq_true, if_false]
      rw [take_succ' hi, insR_new hr hn]
theorem ft_end {a : Row} {T : List Row} {y : FtX} (h : ftInv a T y) (hi : y.i = T.length) : (y.d = false → fRow y.k y.cap y.ks y.ats T ∧ insR a T = T ++ [a]) ∧ (¬ y.d = false → fRow y.k y.cap y.ks y.ats (insR a T)) := by
  obtain ⟨h1, h2, h3⟩ := h
  rw [hi, List.take_length] at h2
  unfold ftCur at h3
  rw [hi, List.take_length] at h3
  constructor
  · intro hd
    rw [hd] at h3 h2
    refine ⟨by simpa using h3, insR_end fun h => ?_⟩
    have := h2.2 h
    cases this
  · intro hd
    have hd : y.d = true := by cases hy : y.d with | true => rfl | false => exact absurd hy hd
    rw [hd] at h3
    simpa using h3
theorem insR_ne (a : Row) (T : List Row) : insR a T ≠ [] := by
  cases T with
  | nil => simp [insR]
  | cons x r => unfold insR; split <;> simp
theorem fl_len (kind : Int) (S : List Row) : (fl kind S).length ≤ S.length := List.length_filter_le _ _
theorem ft_vc (b : Nat) (kind at_ : Int) (S : List Row) (v : Value) (L : Blks) (hF : FAt S v L) (hb : S.length < 1000000) :
    ∃ (x : KX),
  ∃ (L_1 : List (Nat × Go.Sx.Blk)),
    ∃ (G : List (Nat × Go.Sx.Blk)),
      List.Perm L (L_1 ++ G) ∧
        ([Go.Value.int Go.IntKind.i64 kind] = [Go.Value.int Go.IntKind.i64 x.2] ∧ FAt x.1 v L_1 ∧ List.length x.1 < (1000000 : Nat)) ∧
          ∀ (a : Prop) (s : Sl) (L' : List (Nat × Go.Sx.Blk)),
            (a ↔ List.length (fl x.2 x.1) < List.length x.1) ∧ FAt (fl x.2 x.1) (Go.Value.slice s.1 s.2 s.3) L' →
              (∃ (x : Unit),
                  (b, (0 : Nat), (1 : Nat)) = (b, (0 : Nat), (1 : Nat)) ∧
                    (∃ (G : List (Nat × Go.Sx.Blk)),
                        ∀ (r : List (Nat × Nat × Nat)),
                          List.Perm [(b, Go.Sx.Blk.cells [Go.Value.slice s.1 s.2 s.3] (85 : Go.TypeId))]
                            ((b, Go.Sx.Blk.cells [Go.Value.slice Option.none (0 : Nat) (0 : Nat)] (85 : Go.TypeId)) :: G)) ∧
                      ∃ (x0 : FtX),
                        (((Go.Value.slice Option.none (0 : Nat) (0 : Nat) = Go.Value.slice Option.none (0 : Nat) (0 : Nat) ∧
                                  Go.Value.bool Bool.false = Go.Value.bool x0.2 ∧
                                    (0 : Int) = (↑x0.1 : Int) ∧
                                      ((0 : Nat) = (0 : Nat) ∧ (0 : Nat) = (0 : Nat)) ∧
                                        kind = kind ∧
                                          at_ = at_ ∧
                                            Go.Value.slice Option.none (0 : Nat) (0 : Nat) = Go.Value.slice Option.none (0 : Nat) (0 : Nat) ∧ (↑(0 : Nat) : Int) = (↑(0 : Nat) : Int) ∧ True) ∧
                                (b = b ∧ Go.Value.slice Option.none (0 : Nat) (0 : Nat) = Go.Value.slice Option.none (0 : Nat) (0 : Nat) ∧ True) ∧
                                  L' ++ G = L' ++ G ∧ ((0 : Nat), (0 : Nat), (0 : Nat)) = ((0 : Nat), (0 : Nat), (0 : Nat)) ∧ True) ∧
                              x0.3 = (0 : Nat) ∧ ftInv (at_, kind) (fl kind S) x0 ∨
                            ((False ∧
                                  Go.Value.bool Bool.false = Go.Value.bool x0.2 ∧
                                    (0 : Int) = (↑x0.1 : Int) ∧
                                      ((0 : Nat) = (0 : Nat) ∧ (0 : Nat) = (0 : Nat)) ∧
                                        kind = kind ∧
                                          at_ = at_ ∧
                                            Go.Value.slice Option.none (0 : Nat) (0 : Nat) = Go.Value.slice Option.none (0 : Nat) (0 : Nat) ∧ (↑(0 : Nat) : Int) = (↑(0 : Nat) : Int) ∧ True) ∧
                                (b = b ∧ Go.Value.slice Option.none (0 : Nat) (0 : Nat) = Go.Value.slice Option.none (0 : Nat) (0 : Nat) ∧ True) ∧
                                  L' ++ G = L' ++ G ∧ ((0 : Nat), (0 : Nat), (0 : Nat)) = ((0 : Nat), (0 : Nat), (0 : Nat)) ∧ False ∧ True) ∧
                              (0 : Nat) < x0.3 ∧ ftInv (at_, kind) (fl kind S) x0) ∧
                          (∀ (x : FtX),
                              x.3 = (0 : Nat) ∧ ftInv (at_, kind) (fl kind S) x →
                                ((↑x.1 : Int) < (↑(0 : Nat) : Int) → False) ∧
                                  (¬(↑x.1 : Int) < (↑(0 : Nat) : Int) →
                                    (x.2 = Bool.false →
                                        ∀ (b_1 : Nat),
                                          Go.Value.oneCell' (Go.Value.int Go.IntKind.i64 kind) = Bool.true ∧
                                            Go.Value.oneCell' (Go.Value.int Go.IntKind.u64 at_) = Bool.true ∧
                                              (16 : Nat) ≤ (140737488355328 : Nat) ∧
                                                ∀ (b_2 cap' : Nat),
                                                  (1 : Nat) ≤ cap' →
                                                    ∀ (sp : List Int),
                                                      List.length sp = cap' - (1 : Nat) →
                                                        ∀ (sp_1 : List Int),
                                                          List.length sp_1 = cap' - (1 : Nat) →
                                                            LeftG (85 : Nat) b (fun (r v' : Go.Value) (L' : Go.Sx.Blks) => r = Go.Value.tuple #[] ∧ FAt (insR (at_, kind) (fl kind S)) v' L')
                                                              (Go.Value.tuple #[])
                                                              ((b, Go.Sx.Blk.cells [Go.Value.slice (Option.some { block := b_2, off := (0 : Nat) * (2 : Nat) }) (1 : Nat) cap'] (85 : Go.TypeId)) ::
                                                                (L' ++ G ++
                                                                  [(b_1, Go.Sx.Blk.cells [Go.Value.int Go.IntKind.i64 kind, Go.Value.int Go.IntKind.u64 at_] (90 : Nat)),
                                                                    (b_2,
                                                                      Go.Sx.Blk.tab (90 : Nat) (0 : Nat) cap'
                                                                        [Go.Sx.Col.ints Go.IntKind.i64 (kind :: sp), Go.Sx.Col.ints Go.IntKind.u64 (at_ :: sp_1)])]))) ∧
                                      (¬x.2 = Bool.false →
                                        Go.Value.oneCell' (Go.Value.slice Option.none (0 : Nat) (0 : Nat)) = Bool.true ∧
                                          LeftG (85 : Nat) b (fun (r v' : Go.Value) (L' : Go.Sx.Blks) => r = Go.Value.tuple #[] ∧ FAt (insR (at_, kind) (fl kind S)) v' L') (Go.Value.tuple #[])
                                            ((b, Go.Sx.Blk.cells [Go.Value.slice Option.none (0 : Nat) (0 : Nat)] (85 : Go.TypeId)) :: (L' ++ G ++ []))))) ∧
                            ∀ (x : FtX),
                              (0 : Nat) < x.3 ∧ ftInv (at_, kind) (fl kind S) x →
                                ((↑x.1 : Int) < (↑(0 : Nat) : Int) → False) ∧
                                  (¬(↑x.1 : Int) < (↑(0 : Nat) : Int) →
                                    (x.2 = Bool.false →
                                        ∀ (b_1 : Nat),
                                          Go.Value.oneCell' (Go.Value.int Go.IntKind.i64 kind) = Bool.true ∧
                                            Go.Value.oneCell' (Go.Value.int Go.IntKind.u64 at_) = Bool.true ∧
                                              (x.3 ≤ x.6 ∧ (0 : Nat) + x.6 ≤ x.6) ∧
                                                (0 : Nat) + x.3 ≤ x.6 ∧
                                                  (x.3 + (1 : Nat)) * (16 : Nat) ≤ (140737488355328 : Nat) ∧
                                                    ∀ (b_2 base cap' : Nat),
                                                      x.3 + (1 : Nat) ≤ cap' →
                                                        (x.3 + (1 : Nat) ≤ x.6 → cap' = x.6) →
                                                          ∀ (sp : List Int),
                                                            List.length sp = cap' - (x.3 + (1 : Nat)) →
                                                              ∀ (sp_1 : List Int),
                                                                List.length sp_1 = cap' - (x.3 + (1 : Nat)) →
                                                                  LeftG (85 : Nat) b (fun (r v' : Go.Value) (L' : Go.Sx.Blks) => r = Go.Value.tuple #[] ∧ FAt (insR (at_, kind) (fl kind S)) v' L')
                                                                    (Go.Value.tuple #[])
                                                                    ((b,
                                                                        Go.Sx.Blk.cells [Go.Value.slice (Option.some { block := b_2, off := base * (2 : Nat) }) (x.3 + (1 : Nat)) cap']
                                                                          (85 : Go.TypeId)) ::
                                                                      (L' ++ G ++
                                                                        [(b_1, Go.Sx.Blk.cells [Go.Value.int Go.IntKind.i64 kind, Go.Value.int Go.IntKind.u64 at_] (90 : Nat)),
                                                                          (b_2,
                                                                            Go.Sx.Blk.tab (90 : Nat) base cap'
                                                                              [Go.Sx.Col.ints Go.IntKind.i64 (List.take x.3 x.7 ++ [kind] ++ sp),
                                                                                Go.Sx.Col.ints Go.IntKind.u64 (List.take x.3 x.8 ++ [at_] ++ sp_1)])]))) ∧
                                      (¬x.2 = Bool.false →
                                        LeftG (85 : Nat) b (fun (r v' : Go.Value) (L' : Go.Sx.Blks) => r = Go.Value.tuple #[] ∧ FAt (insR (at_, kind) (fl kind S)) v' L') (Go.Value.tuple #[])
                                          ((b, Go.Sx.Blk.cells [Go.Value.slice (Option.some { block := x.4, off := x.5 * (2 : Nat) }) x.3 x.6] (85 : Go.TypeId)) ::
                                            (L' ++ G ++ [(x.4, Go.Sx.Blk.tab (90 : Go.TypeId) x.5 x.6 [Go.Sx.Col.ints Go.IntKind.i64 x.7, Go.Sx.Col.ints Go.IntKind.u64 x.8])]))))) ∨
                ∃ (x : FX × Nat),
                  (b, (0 : Nat), (1 : Nat)) = (b, (0 : Nat), (1 : Nat)) ∧
                    ((0 : Nat), (0 : Nat), (0 : Nat)) = ((0 : Nat), (0 : Nat), (0 : Nat)) ∧
                      (∃ (G_1 : List (Nat × Go.Sx.Blk)),
                          ∀ (r : List (Nat × Nat × Nat)),
                            List.Perm ((b, Go.Sx.Blk.cells [Go.Value.slice s.1 s.2 s.3] (85 : Go.TypeId)) :: (L' ++ G ++ []))
                              ((b, Go.Sx.Blk.cells [Go.Value.slice (Option.some { block := x.1.1, off := (x.1.2 + x.1.3) * (2 : Nat) }) x.2 x.1.5] (85 : Go.TypeId)) ::
                                (x.1.8 ++ [] ++ [(x.1.1, Go.Sx.Blk.tab (90 : Go.TypeId) x.1.2 x.1.4 [Go.Sx.Col.ints Go.IntKind.i64 x.1.6, Go.Sx.Col.ints Go.IntKind.u64 x.1.7])] ++ G_1))) ∧
                        ∃ (x0 : FtX),
                          (((Go.Value.slice Option.none (0 : Nat) (0 : Nat) = Go.Value.slice Option.none (0 : Nat) (0 : Nat) ∧
                                    Go.Value.bool Bool.false = Go.Value.bool x0.2 ∧
                                      (0 : Int) = (↑x0.1 : Int) ∧
                                        ((0 : Nat) = (0 : Nat) ∧ (0 : Nat) = (0 : Nat)) ∧ kind = kind ∧ at_ = at_ ∧ (x.1.3 = x.1.3 ∧ x.2 = x.2 ∧ x.1.5 = x.1.5) ∧ (↑x.2 : Int) = (↑x.2 : Int) ∧ True) ∧
                                  (b = b ∧ (x.1.3 = x.1.3 ∧ x.2 = x.2 ∧ x.1.5 = x.1.5) ∧ True) ∧
                                    x.1.8 = x.1.8 ∧ (x.1.1 = x.1.1 ∧ x.1.2 = x.1.2 ∧ x.1.4 = x.1.4 ∧ x.1.6 = x.1.6 ∧ x.1.7 = x.1.7 ∧ True) ∧ True) ∧
                                x0.3 = (0 : Nat) ∧ ftInv (at_, kind) (fl kind S) x0 ∨
                              ((False ∧
                                    Go.Value.bool Bool.false = Go.Value.bool x0.2 ∧
                                      (0 : Int) = (↑x0.1 : Int) ∧
                                        ((0 : Nat) = (0 : Nat) ∧ (0 : Nat) = (0 : Nat)) ∧ kind = kind ∧ at_ = at_ ∧ (x.1.3 = x.1.3 ∧ x.2 = x.2 ∧ x.1.5 = x.1.5) ∧ (↑x.2 : Int) = (↑x.2 : Int) ∧ True) ∧
                                  (b = b ∧ (x.1.3 = x.1.3 ∧ x.2 = x.2 ∧ x.1.5 = x.1.5) ∧ True) ∧
                                    x.1.8 = x.1.8 ∧ (x.1.1 = x.1.1 ∧ x.1.2 = x.1.2 ∧ x.1.4 = x.1.4 ∧ x.1.6 = x.1.6 ∧ x.1.7 = x.1.7 ∧ True) ∧ False ∧ True) ∧
                                (0 : Nat) < x0.3 ∧ ftInv (at_, kind) (fl kind S) x0) ∧
                            (∀ (x_1 : FtX),
                                x_1.3 = (0 : Nat) ∧ ftInv (at_, kind) (fl kind S) x_1 →
                                  ((↑x_1.1 : Int) < (↑x.2 : Int) →
                                      ((0 : Int) ≤ (↑x_1.1 : Int) ∧ (↑x_1.1 : Int) < (↑x.2 : Int)) ∧
                                        x.1.3 + x_1.1 < x.1.4 ∧
                                          x.1.3 + x_1.1 < x.1.4 ∧
                                            ∀ (b_1 : Nat),
                                              Go.Value.oneCell' (Go.Value.int Go.IntKind.i64 (List.getD x.1.6 (x.1.3 + x_1.1) (0 : Int))) = Bool.true ∧
                                                Go.Value.oneCell' (Go.Value.int Go.IntKind.u64 (List.getD x.1.7 (x.1.3 + x_1.1) (0 : Int))) = Bool.true ∧
                                                  ∃ (x0 : FtX),
                                                    ((x_1.2 = Bool.false →
                                                          (at_ < List.getD x.1.7 (x.1.3 + x_1.1) (0 : Int) →
                                                              ∀ (b_2 : Nat),
                                                                Go.Value.oneCell' (Go.Value.int Go.IntKind.i64 kind) = Bool.true ∧
                                                                  Go.Value.oneCell' (Go.Value.int Go.IntKind.u64 at_) = Bool.true ∧
                                                                    (16 : Nat) ≤ (140737488355328 : Nat) ∧
                                                                      ∀ (b_3 cap' : Nat),
                                                                        (1 : Nat) ≤ cap' →
                                                                          ∀ (sp : List Int),
                                                                            List.length sp = cap' - (1 : Nat) →
                                                                              ∀ (sp_1 : List Int),
                                                                                List.length sp_1 = cap' - (1 : Nat) →
                                                                                  ∃ (y : FtX),
                                                                                    ((Go.Value.slice (Option.some { block := b_3, off := (0 : Nat) * (2 : Nat) }) (1 : Nat) cap' =
                                                                                              Go.Value.slice Option.none (0 : Nat) (0 : Nat) ∧
                                                                                            Go.Value.bool Bool.true = Go.Value.bool y.2 ∧
                                                                                              ((0 : Nat) = (0 : Nat) ∧ (0 : Nat) = (0 : Nat)) ∧
                                                                                                ((0 : Nat) = (0 : Nat) ∧ (0 : Nat) = (0 : Nat)) ∧
                                                                                                  kind = kind ∧
                                                                                                    at_ = at_ ∧
                                                                                                      (x.1.3 = x.1.3 ∧ x.2 = x.2 ∧ x.1.5 = x.1.5) ∧
                                                                                                        (↑x.2 : Int) = (↑x.2 : Int) ∧ (↑x_1.1 : Int) = (↑x_1.1 : Int) ∧ True) ∧
                                                                                          (b = b ∧ (x.1.3 = x.1.3 ∧ x.2 = x.2 ∧ x.1.5 = x.1.5) ∧ True) ∧
                                                                                            x.1.8 = x.1.8 ∧
                                                                                              (x.1.1 = x.1.1 ∧ x.1.2 = x.1.2 ∧ x.1.4 = x.1.4 ∧ x.1.6 = x.1.6 ∧ x.1.7 = x.1.7 ∧ True) ∧
                                                                                                (b_1 = b_1 ∧
                                                                                                    List.getD x.1.6 (x.1.3 + x_1.1) (0 : Int) = List.getD x.1.6 (x.1.3 + x_1.1) (0 : Int) ∧
                                                                                                      List.getD x.1.7 (x.1.3 + x_1.1) (0 : Int) = List.getD x.1.7 (x.1.3 + x_1.1) (0 : Int) ∧ True) ∧
                                                                                                  True) ∧
                                                                                        y.3 = (0 : Nat) ∧ ftMid (at_, kind) (fl kind S) x0 y ∨
                                                                                      ((((0 : Nat) = (0 : Nat) ∧ (1 : Nat) = y.3 ∧ cap' = y.6) ∧
                                                                                            Go.Value.bool Bool.true = Go.Value.bool y.2 ∧
                                                                                              ((0 : Nat) = (0 : Nat) ∧ (0 : Nat) = (0 : Nat)) ∧
                                                                                                ((0 : Nat) = (0 : Nat) ∧ (0 : Nat) = (0 : Nat)) ∧
                                                                                                  kind = kind ∧
                                                                                                    at_ = at_ ∧
                                                                                                      (x.1.3 = x.1.3 ∧ x.2 = x.2 ∧ x.1.5 = x.1.5) ∧
                                                                                                        (↑x.2 : Int) = (↑x.2 : Int) ∧ (↑x_1.1 : Int) = (↑x_1.1 : Int) ∧ True) ∧
                                                                                          (b = b ∧ (x.1.3 = x.1.3 ∧ x.2 = x.2 ∧ x.1.5 = x.1.5) ∧ True) ∧
                                                                                            x.1.8 = x.1.8 ∧
                                                                                              (x.1.1 = x.1.1 ∧ x.1.2 = x.1.2 ∧ x.1.4 = x.1.4 ∧ x.1.6 = x.1.6 ∧ x.1.7 = x.1.7 ∧ True) ∧
                                                                                                (b_1 = b_1 ∧
                                                                                                    List.getD x.1.6 (x.1.3 + x_1.1) (0 : Int) = List.getD x.1.6 (x.1.3 + x_1.1) (0 : Int) ∧
                                                                                                      List.getD x.1.7 (x.1.3 + x_1.1) (0 : Int) = List.getD x.1.7 (x.1.3 + x_1.1) (0 : Int) ∧ True) ∧
                                                                                                  (b_3 = y.4 ∧ (0 : Nat) = y.5 ∧ cap' = y.6 ∧ kind :: sp = y.7 ∧ at_ :: sp_1 = y.8 ∧ True) ∧ True) ∧
                                                                                        (0 : Nat) < y.3 ∧ ftMid (at_, kind) (fl kind S) x0 y) ∧
                                                            (¬at_ < List.getD x.1.7 (x.1.3 + x_1.1) (0 : Int) →
                                                              (at_ = List.getD x.1.7 (x.1.3 + x_1.1) (0 : Int) →
                                                                  (kind < List.getD x.1.6 (x.1.3 + x_1.1) (0 : Int) →
                                                                      ∀ (b_2 : Nat),
                                                                        Go.Value.oneCell' (Go.Value.int Go.IntKind.i64 kind) = Bool.true ∧
                                                                          Go.Value.oneCell' (Go.Value.int Go.IntKind.u64 at_) = Bool.true ∧
                                                                            (16 : Nat) ≤ (140737488355328 : Nat) ∧
                                                                              ∀ (b_3 cap' : Nat),
                                                                                (1 : Nat) ≤ cap' →
                                                                                  ∀ (sp : List Int),
                                                                                    List.length sp = cap' - (1 : Nat) →
                                                                                      ∀ (sp_1 : List Int),
                                                                                        List.length sp_1 = cap' - (1 : Nat) →
                                                                                          ∃ (y : FtX),
                                                                                            ((Go.Value.slice (Option.some { block := b_3, off := (0 : Nat) * (2 : Nat) }) (1 : Nat) cap' =
                                                                                                      Go.Value.slice Option.none (0 : Nat) (0 : Nat) ∧
                                                                                                    Go.Value.bool Bool.true = Go.Value.bool y.2 ∧
                                                                                                      ((0 : Nat) = (0 : Nat) ∧ (0 : Nat) = (0 : Nat)) ∧
                                                                                                        ((0 : Nat) = (0 : Nat) ∧ (0 : Nat) = (0 : Nat)) ∧
                                                                                                          kind = kind ∧
                                                                                                            at_ = at_ ∧
                                                                                                              (x.1.3 = x.1.3 ∧ x.2 = x.2 ∧ x.1.5 = x.1.5) ∧
                                                                                                                (↑x.2 : Int) = (↑x.2 : Int) ∧ (↑x_1.1 : Int) = (↑x_1.1 : Int) ∧ True) ∧
                                                                                                  (b = b ∧ (x.1.3 = x.1.3 ∧ x.2 = x.2 ∧ x.1.5 = x.1.5) ∧ True) ∧
                                                                                                    x.1.8 = x.1.8 ∧
                                                                                                      (x.1.1 = x.1.1 ∧ x.1.2 = x.1.2 ∧ x.1.4 = x.1.4 ∧ x.1.6 = x.1.6 ∧ x.1.7 = x.1.7 ∧ True) ∧
                                                                                                        (b_1 = b_1 ∧
                                                                                                            List.getD x.1.6 (x.1.3 + x_1.1) (0 : Int) = List.getD x.1.6 (x.1.3 + x_1.1) (0 : Int) ∧
                                                                                                              List.getD x.1.7 (x.1.3 + x_1.1) (0 : Int) = List.getD x.1.7 (x.1.3 + x_1.1) (0 : Int) ∧
                                                                                                                True) ∧
                                                                                                          True) ∧
                                                                                                y.3 = (0 : Nat) ∧ ftMid (at_, kind) (fl kind S) x0 y ∨
                                                                                              ((((0 : Nat) = (0 : Nat) ∧ (1 : Nat) = y.3 ∧ cap' = y.6) ∧
                                                                                                    Go.Value.bool Bool.true = Go.Value.bool y.2 ∧
                                                                                                      ((0 : Nat) = (0 : Nat) ∧ (0 : Nat) = (0 : Nat)) ∧
                                                                                                        ((0 : Nat) = (0 : Nat) ∧ (0 : Nat) = (0 : Nat)) ∧
                                                                                                          kind = kind ∧
                                                                                                            at_ = at_ ∧
                                                                                                              (x.1.3 = x.1.3 ∧ x.2 = x.2 ∧ x.1.5 = x.1.5) ∧
                                                                                                                (↑x.2 : Int) = (↑x.2 : Int) ∧ (↑x_1.1 : Int) = (↑x_1.1 : Int) ∧ True) ∧
                                                                                                  (b = b ∧ (x.1.3 = x.1.3 ∧ x.2 = x.2 ∧ x.1.5 = x.1.5) ∧ True) ∧
                                                                                                    x.1.8 = x.1.8 ∧
                                                                                                      (x.1.1 = x.1.1 ∧ x.1.2 = x.1.2 ∧ x.1.4 = x.1.4 ∧ x.1.6 = x.1.6 ∧ x.1.7 = x.1.7 ∧ True) ∧
                                                                                                        (b_1 = b_1 ∧
                                                                                                            List.getD x.1.6 (x.1.3 + x_1.1) (0 : Int) = List.getD x.1.6 (x.1.3 + x_1.1) (0 : Int) ∧
                                                                                                              List.getD x.1.7 (x.1.3 + x_1.1) (0 : Int) = List.getD x.1.7 (x.1.3 + x_1.1) (0 : Int) ∧
                                                                                                                True) ∧
                                                                                                          (b_3 = y.4 ∧ (0 : Nat) = y.5 ∧ cap' = y.6 ∧ kind :: sp = y.7 ∧ at_ :: sp_1 = y.8 ∧ True) ∧
                                                                                                            True) ∧
                                                                                                (0 : Nat) < y.3 ∧ ftMid (at_, kind) (fl kind S) x0 y) ∧
                                                                    (¬kind < List.getD x.1.6 (x.1.3 + x_1.1) (0 : Int) →
                                                                      ∃ (y : FtX),
                                                                        ((Go.Value.slice Option.none (0 : Nat) (0 : Nat) = Go.Value.slice Option.none (0 : Nat) (0 : Nat) ∧
                                                                                Go.Value.bool x_1.2 = Go.Value.bool y.2 ∧
                                                                                  ((0 : Nat) = (0 : Nat) ∧ (0 : Nat) = (0 : Nat)) ∧
                                                                                    ((0 : Nat) = (0 : Nat) ∧ (0 : Nat) = (0 : Nat)) ∧
                                                                                      kind = kind ∧
                                                                                        at_ = at_ ∧
                                                                                          (x.1.3 = x.1.3 ∧ x.2 = x.2 ∧ x.1.5 = x.1.5) ∧
                                                                                            (↑x.2 : Int) = (↑x.2 : Int) ∧ (↑x_1.1 : Int) = (↑x_1.1 : Int) ∧ True) ∧
                                                                              (b = b ∧ (x.1.3 = x.1.3 ∧ x.2 = x.2 ∧ x.1.5 = x.1.5) ∧ True) ∧
                                                                                x.1.8 = x.1.8 ∧
                                                                                  (x.1.1 = x.1.1 ∧ x.1.2 = x.1.2 ∧ x.1.4 = x.1.4 ∧ x.1.6 = x.1.6 ∧ x.1.7 = x.1.7 ∧ True) ∧
                                                                                    (b_1 = b_1 ∧
                                                                                        List.getD x.1.6 (x.1.3 + x_1.1) (0 : Int) = List.getD x.1.6 (x.1.3 + x_1.1) (0 : Int) ∧
                                                                                          List.getD x.1.7 (x.1.3 + x_1.1) (0 : Int) = List.getD x.1.7 (x.1.3 + x_1.1) (0 : Int) ∧ True) ∧
                                                                                      True) ∧
                                                                            y.3 = (0 : Nat) ∧ ftMid (at_, kind) (fl kind S) x0 y ∨
                                                                          ((False ∧
                                                                                Go.Value.bool x_1.2 = Go.Value.bool y.2 ∧
                                                                                  ((0 : Nat) = (0 : Nat) ∧ (0 : Nat) = (0 : Nat)) ∧
                                                                                    ((0 : Nat) = (0 : Nat) ∧ (0 : Nat) = (0 : Nat)) ∧
                                                                                      kind = kind ∧
                                                                                        at_ = at_ ∧
                                                                                          (x.1.3 = x.1.3 ∧ x.2 = x.2 ∧ x.1.5 = x.1.5) ∧
                                                                                            (↑x.2 : Int) = (↑x.2 : Int) ∧ (↑x_1.1 : Int) = (↑x_1.1 : Int) ∧ True) ∧
                                                                              (b = b ∧ (x.1.3 = x.1.3 ∧ x.2 = x.2 ∧ x.1.5 = x.1.5) ∧ True) ∧
                                                                                x.1.8 = x.1.8 ∧
                                                                                  (x.1.1 = x.1.1 ∧ x.1.2 = x.1.2 ∧ x.1.4 = x.1.4 ∧ x.1.6 = x.1.6 ∧ x.1.7 = x.1.7 ∧ True) ∧
                                                                                    (b_1 = b_1 ∧
                                                                                        List.getD x.1.6 (x.1.3 + x_1.1) (0 : Int) = List.getD x.1.6 (x.1.3 + x_1.1) (0 : Int) ∧
                                                                                          List.getD x.1.7 (x.1.3 + x_1.1) (0 : Int) = List.getD x.1.7 (x.1.3 + x_1.1) (0 : Int) ∧ True) ∧
                                                                                      False ∧ True) ∧
                                                                            (0 : Nat) < y.3 ∧ ftMid (at_, kind) (fl kind S) x0 y)) ∧
                                                                (¬at_ = List.getD x.1.7 (x.1.3 + x_1.1) (0 : Int) →
                                                                  ∃ (y : FtX),
                                                                    ((Go.Value.slice Option.none (0 : Nat) (0 : Nat) = Go.Value.slice Option.none (0 : Nat) (0 : Nat) ∧
                                                                            Go.Value.bool x_1.2 = Go.Value.bool y.2 ∧
                                                                              ((0 : Nat) = (0 : Nat) ∧ (0 : Nat) = (0 : Nat)) ∧
                                                                                ((0 : Nat) = (0 : Nat) ∧ (0 : Nat) = (0 : Nat)) ∧
                                                                                  kind = kind ∧
                                                                                    at_ = at_ ∧
                                                                                      (x.1.3 = x.1.3 ∧ x.2 = x.2 ∧ x.1.5 = x.1.5) ∧
                                                                                        (↑x.2 : Int) = (↑x.2 : Int) ∧ (↑x_1.1 : Int) = (↑x_1.1 : Int) ∧ True) ∧
                                                                          (b = b ∧ (x.1.3 = x.1.3 ∧ x.2 = x.2 ∧ x.1.5 = x.1.5) ∧ True) ∧
                                                                            x.1.8 = x.1.8 ∧
                                                                              (x.1.1 = x.1.1 ∧ x.1.2 = x.1.2 ∧ x.1.4 = x.1.4 ∧ x.1.6 = x.1.6 ∧ x.1.7 = x.1.7 ∧ True) ∧
                                                                                (b_1 = b_1 ∧
                                                                                    List.getD x.1.6 (x.1.3 + x_1.1) (0 : Int) = List.getD x.1.6 (x.1.3 + x_1.1) (0 : Int) ∧
                                                                                      List.getD x.1.7 (x.1.3 + x_1.1) (0 : Int) = List.getD x.1.7 (x.1.3 + x_1.1) (0 : Int) ∧ True) ∧
                                                                                  True) ∧
                                                                        y.3 = (0 : Nat) ∧ ftMid (at_, kind) (fl kind S) x0 y ∨
                                                                      ((False ∧
                                                                            Go.Value.bool x_1.2 = Go.Value.bool y.2 ∧
                                                                              ((0 : Nat) = (0 : Nat) ∧ (0 : Nat) = (0 : Nat)) ∧
                                                                                ((0 : Nat) = (0 : Nat) ∧ (0 : Nat) = (0 : Nat)) ∧
                                                                                  kind = kind ∧
                                                                                    at_ = at_ ∧
                                                                                      (x.1.3 = x.1.3 ∧ x.2 = x.2 ∧ x.1.5 = x.1.5) ∧
                                                                                        (↑x.2 : Int) = (↑x.2 : Int) ∧ (↑x_1.1 : Int) = (↑x_1.1 : Int) ∧ True) ∧
                                                                          (b = b ∧ (x.1.3 = x.1.3 ∧ x.2 = x.2 ∧ x.1.5 = x.1.5) ∧ True) ∧
                                                                            x.1.8 = x.1.8 ∧
                                                                              (x.1.1 = x.1.1 ∧ x.1.2 = x.1.2 ∧ x.1.4 = x.1.4 ∧ x.1.6 = x.1.6 ∧ x.1.7 = x.1.7 ∧ True) ∧
                                                                                (b_1 = b_1 ∧
                                                                                    List.getD x.1.6 (x.1.3 + x_1.1) (0 : Int) = List.getD x.1.6 (x.1.3 + x_1.1) (0 : Int) ∧
                                                                                      List.getD x.1.7 (x.1.3 + x_1.1) (0 : Int) = List.getD x.1.7 (x.1.3 + x_1.1) (0 : Int) ∧ True) ∧
                                                                                  False ∧ True) ∧
                                                                        (0 : Nat) < y.3 ∧ ftMid (at_, kind) (fl kind S) x0 y))) ∧
                                                        (¬x_1.2 = Bool.false →
                                                          ∃ (y : FtX),
                                                            ((Go.Value.slice Option.none (0 : Nat) (0 : Nat) = Go.Value.slice Option.none (0 : Nat) (0 : Nat) ∧
                                                                    Go.Value.bool x_1.2 = Go.Value.bool y.2 ∧
                                                                      ((0 : Nat) = (0 : Nat) ∧ (0 : Nat) = (0 : Nat)) ∧
                                                                        ((0 : Nat) = (0 : Nat) ∧ (0 : Nat) = (0 : Nat)) ∧
                                                                          kind = kind ∧
                                                                            at_ = at_ ∧
                                                                              (x.1.3 = x.1.3 ∧ x.2 = x.2 ∧ x.1.5 = x.1.5) ∧ (↑x.2 : Int) = (↑x.2 : Int) ∧ (↑x_1.1 : Int) = (↑x_1.1 : Int) ∧ True) ∧
                                                                  (b = b ∧ (x.1.3 = x.1.3 ∧ x.2 = x.2 ∧ x.1.5 = x.1.5) ∧ True) ∧
                                                                    x.1.8 = x.1.8 ∧
                                                                      (x.1.1 = x.1.1 ∧ x.1.2 = x.1.2 ∧ x.1.4 = x.1.4 ∧ x.1.6 = x.1.6 ∧ x.1.7 = x.1.7 ∧ True) ∧
                                                                        (b_1 = b_1 ∧
                                                                            List.getD x.1.6 (x.1.3 + x_1.1) (0 : Int) = List.getD x.1.6 (x.1.3 + x_1.1) (0 : Int) ∧
                                                                              List.getD x.1.7 (x.1.3 + x_1.1) (0 : Int) = List.getD x.1.7 (x.1.3 + x_1.1) (0 : Int) ∧ True) ∧
                                                                          True) ∧
                                                                y.3 = (0 : Nat) ∧ ftMid (at_, kind) (fl kind S) x0 y ∨
                                                              ((False ∧
                                                                    Go.Value.bool x_1.2 = Go.Value.bool y.2 ∧
                                                                      ((0 : Nat) = (0 : Nat) ∧ (0 : Nat) = (0 : Nat)) ∧
                                                                        ((0 : Nat) = (0 : Nat) ∧ (0 : Nat) = (0 : Nat)) ∧
                                                                          kind = kind ∧
                                                                            at_ = at_ ∧
                                                                              (x.1.3 = x.1.3 ∧ x.2 = x.2 ∧ x.1.5 = x.1.5) ∧ (↑x.2 : Int) = (↑x.2 : Int) ∧ (↑x_1.1 : Int) = (↑x_1.1 : Int) ∧ True) ∧
                                                                  (b = b ∧ (x.1.3 = x.1.3 ∧ x.2 = x.2 ∧ x.1.5 = x.1.5) ∧ True) ∧
                                                                    x.1.8 = x.1.8 ∧
                                                                      (x.1.1 = x.1.1 ∧ x.1.2 = x.1.2 ∧ x.1.4 = x.1.4 ∧ x.1.6 = x.1.6 ∧ x.1.7 = x.1.7 ∧ True) ∧
                                                                        (b_1 = b_1 ∧
                                                                            List.getD x.1.6 (x.1.3 + x_1.1) (0 : Int) = List.getD x.1.6 (x.1.3 + x_1.1) (0 : Int) ∧
                                                                              List.getD x.1.7 (x.1.3 + x_1.1) (0 : Int) = List.getD x.1.7 (x.1.3 + x_1.1) (0 : Int) ∧ True) ∧
                                                                          False ∧ True) ∧
                                                                (0 : Nat) < y.3 ∧ ftMid (at_, kind) (fl kind S) x0 y)) ∧
                                                      (∀ (x_2 : FtX),
                                                          x_2.3 = (0 : Nat) ∧ ftMid (at_, kind) (fl kind S) x0 x_2 →
                                                            ∀ (b_2 : Nat),
                                                              Go.Value.oneCell' (Go.Value.int Go.IntKind.i64 (List.getD x.1.6 (x.1.3 + x_1.1) (0 : Int))) = Bool.true ∧
                                                                Go.Value.oneCell' (Go.Value.int Go.IntKind.u64 (List.getD x.1.7 (x.1.3 + x_1.1) (0 : Int))) = Bool.true ∧
                                                                  (16 : Nat) ≤ (140737488355328 : Nat) ∧
                                                                    ∀ (b_3 cap' : Nat),
                                                                      (1 : Nat) ≤ cap' →
                                                                        ∀ (sp : List Int),
                                                                          List.length sp = cap' - (1 : Nat) →
                                                                            ∀ (sp_1 : List Int),
                                                                              List.length sp_1 = cap' - (1 : Nat) →
                                                                                ∃ (y : FtX),
                                                                                  List.length (fl kind S) - y.1 < List.length (fl kind S) - x_1.1 ∧
                                                                                    (((Go.Value.slice (Option.some { block := b_3, off := (0 : Nat) * (2 : Nat) }) (1 : Nat) cap' =
                                                                                              Go.Value.slice Option.none (0 : Nat) (0 : Nat) ∧
                                                                                            Go.Value.bool x_2.2 = Go.Value.bool y.2 ∧
                                                                                              Go.IntKind.wrap Go.IntKind.i64 ((↑x_1.1 : Int) + (1 : Int)) = (↑y.1 : Int) ∧
                                                                                                ((0 : Nat) = (0 : Nat) ∧ (0 : Nat) = (0 : Nat)) ∧
                                                                                                  kind = kind ∧
                                                                                                    at_ = at_ ∧ (x.1.3 = x.1.3 ∧ x.2 = x.2 ∧ x.1.5 = x.1.5) ∧ (↑x.2 : Int) = (↑x.2 : Int) ∧ True) ∧
                                                                                          (b = b ∧ (x.1.3 = x.1.3 ∧ x.2 = x.2 ∧ x.1.5 = x.1.5) ∧ True) ∧
                                                                                            x.1.8 = x.1.8 ∧
                                                                                              (x.1.1 = x.1.1 ∧ x.1.2 = x.1.2 ∧ x.1.4 = x.1.4 ∧ x.1.6 = x.1.6 ∧ x.1.7 = x.1.7 ∧ True) ∧ True) ∧
                                                                                        y.3 = (0 : Nat) ∧ ftInv (at_, kind) (fl kind S) y ∨
                                                                                      ((((0 : Nat) = (0 : Nat) ∧ (1 : Nat) = y.3 ∧ cap' = y.6) ∧
                                                                                            Go.Value.bool x_2.2 = Go.Value.bool y.2 ∧
                                                                                              Go.IntKind.wrap Go.IntKind.i64 ((↑x_1.1 : Int) + (1 : Int)) = (↑y.1 : Int) ∧
                                                                                                ((0 : Nat) = (0 : Nat) ∧ (0 : Nat) = (0 : Nat)) ∧
                                                                                                  kind = kind ∧
                                                                                                    at_ = at_ ∧ (x.1.3 = x.1.3 ∧ x.2 = x.2 ∧ x.1.5 = x.1.5) ∧ (↑x.2 : Int) = (↑x.2 : Int) ∧ True) ∧
                                                                                          (b = b ∧ (x.1.3 = x.1.3 ∧ x.2 = x.2 ∧ x.1.5 = x.1.5) ∧ True) ∧
                                                                                            x.1.8 = x.1.8 ∧
                                                                                              (x.1.1 = x.1.1 ∧ x.1.2 = x.1.2 ∧ x.1.4 = x.1.4 ∧ x.1.6 = x.1.6 ∧ x.1.7 = x.1.7 ∧ True) ∧
                                                                                                (b_3 = y.4 ∧
                                                                                                    (0 : Nat) = y.5 ∧
                                                                                                      cap' = y.6 ∧
                                                                                                        List.getD x.1.6 (x.1.3 + x_1.1) (0 : Int) :: sp = y.7 ∧
                                                                                                          List.getD x.1.7 (x.1.3 + x_1.1) (0 : Int) :: sp_1 = y.8 ∧ True) ∧
                                                                                                  True) ∧
                                                                                        (0 : Nat) < y.3 ∧ ftInv (at_, kind) (fl kind S) y)) ∧
                                                        ∀ (x_2 : FtX),
                                                          (0 : Nat) < x_2.3 ∧ ftMid (at_, kind) (fl kind S) x0 x_2 →
                                                            ∀ (b_2 : Nat),
                                                              Go.Value.oneCell' (Go.Value.int Go.IntKind.i64 (List.getD x.1.6 (x.1.3 + x_1.1) (0 : Int))) = Bool.true ∧
                                                                Go.Value.oneCell' (Go.Value.int Go.IntKind.u64 (List.getD x.1.7 (x.1.3 + x_1.1) (0 : Int))) = Bool.true ∧
                                                                  (x_2.3 ≤ x_2.6 ∧ (0 : Nat) + x_2.6 ≤ x_2.6) ∧
                                                                    (0 : Nat) + x_2.3 ≤ x_2.6 ∧
                                                                      (x_2.3 + (1 : Nat)) * (16 : Nat) ≤ (140737488355328 : Nat) ∧
                                                                        ∀ (b_3 base cap' : Nat),
                                                                          x_2.3 + (1 : Nat) ≤ cap' →
                                                                            (x_2.3 + (1 : Nat) ≤ x_2.6 → cap' = x_2.6) →
                                                                              ∀ (sp : List Int),
                                                                                List.length sp = cap' - (x_2.3 + (1 : Nat)) →
                                                                                  ∀ (sp_1 : List Int),
                                                                                    List.length sp_1 = cap' - (x_2.3 + (1 : Nat)) →
                                                                                      ∃ (y : FtX),
                                                                                        List.length (fl kind S) - y.1 < List.length (fl kind S) - x_1.1 ∧
                                                                                          (((Go.Value.slice (Option.some { block := b_3, off := base * (2 : Nat) }) (x_2.3 + (1 : Nat)) cap' =
                                                                                                    Go.Value.slice Option.none (0 : Nat) (0 : Nat) ∧
                                                                                                  Go.Value.bool x_2.2 = Go.Value.bool y.2 ∧
                                                                                                    Go.IntKind.wrap Go.IntKind.i64 ((↑x_1.1 : Int) + (1 : Int)) = (↑y.1 : Int) ∧
                                                                                                      ((0 : Nat) = (0 : Nat) ∧ (0 : Nat) = (0 : Nat)) ∧
                                                                                                        kind = kind ∧
                                                                                                          at_ = at_ ∧
                                                                                                            (x.1.3 = x.1.3 ∧ x.2 = x.2 ∧ x.1.5 = x.1.5) ∧ (↑x.2 : Int) = (↑x.2 : Int) ∧ True) ∧
                                                                                                (b = b ∧ (x.1.3 = x.1.3 ∧ x.2 = x.2 ∧ x.1.5 = x.1.5) ∧ True) ∧
                                                                                                  x.1.8 = x.1.8 ∧
                                                                                                    (x.1.1 = x.1.1 ∧ x.1.2 = x.1.2 ∧ x.1.4 = x.1.4 ∧ x.1.6 = x.1.6 ∧ x.1.7 = x.1.7 ∧ True) ∧ True) ∧
                                                                                              y.3 = (0 : Nat) ∧ ftInv (at_, kind) (fl kind S) y ∨
                                                                                            ((((0 : Nat) = (0 : Nat) ∧ x_2.3 + (1 : Nat) = y.3 ∧ cap' = y.6) ∧
                                                                                                  Go.Value.bool x_2.2 = Go.Value.bool y.2 ∧
                                                                                                    Go.IntKind.wrap Go.IntKind.i64 ((↑x_1.1 : Int) + (1 : Int)) = (↑y.1 : Int) ∧
                                                                                                      ((0 : Nat) = (0 : Nat) ∧ (0 : Nat) = (0 : Nat)) ∧
                                                                                                        kind = kind ∧
                                                                                                          at_ = at_ ∧
                                                                                                            (x.1.3 = x.1.3 ∧ x.2 = x.2 ∧ x.1.5 = x.1.5) ∧ (↑x.2 : Int) = (↑x.2 : Int) ∧ True) ∧
                                                                                                (b = b ∧ (x.1.3 = x.1.3 ∧ x.2 = x.2 ∧ x.1.5 = x.1.5) ∧ True) ∧
                                                                                                  x.1.8 = x.1.8 ∧
                                                                                                    (x.1.1 = x.1.1 ∧ x.1.2 = x.1.2 ∧ x.1.4 = x.1.4 ∧ x.1.6 = x.1.6 ∧ x.1.7 = x.1.7 ∧ True) ∧
                                                                                                      (b_3 = y.4 ∧
                                                                                                          base = y.5 ∧
                                                                                                            cap' = y.6 ∧
                                                                                                              List.take x_2.3 x_2.7 ++ [List.getD x.1.6 (x.1.3 + x_1.1) (0 : Int)] ++ sp = y.7 ∧
                                                                                                                List.take x_2.3 x_2.8 ++ [List.getD x.1.7 (x.1.3 + x_1.1) (0 : Int)] ++ sp_1 = y.8 ∧
                                                                                                                  True) ∧
                                                                                                        True) ∧
                                                                                              (0 : Nat) < y.3 ∧ ftInv (at_, kind) (fl kind S) y)) ∧
                                    (¬(↑x_1.1 : Int) < (↑x.2 : Int) →
                                      (x_1.2 = Bool.false →
                                          ∀ (b_1 : Nat),
                                            Go.Value.oneCell' (Go.Value.int Go.IntKind.i64 kind) = Bool.true ∧
                                              Go.Value.oneCell' (Go.Value.int Go.IntKind.u64 at_) = Bool.true ∧
                                                (16 : Nat) ≤ (140737488355328 : Nat) ∧
                                                  ∀ (b_2 cap' : Nat),
                                                    (1 : Nat) ≤ cap' →
                                                      ∀ (sp : List Int),
                                                        List.length sp = cap' - (1 : Nat) →
                                                          ∀ (sp_1 : List Int),
                                                            List.length sp_1 = cap' - (1 : Nat) →
                                                              LeftG (85 : Nat) b (fun (r v' : Go.Value) (L' : Go.Sx.Blks) => r = Go.Value.tuple #[] ∧ FAt (insR (at_, kind) (fl kind S)) v' L')
                                                                (Go.Value.tuple #[])
                                                                ((b, Go.Sx.Blk.cells [Go.Value.slice (Option.some { block := b_2, off := (0 : Nat) * (2 : Nat) }) (1 : Nat) cap'] (85 : Go.TypeId)) ::
                                                                  (x.1.8 ++
                                                                    [(x.1.1, Go.Sx.Blk.tab (90 : Go.TypeId) x.1.2 x.1.4 [Go.Sx.Col.ints Go.IntKind.i64 x.1.6, Go.Sx.Col.ints Go.IntKind.u64 x.1.7]),
                                                                      (b_1, Go.Sx.Blk.cells [Go.Value.int Go.IntKind.i64 kind, Go.Value.int Go.IntKind.u64 at_] (90 : Nat)),
                                                                      (b_2,
                                                                        Go.Sx.Blk.tab (90 : Nat) (0 : Nat) cap'
                                                                          [Go.Sx.Col.ints Go.IntKind.i64 (kind :: sp), Go.Sx.Col.ints Go.IntKind.u64 (at_ :: sp_1)])]))) ∧
                                        (¬x_1.2 = Bool.false →
                                          Go.Value.oneCell' (Go.Value.slice Option.none (0 : Nat) (0 : Nat)) = Bool.true ∧
                                            LeftG (85 : Nat) b (fun (r v' : Go.Value) (L' : Go.Sx.Blks) => r = Go.Value.tuple #[] ∧ FAt (insR (at_, kind) (fl kind S)) v' L') (Go.Value.tuple #[])
                                              ((b, Go.Sx.Blk.cells [Go.Value.slice Option.none (0 : Nat) (0 : Nat)] (85 : Go.TypeId)) ::
                                                (x.1.8 ++ [(x.1.1, Go.Sx.Blk.tab (90 : Go.TypeId) x.1.2 x.1.4 [Go.Sx.Col.ints Go.IntKind.i64 x.1.6, Go.Sx.Col.ints Go.IntKind.u64 x.1.7])]))))) ∧
                              ∀ (x_1 : FtX),
                                (0 : Nat) < x_1.3 ∧ ftInv (at_, kind) (fl kind S) x_1 →
                                  ((↑x_1.1 : Int) < (↑x.2 : Int) →
                                      ((0 : Int) ≤ (↑x_1.1 : Int) ∧ (↑x_1.1 : Int) < (↑x.2 : Int)) ∧
                                        x.1.3 + x_1.1 < x.1.4 ∧
                                          x.1.3 + x_1.1 < x.1.4 ∧
                                            ∀ (b_1 : Nat),
                                              Go.Value.oneCell' (Go.Value.int Go.IntKind.i64 (List.getD x.1.6 (x.1.3 + x_1.1) (0 : Int))) = Bool.true ∧
                                                Go.Value.oneCell' (Go.Value.int Go.IntKind.u64 (List.getD x.1.7 (x.1.3 + x_1.1) (0 : Int))) = Bool.true ∧
                                                  ∃ (x0 : FtX),
                                                    ((x_1.2 = Bool.false →
                                                          (at_ < List.getD x.1.7 (x.1.3 + x_1.1) (0 : Int) →
                                                              ∀ (b_2 : Nat),
                                                                Go.Value.oneCell' (Go.Value.int Go.IntKind.i64 kind) = Bool.true ∧
                                                                  Go.Value.oneCell' (Go.Value.int Go.IntKind.u64 at_) = Bool.true ∧
                                                                    (x_1.3 ≤ x_1.6 ∧ (0 : Nat) + x_1.6 ≤ x_1.6) ∧
                                                                      (0 : Nat) + x_1.3 ≤ x_1.6 ∧
                                                                        (x_1.3 + (1 : Nat)) * (16 : Nat) ≤ (140737488355328 : Nat) ∧
                                                                          ∀ (b_3 base cap' : Nat),
                                                                            x_1.3 + (1 : Nat) ≤ cap' →
                                                                              (x_1.3 + (1 : Nat) ≤ x_1.6 → cap' = x_1.6) →
                                                                                ∀ (sp : List Int),
                                                                                  List.length sp = cap' - (x_1.3 + (1 : Nat)) →
                                                                                    ∀ (sp_1 : List Int),
                                                                                      List.length sp_1 = cap' - (x_1.3 + (1 : Nat)) →
                                                                                        ∃ (y : FtX),
                                                                                          ((Go.Value.slice (Option.some { block := b_3, off := base * (2 : Nat) }) (x_1.3 + (1 : Nat)) cap' =
                                                                                                    Go.Value.slice Option.none (0 : Nat) (0 : Nat) ∧
                                                                                                  Go.Value.bool Bool.true = Go.Value.bool y.2 ∧
                                                                                                    ((0 : Nat) = (0 : Nat) ∧ (0 : Nat) = (0 : Nat)) ∧
                                                                                                      ((0 : Nat) = (0 : Nat) ∧ (0 : Nat) = (0 : Nat)) ∧
                                                                                                        kind = kind ∧
                                                                                                          at_ = at_ ∧
                                                                                                            (x.1.3 = x.1.3 ∧ x.2 = x.2 ∧ x.1.5 = x.1.5) ∧
                                                                                                              (↑x.2 : Int) = (↑x.2 : Int) ∧ (↑x_1.1 : Int) = (↑x_1.1 : Int) ∧ True) ∧
                                                                                                (b = b ∧ (x.1.3 = x.1.3 ∧ x.2 = x.2 ∧ x.1.5 = x.1.5) ∧ True) ∧
                                                                                                  x.1.8 = x.1.8 ∧
                                                                                                    (x.1.1 = x.1.1 ∧ x.1.2 = x.1.2 ∧ x.1.4 = x.1.4 ∧ x.1.6 = x.1.6 ∧ x.1.7 = x.1.7 ∧ True) ∧
                                                                                                      (b_1 = b_1 ∧
                                                                                                          List.getD x.1.6 (x.1.3 + x_1.1) (0 : Int) = List.getD x.1.6 (x.1.3 + x_1.1) (0 : Int) ∧
                                                                                                            List.getD x.1.7 (x.1.3 + x_1.1) (0 : Int) = List.getD x.1.7 (x.1.3 + x_1.1) (0 : Int) ∧
                                                                                                              True) ∧
                                                                                                        True) ∧
                                                                                              y.3 = (0 : Nat) ∧ ftMid (at_, kind) (fl kind S) x0 y ∨
                                                                                            ((((0 : Nat) = (0 : Nat) ∧ x_1.3 + (1 : Nat) = y.3 ∧ cap' = y.6) ∧
                                                                                                  Go.Value.bool Bool.true = Go.Value.bool y.2 ∧
                                                                                                    ((0 : Nat) = (0 : Nat) ∧ (0 : Nat) = (0 : Nat)) ∧
                                                                                                      ((0 : Nat) = (0 : Nat) ∧ (0 : Nat) = (0 : Nat)) ∧
                                                                                                        kind = kind ∧
                                                                                                          at_ = at_ ∧
                                                                                                            (x.1.3 = x.1.3 ∧ x.2 = x.2 ∧ x.1.5 = x.1.5) ∧
                                                                                                              (↑x.2 : Int) = (↑x.2 : Int) ∧ (↑x_1.1 : Int) = (↑x_1.1 : Int) ∧ True) ∧
                                                                                                (b = b ∧ (x.1.3 = x.1.3 ∧ x.2 = x.2 ∧ x.1.5 = x.1.5) ∧ True) ∧
                                                                                                  x.1.8 = x.1.8 ∧
                                                                                                    (x.1.1 = x.1.1 ∧ x.1.2 = x.1.2 ∧ x.1.4 = x.1.4 ∧ x.1.6 = x.1.6 ∧ x.1.7 = x.1.7 ∧ True) ∧
                                                                                                      (b_1 = b_1 ∧
                                                                                                          List.getD x.1.6 (x.1.3 + x_1.1) (0 : Int) = List.getD x.1.6 (x.1.3 + x_1.1) (0 : Int) ∧
                                                                                                            List.getD x.1.7 (x.1.3 + x_1.1) (0 : Int) = List.getD x.1.7 (x.1.3 + x_1.1) (0 : Int) ∧
                                                                                                              True) ∧
                                                                                                        (b_3 = y.4 ∧
                                                                                                            base = y.5 ∧
                                                                                                              cap' = y.6 ∧
                                                                                                                List.take x_1.3 x_1.7 ++ [kind] ++ sp = y.7 ∧
                                                                                                                  List.take x_1.3 x_1.8 ++ [at_] ++ sp_1 = y.8 ∧ True) ∧
                                                                                                          True) ∧
                                                                                              (0 : Nat) < y.3 ∧ ftMid (at_, kind) (fl kind S) x0 y) ∧
                                                            (¬at_ < List.getD x.1.7 (x.1.3 + x_1.1) (0 : Int) →
                                                              (at_ = List.getD x.1.7 (x.1.3 + x_1.1) (0 : Int) →
                                                                  (kind < List.getD x.1.6 (x.1.3 + x_1.1) (0 : Int) →
                                                                      ∀ (b_2 : Nat),
                                                                        Go.Value.oneCell' (Go.Value.int Go.IntKind.i64 kind) = Bool.true ∧
                                                                          Go.Value.oneCell' (Go.Value.int Go.IntKind.u64 at_) = Bool.true ∧
                                                                            (x_1.3 ≤ x_1.6 ∧ (0 : Nat) + x_1.6 ≤ x_1.6) ∧
                                                                              (0 : Nat) + x_1.3 ≤ x_1.6 ∧
                                                                                (x_1.3 + (1 : Nat)) * (16 : Nat) ≤ (140737488355328 : Nat) ∧
                                                                                  ∀ (b_3 base cap' : Nat),
                                                                                    x_1.3 + (1 : Nat) ≤ cap' →
                                                                                      (x_1.3 + (1 : Nat) ≤ x_1.6 → cap' = x_1.6) →
                                                                                        ∀ (sp : List Int),
                                                                                          List.length sp = cap' - (x_1.3 + (1 : Nat)) →
                                                                                            ∀ (sp_1 : List Int),
                                                                                              List.length sp_1 = cap' - (x_1.3 + (1 : Nat)) →
                                                                                                ∃ (y : FtX),
                                                                                                  ((Go.Value.slice (Option.some { block := b_3, off := base * (2 : Nat) }) (x_1.3 + (1 : Nat)) cap' =
                                                                                                            Go.Value.slice Option.none (0 : Nat) (0 : Nat) ∧
                                                                                                          Go.Value.bool Bool.true = Go.Value.bool y.2 ∧
                                                                                                            ((0 : Nat) = (0 : Nat) ∧ (0 : Nat) = (0 : Nat)) ∧
                                                                                                              ((0 : Nat) = (0 : Nat) ∧ (0 : Nat) = (0 : Nat)) ∧
                                                                                                                kind = kind ∧
                                                                                                                  at_ = at_ ∧
                                                                                                                    (x.1.3 = x.1.3 ∧ x.2 = x.2 ∧ x.1.5 = x.1.5) ∧
                                                                                                                      (↑x.2 : Int) = (↑x.2 : Int) ∧ (↑x_1.1 : Int) = (↑x_1.1 : Int) ∧ True) ∧
                                                                                                        (b = b ∧ (x.1.3 = x.1.3 ∧ x.2 = x.2 ∧ x.1.5 = x.1.5) ∧ True) ∧
                                                                                                          x.1.8 = x.1.8 ∧
                                                                                                            (x.1.1 = x.1.1 ∧ x.1.2 = x.1.2 ∧ x.1.4 = x.1.4 ∧ x.1.6 = x.1.6 ∧ x.1.7 = x.1.7 ∧ True) ∧
                                                                                                              (b_1 = b_1 ∧
                                                                                                                  List.getD x.1.6 (x.1.3 + x_1.1) (0 : Int) =
                                                                                                                      List.getD x.1.6 (x.1.3 + x_1.1) (0 : Int) ∧
                                                                                                                    List.getD x.1.7 (x.1.3 + x_1.1) (0 : Int) =
                                                                                                                        List.getD x.1.7 (x.1.3 + x_1.1) (0 : Int) ∧
                                                                                                                      True) ∧
                                                                                                                True) ∧
                                                                                                      y.3 = (0 : Nat) ∧ ftMid (at_, kind) (fl kind S) x0 y ∨
                                                                                                    ((((0 : Nat) = (0 : Nat) ∧ x_1.3 + (1 : Nat) = y.3 ∧ cap' = y.6) ∧
                                                                                                          Go.Value.bool Bool.true = Go.Value.bool y.2 ∧
                                                                                                            ((0 : Nat) = (0 : Nat) ∧ (0 : Nat) = (0 : Nat)) ∧
                                                                                                              ((0 : Nat) = (0 : Nat) ∧ (0 : Nat) = (0 : Nat)) ∧
                                                                                                                kind = kind ∧
                                                                                                                  at_ = at_ ∧
                                                                                                                    (x.1.3 = x.1.3 ∧ x.2 = x.2 ∧ x.1.5 = x.1.5) ∧
                                                                                                                      (↑x.2 : Int) = (↑x.2 : Int) ∧ (↑x_1.1 : Int) = (↑x_1.1 : Int) ∧ True) ∧
                                                                                                        (b = b ∧ (x.1.3 = x.1.3 ∧ x.2 = x.2 ∧ x.1.5 = x.1.5) ∧ True) ∧
                                                                                                          x.1.8 = x.1.8 ∧
                                                                                                            (x.1.1 = x.1.1 ∧ x.1.2 = x.1.2 ∧ x.1.4 = x.1.4 ∧ x.1.6 = x.1.6 ∧ x.1.7 = x.1.7 ∧ True) ∧
                                                                                                              (b_1 = b_1 ∧
                                                                                                                  List.getD x.1.6 (x.1.3 + x_1.1) (0 : Int) =
                                                                                                                      List.getD x.1.6 (x.1.3 + x_1.1) (0 : Int) ∧
                                                                                                                    List.getD x.1.7 (x.1.3 + x_1.1) (0 : Int) =
                                                                                                                        List.getD x.1.7 (x.1.3 + x_1.1) (0 : Int) ∧
                                                                                                                      True) ∧
                                                                                                                (b_3 = y.4 ∧
                                                                                                                    base = y.5 ∧
                                                                                                                      cap' = y.6 ∧
                                                                                                                        List.take x_1.3 x_1.7 ++ [kind] ++ sp = y.7 ∧
                                                                                                                          List.take x_1.3 x_1.8 ++ [at_] ++ sp_1 = y.8 ∧ True) ∧
                                                                                                                  True) ∧
                                                                                                      (0 : Nat) < y.3 ∧ ftMid (at_, kind) (fl kind S) x0 y) ∧
                                                                    (¬kind < List.getD x.1.6 (x.1.3 + x_1.1) (0 : Int) →
                                                                      ∃ (y : FtX),
                                                                        ((Go.Value.slice (Option.some { block := x_1.4, off := x_1.5 * (2 : Nat) }) x_1.3 x_1.6 =
                                                                                  Go.Value.slice Option.none (0 : Nat) (0 : Nat) ∧
                                                                                Go.Value.bool x_1.2 = Go.Value.bool y.2 ∧
                                                                                  ((0 : Nat) = (0 : Nat) ∧ (0 : Nat) = (0 : Nat)) ∧
                                                                                    ((0 : Nat) = (0 : Nat) ∧ (0 : Nat) = (0 : Nat)) ∧
                                                                                      kind = kind ∧
                                                                                        at_ = at_ ∧
                                                                                          (x.1.3 = x.1.3 ∧ x.2 = x.2 ∧ x.1.5 = x.1.5) ∧
                                                                                            (↑x.2 : Int) = (↑x.2 : Int) ∧ (↑x_1.1 : Int) = (↑x_1.1 : Int) ∧ True) ∧
                                                                              (b = b ∧ (x.1.3 = x.1.3 ∧ x.2 = x.2 ∧ x.1.5 = x.1.5) ∧ True) ∧
                                                                                x.1.8 = x.1.8 ∧
                                                                                  (x.1.1 = x.1.1 ∧ x.1.2 = x.1.2 ∧ x.1.4 = x.1.4 ∧ x.1.6 = x.1.6 ∧ x.1.7 = x.1.7 ∧ True) ∧
                                                                                    (b_1 = b_1 ∧
                                                                                        List.getD x.1.6 (x.1.3 + x_1.1) (0 : Int) = List.getD x.1.6 (x.1.3 + x_1.1) (0 : Int) ∧
                                                                                          List.getD x.1.7 (x.1.3 + x_1.1) (0 : Int) = List.getD x.1.7 (x.1.3 + x_1.1) (0 : Int) ∧ True) ∧
                                                                                      True) ∧
                                                                            y.3 = (0 : Nat) ∧ ftMid (at_, kind) (fl kind S) x0 y ∨
                                                                          ((((0 : Nat) = (0 : Nat) ∧ x_1.3 = y.3 ∧ x_1.6 = y.6) ∧
                                                                                Go.Value.bool x_1.2 = Go.Value.bool y.2 ∧
                                                                                  ((0 : Nat) = (0 : Nat) ∧ (0 : Nat) = (0 : Nat)) ∧
                                                                                    ((0 : Nat) = (0 : Nat) ∧ (0 : Nat) = (0 : Nat)) ∧
                                                                                      kind = kind ∧
                                                                                        at_ = at_ ∧
                                                                                          (x.1.3 = x.1.3 ∧ x.2 = x.2 ∧ x.1.5 = x.1.5) ∧
                                                                                            (↑x.2 : Int) = (↑x.2 : Int) ∧ (↑x_1.1 : Int) = (↑x_1.1 : Int) ∧ True) ∧
                                                                              (b = b ∧ (x.1.3 = x.1.3 ∧ x.2 = x.2 ∧ x.1.5 = x.1.5) ∧ True) ∧
                                                                                x.1.8 = x.1.8 ∧
                                                                                  (x.1.1 = x.1.1 ∧ x.1.2 = x.1.2 ∧ x.1.4 = x.1.4 ∧ x.1.6 = x.1.6 ∧ x.1.7 = x.1.7 ∧ True) ∧
                                                                                    (b_1 = b_1 ∧
                                                                                        List.getD x.1.6 (x.1.3 + x_1.1) (0 : Int) = List.getD x.1.6 (x.1.3 + x_1.1) (0 : Int) ∧
                                                                                          List.getD x.1.7 (x.1.3 + x_1.1) (0 : Int) = List.getD x.1.7 (x.1.3 + x_1.1) (0 : Int) ∧ True) ∧
                                                                                      (x_1.4 = y.4 ∧ x_1.5 = y.5 ∧ x_1.6 = y.6 ∧ x_1.7 = y.7 ∧ x_1.8 = y.8 ∧ True) ∧ True) ∧
                                                                            (0 : Nat) < y.3 ∧ ftMid (at_, kind) (fl kind S) x0 y)) ∧
                                                                (¬at_ = List.getD x.1.7 (x.1.3 + x_1.1) (0 : Int) →
                                                                  ∃ (y : FtX),
                                                                    ((Go.Value.slice (Option.some { block := x_1.4, off := x_1.5 * (2 : Nat) }) x_1.3 x_1.6 =
                                                                              Go.Value.slice Option.none (0 : Nat) (0 : Nat) ∧
                                                                            Go.Value.bool x_1.2 = Go.Value.bool y.2 ∧
                                                                              ((0 : Nat) = (0 : Nat) ∧ (0 : Nat) = (0 : Nat)) ∧
                                                                                ((0 : Nat) = (0 : Nat) ∧ (0 : Nat) = (0 : Nat)) ∧
                                                                                  kind = kind ∧
                                                                                    at_ = at_ ∧
                                                                                      (x.1.3 = x.1.3 ∧ x.2 = x.2 ∧ x.1.5 = x.1.5) ∧
                                                                                        (↑x.2 : Int) = (↑x.2 : Int) ∧ (↑x_1.1 : Int) = (↑x_1.1 : Int) ∧ True) ∧
                                                                          (b = b ∧ (x.1.3 = x.1.3 ∧ x.2 = x.2 ∧ x.1.5 = x.1.5) ∧ True) ∧
                                                                            x.1.8 = x.1.8 ∧
                                                                              (x.1.1 = x.1.1 ∧ x.1.2 = x.1.2 ∧ x.1.4 = x.1.4 ∧ x.1.6 = x.1.6 ∧ x.1.7 = x.1.7 ∧ True) ∧
                                                                                (b_1 = b_1 ∧
                                                                                    List.getD x.1.6 (x.1.3 + x_1.1) (0 : Int) = List.getD x.1.6 (x.1.3 + x_1.1) (0 : Int) ∧
                                                                                      List.getD x.1.7 (x.1.3 + x_1.1) (0 : Int) = List.getD x.1.7 (x.1.3 + x_1.1) (0 : Int) ∧ True) ∧
                                                                                  True) ∧
                                                                        y.3 = (0 : Nat) ∧ ftMid (at_, kind) (fl kind S) x0 y ∨
                                                                      ((((0 : Nat) = (0 : Nat) ∧ x_1.3 = y.3 ∧ x_1.6 = y.6) ∧
                                                                            Go.Value.bool x_1.2 = Go.Value.bool y.2 ∧
                                                                              ((0 : Nat) = (0 : Nat) ∧ (0 : Nat) = (0 : Nat)) ∧
                                                                                ((0 : Nat) = (0 : Nat) ∧ (0 : Nat) = (0 : Nat)) ∧
                                                                                  kind = kind ∧
                                                                                    at_ = at_ ∧
                                                                                      (x.1.3 = x.1.3 ∧ x.2 = x.2 ∧ x.1.5 = x.1.5) ∧
                                                                                        (↑x.2 : Int) = (↑x.2 : Int) ∧ (↑x_1.1 : Int) = (↑x_1.1 : Int) ∧ True) ∧
                                                                          (b = b ∧ (x.1.3 = x.1.3 ∧ x.2 = x.2 ∧ x.1.5 = x.1.5) ∧ True) ∧
                                                                            x.1.8 = x.1.8 ∧
                                                                              (x.1.1 = x.1.1 ∧ x.1.2 = x.1.2 ∧ x.1.4 = x.1.4 ∧ x.1.6 = x.1.6 ∧ x.1.7 = x.1.7 ∧ True) ∧
                                                                                (b_1 = b_1 ∧
                                                                                    List.getD x.1.6 (x.1.3 + x_1.1) (0 : Int) = List.getD x.1.6 (x.1.3 + x_1.1) (0 : Int) ∧
                                                                                      List.getD x.1.7 (x.1.3 + x_1.1) (0 : Int) = List.getD x.1.7 (x.1.3 + x_1.1) (0 : Int) ∧ True) ∧
                                                                                  (x_1.4 = y.4 ∧ x_1.5 = y.5 ∧ x_1.6 = y.6 ∧ x_1.7 = y.7 ∧ x_1.8 = y.8 ∧ True) ∧ True) ∧
                                                                        (0 : Nat) < y.3 ∧ ftMid (at_, kind) (fl kind S) x0 y))) ∧
                                                        (¬x_1.2 = Bool.false →
                                                          ∃ (y : FtX),
                                                            ((Go.Value.slice (Option.some { block := x_1.4, off := x_1.5 * (2 : Nat) }) x_1.3 x_1.6 = Go.Value.slice Option.none (0 : Nat) (0 : Nat) ∧
                                                                    Go.Value.bool x_1.2 = Go.Value.bool y.2 ∧
                                                                      ((0 : Nat) = (0 : Nat) ∧ (0 : Nat) = (0 : Nat)) ∧
                                                                        ((0 : Nat) = (0 : Nat) ∧ (0 : Nat) = (0 : Nat)) ∧
                                                                          kind = kind ∧
                                                                            at_ = at_ ∧
                                                                              (x.1.3 = x.1.3 ∧ x.2 = x.2 ∧ x.1.5 = x.1.5) ∧ (↑x.2 : Int) = (↑x.2 : Int) ∧ (↑x_1.1 : Int) = (↑x_1.1 : Int) ∧ True) ∧
                                                                  (b = b ∧ (x.1.3 = x.1.3 ∧ x.2 = x.2 ∧ x.1.5 = x.1.5) ∧ True) ∧
                                                                    x.1.8 = x.1.8 ∧
                                                                      (x.1.1 = x.1.1 ∧ x.1.2 = x.1.2 ∧ x.1.4 = x.1.4 ∧ x.1.6 = x.1.6 ∧ x.1.7 = x.1.7 ∧ True) ∧
                                                                        (b_1 = b_1 ∧
                                                                            List.getD x.1.6 (x.1.3 + x_1.1) (0 : Int) = List.getD x.1.6 (x.1.3 + x_1.1) (0 : Int) ∧
                                                                              List.getD x.1.7 (x.1.3 + x_1.1) (0 : Int) = List.getD x.1.7 (x.1.3 + x_1.1) (0 : Int) ∧ True) ∧
                                                                          True) ∧
                                                                y.3 = (0 : Nat) ∧ ftMid (at_, kind) (fl kind S) x0 y ∨
                                                              ((((0 : Nat) = (0 : Nat) ∧ x_1.3 = y.3 ∧ x_1.6 = y.6) ∧
                                                                    Go.Value.bool x_1.2 = Go.Value.bool y.2 ∧
                                                                      ((0 : Nat) = (0 : Nat) ∧ (0 : Nat) = (0 : Nat)) ∧
                                                                        ((0 : Nat) = (0 : Nat) ∧ (0 : Nat) = (0 : Nat)) ∧
                                                                          kind = kind ∧
                                                                            at_ = at_ ∧
                                                                              (x.1.3 = x.1.3 ∧ x.2 = x.2 ∧ x.1.5 = x.1.5) ∧ (↑x.2 : Int) = (↑x.2 : Int) ∧ (↑x_1.1 : Int) = (↑x_1.1 : Int) ∧ True) ∧
                                                                  (b = b ∧ (x.1.3 = x.1.3 ∧ x.2 = x.2 ∧ x.1.5 = x.1.5) ∧ True) ∧
                                                                    x.1.8 = x.1.8 ∧
                                                                      (x.1.1 = x.1.1 ∧ x.1.2 = x.1.2 ∧ x.1.4 = x.1.4 ∧ x.1.6 = x.1.6 ∧ x.1.7 = x.1.7 ∧ True) ∧
                                                                        (b_1 = b_1 ∧
                                                                            List.getD x.1.6 (x.1.3 + x_1.1) (0 : Int) = List.getD x.1.6 (x.1.3 + x_1.1) (0 : Int) ∧
                                                                              List.getD x.1.7 (x.1.3 + x_1.1) (0 : Int) = List.getD x.1.7 (x.1.3 + x_1.1) (0 : Int) ∧ True) ∧
                                                                          (x_1.4 = y.4 ∧ x_1.5 = y.5 ∧ x_1.6 = y.6 ∧ x_1.7 = y.7 ∧ x_1.8 = y.8 ∧ True) ∧ True) ∧
                                                                (0 : Nat) < y.3 ∧ ftMid (at_, kind) (fl kind S) x0 y)) ∧
                                                      (∀ (x_2 : FtX),
                                                          x_2.3 = (0 : Nat) ∧ ftMid (at_, kind) (fl kind S) x0 x_2 →
                                                            ∀ (b_2 : Nat),
                                                              Go.Value.oneCell' (Go.Value.int Go.IntKind.i64 (List.getD x.1.6 (x.1.3 + x_1.1) (0 : Int))) = Bool.true ∧
                                                                Go.Value.oneCell' (Go.Value.int Go.IntKind.u64 (List.getD x.1.7 (x.1.3 + x_1.1) (0 : Int))) = Bool.true ∧
                                                                  (16 : Nat) ≤ (140737488355328 : Nat) ∧
                                                                    ∀ (b_3 cap' : Nat),
                                                                      (1 : Nat) ≤ cap' →
                                                                        ∀ (sp : List Int),
                                                                          List.length sp = cap' - (1 : Nat) →
                                                                            ∀ (sp_1 : List Int),
                                                                              List.length sp_1 = cap' - (1 : Nat) →
                                                                                ∃ (y : FtX),
                                                                                  List.length (fl kind S) - y.1 < List.length (fl kind S) - x_1.1 ∧
                                                                                    (((Go.Value.slice (Option.some { block := b_3, off := (0 : Nat) * (2 : Nat) }) (1 : Nat) cap' =
                                                                                              Go.Value.slice Option.none (0 : Nat) (0 : Nat) ∧
                                                                                            Go.Value.bool x_2.2 = Go.Value.bool y.2 ∧
                                                                                              Go.IntKind.wrap Go.IntKind.i64 ((↑x_1.1 : Int) + (1 : Int)) = (↑y.1 : Int) ∧
                                                                                                ((0 : Nat) = (0 : Nat) ∧ (0 : Nat) = (0 : Nat)) ∧
                                                                                                  kind = kind ∧
                                                                                                    at_ = at_ ∧ (x.1.3 = x.1.3 ∧ x.2 = x.2 ∧ x.1.5 = x.1.5) ∧ (↑x.2 : Int) = (↑x.2 : Int) ∧ True) ∧
                                                                                          (b = b ∧ (x.1.3 = x.1.3 ∧ x.2 = x.2 ∧ x.1.5 = x.1.5) ∧ True) ∧
                                                                                            x.1.8 = x.1.8 ∧
                                                                                              (x.1.1 = x.1.1 ∧ x.1.2 = x.1.2 ∧ x.1.4 = x.1.4 ∧ x.1.6 = x.1.6 ∧ x.1.7 = x.1.7 ∧ True) ∧ True) ∧
                                                                                        y.3 = (0 : Nat) ∧ ftInv (at_, kind) (fl kind S) y ∨
                                                                                      ((((0 : Nat) = (0 : Nat) ∧ (1 : Nat) = y.3 ∧ cap' = y.6) ∧
                                                                                            Go.Value.bool x_2.2 = Go.Value.bool y.2 ∧
                                                                                              Go.IntKind.wrap Go.IntKind.i64 ((↑x_1.1 : Int) + (1 : Int)) = (↑y.1 : Int) ∧
                                                                                                ((0 : Nat) = (0 : Nat) ∧ (0 : Nat) = (0 : Nat)) ∧
                                                                                                  kind = kind ∧
                                                                                                    at_ = at_ ∧ (x.1.3 = x.1.3 ∧ x.2 = x.2 ∧ x.1.5 = x.1.5) ∧ (↑x.2 : Int) = (↑x.2 : Int) ∧ True) ∧
                                                                                          (b = b ∧ (x.1.3 = x.1.3 ∧ x.2 = x.2 ∧ x.1.5 = x.1.5) ∧ True) ∧
                                                                                            x.1.8 = x.1.8 ∧
                                                                                              (x.1.1 = x.1.1 ∧ x.1.2 = x.1.2 ∧ x.1.4 = x.1.4 ∧ x.1.6 = x.1.6 ∧ x.1.7 = x.1.7 ∧ True) ∧
                                                                                                (b_3 = y.4 ∧
                                                                                                    (0 : Nat) = y.5 ∧
                                                                                                      cap' = y.6 ∧
                                                                                                        List.getD x.1.6 (x.1.3 + x_1.1) (0 : Int) :: sp = y.7 ∧
                                                                                                          List.getD x.1.7 (x.1.3 + x_1.1) (0 : Int) :: sp_1 = y.8 ∧ True) ∧
                                                                                                  True) ∧
                                                                                        (0 : Nat) < y.3 ∧ ftInv (at_, kind) (fl kind S) y)) ∧
                                                        ∀ (x_2 : FtX),
                                                          (0 : Nat) < x_2.3 ∧ ftMid (at_, kind) (fl kind S) x0 x_2 →
                                                            ∀ (b_2 : Nat),
                                                              Go.Value.oneCell' (Go.Value.int Go.IntKind.i64 (List.getD x.1.6 (x.1.3 + x_1.1) (0 : Int))) = Bool.true ∧
                                                                Go.Value.oneCell' (Go.Value.int Go.IntKind.u64 (List.getD x.1.7 (x.1.3 + x_1.1) (0 : Int))) = Bool.true ∧
                                                                  (x_2.3 ≤ x_2.6 ∧ (0 : Nat) + x_2.6 ≤ x_2.6) ∧
                                                                    (0 : Nat) + x_2.3 ≤ x_2.6 ∧
                                                                      (x_2.3 + (1 : Nat)) * (16 : Nat) ≤ (140737488355328 : Nat) ∧
                                                                        ∀ (b_3 base cap' : Nat),
                                                                          x_2.3 + (1 : Nat) ≤ cap' →
                                                                            (x_2.3 + (1 : Nat) ≤ x_2.6 → cap' = x_2.6) →
                                                                              ∀ (sp : List Int),
                                                                                List.length sp = cap' - (x_2.3 + (1 : Nat)) →
                                                                                  ∀ (sp_1 : List Int),
                                                                                    List.length sp_1 = cap' - (x_2.3 + (1 : Nat)) →
                                                                                      ∃ (y : FtX),
                                                                                        List.length (fl kind S) - y.1 < List.length (fl kind S) - x_1.1 ∧
                                                                                          (((Go.Value.slice (Option.some { block := b_3, off := base * (2 : Nat) }) (x_2.3 + (1 : Nat)) cap' =
                                                                                                    Go.Value.slice Option.none (0 : Nat) (0 : Nat) ∧
                                                                                                  Go.Value.bool x_2.2 = Go.Value.bool y.2 ∧
                                                                                                    Go.IntKind.wrap Go.IntKind.i64 ((↑x_1.1 : Int) + (1 : Int)) = (↑y.1 : Int) ∧
                                                                                                      ((0 : Nat) = (0 : Nat) ∧ (0 : Nat) = (0 : Nat)) ∧
                                                                                                        kind = kind ∧
                                                                                                          at_ = at_ ∧
                                                                                                            (x.1.3 = x.1.3 ∧ x.2 = x.2 ∧ x.1.5 = x.1.5) ∧ (↑x.2 : Int) = (↑x.2 : Int) ∧ True) ∧
                                                                                                (b = b ∧ (x.1.3 = x.1.3 ∧ x.2 = x.2 ∧ x.1.5 = x.1.5) ∧ True) ∧
                                                                                                  x.1.8 = x.1.8 ∧
                                                                                                    (x.1.1 = x.1.1 ∧ x.1.2 = x.1.2 ∧ x.1.4 = x.1.4 ∧ x.1.6 = x.1.6 ∧ x.1.7 = x.1.7 ∧ True) ∧ True) ∧
                                                                                              y.3 = (0 : Nat) ∧ ftInv (at_, kind) (fl kind S) y ∨
                                                                                            ((((0 : Nat) = (0 : Nat) ∧ x_2.3 + (1 : Nat) = y.3 ∧ cap' = y.6) ∧
                                                                                                  Go.Value.bool x_2.2 = Go.Value.bool y.2 ∧
                                                                                                    Go.IntKind.wrap Go.IntKind.i64 ((↑x_1.1 : Int) + (1 : Int)) = (↑y.1 : Int) ∧
                                                                                                      ((0 : Nat) = (0 : Nat) ∧ (0 : Nat) = (0 : Nat)) ∧
                                                                                                        kind = kind ∧
                                                                                                          at_ = at_ ∧
                                                                                                            (x.1.3 = x.1.3 ∧ x.2 = x.2 ∧ x.1.5 = x.1.5) ∧ (↑x.2 : Int) = (↑x.2 : Int) ∧ True) ∧
                                                                                                (b = b ∧ (x.1.3 = x.1.3 ∧ x.2 = x.2 ∧ x.1.5 = x.1.5) ∧ True) ∧
                                                                                                  x.1.8 = x.1.8 ∧
                                                                                                    (x.1.1 = x.1.1 ∧ x.1.2 = x.1.2 ∧ x.1.4 = x.1.4 ∧ x.1.6 = x.1.6 ∧ x.1.7 = x.1.7 ∧ True) ∧
                                                                                                      (b_3 = y.4 ∧
                                                                                                          base = y.5 ∧
                                                                                                            cap' = y.6 ∧
                                                                                                              List.take x_2.3 x_2.7 ++ [List.getD x.1.6 (x.1.3 + x_1.1) (0 : Int)] ++ sp = y.7 ∧
                                                                                                                List.take x_2.3 x_2.8 ++ [List.getD x.1.7 (x.1.3 + x_1.1) (0 : Int)] ++ sp_1 = y.8 ∧
                                                                                                                  True) ∧
                                                                                                        True) ∧
                                                                                              (0 : Nat) < y.3 ∧ ftInv (at_, kind) (fl kind S) y)) ∧
                                    (¬(↑x_1.1 : Int) < (↑x.2 : Int) →
                                      (x_1.2 = Bool.false →
                                          ∀ (b_1 : Nat),
                                            Go.Value.oneCell' (Go.Value.int Go.IntKind.i64 kind) = Bool.true ∧
                                              Go.Value.oneCell' (Go.Value.int Go.IntKind.u64 at_) = Bool.true ∧
                                                (x_1.3 ≤ x_1.6 ∧ (0 : Nat) + x_1.6 ≤ x_1.6) ∧
                                                  (0 : Nat) + x_1.3 ≤ x_1.6 ∧
                                                    (x_1.3 + (1 : Nat)) * (16 : Nat) ≤ (140737488355328 : Nat) ∧
                                                      ∀ (b_2 base cap' : Nat),
                                                        x_1.3 + (1 : Nat) ≤ cap' →
                                                          (x_1.3 + (1 : Nat) ≤ x_1.6 → cap' = x_1.6) →
                                                            ∀ (sp : List Int),
                                                              List.length sp = cap' - (x_1.3 + (1 : Nat)) →
                                                                ∀ (sp_1 : List Int),
                                                                  List.length sp_1 = cap' - (x_1.3 + (1 : Nat)) →
                                                                    LeftG (85 : Nat) b (fun (r v' : Go.Value) (L' : Go.Sx.Blks) => r = Go.Value.tuple #[] ∧ FAt (insR (at_, kind) (fl kind S)) v' L')
                                                                      (Go.Value.tuple #[])
                                                                      ((b,
                                                                          Go.Sx.Blk.cells [Go.Value.slice (Option.some { block := b_2, off := base * (2 : Nat) }) (x_1.3 + (1 : Nat)) cap']
                                                                            (85 : Go.TypeId)) ::
                                                                        (x.1.8 ++
                                                                          [(x.1.1,
                                                                              Go.Sx.Blk.tab (90 : Go.TypeId) x.1.2 x.1.4 [Go.Sx.Col.ints Go.IntKind.i64 x.1.6, Go.Sx.Col.ints Go.IntKind.u64 x.1.7]),
                                                                            (b_1, Go.Sx.Blk.cells [Go.Value.int Go.IntKind.i64 kind, Go.Value.int Go.IntKind.u64 at_] (90 : Nat)),
                                                                            (b_2,
                                                                              Go.Sx.Blk.tab (90 : Nat) base cap'
                                                                                [Go.Sx.Col.ints Go.IntKind.i64 (List.take x_1.3 x_1.7 ++ [kind] ++ sp),
                                                                                  Go.Sx.Col.ints Go.IntKind.u64 (List.take x_1.3 x_1.8 ++ [at_] ++ sp_1)])]))) ∧
                                        (¬x_1.2 = Bool.false →
                                          LeftG (85 : Nat) b (fun (r v' : Go.Value) (L' : Go.Sx.Blks) => r = Go.Value.tuple #[] ∧ FAt (insR (at_, kind) (fl kind S)) v' L') (Go.Value.tuple #[])
                                            ((b, Go.Sx.Blk.cells [Go.Value.slice (Option.some { block := x_1.4, off := x_1.5 * (2 : Nat) }) x_1.3 x_1.6] (85 : Go.TypeId)) ::
                                              (x.1.8 ++
                                                [(x.1.1, Go.Sx.Blk.tab (90 : Go.TypeId) x.1.2 x.1.4 [Go.Sx.Col.ints Go.IntKind.i64 x.1.6, Go.Sx.Col.ints Go.IntKind.u64 x.1.7]),
                                                  (x_1.4, Go.Sx.Blk.tab (90 : Go.TypeId) x_1.5 x_1.6 [Go.Sx.Col.ints Go.IntKind.i64 x_1.7, Go.Sx.Col.ints Go.IntKind.u64 x_1.8])])))) := by
  simp only [eq_self, true_and, and_true, false_and, and_false, or_false, false_or, and_self, Nat.zero_add, Nat.add_zero, Nat.sub_zero, Nat.zero_mul, Nat.mul_one, Int.toNat_natCast, cond_true, cond_false, forall_const, implies_true, Nat.beq_refl, ne_eq, not_false_eq_true, not_true_eq_false, Classical.not_not, List.cons.injEq, List.append_nil, List.nil_append, Go.Value.int.injEq, Go.Value.bool.injEq, Go.Value.slice.injEq, Nat.le_refl, Nat.zero_le, Go.Sx.one_int, Go.Sx.one_bool, Go.Sx.one_slice, Go.Sx.one_ptr, Go.Sx.one_map, Int.cast_ofNat_Int, reduceCtorEq, Nat.reduceLeDiff, Nat.reduceMul, Nat.reduceAdd, Nat.reduceSub, Nat.reduceEqDiff, Int.reduceLE, Int.reduceLT, Int.reduceEq, Int.reduceAdd, Int.reduceSub, Int.reduceNeg, Int.reduceMul, Nat.reduceBEq]
  refine ⟨⟨S, kind, 0⟩, L, [], by simp, ⟨rfl, hF, hb⟩, fun p s L' ⟨_, hF2⟩ => ?_⟩
  have hF2 : FAt (fl kind S) (.slice s.o s.l s.c) L' := hF2
  have hTb : (fl kind S).length < 1000000 := Nat.lt_of_le_of_lt (fl_len kind S) hb
  generalize fl kind S = T at *
  have a1 : ∀ {x : Row}, at_ < x.1 → rlt (at_, kind) x := fun h => .inl h
  have a2 : ∀ {x : Row}, at_ = x.1 → kind < x.2 → rlt (at_, kind) x := fun h h' => .inr ⟨h, h'⟩
  have a3 : ∀ {x : Row}, ¬ at_ < x.1 → ¬ at_ = x.1 → ¬ rlt (at_, kind) x := fun h h' hr => by rcases hr with hr | ⟨hr, _⟩; exact h hr; exact h' hr
  have a4 : ∀ {x : Row}, ¬ at_ < x.1 → ¬ kind < x.2 → ¬ rlt (at_, kind) x := fun h h' hr => by rcases hr with hr | ⟨_, hr⟩; exact h hr; exact h' hr
  rcases hF2 with ⟨rfl, e1⟩ | ⟨x, ⟨o1, o2, o3, o4, o5, o6⟩, e1, hp⟩
  · rw [e1]
    refine .inl ⟨(), ⟨[], by simp⟩, ⟨0, false, 0, 0, 0, 0, [], []⟩, ⟨⟨rfl, by simp⟩, rfl, ⟨Nat.le_refl _, by simp, by simp [ftCur, fRow]⟩⟩, fun y ⟨h1, h2⟩ => ⟨fun h => by omega, fun _ => ?_⟩, fun y ⟨h1, h2⟩ => ?_⟩
    · have hi : y.i = 0 := by have := h2.1; simpa using this
      obtain ⟨q1, q2⟩ := ft_end h2 hi
      refine ⟨fun hd b1 b2 cap' c1 sp c2 sq c3 => ⟨_, _, ⟨rfl, fat_of (G := L' ++ [(b1, .cells [.int .i64 kind, .int .u64 at_] 90)]) (base := 0) (ks := kind :: sp) (ats := at_ :: sq) ?_ Nat.one_pos ?_⟩, List.Perm.refl _⟩, fun hd => ?_⟩
      · exact fRow_one c1 c2 c3
      · rw [List.append_nil]; exact perm_last2
      · have := (q2 hd).1
        rw [h1] at this
        exact absurd (List.eq_nil_of_length_eq_zero this) (insR_ne _ _)
    · have hi : y.i = 0 := by have := h2.1; simpa using this
      obtain ⟨q1, q2⟩ := ft_end h2 hi
      cases hd : y.d with
      | false =>
        have := (q1 hd).1.1
        simp at this
        omega
      | true =>
        have := h2.2.1.1 hd
        simp at this
  · rw [e1]
    refine .inr ⟨(x, T.length), ⟨[], by rw [List.append_nil, List.append_nil]; exact view_perm hp⟩, ⟨0, false, 0, 0, 0, 0, [], []⟩, ⟨⟨rfl, by simp⟩, rfl, ⟨Nat.zero_le _, by simp, by simp [ftCur, fRow]⟩⟩, fun y ⟨h1, h2⟩ => ⟨fun hlt => ?_, fun hge => ?_⟩, fun y ⟨h1, h2⟩ => ⟨fun hlt => ?_, fun hge => ?_⟩⟩
    · have hi : y.i < T.length := by omega
      have e1 := off_get o5 hi
      have e2 := off_get o6 hi
      have ht0 : ∀ hd : y.d = false, T.take y.i = [] := fun hd => by
        have := h2.2.2.1
        rw [h1] at this
        have := List.eq_nil_of_length_eq_zero this
        simpa [ftCur, hd] using this
      simp only [e1, e2, ix_succ hi hTb]
      refine ⟨⟨by omega, hlt⟩, by omega, by omega, y, ⟨fun hd => ⟨fun c => fun b2 cap' c1 sp c2 sq c3 => ?_, fun c => ⟨fun c' => ⟨fun c'' => fun b2 cap' c1 sp c2 sq c3 => ?_, fun c'' => ⟨y, rfl, h1, mid_no h2 hi (.inr (a4 c c''))⟩⟩, fun c' => ⟨y, rfl, h1, mid_no h2 hi (.inr (a3 c c'))⟩⟩⟩, fun hd => ⟨y, rfl, h1, mid_no h2 hi (.inl (by simpa using hd))⟩⟩,
        fun z ⟨z1, z2⟩ b2 cap' c1 sp c2 sq c3 => ?_, fun z ⟨z1, z2⟩ => ⟨(z2.2.2.2 z1).1, (z2.2.2.2 z1).1, ?_, fun b2 base cap' c1 c0 sp c2 sq c3 => ?_⟩⟩
      · exact ⟨⟨y.i, true, 1, b2, 0, cap', kind :: sp, at_ :: sq⟩, by and_intros <;> rfl, Nat.one_pos, mid_yes hi hd (a1 c) (by rw [ht0 hd]; exact fRow_one c1 c2 c3)⟩
      · exact ⟨⟨y.i, true, 1, b2, 0, cap', kind :: sp, at_ :: sq⟩, by and_intros <;> rfl, Nat.one_pos, mid_yes hi hd (a2 c' c'') (by rw [ht0 hd]; exact fRow_one c1 c2 c3)⟩
      · have hc := cur_next h2 hi z2
        have hm := z2.2.2.1
        rw [z1] at hm
        rw [List.eq_nil_of_length_eq_zero hm, List.nil_append] at hc
        refine ⟨⟨y.i + 1, z.d, 1, b2, 0, cap', _, _⟩, by show T.length - (y.i + 1) < T.length - y.i; omega, by and_intros <;> rfl, Nat.one_pos, hi, z2.2.1, ?_⟩
        show fRow 1 cap' _ _ (ftCur (at_, kind) T (y.i + 1) z.d)
        rw [← hc]; exact fRow_one c1 c2 c3
      · have := (z2.2.2.1)
        have hl : z.k ≤ 1000001 := by
          rw [← this]
          have hk := h2.2.2.1
          rw [h1] at hk
          split
          · split
            · rename_i hd
              simp [ftCur, hd] at hk
              exact absurd hk (insR_ne _ _)
            · simp; omega
          · simp; omega
        omega
      · have hc := cur_next h2 hi z2
        refine ⟨⟨y.i + 1, z.d, z.k + 1, b2, base, cap', _, _⟩, by show T.length - (y.i + 1) < T.length - y.i; omega, by and_intros <;> rfl, Nat.succ_pos _, hi, z2.2.1, ?_⟩
        show fRow (z.k + 1) cap' _ _ (ftCur (at_, kind) T (y.i + 1) z.d)
        rw [← hc]; exact fRow_app z2.2.2 z1 c1 c2 c3
    · have hi : y.i = T.length := by have := h2.1; omega
      obtain ⟨q1, q2⟩ := ft_end h2 hi
      refine ⟨fun hd b1 b2 cap' c1 sp c2 sq c3 => ⟨_, _, ⟨rfl, fat_of (base := 0) (ks := kind :: sp) (ats := at_ :: sq) (G := x.G ++ [(x.b, .tab 90 x.base x.N [.ints .i64 x.ks, .ints .u64 x.ats]), (b1, .cells [.int .i64 kind, .int .u64 at_] 90)]) ?_ Nat.one_pos perm_last3⟩, List.Perm.refl _⟩, fun hd => ?_⟩
      · obtain ⟨g1, g2⟩ := q1 hd
        have := g1.1
        rw [h1] at this
        rw [g2, List.eq_nil_of_length_eq_zero this]
        exact fRow_one c1 c2 c3
      · have := (q2 hd).1
        rw [h1] at this
        exact absurd (List.eq_nil_of_length_eq_zero this) (insR_ne _ _)
    · have hi : y.i < T.length := by omega
      have e1 := off_get o5 hi
      have e2 := off_get o6 hi
      have hkl : y.k ≤ y.i + 1 := by
        rw [← h2.2.2.1]
        unfold ftCur
        split
        · rw [← Nat.lt_succ_iff]
          have : ∀ p : List Row, (insR (at_, kind) p).length = p.length + 1 := fun p => by
            induction p with
            | nil => rfl
            | cons r p ih => unfold insR; split <;> simp [ih]
          rw [this]; simp; omega
        · simp; omega
      simp only [e1, e2, ix_succ hi hTb]
      have hcap := (h2.2.2.2 h1).1
      have ht1 : y.d = false → fRow y.k y.cap y.ks y.ats (T.take y.i) := fun hd => by simpa [ftCur, hd] using h2.2.2
      refine ⟨⟨by omega, hlt⟩, by omega, by omega, y, ⟨fun hd => ⟨fun c => ⟨hcap, hcap, by omega, fun b2 base cap' c1 c0 sp c2 sq c3 => ?_⟩, fun c => ⟨fun c' => ⟨fun c'' => ⟨hcap, hcap, by omega, fun b2 base cap' c1 c0 sp c2 sq c3 => ?_⟩, fun c'' => ⟨y, by and_intros <;> rfl, h1, mid_no h2 hi (.inr (a4 c c''))⟩⟩, fun c' => ⟨y, by and_intros <;> rfl, h1, mid_no h2 hi (.inr (a3 c c'))⟩⟩⟩, fun hd => ⟨y, by and_intros <;> rfl, h1, mid_no h2 hi (.inl (by simpa using hd))⟩⟩,
        fun z ⟨z1, z2⟩ b2 cap' c1 sp c2 sq c3 => ?_, fun z ⟨z1, z2⟩ => ⟨(z2.2.2.2 z1).1, (z2.2.2.2 z1).1, ?_, fun b2 base cap' c1 c0 sp c2 sq c3 => ?_⟩⟩
      · exact ⟨⟨y.i, true, y.k + 1, b2, base, cap', _, _⟩, by and_intros <;> rfl, Nat.succ_pos _, mid_yes hi hd (a1 c) (fRow_app (ht1 hd) h1 c1 c2 c3)⟩
      · exact ⟨⟨y.i, true, y.k + 1, b2, base, cap', _, _⟩, by and_intros <;> rfl, Nat.succ_pos _, mid_yes hi hd (a2 c' c'') (fRow_app (ht1 hd) h1 c1 c2 c3)⟩
      · have hc := cur_next h2 hi z2
        have hm := z2.2.2.1
        rw [z1] at hm
        rw [List.eq_nil_of_length_eq_zero hm, List.nil_append] at hc
        refine ⟨⟨y.i + 1, z.d, 1, b2, 0, cap', _, _⟩, by show T.length - (y.i + 1) < T.length - y.i; omega, by and_intros <;> rfl, Nat.one_pos, hi, z2.2.1, ?_⟩
        show fRow 1 cap' _ _ (ftCur (at_, kind) T (y.i + 1) z.d)
        rw [← hc]; exact fRow_one c1 c2 c3
      · have hl : z.k ≤ 1000001 := by
          rw [← z2.2.2.1]
          have hk := h2.2.2.1
          split
          · split
            · rename_i hd
              simp [ftCur, hd] at hk
              omega
            · simp; omega
          · simp; omega
        omega
      · have hc := cur_next h2 hi z2
        refine ⟨⟨y.i + 1, z.d, z.k + 1, b2, base, cap', _, _⟩, by show T.length - (y.i + 1) < T.length - y.i; omega, by and_intros <;> rfl, Nat.succ_pos _, hi, z2.2.1, ?_⟩
        show fRow (z.k + 1) cap' _ _ (ftCur (at_, kind) T (y.i + 1) z.d)
        rw [← hc]; exact fRow_app z2.2.2 z1 c1 c2 c3
    · have hi : y.i = T.length := by have := h2.1; omega
      obtain ⟨q1, q2⟩ := ft_end h2 hi
      refine ⟨fun hd b1 => ?_, fun hd => ⟨_, _, ⟨rfl, fat_of (G := x.G ++ [(x.b, .tab 90 x.base x.N [.ints .i64 x.ks, .ints .u64 x.ats])]) (q2 hd) h1 perm_last2⟩, List.Perm.refl _⟩⟩
      obtain ⟨g1, g2⟩ := q1 hd
      have hkl := g1.1
      refine ⟨(g1.2 h1).1, (g1.2 h1).1, by omega, fun b2 base cap' c1 c0 sp c2 sq c3 => ⟨_, _, ⟨rfl, fat_of (G := x.G ++ [(x.b, .tab 90 x.base x.N [.ints .i64 x.ks, .ints .u64 x.ats]), (b1, .cells [.int .i64 kind, .int .u64 at_] 90)]) ?_ (Nat.succ_pos _) perm_last3⟩, List.Perm.refl _⟩⟩
      rw [g2]
      exact fRow_app g1 h1 c1 c2 c3
theorem ft_goal (b : Nat) (kind at_ : Int) (S : List Row) (v : Value) (L : Blks) (hF : FAt S v L) (hb : S.length < 1000000) : ftGoal b kind at_ S v L := Eq.mpr (by kernel_rfl) (ft_vc b kind at_ S v L hF hb)
theorem fx_drop {x : FX} {S : List Row} {i off : Nat} (h : x.ok S) (hi : i ≤ S.length) (h1 : i < x.cap → off = x.o + i) (h2 : off + (x.cap - i) ≤ x.o + x.cap) : ({ x with o := off, cap := x.cap - i } : FX).ok (S.drop i) := by
  obtain ⟨o1, o2, o3, o4, o5, o6⟩ := h
  have key : ∀ {xs : List Int} {f : Row → Int}, (xs.drop x.o).take S.length = S.map f → (xs.drop off).take (S.drop i).length = (S.drop i).map f := fun {xs f} hk => by
    rw [List.length_drop]
    rcases Nat.lt_or_ge i S.length with hlt | hge
    · rw [h1 (by omega), List.map_drop, ← hk, List.drop_take, List.drop_drop]
    · rw [show S.length - i = 0 by omega, List.drop_eq_nil_of_le hge]; simp
  exact ⟨by rw [List.length_drop]; show S.length - i ≤ x.cap - i; omega, by show off + (x.cap - i) ≤ x.N; omega, o3, o4, key o5, key o6⟩
theorem fdInv_succ {now : Int} {S : List Row} {i : Nat} (h : fdInv now S i) (hi : i < S.length) (hn : S[i].1 ≤ now) : fdInv now S (i + 1) := by
  refine ⟨hi, fun r hr => ?_⟩
  rw [take_succ' hi] at hr
  rcases List.mem_append.1 hr with hr | hr
  · exact h.2 r hr
  · rw [List.mem_singleton.1 hr]; exact hn
theorem head_drop {S : List Row} {i : Nat} {r : Row} (h : (S.drop i).head? = some r) : ∃ hi : i < S.length, S[i] = r := by
  rw [List.head?_drop] at h
  obtain ⟨hi, h⟩ := List.getElem?_eq_some_iff.1 h
  exact ⟨hi, h⟩
theorem fd_vc (b : Nat) (now : Int) (S : List Row) (v : Value) (L : Blks) (hF : FAt S v L) (hb : S.length < 1000000) :
    (∃ (x : Unit),
    (b, (0 : Nat), (1 : Nat)) = (b, (0 : Nat), (1 : Nat)) ∧
      (∃ (G : List (Nat × Go.Sx.Blk)),
          ∀ (r : List (Nat × Nat × Nat)), List.Perm [(b, Go.Sx.Blk.cells [v] (85 : Go.TypeId))] ((b, Go.Sx.Blk.cells [Go.Value.slice Option.none (0 : Nat) (0 : Nat)] (85 : Go.TypeId)) :: G)) ∧
        ∃ (x0 : FdX),
          (((Go.Value.slice Option.none (0 : Nat) (0 : Nat) = Go.Value.slice Option.none (0 : Nat) (0 : Nat) ∧ ((0 : Nat) = (0 : Nat) ∧ (0 : Nat) = (0 : Nat)) ∧ now = now ∧ True) ∧
                  (b = b ∧ Go.Value.slice Option.none (0 : Nat) (0 : Nat) = Go.Value.slice Option.none (0 : Nat) (0 : Nat) ∧ True) ∧
                    L = L ∧ ((0 : Nat), (0 : Nat), (0 : Nat)) = ((0 : Nat), (0 : Nat), (0 : Nat)) ∧ True) ∧
                x0.4 = (0 : Nat) ∧ x0 = x0 ∨
              ((False ∧ ((0 : Nat) = (0 : Nat) ∧ (0 : Nat) = (0 : Nat)) ∧ now = now ∧ True) ∧
                  (b = b ∧ Go.Value.slice Option.none (0 : Nat) (0 : Nat) = Go.Value.slice Option.none (0 : Nat) (0 : Nat) ∧ True) ∧
                    L = L ∧ ((0 : Nat), (0 : Nat), (0 : Nat)) = ((0 : Nat), (0 : Nat), (0 : Nat)) ∧ False ∧ True) ∧
                (0 : Nat) < x0.4 ∧
                  fdOff x0 x0 ∧ fdInv now S x0.4 ∧ x0.4 ≤ x0.7 ∧ List.length x0.8 = x0.7 ∧ List.take x0.4 x0.8 = List.map (fun (x : Row) => x.2) (List.take x0.4 S)) ∧
            (∀ (x : FdX),
                x.4 = (0 : Nat) ∧ x = x0 →
                  ((0 : Int) < (↑(0 : Nat) : Int) → False) ∧
                    (¬(0 : Int) < (↑(0 : Nat) : Int) →
                      LeftG (85 : Nat) b
                        (fun (r v' : Go.Value) (L1 : Go.Sx.Blks) =>
                          ∃ (out : List Row),
                            ∃ (S' : List Row),
                              ∃ (L2 : Go.Sx.Blks),
                                ∃ (L3 : Go.Sx.Blks),
                                  DueF now S out S' ∧ FAt S' v' L2 ∧ KAt (List.map (fun (x : Row) => x.2) out) r L3 ∧ List.Perm L1 (L2 ++ L3))
                        (Go.Value.slice Option.none (0 : Nat) (0 : Nat)) ((b, Go.Sx.Blk.cells [Go.Value.slice Option.none (0 : Nat) (0 : Nat)] (85 : Go.TypeId)) :: (L ++ [])))) ∧
              ∀ (x : FdX),
                (0 : Nat) < x.4 ∧ fdOff x0 x ∧ fdInv now S x.4 ∧ x.4 ≤ x.7 ∧ List.length x.8 = x.7 ∧ List.take x.4 x.8 = List.map (fun (x : Row) => x.2) (List.take x.4 S) →
                  ((0 : Int) < (↑(0 : Nat) : Int) → False) ∧
                    (¬(0 : Int) < (↑(0 : Nat) : Int) →
                      LeftG (85 : Nat) b
                        (fun (r v' : Go.Value) (L1 : Go.Sx.Blks) =>
                          ∃ (out : List Row),
                            ∃ (S' : List Row),
                              ∃ (L2 : Go.Sx.Blks),
                                ∃ (L3 : Go.Sx.Blks),
                                  DueF now S out S' ∧ FAt S' v' L2 ∧ KAt (List.map (fun (x : Row) => x.2) out) r L3 ∧ List.Perm L1 (L2 ++ L3))
                        (Go.Value.slice (Option.some { block := x.5, off := x.6 * (1 : Nat) }) x.4 x.7)
                        ((b, Go.Sx.Blk.cells [Go.Value.slice Option.none (0 : Nat) (0 : Nat)] (85 : Go.TypeId)) ::
                          (L ++ [(x.5, Go.Sx.Blk.tab (3 : Go.TypeId) x.6 x.7 [Go.Sx.Col.ints Go.IntKind.i64 x.8])])))) ∨
  ∃ (x : FX × Nat),
    (b, (0 : Nat), (1 : Nat)) = (b, (0 : Nat), (1 : Nat)) ∧
      ((0 : Nat), (0 : Nat), (0 : Nat)) = ((0 : Nat), (0 : Nat), (0 : Nat)) ∧
        (∃ (G : List (Nat × Go.Sx.Blk)),
            ∀ (r : List (Nat × Nat × Nat)),
              List.Perm ((b, Go.Sx.Blk.cells [v] (85 : Go.TypeId)) :: (L ++ []))
                ((b, Go.Sx.Blk.cells [Go.Value.slice (Option.some { block := x.1.1, off := (x.1.2 + x.1.3) * (2 : Nat) }) x.2 x.1.5] (85 : Go.TypeId)) ::
                  (x.1.8 ++ [] ++ [(x.1.1, Go.Sx.Blk.tab (90 : Go.TypeId) x.1.2 x.1.4 [Go.Sx.Col.ints Go.IntKind.i64 x.1.6, Go.Sx.Col.ints Go.IntKind.u64 x.1.7])] ++ G))) ∧
          ∃ (x0 : FdX),
            (((Go.Value.slice Option.none (0 : Nat) (0 : Nat) = Go.Value.slice Option.none (0 : Nat) (0 : Nat) ∧ ((0 : Nat) = (0 : Nat) ∧ (0 : Nat) = (0 : Nat)) ∧ now = now ∧ True) ∧
                    (b = b ∧ (x.1.3 = x.1.3 ∧ x.2 = x.2 ∧ x.1.5 = x.1.5) ∧ True) ∧ x.1.8 = x.1.8 ∧ (x.1.1 = x.1.1 ∧ x.1.2 = x.1.2 ∧ x.1.4 = x.1.4 ∧ x.1.6 = x.1.6 ∧ x.1.7 = x.1.7 ∧ True) ∧ True) ∧
                  x0.4 = (0 : Nat) ∧ x0 = x0 ∨
                ((False ∧ ((0 : Nat) = (0 : Nat) ∧ (0 : Nat) = (0 : Nat)) ∧ now = now ∧ True) ∧
                    (b = b ∧ (x.1.3 = x0.3 ∧ x.2 = x.2 - x0.4 ∧ x.1.5 = x.1.5 - x0.4) ∧ True) ∧
                      x.1.8 = x.1.8 ∧ (x.1.1 = x.1.1 ∧ x.1.2 = x.1.2 ∧ x.1.4 = x.1.4 ∧ x.1.6 = x.1.6 ∧ x.1.7 = x.1.7 ∧ True) ∧ False ∧ True) ∧
                  (0 : Nat) < x0.4 ∧
                    fdOff x0 x0 ∧ fdInv now S x0.4 ∧ x0.4 ≤ x0.7 ∧ List.length x0.8 = x0.7 ∧ List.take x0.4 x0.8 = List.map (fun (x : Row) => x.2) (List.take x0.4 S)) ∧
              (∀ (x_1 : FdX),
                  x_1.4 = (0 : Nat) ∧ x_1 = x0 →
                    ((0 : Int) < (↑x.2 : Int) →
                        ((0 : Int) ≤ (0 : Int) ∧ (0 : Int) < (↑x.2 : Int)) ∧
                          x.1.3 < x.1.4 ∧
                            (List.getD x.1.7 x.1.3 (0 : Int) ≤ now →
                                ((0 : Int) ≤ (0 : Int) ∧ (0 : Int) < (↑x.2 : Int)) ∧
                                  x.1.3 < x.1.4 ∧
                                    ∀ (b_1 : Nat),
                                      Go.Value.oneCell' (Go.Value.int Go.IntKind.i64 (List.getD x.1.6 x.1.3 (0 : Int))) = Bool.true ∧
                                        (8 : Nat) ≤ (140737488355328 : Nat) ∧
                                          ∀ (b_2 cap' : Nat),
                                            (1 : Nat) ≤ cap' →
                                              ∀ (sp : List Int),
                                                List.length sp = cap' - (1 : Nat) →
                                                  ((0 : Int) ≤ (1 : Int) ∧ (1 : Int) ≤ (↑x.2 : Int)) ∧
                                                    ∃ (y : FdX),
                                                      List.length S - y.4 < List.length S - x_1.4 ∧
                                                        (((Go.Value.slice (Option.some { block := b_2, off := (0 : Nat) * (1 : Nat) }) (1 : Nat) cap' = Go.Value.slice Option.none (0 : Nat) (0 : Nat) ∧
                                                                ((0 : Nat) = (0 : Nat) ∧ (0 : Nat) = (0 : Nat)) ∧ now = now ∧ True) ∧
                                                              (b = b ∧ ((if x.1.5 = (1 : Nat) then x.1.3 else x.1.3 + (1 : Nat)) = x.1.3 ∧ x.2 - (1 : Nat) = x.2 ∧ x.1.5 - (1 : Nat) = x.1.5) ∧ True) ∧
                                                                x.1.8 = x.1.8 ∧ (x.1.1 = x.1.1 ∧ x.1.2 = x.1.2 ∧ x.1.4 = x.1.4 ∧ x.1.6 = x.1.6 ∧ x.1.7 = x.1.7 ∧ True) ∧ True) ∧
                                                            y.4 = (0 : Nat) ∧ y = x0 ∨
                                                          ((((0 : Nat) = (0 : Nat) ∧ (1 : Nat) = y.4 ∧ cap' = y.7) ∧ ((0 : Nat) = (0 : Nat) ∧ (0 : Nat) = (0 : Nat)) ∧ now = now ∧ True) ∧
                                                              (b = b ∧
                                                                  ((if x.1.5 = (1 : Nat) then x.1.3 else x.1.3 + (1 : Nat)) = y.3 ∧ x.2 - (1 : Nat) = x.2 - y.4 ∧ x.1.5 - (1 : Nat) = x.1.5 - y.4) ∧
                                                                    True) ∧
                                                                x.1.8 = x.1.8 ∧
                                                                  (x.1.1 = x.1.1 ∧ x.1.2 = x.1.2 ∧ x.1.4 = x.1.4 ∧ x.1.6 = x.1.6 ∧ x.1.7 = x.1.7 ∧ True) ∧
                                                                    (b_2 = y.5 ∧ (0 : Nat) = y.6 ∧ cap' = y.7 ∧ List.getD x.1.6 x.1.3 (0 : Int) :: sp = y.8 ∧ True) ∧ True) ∧
                                                            (0 : Nat) < y.4 ∧
                                                              fdOff x0 y ∧
                                                                fdInv now S y.4 ∧
                                                                  y.4 ≤ y.7 ∧
                                                                    List.length y.8 = y.7 ∧ List.take y.4 y.8 = List.map (fun (x : Row) => x.2) (List.take y.4 S))) ∧
                              (¬List.getD x.1.7 x.1.3 (0 : Int) ≤ now →
                                LeftG (85 : Nat) b
                                  (fun (r v' : Go.Value) (L1 : Go.Sx.Blks) =>
                                    ∃ (out : List Row),
                                      ∃ (S' : List Row),
                                        ∃ (L2 : Go.Sx.Blks),
                                          ∃ (L3 : Go.Sx.Blks),
                                            DueF now S out S' ∧
                                              FAt S' v' L2 ∧ KAt (List.map (fun (x : Row) => x.2) out) r L3 ∧ List.Perm L1 (L2 ++ L3))
                                  (Go.Value.slice Option.none (0 : Nat) (0 : Nat))
                                  ((b, Go.Sx.Blk.cells [Go.Value.slice (Option.some { block := x.1.1, off := (x.1.2 + x.1.3) * (2 : Nat) }) x.2 x.1.5] (85 : Go.TypeId)) ::
                                    (x.1.8 ++ [(x.1.1, Go.Sx.Blk.tab (90 : Go.TypeId) x.1.2 x.1.4 [Go.Sx.Col.ints Go.IntKind.i64 x.1.6, Go.Sx.Col.ints Go.IntKind.u64 x.1.7])])))) ∧
                      (¬(0 : Int) < (↑x.2 : Int) →
                        LeftG (85 : Nat) b
                          (fun (r v' : Go.Value) (L1 : Go.Sx.Blks) =>
                            ∃ (out : List Row),
                              ∃ (S' : List Row),
                                ∃ (L2 : Go.Sx.Blks),
                                  ∃ (L3 : Go.Sx.Blks),
                                    DueF now S out S' ∧ FAt S' v' L2 ∧ KAt (List.map (fun (x : Row) => x.2) out) r L3 ∧ List.Perm L1 (L2 ++ L3))
                          (Go.Value.slice Option.none (0 : Nat) (0 : Nat))
                          ((b, Go.Sx.Blk.cells [Go.Value.slice (Option.some { block := x.1.1, off := (x.1.2 + x.1.3) * (2 : Nat) }) x.2 x.1.5] (85 : Go.TypeId)) ::
                            (x.1.8 ++ [(x.1.1, Go.Sx.Blk.tab (90 : Go.TypeId) x.1.2 x.1.4 [Go.Sx.Col.ints Go.IntKind.i64 x.1.6, Go.Sx.Col.ints Go.IntKind.u64 x.1.7])])))) ∧
                ∀ (x_1 : FdX),
                  (0 : Nat) < x_1.4 ∧
                      fdOff x0 x_1 ∧
                        fdInv now S x_1.4 ∧ x_1.4 ≤ x_1.7 ∧ List.length x_1.8 = x_1.7 ∧ List.take x_1.4 x_1.8 = List.map (fun (x : Row) => x.2) (List.take x_1.4 S) →
                    ((0 : Int) < (↑(x.2 - x_1.4) : Int) →
                        ((0 : Int) ≤ (0 : Int) ∧ (0 : Int) < (↑(x.2 - x_1.4) : Int)) ∧
                          x_1.3 < x.1.4 ∧
                            (List.getD x.1.7 x_1.3 (0 : Int) ≤ now →
                                ((0 : Int) ≤ (0 : Int) ∧ (0 : Int) < (↑(x.2 - x_1.4) : Int)) ∧
                                  x_1.3 < x.1.4 ∧
                                    ∀ (b_1 : Nat),
                                      Go.Value.oneCell' (Go.Value.int Go.IntKind.i64 (List.getD x.1.6 x_1.3 (0 : Int))) = Bool.true ∧
                                        (x_1.4 ≤ x_1.7 ∧ (0 : Nat) + x_1.7 ≤ x_1.7) ∧
                                          (0 : Nat) + x_1.4 ≤ x_1.7 ∧
                                            (x_1.4 + (1 : Nat)) * (8 : Nat) ≤ (140737488355328 : Nat) ∧
                                              ∀ (b_2 base cap' : Nat),
                                                x_1.4 + (1 : Nat) ≤ cap' →
                                                  (x_1.4 + (1 : Nat) ≤ x_1.7 → cap' = x_1.7) →
                                                    ∀ (sp : List Int),
                                                      List.length sp = cap' - (x_1.4 + (1 : Nat)) →
                                                        ((0 : Int) ≤ (1 : Int) ∧ (1 : Int) ≤ (↑(x.2 - x_1.4) : Int)) ∧
                                                          ∃ (y : FdX),
                                                            List.length S - y.4 < List.length S - x_1.4 ∧
                                                              (((Go.Value.slice (Option.some { block := b_2, off := base * (1 : Nat) }) (x_1.4 + (1 : Nat)) cap' =
                                                                        Go.Value.slice Option.none (0 : Nat) (0 : Nat) ∧
                                                                      ((0 : Nat) = (0 : Nat) ∧ (0 : Nat) = (0 : Nat)) ∧ now = now ∧ True) ∧
                                                                    (b = b ∧
                                                                        ((if x.1.5 - x_1.4 = (1 : Nat) then x_1.3 else x_1.3 + (1 : Nat)) = x.1.3 ∧
                                                                            x.2 - x_1.4 - (1 : Nat) = x.2 ∧ x.1.5 - x_1.4 - (1 : Nat) = x.1.5) ∧
                                                                          True) ∧
                                                                      x.1.8 = x.1.8 ∧ (x.1.1 = x.1.1 ∧ x.1.2 = x.1.2 ∧ x.1.4 = x.1.4 ∧ x.1.6 = x.1.6 ∧ x.1.7 = x.1.7 ∧ True) ∧ True) ∧
                                                                  y.4 = (0 : Nat) ∧ y = x0 ∨
                                                                ((((0 : Nat) = (0 : Nat) ∧ x_1.4 + (1 : Nat) = y.4 ∧ cap' = y.7) ∧ ((0 : Nat) = (0 : Nat) ∧ (0 : Nat) = (0 : Nat)) ∧ now = now ∧ True) ∧
                                                                    (b = b ∧
                                                                        ((if x.1.5 - x_1.4 = (1 : Nat) then x_1.3 else x_1.3 + (1 : Nat)) = y.3 ∧
                                                                            x.2 - x_1.4 - (1 : Nat) = x.2 - y.4 ∧ x.1.5 - x_1.4 - (1 : Nat) = x.1.5 - y.4) ∧
                                                                          True) ∧
                                                                      x.1.8 = x.1.8 ∧
                                                                        (x.1.1 = x.1.1 ∧ x.1.2 = x.1.2 ∧ x.1.4 = x.1.4 ∧ x.1.6 = x.1.6 ∧ x.1.7 = x.1.7 ∧ True) ∧
                                                                          (b_2 = y.5 ∧ base = y.6 ∧ cap' = y.7 ∧ List.take x_1.4 x_1.8 ++ [List.getD x.1.6 x_1.3 (0 : Int)] ++ sp = y.8 ∧ True) ∧
                                                                            True) ∧
                                                                  (0 : Nat) < y.4 ∧
                                                                    fdOff x0 y ∧
                                                                      fdInv now S y.4 ∧
                                                                        y.4 ≤ y.7 ∧
                                                                          List.length y.8 = y.7 ∧ List.take y.4 y.8 = List.map (fun (x : Row) => x.2) (List.take y.4 S))) ∧
                              (¬List.getD x.1.7 x_1.3 (0 : Int) ≤ now →
                                LeftG (85 : Nat) b
                                  (fun (r v' : Go.Value) (L1 : Go.Sx.Blks) =>
                                    ∃ (out : List Row),
                                      ∃ (S' : List Row),
                                        ∃ (L2 : Go.Sx.Blks),
                                          ∃ (L3 : Go.Sx.Blks),
                                            DueF now S out S' ∧
                                              FAt S' v' L2 ∧ KAt (List.map (fun (x : Row) => x.2) out) r L3 ∧ List.Perm L1 (L2 ++ L3))
                                  (Go.Value.slice (Option.some { block := x_1.5, off := x_1.6 * (1 : Nat) }) x_1.4 x_1.7)
                                  ((b, Go.Sx.Blk.cells [Go.Value.slice (Option.some { block := x.1.1, off := (x.1.2 + x_1.3) * (2 : Nat) }) (x.2 - x_1.4) (x.1.5 - x_1.4)] (85 : Go.TypeId)) ::
                                    (x.1.8 ++
                                      [(x.1.1, Go.Sx.Blk.tab (90 : Go.TypeId) x.1.2 x.1.4 [Go.Sx.Col.ints Go.IntKind.i64 x.1.6, Go.Sx.Col.ints Go.IntKind.u64 x.1.7]),
                                        (x_1.5, Go.Sx.Blk.tab (3 : Go.TypeId) x_1.6 x_1.7 [Go.Sx.Col.ints Go.IntKind.i64 x_1.8])])))) ∧
                      (¬(0 : Int) < (↑(x.2 - x_1.4) : Int) →
                        LeftG (85 : Nat) b
                          (fun (r v' : Go.Value) (L1 : Go.Sx.Blks) =>
                            ∃ (out : List Row),
                              ∃ (S' : List Row),
                                ∃ (L2 : Go.Sx.Blks),
                                  ∃ (L3 : Go.Sx.Blks),
                                    DueF now S out S' ∧ FAt S' v' L2 ∧ KAt (List.map (fun (x : Row) => x.2) out) r L3 ∧ List.Perm L1 (L2 ++ L3))
                          (Go.Value.slice (Option.some { block := x_1.5, off := x_1.6 * (1 : Nat) }) x_1.4 x_1.7)
                          ((b, Go.Sx.Blk.cells [Go.Value.slice (Option.some { block := x.1.1, off := (x.1.2 + x_1.3) * (2 : Nat) }) (x.2 - x_1.4) (x.1.5 - x_1.4)] (85 : Go.TypeId)) ::
                            (x.1.8 ++
                              [(x.1.1, Go.Sx.Blk.tab (90 : Go.TypeId) x.1.2 x.1.4 [Go.Sx.Col.ints Go.IntKind.i64 x.1.6, Go.Sx.Col.ints Go.IntKind.u64 x.1.7]),
                                (x_1.5, Go.Sx.Blk.tab (3 : Go.TypeId) x_1.6 x_1.7 [Go.Sx.Col.ints Go.IntKind.i64 x_1.8])]))) := by
  simp only [eq_self, true_and, and_true, false_and, and_false, or_false, false_or, and_self, Nat.zero_add, Nat.add_zero, Nat.sub_zero, Nat.zero_mul, Nat.mul_one, Int.toNat_natCast, cond_true, cond_false, forall_const, implies_true, Nat.beq_refl, ne_eq, not_false_eq_true, not_true_eq_false, Classical.not_not, List.cons.injEq, List.append_nil, List.nil_append, Go.Value.int.injEq, Go.Value.bool.injEq, Go.Value.slice.injEq, Nat.le_refl, Nat.zero_le, Go.Sx.one_int, Go.Sx.one_bool, Go.Sx.one_slice, Go.Sx.one_ptr, Go.Sx.one_map, Int.cast_ofNat_Int, reduceCtorEq, Nat.reduceLeDiff, Nat.reduceMul, Nat.reduceAdd, Nat.reduceSub, Nat.reduceEqDiff, Int.reduceLE, Int.reduceLT, Int.reduceEq, Int.reduceAdd, Int.reduceSub, Int.reduceNeg, Int.reduceMul, Nat.reduceBEq]
  rcases hF with ⟨rfl, rfl⟩ | ⟨x, ok, rfl, hp⟩
  · refine .inl ⟨(), ⟨[], by simp⟩, ⟨0, 0, 0, 0, 0, 0, 0, []⟩, rfl, fun y ⟨h1, h2⟩ => ⟨fun h => h, _, _, ⟨[], [], L, [], ⟨0, ⟨by simp, by simp⟩, rfl, rfl, by simp⟩, .inl ⟨rfl, rfl⟩, .inl ⟨rfl, rfl⟩, by simp⟩, List.Perm.refl _⟩, fun y ⟨h1, h2, h3, h4⟩ => ?_⟩
    have := h3.1
    simp at this
    omega
  · obtain ⟨o1, o2, o3, o4, o5, o6⟩ := id ok
    refine .inr ⟨(x, S.length), ⟨[], by rw [List.append_nil]; exact view_perm hp⟩, ⟨x.o, x.cap, x.o, 0, 0, 0, 0, []⟩, rfl, fun y ⟨h1, h2⟩ => ⟨fun hlt => ?_, fun hge => ?_⟩, fun y ⟨h1, hoff, hinv, c1, c2, c3⟩ => ⟨fun hlt => ?_, fun hge => ?_⟩⟩
    · subst h2
      have hi : 0 < S.length := by omega
      have e1 := off_get o5 hi
      have e2 := off_get o6 hi
      simp only [Nat.add_zero] at e1 e2
      simp only [e1, e2]
      refine ⟨hlt, by omega, fun hn => ⟨hlt, by omega, fun b2 cap' c1 sp c2 => ⟨by omega, ?_⟩⟩, fun hn => ?_⟩
      · refine ⟨⟨x.o, x.cap, if x.cap = 1 then x.o else x.o + 1, 1, b2, 0, cap', _⟩, by show S.length - 1 < S.length - 0; omega, by and_intros <;> rfl, Nat.one_pos, ⟨rfl, rfl, fun h => ?_, ?_⟩, fdInv_succ (i := 0) ⟨Nat.zero_le _, by simp⟩ hi hn, c1, ?_, ?_⟩
        · have h : 1 < x.cap := h
          show (if x.cap = 1 then x.o else x.o + 1) = x.o + 1
          rw [if_neg (by omega)]
        · show (if x.cap = 1 then x.o else x.o + 1) + (x.cap - 1) ≤ x.o + x.cap
          split <;> omega
        · show (_ :: sp).length = cap'
          rw [List.length_cons, c2]; omega
        · show List.take 1 (S[0].2 :: sp) = (S.take 1).map (·.2)
          have := take_succ' hi
          rw [Nat.zero_add] at this
          rw [this]; simp
      · exact ⟨_, _, ⟨[], S, _, [], ⟨0, ⟨Nat.zero_le _, by simp⟩, rfl, rfl, fun r hr => by
          obtain ⟨_, h⟩ := head_drop (i := 0) (by simpa using hr)
          rw [← h]; omega⟩, .inr ⟨x, ok, rfl, List.perm_append_comm⟩, .inl ⟨rfl, rfl⟩, by rw [List.append_nil]⟩, List.Perm.refl _⟩
    · exact ⟨_, _, ⟨[], S, _, [], ⟨0, ⟨Nat.zero_le _, by simp⟩, rfl, rfl, fun r hr => by
        obtain ⟨h, _⟩ := head_drop (i := 0) (by simpa using hr)
        omega⟩, .inr ⟨x, ok, rfl, List.perm_append_comm⟩, .inl ⟨rfl, rfl⟩, by rw [List.append_nil]⟩, List.Perm.refl _⟩
    · have hi : y.i < S.length := by omega
      have ho : y.off = x.o + y.i := by
        obtain ⟨g1, g2, g3, g4⟩ := hoff
        have := g3 (by rw [g2]; show y.i < x.cap; omega)
        rw [this, g1]
      have e1 := off_get o5 hi
      have e2 := off_get o6 hi
      simp only [ho, e1, e2]
      refine ⟨hlt, by omega, fun hn => ⟨hlt, by omega, c1, c1, by omega, fun b2 base cap' d1 d0 sp d2 => ⟨by omega, ?_⟩⟩, fun hn => ?_⟩
      · refine ⟨⟨x.o, x.cap, if x.cap - y.i = 1 then x.o + y.i else x.o + y.i + 1, y.i + 1, b2, base, cap', _⟩, by show S.length - (y.i + 1) < S.length - y.i; omega, by and_intros <;> rfl, Nat.succ_pos _, ⟨rfl, rfl, fun h => ?_, ?_⟩, fdInv_succ hinv hi hn, d1, ?_, ?_⟩
        · have h : y.i + 1 < x.cap := h
          show (if x.cap - y.i = 1 then x.o + y.i else x.o + y.i + 1) = x.o + (y.i + 1)
          rw [if_neg (by omega)]; omega
        · show (if x.cap - y.i = 1 then x.o + y.i else x.o + y.i + 1) + (x.cap - (y.i + 1)) ≤ x.o + x.cap
          split <;> omega
        · have l1 : (List.take y.i y.zs).length = y.i := by rw [List.length_take]; omega
          show (List.take y.i y.zs ++ [S[y.i].2] ++ sp).length = cap'
          simp only [List.length_append, l1, List.length_singleton, d2]; omega
        · show List.take (y.i + 1) (List.take y.i y.zs ++ [S[y.i].2] ++ sp) = (S.take (y.i + 1)).map (·.2)
          have l1 : (List.take y.i y.zs).length = y.i := by rw [List.length_take]; omega
          rw [List.take_left' (by simp only [List.length_append, l1, List.length_singleton]), c3, take_succ' hi, List.map_append]; rfl
      · rw [← ho]
        obtain ⟨g1, g2, g3, g4⟩ := hoff
        have lm : ((S.take y.i).map (·.2)).length = y.i := by rw [List.length_map, List.length_take, Nat.min_eq_left hinv.1]
        refine ⟨_, _, ⟨S.take y.i, S.drop y.i, x.G ++ [(x.b, .tab 90 x.base x.N [.ints .i64 x.ks, .ints .u64 x.ats])], [(y.b, .tab 3 y.base y.cap [.ints .i64 y.zs])], ⟨y.i, hinv, rfl, rfl, fun r hr => ?_⟩, .inr ⟨{ x with o := y.off, cap := x.cap - y.i }, fx_drop ok hinv.1 (fun h => by have := g3 (by rw [g2]; exact h); rw [this, g1]) (by rw [g1, g2] at g4; exact g4), by simp [FX.val], List.perm_append_comm⟩,
          .inr ⟨y.b, y.base, y.cap, y.zs, [], by rw [lm, Nat.mul_one], by rw [lm]; exact h1, by rw [lm]; exact c1, c2, by rw [lm]; exact c3, List.Perm.refl _⟩, ?_⟩, List.Perm.refl _⟩
        · obtain ⟨hi', h⟩ := head_drop hr
          rw [← h]; omega
        · exact List.Perm.of_eq (by simp)
    ·
      obtain ⟨g1, g2, g3, g4⟩ := hoff
      have lm : ((S.take y.i).map (·.2)).length = y.i := by rw [List.length_map, List.length_take, Nat.min_eq_left hinv.1]
      refine ⟨_, _, ⟨S.take y.i, S.drop y.i, x.G ++ [(x.b, .tab 90 x.base x.N [.ints .i64 x.ks, .ints .u64 x.ats])], [(y.b, .tab 3 y.base y.cap [.ints .i64 y.zs])], ⟨y.i, hinv, rfl, rfl, fun r hr => ?_⟩, .inr ⟨{ x with o := y.off, cap := x.cap - y.i }, fx_drop ok hinv.1 (fun h => by have := g3 (by rw [g2]; exact h); rw [this, g1]) (by rw [g1, g2] at g4; exact g4), by simp [FX.val], List.perm_append_comm⟩,
        .inr ⟨y.b, y.base, y.cap, y.zs, [], by rw [lm, Nat.mul_one], by rw [lm]; exact h1, by rw [lm]; exact c1, c2, by rw [lm]; exact c3, List.Perm.refl _⟩, ?_⟩, List.Perm.refl _⟩
      · obtain ⟨hi', h⟩ := head_drop hr
        omega
      · exact List.Perm.of_eq (by simp)
theorem fd_goal (b : Nat) (now : Int) (S : List Row) (v : Value) (L : Blks) (hF : FAt S v L) (hb : S.length < 1000000) : fdGoal b now S v L := Eq.mpr (by kernel_rfl) (fd_vc b now S v L hF hb)
theorem fstop_sound : ∀ p ∈ [(34, fstopT)], SoundT Go.Proofs.Try.prog p.1 p.2 := by
  intro p hp
  rcases List.mem_singleton.1 hp with rfl
  exact fstopT_sound
noncomputable def fsetT : Trans := cellG (A := Unit) 85 (fun _ => .tup []) (fun (x : KX) vs v L => vs = [.int .i64 x.kind, .int .u64 x.at_] ∧ FAt x.S v L ∧ x.S.length < 1000000) fun x _ v' L' => FAt (insR (x.at_, x.kind) (fl x.kind x.S)) v' L'
theorem fsetT_sound : SoundT Go.Proofs.Try.prog 33 fsetT := cellG_sound (val := fun _ => .tuple #[]) enters33 (fun a ρ => rfl) (fun a => by simp) (fun x a v L h => h.sl) fun ⟨S, kind, at_⟩ vs b v L ⟨h1, h2, h3⟩ => by
  subst h1
  refine run_own (run_with fstop_sound _ _ _ _ _) (fun r => rfl) (ft_goal b kind at_ S v L h2 h3) fun s h' hk => ?_
  exact hk.to fun v' L1 ⟨e, h⟩ => ⟨(), e, h⟩
noncomputable def fdueT : Trans := cellK 85 (fun (x : KX) vs v L => vs = [.int .u64 x.at_] ∧ FAt x.S v L ∧ x.S.length < 1000000) fun x ks v' L' => ∃ out S', ks = out.map (·.2) ∧ DueF x.at_ x.S out S' ∧ FAt S' v' L'
theorem fdueT_sound : SoundT Go.Proofs.Try.prog 35 fdueT := cellK_sound enters35 (fun x a v L ⟨_, _, _, _, h⟩ => h.sl) (fun x a v L G ⟨out, S', e, h1, h2⟩ => ⟨out, S', e, h1, h2.more G⟩) fun ⟨S, kind, at_⟩ vs b v L ⟨h1, h2, h3⟩ => by
  subst h1
  refine run_own (run_with no_contracts _ _ _ _ _) (fun r => rfl) (fd_goal b at_ S v L h2 h3) fun s h' hk => ?_
  exact hk.to fun v' L1 ⟨out, S', L2, L3, e1, e2, e3, e4⟩ => ⟨_, L2, L3, ⟨out, S', rfl, e1, e2⟩, e3, e4⟩

theorem ta_vc (b : Nat) (kind : Int) (q : List Row) (v : Value) (L : Blks) (hQ : QAt q v L) (hb : q.length < 1000000) :
    (∃ (x : Unit),
    (b, (0 : Nat), (1 : Nat)) = (b, (0 : Nat), (1 : Nat)) ∧
      (∃ (G : List (Nat × Go.Sx.Blk)),
          ∀ (r : List (Nat × Nat × Nat)), List.Perm [(b, Go.Sx.Blk.cells [v] (70 : Go.TypeId))] ((b, Go.Sx.Blk.cells [Go.Value.slice Option.none (0 : Nat) (0 : Nat)] (70 : Go.TypeId)) :: G)) ∧
        ∀ (b_1 : Nat),
          ∃ (x0 : Nat),
            ((((0 : Int) = (↑x0 : Int) ∧
                    Go.Value.slice Option.none (0 : Nat) (0 : Nat) = Go.Value.slice Option.none (0 : Nat) (0 : Nat) ∧
                      (((0 : Nat) = (0 : Nat) ∧ (0 : Nat) = (0 : Nat)) ∧ True) ∧
                        Go.Value.slice Option.none (0 : Nat) (0 : Nat) = Go.Value.slice Option.none (0 : Nat) (0 : Nat) ∧ (↑(0 : Nat) : Int) = (↑(0 : Nat) : Int) ∧ True) ∧
                  (b = b ∧ Go.Value.slice Option.none (0 : Nat) (0 : Nat) = Go.Value.slice Option.none (0 : Nat) (0 : Nat) ∧ True) ∧
                    L = L ∧ ((0 : Nat), (0 : Nat), (0 : Nat)) = ((0 : Nat), (0 : Nat), (0 : Nat)) ∧ (b_1 = b_1 ∧ kind = kind ∧ True) ∧ True) ∧
                x0 ≤ List.length q ∧ ∀ (k : Nat) (r : Row), k < x0 → q[k]? = Option.some r → r.2 ≠ kind) ∧
              ∀ (x : Nat),
                (x ≤ List.length q ∧ ∀ (k : Nat) (r : Row), k < x → q[k]? = Option.some r → r.2 ≠ kind) →
                  ((↑x : Int) < (↑(0 : Nat) : Int) → False) ∧
                    (¬(↑x : Int) < (↑(0 : Nat) : Int) →
                      ((0 : Int) ≤ (-1 : Int) → False) ∧
                        (¬(0 : Int) ≤ (-1 : Int) →
                          atF q kind (0 : Int) False ∧
                            LeftG (70 : Nat) b (fun (x v' : Go.Value) (L' : Go.Sx.Blks) => QAt q v' L') (Go.Value.bool Bool.true)
                              ((b, Go.Sx.Blk.cells [Go.Value.slice Option.none (0 : Nat) (0 : Nat)] (70 : Go.TypeId)) ::
                                (L ++ [(b_1, Go.Sx.Blk.cells [Go.Value.int Go.IntKind.i64 kind] (3 : Nat))]))))) ∨
  ∃ (x : QX),
    (b, (0 : Nat), (1 : Nat)) = (b, (0 : Nat), (1 : Nat)) ∧
      ((0 : Nat), (0 : Nat), (0 : Nat)) = ((0 : Nat), (0 : Nat), (0 : Nat)) ∧
        (∃ (G : List (Nat × Go.Sx.Blk)),
            ∀ (r : List (Nat × Nat × Nat)),
              List.Perm ((b, Go.Sx.Blk.cells [v] (70 : Go.TypeId)) :: (L ++ []))
                ((b, Go.Sx.Blk.cells [Go.Value.slice (Option.some { block := x.1, off := x.2 * (2 : Nat) }) x.4 x.3] (70 : Go.TypeId)) ::
                  (x.7 ++ [] ++ [(x.1, Go.Sx.Blk.tab (150 : Go.TypeId) x.2 x.3 [Go.Sx.Col.ints Go.IntKind.u64 x.5, Go.Sx.Col.ints Go.IntKind.i64 x.6])] ++ G))) ∧
          ∀ (b_1 : Nat),
            ∃ (x0 : Nat),
              ((((0 : Int) = (↑x0 : Int) ∧
                      ((0 : Nat) = (0 : Nat) ∧ x.4 = x.4 ∧ x.3 = x.3) ∧
                        (((0 : Nat) = (0 : Nat) ∧ (0 : Nat) = (0 : Nat)) ∧ True) ∧ ((0 : Nat) = (0 : Nat) ∧ x.4 = x.4 ∧ x.3 = x.3) ∧ (↑x.4 : Int) = (↑x.4 : Int) ∧ True) ∧
                    (b = b ∧ ((0 : Nat) = (0 : Nat) ∧ x.4 = x.4 ∧ x.3 = x.3) ∧ True) ∧
                      x.7 = x.7 ∧ (x.1 = x.1 ∧ x.2 = x.2 ∧ x.3 = x.3 ∧ x.5 = x.5 ∧ x.6 = x.6 ∧ True) ∧ (b_1 = b_1 ∧ kind = kind ∧ True) ∧ True) ∧
                  x0 ≤ List.length q ∧ ∀ (k : Nat) (r : Row), k < x0 → q[k]? = Option.some r → r.2 ≠ kind) ∧
                ∀ (x_1 : Nat),
                  (x_1 ≤ List.length q ∧ ∀ (k : Nat) (r : Row), k < x_1 → q[k]? = Option.some r → r.2 ≠ kind) →
                    ((↑x_1 : Int) < (↑x.4 : Int) →
                        ((0 : Int) ≤ (↑x_1 : Int) ∧ (↑x_1 : Int) < (↑x.4 : Int)) ∧
                          (0 : Nat) + x_1 < x.3 ∧
                            (0 : Nat) + x_1 < x.3 ∧
                              ∀ (b_2 : Nat),
                                (List.getD x.6 ((0 : Nat) + x_1) (0 : Int) = kind →
                                    ((0 : Int) ≤ (↑x_1 : Int) →
                                        ((0 : Int) ≤ (↑x_1 : Int) ∧ (↑x_1 : Int) < (↑x.4 : Int)) ∧
                                          (0 : Nat) + x_1 < x.3 ∧
                                            atF q kind (List.getD x.5 ((0 : Nat) + x_1) (0 : Int)) True ∧
                                              LeftG (70 : Nat) b (fun (x v' : Go.Value) (L' : Go.Sx.Blks) => QAt q v' L') (Go.Value.bool Bool.true)
                                                ((b, Go.Sx.Blk.cells [Go.Value.slice (Option.some { block := x.1, off := x.2 * (2 : Nat) }) x.4 x.3] (70 : Go.TypeId)) ::
                                                  (x.7 ++
                                                    [(x.1, Go.Sx.Blk.tab (150 : Go.TypeId) x.2 x.3 [Go.Sx.Col.ints Go.IntKind.u64 x.5, Go.Sx.Col.ints Go.IntKind.i64 x.6]),
                                                      (b_1, Go.Sx.Blk.cells [Go.Value.int Go.IntKind.i64 kind] (3 : Nat)),
                                                      (b_2,
                                                        Go.Sx.Blk.cells
                                                          [Go.Value.int Go.IntKind.u64 (List.getD x.5 ((0 : Nat) + x_1) (0 : Int)),
                                                            Go.Value.int Go.IntKind.i64 (List.getD x.6 ((0 : Nat) + x_1) (0 : Int))]
                                                          (150 : Nat))]))) ∧
                                      (¬(0 : Int) ≤ (↑x_1 : Int) →
                                        atF q kind (0 : Int) False ∧
                                          LeftG (70 : Nat) b (fun (x v' : Go.Value) (L' : Go.Sx.Blks) => QAt q v' L') (Go.Value.bool Bool.true)
                                            ((b, Go.Sx.Blk.cells [Go.Value.slice (Option.some { block := x.1, off := x.2 * (2 : Nat) }) x.4 x.3] (70 : Go.TypeId)) ::
                                              (x.7 ++
                                                [(x.1, Go.Sx.Blk.tab (150 : Go.TypeId) x.2 x.3 [Go.Sx.Col.ints Go.IntKind.u64 x.5, Go.Sx.Col.ints Go.IntKind.i64 x.6]),
                                                  (b_1, Go.Sx.Blk.cells [Go.Value.int Go.IntKind.i64 kind] (3 : Nat)),
                                                  (b_2,
                                                    Go.Sx.Blk.cells
                                                      [Go.Value.int Go.IntKind.u64 (List.getD x.5 ((0 : Nat) + x_1) (0 : Int)), Go.Value.int Go.IntKind.i64 (List.getD x.6 ((0 : Nat) + x_1) (0 : Int))]
                                                      (150 : Nat))])))) ∧
                                  (¬List.getD x.6 ((0 : Nat) + x_1) (0 : Int) = kind →
                                    ∃ (y : Nat),
                                      List.length q - y < List.length q - x_1 ∧
                                        ((Go.IntKind.wrap Go.IntKind.i64 ((↑x_1 : Int) + (1 : Int)) = (↑y : Int) ∧
                                              ((0 : Nat) = (0 : Nat) ∧ x.4 = x.4 ∧ x.3 = x.3) ∧
                                                (((0 : Nat) = (0 : Nat) ∧ (0 : Nat) = (0 : Nat)) ∧ True) ∧ ((0 : Nat) = (0 : Nat) ∧ x.4 = x.4 ∧ x.3 = x.3) ∧ (↑x.4 : Int) = (↑x.4 : Int) ∧ True) ∧
                                            (b = b ∧ ((0 : Nat) = (0 : Nat) ∧ x.4 = x.4 ∧ x.3 = x.3) ∧ True) ∧
                                              x.7 = x.7 ∧ (x.1 = x.1 ∧ x.2 = x.2 ∧ x.3 = x.3 ∧ x.5 = x.5 ∧ x.6 = x.6 ∧ True) ∧ (b_1 = b_1 ∧ kind = kind ∧ True) ∧ True) ∧
                                          y ≤ List.length q ∧ ∀ (k : Nat) (r : Row), k < y → q[k]? = Option.some r → r.2 ≠ kind)) ∧
                      (¬(↑x_1 : Int) < (↑x.4 : Int) →
                        ((0 : Int) ≤ (-1 : Int) →
                            ((0 : Int) ≤ (-1 : Int) ∧ (-1 : Int) < (↑x.4 : Int)) ∧
                              (0 : Nat) < x.3 ∧
                                atF q kind (List.getD x.5 (0 : Nat) (0 : Int)) True ∧
                                  LeftG (70 : Nat) b (fun (x v' : Go.Value) (L' : Go.Sx.Blks) => QAt q v' L') (Go.Value.bool Bool.true)
                                    ((b, Go.Sx.Blk.cells [Go.Value.slice (Option.some { block := x.1, off := x.2 * (2 : Nat) }) x.4 x.3] (70 : Go.TypeId)) ::
                                      (x.7 ++
                                        [(x.1, Go.Sx.Blk.tab (150 : Go.TypeId) x.2 x.3 [Go.Sx.Col.ints Go.IntKind.u64 x.5, Go.Sx.Col.ints Go.IntKind.i64 x.6]),
                                          (b_1, Go.Sx.Blk.cells [Go.Value.int Go.IntKind.i64 kind] (3 : Nat))]))) ∧
                          (¬(0 : Int) ≤ (-1 : Int) →
                            atF q kind (0 : Int) False ∧
                              LeftG (70 : Nat) b (fun (x v' : Go.Value) (L' : Go.Sx.Blks) => QAt q v' L') (Go.Value.bool Bool.true)
                                ((b, Go.Sx.Blk.cells [Go.Value.slice (Option.some { block := x.1, off := x.2 * (2 : Nat) }) x.4 x.3] (70 : Go.TypeId)) ::
                                  (x.7 ++
                                    [(x.1, Go.Sx.Blk.tab (150 : Go.TypeId) x.2 x.3 [Go.Sx.Col.ints Go.IntKind.u64 x.5, Go.Sx.Col.ints Go.IntKind.i64 x.6]),
                                      (b_1, Go.Sx.Blk.cells [Go.Value.int Go.IntKind.i64 kind] (3 : Nat))])))) := by
  simp only [eq_self, true_and, and_true, false_and, and_false, or_false, false_or, and_self, Nat.zero_add, Nat.add_zero, Nat.sub_zero, Nat.zero_mul, Nat.mul_one, Int.toNat_natCast, cond_true, cond_false, forall_const, implies_true, Nat.beq_refl, ne_eq, not_false_eq_true, not_true_eq_false, Classical.not_not, List.cons.injEq, List.append_nil, List.nil_append, Go.Value.int.injEq, Go.Value.bool.injEq, Go.Value.slice.injEq, Nat.le_refl, Nat.zero_le, Go.Sx.one_int, Go.Sx.one_bool, Go.Sx.one_slice, Go.Sx.one_ptr, Go.Sx.one_map, Int.cast_ofNat_Int, reduceCtorEq, Nat.reduceLeDiff, Nat.reduceMul, Nat.reduceAdd, Nat.reduceSub, Nat.reduceEqDiff, Int.reduceLE, Int.reduceLT, Int.reduceEq, Int.reduceAdd, Int.reduceSub, Int.reduceNeg, Int.reduceMul, Nat.reduceBEq]
  rcases hQ with ⟨rfl, rfl⟩ | ⟨b1, base, cap, xs, ys, G, rfl, g1, g2, g3, g4, g5, hp⟩
  · refine .inl ⟨(), ⟨[], by simp⟩, fun b1 => ⟨0, ⟨rfl, Nat.le_refl _, fun k r hk => by omega⟩, fun x ⟨h1, h2⟩ => ⟨fun h => by omega, fun _ => ⟨fun h => h, ⟨fun _ => ⟨rfl, by simp⟩, fun h => h.elim⟩, _, _, .inl ⟨rfl, rfl⟩, List.Perm.refl _⟩⟩⟩⟩
  · refine .inr ⟨⟨b1, base, cap, q.length, xs, ys, G⟩, ⟨[], by rw [List.append_nil]; exact view_perm hp⟩, fun b2 => ⟨0, ⟨rfl, Nat.zero_le _, fun k r hk => by omega⟩, fun i ⟨hi, hk⟩ => ⟨fun hlt => ?_, fun hge => ?_⟩⟩⟩
    · have hlt : (i : Int) < (q.length : Int) := hlt
      have hir : i < q.length := by omega
      have e1 := col_snd g5 hir
      have e2 := col_fst g4 hir
      simp only [e1, e2, ix_succ hir hb]
      refine ⟨⟨by omega, hlt⟩, by omega, by omega, fun b3 => ⟨fun he => ⟨fun _ => ⟨⟨by omega, hlt⟩, by omega, ⟨fun h => absurd trivial h, fun _ => ⟨q[i], List.getElem_mem hir, he, rfl⟩⟩, _, _, .inr ⟨b1, base, cap, xs, ys, G ++ [(b2, .cells [.int .i64 kind] 3), (b3, .cells [.int .u64 q[i].1, .int .i64 q[i].2] 150)], rfl, g1, g2, g3, g4, g5, ?_⟩, List.Perm.refl _⟩, fun h => by omega⟩, fun he => ⟨i + 1, by omega, rfl, hir, fun k r hk' hr => ?_⟩⟩⟩
      · exact List.perm_middle
      · by_cases hki : k = i
        · subst hki
          rw [List.getElem?_eq_getElem hir] at hr
          cases hr
          exact he
        · exact hk k r (by omega) hr
    · refine ⟨fun h => h, ⟨fun _ => ⟨rfl, fun r hr => ?_⟩, fun h => h.elim⟩, _, _, .inr ⟨b1, base, cap, xs, ys, G ++ [(b2, .cells [.int .i64 kind] 3)], rfl, g1, g2, g3, g4, g5, List.perm_middle⟩, List.Perm.refl _⟩
      obtain ⟨k, hk2⟩ := List.mem_iff_getElem?.1 hr
      exact hk k r (by have := (List.getElem?_eq_some_iff.1 hk2).1; have hge : ¬ (i : Int) < (q.length : Int) := hge; omega) hk2
theorem ta_goal (b : Nat) (kind : Int) (q : List Row) (v : Value) (L : Blks) (hQ : QAt q v L) (hb : q.length < 1000000) : taGoal b kind q v L := Eq.mpr (by kernel_rfl) (ta_vc b kind q v L hQ hb)
noncomputable def atTT : Trans := cellG (A := NX) 70 retN (fun (x : KX) vs v L => vs = [.int .i64 x.kind] ∧ QRep x.S v L ∧ x.S.length < 1000000) fun x y v' L' => atF x.S x.kind y.a y.p ∧ QRep x.S v' L'
theorem atF.perm {q S : List Row} {kind a : Int} {p : Prop} (h : atF q kind a p) (hp : q.Perm S) : atF S kind a p :=
  ⟨fun hn => ⟨(h.1 hn).1, fun r hr => (h.1 hn).2 r (hp.mem_iff.2 hr)⟩, fun hpp => by obtain ⟨r, h1, h2⟩ := h.2 hpp; exact ⟨r, hp.mem_iff.1 h1, h2⟩⟩
theorem atTT_sound : SoundT Go.Proofs.Try.prog 36 atTT := cellG_sound (val := nxVal) enters36 retN_den (fun a => by simp [retN]) (fun x a v L ⟨_, h⟩ => h.sl) fun ⟨S, kind, at_⟩ vs b v L ⟨h1, ⟨q, h2, h3, h4⟩, h5⟩ => by
  subst h1
  have hl := h2.length_eq
  have h5 : S.length < 1000000 := h5
  refine run_own (run_with no_contracts _ _ _ _ _) (fun r => rfl) (ta_goal b kind q v L h4 (by omega)) fun s h' hk => ?_
  split at hk
  · rename_i a p0
    obtain ⟨p, ⟨e1, e2⟩, hd⟩ := bOf_spec hk (locs h')
    exact e2.to fun v' L1 h => ⟨⟨a, p⟩, by simp only [den, denL, hd, nxVal], e1.perm h2, q, h2, h3, h⟩
  · exact hk.elim
noncomputable def tbl3T : List (FuncId × Trans) := (33, fsetT) :: (34, fstopT) :: (35, fdueT) :: (36, atTT) :: tbl2T
theorem tbl3_sound : ∀ p ∈ tbl3T, SoundT Go.Proofs.Try.prog p.1 p.2 := by
  intro p hp
  simp only [tbl3T, List.mem_cons] at hp
  rcases hp with rfl | rfl | rfl | rfl | hp
  · exact fsetT_sound
  · exact fstopT_sound
  · exact fdueT_sound
  · exact atTT_sound
  · exact tbl2_sound p (by simpa using hp)
end Go.Proofs.Ythkcfocoekonjaa
