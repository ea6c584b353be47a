/- Timers: the law TimerPlays. -/
import Derived.Test.YthkcfocoekonjaaTmS
set_option maxRecDepth 100000
set_option linter.unusedVariables false
set_option linter.unusedSimpArgs false
namespace Go.Proofs.Ythkcfocoekonjaa
open Go Go.Sx
attribute [local irreducible] Go.Sx.xrun

structure PlX where
  i : Nat
  va : Sl
  vb : Sl
  L : Blks
def plInv (n : Nat) (x : PlX) : Prop := x.i ≤ n ∧ x.i ≤ 100 ∧ ∃ L1 L2 G S T, x.L.Perm (L1 ++ (L2 ++ G)) ∧ QRep S (.slice x.va.o x.va.l x.va.c) L1 ∧ FAt T (.slice x.vb.o x.vb.l x.vb.c) L2 ∧ S.Perm T ∧ T.Pairwise rle ∧ KN T ∧ T.length ≤ x.i
def plMid (x0 x : PlX) : Prop := ∃ L1 L2 G S T, x.L.Perm (L1 ++ (L2 ++ G)) ∧ QRep S (.slice x.va.o x.va.l x.va.c) L1 ∧ FAt T (.slice x.vb.o x.vb.l x.vb.c) L2 ∧ S.Perm T ∧ T.Pairwise rle ∧ KN T ∧ T.length ≤ x0.i + 1
structure ScX where
  T : List Row
  kind : Int
  k : Nat
  w : Int
  d : Bool
def scInv (x0 x : ScX) : Prop := x.T = x0.T ∧ x.kind = x0.kind ∧ x.k ≤ x.T.length ∧ (x.d = true ↔ ∃ r ∈ x.T.take x.k, r.2 = x.kind) ∧ (x.d = false → x.w = 0) ∧ ∀ r ∈ x.T.take x.k, r.2 = x.kind → x.w = r.1
def Ann.cellAt (h : List Ent) (p : Nat) (s : SV) : Ent := match entAt h p with
  | some (.own b (.cells w _ t)) => .own b (.cells w [s] t)
  | _ => .gone (0, 0, 0)
noncomputable def vwL (p n m : Nat) : Cast := .view [
  ⟨Unit, fun _ h => [(p, Ann.cellAt h p (.val (.slice none 0 0)))], fun _ => [.gone (0, 0, 0)], fun _ => []⟩,
  ⟨FX × Nat, fun x h => [(p, Ann.cellAt h p (.slc n x.1.o x.2 x.1.cap)), (m, .chunk x.1.G)], fun x => [.own x.1.b (.tab 90 x.1.base x.1.N [.ints .i64 x.1.ks, .ints .u64 x.1.ats])], fun _ => []⟩]
noncomputable def Ann.tl (len : Nat) : FnAnn := ⟨[(1000028, vwL 3 5 1), (1000036, .view [⟨Sl × (Blks × Go.Sx.Loc), fun x h => [(3, Ann.cellAt h 3 (.val (.slice x.1.o x.1.l x.1.c))), (1, .chunk x.2.1), (5, .gone x.2.2)], fun _ => [], fun _ => []⟩])], [(6, ⟨PlX, [
  (fun σ x => ⟨σ.n, (24, .val (.int .i64 x.i)) :: keepE σ.env [3, 4, 22, 23], Ann.vals (Ann.chunk σ.heap x.L) [x.va, x.vb]⟩, fun _ x => plInv len x)], fun x => len - x.i⟩),
  (1000025, ⟨PlX, [(fun σ x => ⟨σ.n, keepE σ.env [3, 4, 6, 22, 23, 24], Ann.vals (Ann.chunk σ.heap x.L) [x.va, x.vb]⟩, fun x0 x => plMid x0 x)], fun _ => 0⟩),
  (14, ⟨ImX, [(fun σ i => ⟨σ.n, (49, .val (.int .i64 i.i)) :: keepE σ.env [3, 4, 6, 7, 8, 22, 23, 24, 48], σ.heap⟩, fun x0 i => i.m = x0.m ∧ i.i ≤ i.m)], fun i => i.m - i.i⟩),
  (29, ⟨ScX, [(fun σ x => ⟨σ.n, (14, .val (.int .u64 x.w)) :: (15, .val (.bool x.d)) :: (100, .val (.int .i64 x.k)) :: keepE σ.env [3, 4, 6, 10, 11, 12, 13, 22, 23, 24, 98, 99], σ.heap⟩, fun x0 x => scInv x0 x)], fun x => x.T.length - x.k⟩)]⟩
noncomputable def tlGoal (bd : Nat) (ob : Obj) (at_ len cap : Nat) : Prop :=
  xrun Go.Proofs.Try.prog tbl3T [(10, Ann.tl len)] [([], (119, false)), ([], (129, false)), ([], (143, false)), ([], (151, false)), ([], (156, false)), ([], (160, false)), ([], (46, false)), ([], (60, false)), ([], (84, false))] 9 [] 10
    [.slc 0 at_ len cap] [.ro bd (.obj ob), .chunk []] fun s h => bOf s fun p => p
noncomputable def tlNilGoal (oo : Option Addr) (cap : Nat) : Prop :=
  xrun Go.Proofs.Try.prog tbl3T [(10, Ann.tl 0)] [] 9 [] 10 [.val (.slice oo 0 cap)] [.gone (0, 0, 0), .chunk []] fun s h => bOf s fun p => p

theorem insR_perm (a : Row) : ∀ T : List Row, (insR a T).Perm (a :: T)
  | [] => List.Perm.refl _
  | x :: r => by
    unfold insR
    split
    · exact List.Perm.refl _
    · exact ((insR_perm a r).cons x).trans (List.Perm.swap a x r)
theorem insR_sorted {a : Row} : ∀ {T : List Row}, T.Pairwise rle → (insR a T).Pairwise rle
  | [], _ => by simp [insR]
  | x :: r, h => by
    unfold insR
    have hx := List.pairwise_cons.1 h
    split
    · rename_i hl
      have hl : rlt a x := hl
      refine List.pairwise_cons.2 ⟨fun c hc => ?_, h⟩
      rcases List.mem_cons.1 hc with rfl | hc
      · exact rle_of_lt hl
      · exact rle_trans (rle_of_lt hl) (hx.1 c hc)
    · rename_i hl
      have hl : ¬ rlt a x := hl
      refine List.pairwise_cons.2 ⟨fun c hc => ?_, insR_sorted hx.2⟩
      rcases List.mem_cons.1 ((insR_perm a r).mem_iff.1 hc) with rfl | hc
      · exact not_rlt.1 hl
      · exact hx.1 c hc
theorem fl_sorted {k : Int} {T : List Row} (h : T.Pairwise rle) : (fl k T).Pairwise rle := h.sublist List.filter_sublist
theorem fl_kn {k : Int} {T : List Row} (h : KN T) : KN (fl k T) := (List.filter_sublist.map _).nodup h
theorem fl_perm {k : Int} {S T : List Row} (h : S.Perm T) : (fl k S).Perm (fl k T) := h.filter _
theorem set_law {k at_ : Int} {S S' T : List Row} (h : SetP k at_ S S') (p : S.Perm T) (hs : T.Pairwise rle) (hk : KN T) :
    S'.Perm (insR (at_, k) (fl k T)) ∧ (insR (at_, k) (fl k T)).Pairwise rle ∧ KN (insR (at_, k) (fl k T)) ∧ (insR (at_, k) (fl k T)).length ≤ T.length + 1 := by
  have hkS : KN S := (p.map _).nodup_iff.2 hk
  have e := insR_perm (at_, k) (fl k T)
  refine ⟨(set_filter h hkS).trans (((fl_perm p).cons _).trans e.symm), insR_sorted (fl_sorted hs), ((e.map _).nodup_iff).2 (kn_filter hk), ?_⟩
  rw [e.length_eq, List.length_cons]
  exact Nat.succ_le_succ (fl_len k T)
theorem fl_all {k : Int} {T : List Row} (h : ∀ r ∈ T, r.2 ≠ k) : fl k T = T := by
  unfold fl
  exact List.filter_eq_self.2 fun r hr => decide_eq_true (h r hr)
theorem stop_law {k : Int} {S S' T : List Row} {p : Prop} (h : StopP k S p S') (hp : S.Perm T) (hk : KN T) : S'.Perm (fl k T) ∧ (p ↔ (fl k T).length < T.length) := by
  by_cases hpp : p
  · obtain ⟨r, e1, e2⟩ := h.2 hpp
    have hk2 : KN (r :: S') := ((e2.symm.trans hp).map _).nodup_iff.2 hk
    unfold KN at hk2
    simp only [List.map_cons, List.nodup_cons] at hk2
    have h3 : (fl k T).Perm S' := by
      refine (fl_perm (hp.symm.trans e2)).trans ?_
      unfold fl
      rw [List.filter_cons_of_neg (by simp [e1]), List.filter_eq_self.2 fun c hc => ?_]
      exact decide_eq_true fun h => hk2.1 (by rw [e1, ← h]; exact List.mem_map_of_mem hc)
    have h4 := (hp.symm.trans e2).length_eq
    have h5 := h3.length_eq
    simp only [List.length_cons] at h4
    exact ⟨h3.symm, fun _ => by omega, fun _ => hpp⟩
  · obtain ⟨rfl, e⟩ := h.1 hpp
    have e1 := fl_all (k := k) (T := T) fun r hr => e r (hp.mem_iff.2 hr)
    rw [e1]
    exact ⟨hp, fun h => absurd h hpp, fun h => absurd h (Nat.lt_irrefl _)⟩
theorem sorted_drop {T : List Row} (h : T.Pairwise rle) {i : Nat} {now : Int} (hh : ∀ r, (T.drop i).head? = some r → now < r.1) : ∀ c ∈ T.drop i, now < c.1 := by
  intro c hc
  cases hd : T.drop i with
  | nil => rw [hd] at hc; simp at hc
  | cons r l =>
    have h1 := hh r (by rw [hd]; rfl)
    rw [hd] at hc
    rcases List.mem_cons.1 hc with rfl | hc
    · exact h1
    · have h2 := h.sublist (List.drop_sublist i T)
      rw [hd] at h2
      have h3 := (List.pairwise_cons.1 h2).1 c hc
      unfold rle at h3
      omega
theorem due_law {now : Int} {S out S' T o2 T' : List Row} (h : DueP now S out S') (p : S.Perm T) (hs : T.Pairwise rle) (hk : KN T) (h2 : DueF now T o2 T') : out = o2 ∧ S'.Perm T' ∧ T'.Pairwise rle ∧ KN T' ∧ T'.length ≤ T.length := by
  obtain ⟨i, h3, rfl, rfl, h4⟩ := h2
  obtain ⟨e1, e2⟩ := due_eval h (p.trans (by rw [List.take_append_drop])) (hs.sublist (List.take_sublist i T)) h3.2 (sorted_drop hs h4)
  exact ⟨e1, e2, hs.sublist (List.drop_sublist i T), ((List.drop_sublist i T).map _).nodup hk, (List.drop_sublist i T).length_le⟩
theorem nx_law {S T : List Row} {a : Int} {p : Prop} (h : nxF S a p) (hp : S.Perm T) (hs : T.Pairwise rle) : (p ↔ 0 < T.length) ∧ (¬ p → a = 0) ∧ ∀ h : 0 < T.length, a = T[0].1 := by
  have hl := hp.length_eq
  have key : p → ∀ h : 0 < T.length, a = T[0].1 := fun hpp h0 => by
    obtain ⟨r, h1, h2, h3⟩ := h.2 hpp
    have e1 := h3 T[0] (hp.mem_iff.2 (List.getElem_mem h0))
    obtain ⟨j, hj, e2⟩ := List.getElem_of_mem (hp.mem_iff.1 h1)
    rcases Nat.eq_zero_or_pos j with rfl | hj0
    · rw [e2, h2]
    · have e3 := List.pairwise_iff_getElem.1 hs 0 j h0 hj hj0
      rw [e2] at e3
      unfold rle at e3
      omega
  by_cases hpp : p
  · obtain ⟨r, h1, -⟩ := h.2 hpp
    have : 0 < T.length := List.length_pos_of_mem (hp.mem_iff.1 h1)
    exact ⟨⟨fun _ => this, fun _ => hpp⟩, fun h => absurd hpp h, key hpp⟩
  · obtain ⟨rfl, h2⟩ := h.1 hpp
    have : T.length = 0 := by simpa using hl.symm
    exact ⟨⟨fun h => absurd h hpp, fun h => by omega⟩, fun _ => h2, fun h => by omega⟩
theorem at_law {S T : List Row} {kind a w : Int} {p : Prop} {d : Bool} (h : atF S kind a p) (hp : S.Perm T) (h1 : d = true ↔ ∃ r ∈ T, r.2 = kind) (h2 : d = false → w = 0) (h3 : ∀ r ∈ T, r.2 = kind → w = r.1) : a = w ∧ (p ↔ d = true) := by
  by_cases hpp : p
  · obtain ⟨r, e1, e2, e3⟩ := h.2 hpp
    have hr := hp.mem_iff.1 e1
    exact ⟨by rw [h3 r hr e2, e3], fun _ => h1.2 ⟨r, hr, e2⟩, fun _ => hpp⟩
  · obtain ⟨e1, e2⟩ := h.1 hpp
    have hd : ¬ d = true := fun hd => by
      obtain ⟨r, hr, e⟩ := h1.1 hd
      exact e2 r (hp.mem_iff.2 hr) e
    exact ⟨by rw [h2 (by simpa using hd), e1], fun h => absurd h hpp, fun h => absurd h hd⟩
theorem exists_take {T : List Row} {kind : Int} {i : Nat} (hi : i < T.length) : (∃ r ∈ T.take (i + 1), r.2 = kind) ↔ (∃ r ∈ T.take i, r.2 = kind) ∨ T[i].2 = kind := by
  rw [take_succ' hi]
  constructor
  · rintro ⟨r, h1, h2⟩
    rcases List.mem_append.1 h1 with h1 | h1
    · exact .inl ⟨r, h1, h2⟩
    · rw [List.mem_singleton.1 h1] at h2; exact .inr h2
  · rintro (⟨r, h1, h2⟩ | h)
    · exact ⟨r, List.mem_append_left _ h1, h2⟩
    · exact ⟨_, List.mem_append_right _ (List.mem_singleton_self _), h⟩
theorem kn_one {T : List Row} (hk : KN T) {i : Nat} (hi : i < T.length) : ∀ r ∈ T.take i, r.2 ≠ T[i].2 := by
  intro r hr h
  obtain ⟨j, hj, e⟩ := List.getElem_of_mem hr
  have hj' : j < i := by rw [List.length_take] at hj; omega
  rw [List.getElem_take] at e
  have := List.pairwise_iff_getElem.1 hk j i (by simp; omega) (by simpa using hi) hj'
  simp only [List.getElem_map, e] at this
  exact this h
/-- The script, cell by cell. -/
def OpsAt (ob : Obj) (at_ len : Nat) (ks fs ats : List Int) : Prop := ∀ i, i < len → objCell ob (at_ + i * 3) = some (.int .i64 (ks.getD i 0)) ∧ objCell ob (at_ + i * 3 + 1) = some (.int .i64 (fs.getD i 0)) ∧ objCell ob (at_ + i * 3 + 1 + 1) = some (.int .u64 (ats.getD i 0))
theorem tl_vc (bd : Nat) (ob : Obj) (at_ len cap : Nat) (ks fs ats : List Int) (ho : OpsAt ob at_ len ks fs ats) (hm : len < 9223372036854775808) :
    ∃ (x : Unit),
  ∃ (L : List (Nat × Go.Sx.Blk)),
    ∃ (G : List (Nat × Go.Sx.Blk)),
      List.Perm [] (L ++ G) ∧
        ((0 : Nat) = (0 : Nat) ∧ L = []) ∧
          ∀ (a : Unit) (L' : List (Nat × Go.Sx.Blk)),
            a = () →
              ∀ (b b_1 : Nat),
                ∃ (x0 : PlX),
                  ((((0 : Int) = (↑x0.1 : Int) ∧
                          ((0 : Nat) = (0 : Nat) ∧ (0 : Nat) = (0 : Nat)) ∧
                            ((0 : Nat) = (0 : Nat) ∧ (0 : Nat) = (0 : Nat)) ∧ (at_ = at_ ∧ len = len ∧ cap = cap) ∧ (↑len : Int) = (↑len : Int) ∧ True) ∧
                        (bd = bd ∧ ob = ob) ∧
                          L' ++ G = x0.4 ∧
                            (b = b ∧ Go.Value.slice Option.none (0 : Nat) (0 : Nat) = Go.Value.slice x0.2.1 x0.2.2 x0.2.3 ∧ True) ∧
                              (b_1 = b_1 ∧ Go.Value.slice Option.none (0 : Nat) (0 : Nat) = Go.Value.slice x0.3.1 x0.3.2 x0.3.3 ∧ True) ∧ True) ∧
                      plInv len x0) ∧
                    ∀ (x : PlX),
                      plInv len x →
                        ((↑x.1 : Int) < (↑len : Int) →
                            ((0 : Int) ≤ (↑x.1 : Int) ∧ (↑x.1 : Int) < (↑len : Int)) ∧
                              ∃ (z : Int),
                                Go.Sx.objCell ob (at_ + x.1 * (3 : Nat)) = Option.some (Go.Value.int Go.IntKind.i64 z) ∧
                                  ∃ (z_1 : Int),
                                    Go.Sx.objCell ob (at_ + x.1 * (3 : Nat) + (1 : Nat)) = Option.some (Go.Value.int Go.IntKind.i64 z_1) ∧
                                      ∃ (z_2 : Int),
                                        Go.Sx.objCell ob (at_ + x.1 * (3 : Nat) + (1 : Nat) + (1 : Nat)) = Option.some (Go.Value.int Go.IntKind.u64 z_2) ∧
                                          ∀ (b_2 : Nat),
                                            Go.Value.oneCell' (Go.Value.int Go.IntKind.i64 z) = Bool.true ∧
                                              Go.Value.oneCell' (Go.Value.int Go.IntKind.i64 z_1) = Bool.true ∧
                                                Go.Value.oneCell' (Go.Value.int Go.IntKind.u64 z_2) = Bool.true ∧
                                                  ((100 : Int) ≤ (↑x.1 : Int) → True) ∧
                                                    (¬(100 : Int) ≤ (↑x.1 : Int) →
                                                      ∃ (x0 : PlX),
                                                        ((3 : Int) ≠ (0 : Int) ∧
                                                            (Int.tmod (Go.IntKind.wrap Go.IntKind.u64 z) (3 : Int) = (0 : Int) →
                                                                ∃ (x_1 : KX),
                                                                  ∃ (L : List (Nat × Go.Sx.Blk)),
                                                                    ∃ (G : List (Nat × Go.Sx.Blk)),
                                                                      List.Perm x.4 (L ++ G) ∧
                                                                        ([Go.Value.int Go.IntKind.i64 z_1, Go.Value.int Go.IntKind.u64 z_2] =
                                                                              [Go.Value.int Go.IntKind.i64 x_1.2, Go.Value.int Go.IntKind.u64 x_1.3] ∧
                                                                            QRep x_1.1 (Go.Value.slice x.2.1 x.2.2 x.2.3) L ∧
                                                                              List.length x_1.1 + (1 : Nat) < (1000000 : Nat)) ∧
                                                                          ∀ (a : Unit) (s : Sl) (L' : List (Nat × Go.Sx.Blk)),
                                                                            (∃ (S' : List Row),
                                                                                SetP x_1.2 x_1.3 x_1.1 S' ∧
                                                                                  QRep S' (Go.Value.slice s.1 s.2 s.3) L') →
                                                                              ∃ (x_2 : KX),
                                                                                ∃ (L : List (Nat × Go.Sx.Blk)),
                                                                                  ∃ (G_1 : List (Nat × Go.Sx.Blk)),
                                                                                    List.Perm (L' ++ G) (L ++ G_1) ∧
                                                                                      ([Go.Value.int Go.IntKind.i64 z_1, Go.Value.int Go.IntKind.u64 z_2] =
                                                                                            [Go.Value.int Go.IntKind.i64 x_2.2, Go.Value.int Go.IntKind.u64 x_2.3] ∧
                                                                                          FAt x_2.1 (Go.Value.slice x.3.1 x.3.2 x.3.3) L ∧
                                                                                            List.length x_2.1 < (1000000 : Nat)) ∧
                                                                                        ∀ (a : Unit) (s_1 : Sl) (L' : List (Nat × Go.Sx.Blk)),
                                                                                          FAt
                                                                                              (insR (x_2.3, x_2.2) (fl x_2.2 x_2.1))
                                                                                              (Go.Value.slice s_1.1 s_1.2 s_1.3) L' →
                                                                                            ∃ (y : PlX),
                                                                                              ((((0 : Nat) = (0 : Nat) ∧ (0 : Nat) = (0 : Nat)) ∧
                                                                                                    ((0 : Nat) = (0 : Nat) ∧ (0 : Nat) = (0 : Nat)) ∧
                                                                                                      ((0 : Nat) = (0 : Nat) ∧ (0 : Nat) = (0 : Nat)) ∧
                                                                                                        (at_ = at_ ∧ len = len ∧ cap = cap) ∧
                                                                                                          (↑len : Int) = (↑len : Int) ∧ (↑x.1 : Int) = (↑x.1 : Int) ∧ True) ∧
                                                                                                  (bd = bd ∧ ob = ob) ∧
                                                                                                    L' ++ G_1 = y.4 ∧
                                                                                                      (b = b ∧ Go.Value.slice s.1 s.2 s.3 = Go.Value.slice y.2.1 y.2.2 y.2.3 ∧ True) ∧
                                                                                                        (b_1 = b_1 ∧ Go.Value.slice s_1.1 s_1.2 s_1.3 = Go.Value.slice y.3.1 y.3.2 y.3.3 ∧ True) ∧
                                                                                                          (b_2 = b_2 ∧ z = z ∧ z_1 = z_1 ∧ z_2 = z_2 ∧ True) ∧ True) ∧
                                                                                                plMid x0 y) ∧
                                                              (¬Int.tmod (Go.IntKind.wrap Go.IntKind.u64 z) (3 : Int) = (0 : Int) →
                                                                (Int.tmod (Go.IntKind.wrap Go.IntKind.u64 z) (3 : Int) = (1 : Int) →
                                                                    ∃ (x_1 : KX),
                                                                      ∃ (L : List (Nat × Go.Sx.Blk)),
                                                                        ∃ (G : List (Nat × Go.Sx.Blk)),
                                                                          List.Perm x.4 (L ++ G) ∧
                                                                            ([Go.Value.int Go.IntKind.i64 z_1] = [Go.Value.int Go.IntKind.i64 x_1.2] ∧
                                                                                QRep x_1.1 (Go.Value.slice x.2.1 x.2.2 x.2.3) L ∧ List.length x_1.1 < (1000000 : Nat)) ∧
                                                                              ∀ (a : Prop) (s : Sl) (L' : List (Nat × Go.Sx.Blk)),
                                                                                (∃ (S' : List Row),
                                                                                    StopP x_1.2 x_1.1 a S' ∧
                                                                                      QRep S' (Go.Value.slice s.1 s.2 s.3) L') →
                                                                                  Go.Sx.SV.val (Go.Value.int Go.IntKind.i64 z_1) = Go.Sx.SV.val (Go.Value.int Go.IntKind.i64 z_1) ∧
                                                                                    ∃ (x_2 : KX),
                                                                                      ∃ (L : List (Nat × Go.Sx.Blk)),
                                                                                        ∃ (G_1 : List (Nat × Go.Sx.Blk)),
                                                                                          List.Perm (L' ++ G) (L ++ G_1) ∧
                                                                                            ([Go.Value.int Go.IntKind.i64 z_1] = [Go.Value.int Go.IntKind.i64 x_2.2] ∧
                                                                                                FAt x_2.1 (Go.Value.slice x.3.1 x.3.2 x.3.3) L ∧
                                                                                                  List.length x_2.1 < (1000000 : Nat)) ∧
                                                                                              ∀ (a_2 : Prop) (s_1 : Sl) (L' : List (Nat × Go.Sx.Blk)),
                                                                                                (a_2 ↔ List.length (fl x_2.2 x_2.1) < List.length x_2.1) ∧
                                                                                                    FAt (fl x_2.2 x_2.1)
                                                                                                      (Go.Value.slice s_1.1 s_1.2 s_1.3) L' →
                                                                                                  ¬¬(a ↔ a_2) ∧
                                                                                                    ∃ (y : PlX),
                                                                                                      ((((0 : Nat) = (0 : Nat) ∧ (0 : Nat) = (0 : Nat)) ∧
                                                                                                            ((0 : Nat) = (0 : Nat) ∧ (0 : Nat) = (0 : Nat)) ∧
                                                                                                              ((0 : Nat) = (0 : Nat) ∧ (0 : Nat) = (0 : Nat)) ∧
                                                                                                                (at_ = at_ ∧ len = len ∧ cap = cap) ∧
                                                                                                                  (↑len : Int) = (↑len : Int) ∧ (↑x.1 : Int) = (↑x.1 : Int) ∧ True) ∧
                                                                                                          (bd = bd ∧ ob = ob) ∧
                                                                                                            L' ++ G_1 = y.4 ∧
                                                                                                              (b = b ∧ Go.Value.slice s.1 s.2 s.3 = Go.Value.slice y.2.1 y.2.2 y.2.3 ∧ True) ∧
                                                                                                                (b_1 = b_1 ∧
                                                                                                                    Go.Value.slice s_1.1 s_1.2 s_1.3 = Go.Value.slice y.3.1 y.3.2 y.3.3 ∧ True) ∧
                                                                                                                  (b_2 = b_2 ∧ z = z ∧ z_1 = z_1 ∧ z_2 = z_2 ∧ True) ∧ True) ∧
                                                                                                        plMid x0 y) ∧
                                                                  (¬Int.tmod (Go.IntKind.wrap Go.IntKind.u64 z) (3 : Int) = (1 : Int) →
                                                                    ∃ (S : List Row),
                                                                      ∃ (L : List (Nat × Go.Sx.Blk)),
                                                                        ∃ (G : List (Nat × Go.Sx.Blk)),
                                                                          List.Perm x.4 (L ++ G) ∧
                                                                            (QRep S (Go.Value.slice x.2.1 x.2.2 x.2.3) L ∧ List.length S < (1000000 : Nat)) ∧
                                                                              (∀ (S' : List Row) (s : Sl) (L' : List (Nat × Go.Sx.Blk)),
                                                                                  DueP z_2 S [] S' →
                                                                                    QRep S' (Go.Value.slice s.1 s.2 s.3) L' →
                                                                                      Go.Sx.SV.val (Go.Value.int Go.IntKind.u64 z_2) = Go.Sx.SV.val (Go.Value.int Go.IntKind.u64 z_2) ∧
                                                                                        ∃ (x_1 : KX),
                                                                                          ∃ (L : List (Nat × Go.Sx.Blk)),
                                                                                            ∃ (G_1 : List (Nat × Go.Sx.Blk)),
                                                                                              List.Perm (L' ++ G) (L ++ G_1) ∧
                                                                                                ([Go.Value.int Go.IntKind.u64 z_2] = [Go.Value.int Go.IntKind.u64 x_1.3] ∧
                                                                                                    FAt x_1.1 (Go.Value.slice x.3.1 x.3.2 x.3.3) L ∧
                                                                                                      List.length x_1.1 < (1000000 : Nat)) ∧
                                                                                                  (∀ (s_1 : Sl) (L' : List (Nat × Go.Sx.Blk)),
                                                                                                      (∃ (out : List Row),
                                                                                                          ∃ (S' : List Row),
                                                                                                            [] = List.map (fun (x : Row) => x.2) out ∧
                                                                                                              DueF x_1.3 x_1.1 out S' ∧
                                                                                                                FAt S' (Go.Value.slice s_1.1 s_1.2 s_1.3) L') →
                                                                                                        ¬(↑(0 : Nat) : Int) ≠ (↑(0 : Nat) : Int) ∧
                                                                                                          ∃ (x0_1 : ImX),
                                                                                                            ((((0 : Int) = (↑x0_1.1 : Int) ∧
                                                                                                                    ((0 : Nat) = (0 : Nat) ∧ (0 : Nat) = (0 : Nat)) ∧
                                                                                                                      ((0 : Nat) = (0 : Nat) ∧ (0 : Nat) = (0 : Nat)) ∧
                                                                                                                        ((0 : Nat) = (0 : Nat) ∧ (0 : Nat) = (0 : Nat)) ∧
                                                                                                                          Go.Value.slice Option.none (0 : Nat) (0 : Nat) =
                                                                                                                              Go.Value.slice Option.none (0 : Nat) (0 : Nat) ∧
                                                                                                                            Go.Value.slice Option.none (0 : Nat) (0 : Nat) =
                                                                                                                                Go.Value.slice Option.none (0 : Nat) (0 : Nat) ∧
                                                                                                                              (at_ = at_ ∧ len = len ∧ cap = cap) ∧
                                                                                                                                (↑len : Int) = (↑len : Int) ∧
                                                                                                                                  (↑x.1 : Int) = (↑x.1 : Int) ∧
                                                                                                                                    (↑(0 : Nat) : Int) = (↑(0 : Nat) : Int) ∧ True) ∧
                                                                                                                  (bd = bd ∧ ob = ob) ∧
                                                                                                                    L' ++ G_1 = L' ++ G_1 ∧
                                                                                                                      (b = b ∧ Go.Value.slice s.1 s.2 s.3 = Go.Value.slice s.1 s.2 s.3 ∧ True) ∧
                                                                                                                        (b_1 = b_1 ∧
                                                                                                                            Go.Value.slice s_1.1 s_1.2 s_1.3 = Go.Value.slice s_1.1 s_1.2 s_1.3 ∧
                                                                                                                              True) ∧
                                                                                                                          (b_2 = b_2 ∧ z = z ∧ z_1 = z_1 ∧ z_2 = z_2 ∧ True) ∧ True) ∧
                                                                                                                x0_1.2 = x0_1.2 ∧ x0_1.1 ≤ x0_1.2) ∧
                                                                                                              ∀ (x_2 : ImX),
                                                                                                                x_2.2 = x0_1.2 ∧ x_2.1 ≤ x_2.2 →
                                                                                                                  ((↑x_2.1 : Int) < (↑(0 : Nat) : Int) → False) ∧
                                                                                                                    (¬(↑x_2.1 : Int) < (↑(0 : Nat) : Int) →
                                                                                                                      ∃ (y : PlX),
                                                                                                                        ((((0 : Nat) = (0 : Nat) ∧ (0 : Nat) = (0 : Nat)) ∧
                                                                                                                              ((0 : Nat) = (0 : Nat) ∧ (0 : Nat) = (0 : Nat)) ∧
                                                                                                                                ((0 : Nat) = (0 : Nat) ∧ (0 : Nat) = (0 : Nat)) ∧
                                                                                                                                  (at_ = at_ ∧ len = len ∧ cap = cap) ∧
                                                                                                                                    (↑len : Int) = (↑len : Int) ∧ (↑x.1 : Int) = (↑x.1 : Int) ∧ True) ∧
                                                                                                                            (bd = bd ∧ ob = ob) ∧
                                                                                                                              L' ++ G_1 = y.4 ∧
                                                                                                                                (b = b ∧
                                                                                                                                    Go.Value.slice s.1 s.2 s.3 = Go.Value.slice y.2.1 y.2.2 y.2.3 ∧
                                                                                                                                      True) ∧
                                                                                                                                  (b_1 = b_1 ∧
                                                                                                                                      Go.Value.slice s_1.1 s_1.2 s_1.3 =
                                                                                                                                          Go.Value.slice y.3.1 y.3.2 y.3.3 ∧
                                                                                                                                        True) ∧
                                                                                                                                    (b_2 = b_2 ∧ z = z ∧ z_1 = z_1 ∧ z_2 = z_2 ∧ True) ∧ True) ∧
                                                                                                                          plMid x0 y)) ∧
                                                                                                    ∀ (ks : List Int) (s_1 : Sl) (L' : List (Nat × Go.Sx.Blk))
                                                                                                      (b' base' cap' : Nat) (zs' : List Int),
                                                                                                      (∃ (out : List Row),
                                                                                                          ∃ (S' : List Row),
                                                                                                            ks = List.map (fun (x : Row) => x.2) out ∧
                                                                                                              DueF x_1.3 x_1.1 out S' ∧
                                                                                                                FAt S' (Go.Value.slice s_1.1 s_1.2 s_1.3) L') →
                                                                                                        (0 : Nat) < List.length ks →
                                                                                                          List.length ks ≤ cap' →
                                                                                                            List.length zs' = cap' →
                                                                                                              List.take (List.length ks) zs' = ks →
                                                                                                                ¬(↑(0 : Nat) : Int) ≠ (↑(List.length ks) : Int) ∧
                                                                                                                  ∃ (x0_1 : ImX),
                                                                                                                    ((((0 : Int) = (↑x0_1.1 : Int) ∧
                                                                                                                            ((0 : Nat) = (0 : Nat) ∧ (0 : Nat) = (0 : Nat)) ∧
                                                                                                                              ((0 : Nat) = (0 : Nat) ∧ (0 : Nat) = (0 : Nat)) ∧
                                                                                                                                ((0 : Nat) = (0 : Nat) ∧ (0 : Nat) = (0 : Nat)) ∧
                                                                                                                                  Go.Value.slice Option.none (0 : Nat) (0 : Nat) =
                                                                                                                                      Go.Value.slice Option.none (0 : Nat) (0 : Nat) ∧
                                                                                                                                    ((0 : Nat) = (0 : Nat) ∧
                                                                                                                                        List.length ks = List.length ks ∧ cap' = cap') ∧
                                                                                                                                      (at_ = at_ ∧ len = len ∧ cap = cap) ∧
                                                                                                                                        (↑len : Int) = (↑len : Int) ∧
                                                                                                                                          (↑x.1 : Int) = (↑x.1 : Int) ∧
                                                                                                                                            (↑(0 : Nat) : Int) = (↑(0 : Nat) : Int) ∧ True) ∧
                                                                                                                          (bd = bd ∧ ob = ob) ∧
                                                                                                                            L' ++ G_1 = L' ++ G_1 ∧
                                                                                                                              (b = b ∧ Go.Value.slice s.1 s.2 s.3 = Go.Value.slice s.1 s.2 s.3 ∧ True) ∧
                                                                                                                                (b_1 = b_1 ∧
                                                                                                                                    Go.Value.slice s_1.1 s_1.2 s_1.3 =
                                                                                                                                        Go.Value.slice s_1.1 s_1.2 s_1.3 ∧
                                                                                                                                      True) ∧
                                                                                                                                  (b_2 = b_2 ∧ z = z ∧ z_1 = z_1 ∧ z_2 = z_2 ∧ True) ∧
                                                                                                                                    (b' = b' ∧ base' = base' ∧ cap' = cap' ∧ zs' = zs' ∧ True) ∧ True) ∧
                                                                                                                        x0_1.2 = x0_1.2 ∧ x0_1.1 ≤ x0_1.2) ∧
                                                                                                                      ∀ (x_2 : ImX),
                                                                                                                        x_2.2 = x0_1.2 ∧ x_2.1 ≤ x_2.2 →
                                                                                                                          ((↑x_2.1 : Int) < (↑(0 : Nat) : Int) → False) ∧
                                                                                                                            (¬(↑x_2.1 : Int) < (↑(0 : Nat) : Int) →
                                                                                                                              ∃ (y : PlX),
                                                                                                                                ((((0 : Nat) = (0 : Nat) ∧ (0 : Nat) = (0 : Nat)) ∧
                                                                                                                                      ((0 : Nat) = (0 : Nat) ∧ (0 : Nat) = (0 : Nat)) ∧
                                                                                                                                        ((0 : Nat) = (0 : Nat) ∧ (0 : Nat) = (0 : Nat)) ∧
                                                                                                                                          (at_ = at_ ∧ len = len ∧ cap = cap) ∧
                                                                                                                                            (↑len : Int) = (↑len : Int) ∧
                                                                                                                                              (↑x.1 : Int) = (↑x.1 : Int) ∧ True) ∧
                                                                                                                                    (bd = bd ∧ ob = ob) ∧
                                                                                                                                      L' ++ G_1 = y.4 ∧
                                                                                                                                        (b = b ∧
                                                                                                                                            Go.Value.slice s.1 s.2 s.3 =
                                                                                                                                                Go.Value.slice y.2.1 y.2.2 y.2.3 ∧
                                                                                                                                              True) ∧
                                                                                                                                          (b_1 = b_1 ∧
                                                                                                                                              Go.Value.slice s_1.1 s_1.2 s_1.3 =
                                                                                                                                                  Go.Value.slice y.3.1 y.3.2 y.3.3 ∧
                                                                                                                                                True) ∧
                                                                                                                                            (b_2 = b_2 ∧ z = z ∧ z_1 = z_1 ∧ z_2 = z_2 ∧ True) ∧ True) ∧
                                                                                                                                  plMid x0 y)) ∧
                                                                                ∀ (out S' : List Row) (s : Sl) (L' : List (Nat × Go.Sx.Blk))
                                                                                  (b' base' cap' : Nat) (zs' : List Int),
                                                                                  DueP z_2 S out S' →
                                                                                    QRep S' (Go.Value.slice s.1 s.2 s.3) L' →
                                                                                      (0 : Nat) < List.length out →
                                                                                        List.length out ≤ cap' →
                                                                                          List.length zs' = cap' →
                                                                                            List.take (List.length out) zs' = List.map (fun (x : Row) => x.2) out →
                                                                                              Go.Sx.SV.val (Go.Value.int Go.IntKind.u64 z_2) = Go.Sx.SV.val (Go.Value.int Go.IntKind.u64 z_2) ∧
                                                                                                ∃ (x_1 : KX),
                                                                                                  ∃ (L : List (Nat × Go.Sx.Blk)),
                                                                                                    ∃ (G_1 : List (Nat × Go.Sx.Blk)),
                                                                                                      List.Perm (L' ++ G) (L ++ G_1) ∧
                                                                                                        ([Go.Value.int Go.IntKind.u64 z_2] = [Go.Value.int Go.IntKind.u64 x_1.3] ∧
                                                                                                            FAt x_1.1 (Go.Value.slice x.3.1 x.3.2 x.3.3) L ∧
                                                                                                              List.length x_1.1 < (1000000 : Nat)) ∧
                                                                                                          (∀ (s_1 : Sl) (L' : List (Nat × Go.Sx.Blk)),
                                                                                                              (∃ (out : List Row),
                                                                                                                  ∃ (S' : List Row),
                                                                                                                    [] = List.map (fun (x : Row) => x.2) out ∧
                                                                                                                      DueF x_1.3 x_1.1 out S' ∧
                                                                                                                        FAt S' (Go.Value.slice s_1.1 s_1.2 s_1.3) L') →
                                                                                                                ¬(↑(List.length out) : Int) ≠ (↑(0 : Nat) : Int) ∧
                                                                                                                  ∃ (x0_1 : ImX),
                                                                                                                    ((((0 : Int) = (↑x0_1.1 : Int) ∧
                                                                                                                            ((0 : Nat) = (0 : Nat) ∧ (0 : Nat) = (0 : Nat)) ∧
                                                                                                                              ((0 : Nat) = (0 : Nat) ∧ (0 : Nat) = (0 : Nat)) ∧
                                                                                                                                ((0 : Nat) = (0 : Nat) ∧ (0 : Nat) = (0 : Nat)) ∧
                                                                                                                                  ((0 : Nat) = (0 : Nat) ∧
                                                                                                                                      List.length out = List.length out ∧ cap' = cap') ∧
                                                                                                                                    Go.Value.slice Option.none (0 : Nat) (0 : Nat) =
                                                                                                                                        Go.Value.slice Option.none (0 : Nat) (0 : Nat) ∧
                                                                                                                                      (at_ = at_ ∧ len = len ∧ cap = cap) ∧
                                                                                                                                        (↑len : Int) = (↑len : Int) ∧
                                                                                                                                          (↑x.1 : Int) = (↑x.1 : Int) ∧
                                                                                                                                            (↑(List.length out) : Int) = (↑(List.length out) : Int) ∧
                                                                                                                                              True) ∧
                                                                                                                          (bd = bd ∧ ob = ob) ∧
                                                                                                                            L' ++ G_1 = L' ++ G_1 ∧
                                                                                                                              (b = b ∧ Go.Value.slice s.1 s.2 s.3 = Go.Value.slice s.1 s.2 s.3 ∧ True) ∧
                                                                                                                                (b_1 = b_1 ∧
                                                                                                                                    Go.Value.slice s_1.1 s_1.2 s_1.3 =
                                                                                                                                        Go.Value.slice s_1.1 s_1.2 s_1.3 ∧
                                                                                                                                      True) ∧
                                                                                                                                  (b_2 = b_2 ∧ z = z ∧ z_1 = z_1 ∧ z_2 = z_2 ∧ True) ∧
                                                                                                                                    (b' = b' ∧ base' = base' ∧ cap' = cap' ∧ zs' = zs' ∧ True) ∧ True) ∧
                                                                                                                        x0_1.2 = x0_1.2 ∧ x0_1.1 ≤ x0_1.2) ∧
                                                                                                                      ∀ (x_2 : ImX),
                                                                                                                        x_2.2 = x0_1.2 ∧ x_2.1 ≤ x_2.2 →
                                                                                                                          ((↑x_2.1 : Int) < (↑(List.length out) : Int) →
                                                                                                                              ((0 : Int) ≤ (↑x_2.1 : Int) ∧
                                                                                                                                  (↑x_2.1 : Int) < (↑(List.length out) : Int)) ∧
                                                                                                                                (0 : Nat) + x_2.1 < cap' ∧ False) ∧
                                                                                                                            (¬(↑x_2.1 : Int) < (↑(List.length out) : Int) →
                                                                                                                              ∃ (y : PlX),
                                                                                                                                ((((0 : Nat) = (0 : Nat) ∧ (0 : Nat) = (0 : Nat)) ∧
                                                                                                                                      ((0 : Nat) = (0 : Nat) ∧ (0 : Nat) = (0 : Nat)) ∧
                                                                                                                                        ((0 : Nat) = (0 : Nat) ∧ (0 : Nat) = (0 : Nat)) ∧
                                                                                                                                          (at_ = at_ ∧ len = len ∧ cap = cap) ∧
                                                                                                                                            (↑len : Int) = (↑len : Int) ∧
                                                                                                                                              (↑x.1 : Int) = (↑x.1 : Int) ∧ True) ∧
                                                                                                                                    (bd = bd ∧ ob = ob) ∧
                                                                                                                                      L' ++ G_1 = y.4 ∧
                                                                                                                                        (b = b ∧
                                                                                                                                            Go.Value.slice s.1 s.2 s.3 =
                                                                                                                                                Go.Value.slice y.2.1 y.2.2 y.2.3 ∧
                                                                                                                                              True) ∧
                                                                                                                                          (b_1 = b_1 ∧
                                                                                                                                              Go.Value.slice s_1.1 s_1.2 s_1.3 =
                                                                                                                                                  Go.Value.slice y.3.1 y.3.2 y.3.3 ∧
                                                                                                                                                True) ∧
                                                                                                                                            (b_2 = b_2 ∧ z = z ∧ z_1 = z_1 ∧ z_2 = z_2 ∧ True) ∧ True) ∧
                                                                                                                                  plMid x0 y)) ∧
                                                                                                            ∀ (ks : List Int) (s_1 : Sl) (L' : List (Nat × Go.Sx.Blk))
                                                                                                              (b'_1 base'_1 cap'_1 : Nat) (zs'_1 : List Int),
                                                                                                              (∃ (out : List Row),
                                                                                                                  ∃ (S' : List Row),
                                                                                                                    ks = List.map (fun (x : Row) => x.2) out ∧
                                                                                                                      DueF x_1.3 x_1.1 out S' ∧
                                                                                                                        FAt S' (Go.Value.slice s_1.1 s_1.2 s_1.3) L') →
                                                                                                                (0 : Nat) < List.length ks →
                                                                                                                  List.length ks ≤ cap'_1 →
                                                                                                                    List.length zs'_1 = cap'_1 →
                                                                                                                      List.take (List.length ks) zs'_1 = ks →
                                                                                                                        ¬(↑(List.length out) : Int) ≠ (↑(List.length ks) : Int) ∧
                                                                                                                          ∃ (x0_1 : ImX),
                                                                                                                            ((((0 : Int) = (↑x0_1.1 : Int) ∧
                                                                                                                                    ((0 : Nat) = (0 : Nat) ∧ (0 : Nat) = (0 : Nat)) ∧
                                                                                                                                      ((0 : Nat) = (0 : Nat) ∧ (0 : Nat) = (0 : Nat)) ∧
                                                                                                                                        ((0 : Nat) = (0 : Nat) ∧ (0 : Nat) = (0 : Nat)) ∧
                                                                                                                                          ((0 : Nat) = (0 : Nat) ∧
                                                                                                                                              List.length out = List.length out ∧ cap' = cap') ∧
                                                                                                                                            ((0 : Nat) = (0 : Nat) ∧
                                                                                                                                                List.length ks = List.length ks ∧ cap'_1 = cap'_1) ∧
                                                                                                                                              (at_ = at_ ∧ len = len ∧ cap = cap) ∧
                                                                                                                                                (↑len : Int) = (↑len : Int) ∧
                                                                                                                                                  (↑x.1 : Int) = (↑x.1 : Int) ∧
                                                                                                                                                    (↑(List.length out) : Int) =
                                                                                                                                                        (↑(List.length out) : Int) ∧
                                                                                                                                                      True) ∧
                                                                                                                                  (bd = bd ∧ ob = ob) ∧
                                                                                                                                    L' ++ G_1 = L' ++ G_1 ∧
                                                                                                                                      (b = b ∧
                                                                                                                                          Go.Value.slice s.1 s.2 s.3 = Go.Value.slice s.1 s.2 s.3 ∧
                                                                                                                                            True) ∧
                                                                                                                                        (b_1 = b_1 ∧
                                                                                                                                            Go.Value.slice s_1.1 s_1.2 s_1.3 =
                                                                                                                                                Go.Value.slice s_1.1 s_1.2 s_1.3 ∧
                                                                                                                                              True) ∧
                                                                                                                                          (b_2 = b_2 ∧ z = z ∧ z_1 = z_1 ∧ z_2 = z_2 ∧ True) ∧
                                                                                                                                            (b' = b' ∧ base' = base' ∧ cap' = cap' ∧ zs' = zs' ∧ True) ∧
                                                                                                                                              (b'_1 = b'_1 ∧
                                                                                                                                                  base'_1 = base'_1 ∧
                                                                                                                                                    cap'_1 = cap'_1 ∧ zs'_1 = zs'_1 ∧ True) ∧
                                                                                                                                                True) ∧
                                                                                                                                x0_1.2 = x0_1.2 ∧ x0_1.1 ≤ x0_1.2) ∧
                                                                                                                              ∀ (x_2 : ImX),
                                                                                                                                x_2.2 = x0_1.2 ∧ x_2.1 ≤ x_2.2 →
                                                                                                                                  ((↑x_2.1 : Int) < (↑(List.length out) : Int) →
                                                                                                                                      ((0 : Int) ≤ (↑x_2.1 : Int) ∧
                                                                                                                                          (↑x_2.1 : Int) < (↑(List.length out) : Int)) ∧
                                                                                                                                        (0 : Nat) + x_2.1 < cap' ∧
                                                                                                                                          ((0 : Int) ≤ (↑x_2.1 : Int) ∧
                                                                                                                                              (↑x_2.1 : Int) < (↑(List.length ks) : Int)) ∧
                                                                                                                                            (0 : Nat) + x_2.1 < cap'_1 ∧
                                                                                                                                              ¬List.getD zs' ((0 : Nat) + x_2.1) (0 : Int) ≠
                                                                                                                                                    List.getD zs'_1 ((0 : Nat) + x_2.1) (0 : Int) ∧
                                                                                                                                                ∃ (y : ImX),
                                                                                                                                                  y.2 - y.1 < x_2.2 - x_2.1 ∧
                                                                                                                                                    ((Go.IntKind.wrap Go.IntKind.i64
                                                                                                                                                              ((↑x_2.1 : Int) + (1 : Int)) =
                                                                                                                                                            (↑y.1 : Int) ∧
                                                                                                                                                          ((0 : Nat) = (0 : Nat) ∧
                                                                                                                                                              (0 : Nat) = (0 : Nat)) ∧
                                                                                                                                                            ((0 : Nat) = (0 : Nat) ∧
                                                                                                                                                                (0 : Nat) = (0 : Nat)) ∧
                                                                                                                                                              ((0 : Nat) = (0 : Nat) ∧
                                                                                                                                                                  (0 : Nat) = (0 : Nat)) ∧
                                                                                                                                                                ((0 : Nat) = (0 : Nat) ∧
                                                                                                                                                                    List.length out = List.length out ∧
                                                                                                                                                                      cap' = cap') ∧
                                                                                                                                                                  ((0 : Nat) = (0 : Nat) ∧
                                                                                                                                                                      List.length ks = List.length ks ∧
                                                                                                                                                                        cap'_1 = cap'_1) ∧
                                                                                                                                                                    (at_ = at_ ∧
                                                                                                                                                                        len = len ∧ cap = cap) ∧
                                                                                                                                                                      (↑len : Int) = (↑len : Int) ∧
                                                                                                                                                                        (↑x.1 : Int) = (↑x.1 : Int) ∧
                                                                                                                                                                          (↑(List.length out) : Int) =
                                                                                                                                                                              (↑(List.length out) :
                                                                                                                                                                                Int) ∧
                                                                                                                                                                            True) ∧
                                                                                                                                                        (bd = bd ∧ ob = ob) ∧
                                                                                                                                                          L' ++ G_1 = L' ++ G_1 ∧
                                                                                                                                                            (b = b ∧
                                                                                                                                                                Go.Value.slice s.1 s.2 s.3 =
                                                                                                                                                                    Go.Value.slice s.1 s.2 s.3 ∧
                                                                                                                                                                  True) ∧
                                                                                                                                                              (b_1 = b_1 ∧
                                                                                                                                                                  Go.Value.slice s_1.1 s_1.2 s_1.3 =
                                                                                                                                                                      Go.Value.slice s_1.1 s_1.2 s_1.3 ∧
                                                                                                                                                                    True) ∧
                                                                                                                                                                (b_2 = b_2 ∧
                                                                                                                                                                    z = z ∧
                                                                                                                                                                      z_1 = z_1 ∧ z_2 = z_2 ∧ True) ∧
                                                                                                                                                                  (b' = b' ∧
                                                                                                                                                                      base' = base' ∧
                                                                                                                                                                        cap' = cap' ∧
                                                                                                                                                                          zs' = zs' ∧ True) ∧
                                                                                                                                                                    (b'_1 = b'_1 ∧
                                                                                                                                                                        base'_1 = base'_1 ∧
                                                                                                                                                                          cap'_1 = cap'_1 ∧
                                                                                                                                                                            zs'_1 = zs'_1 ∧ True) ∧
                                                                                                                                                                      True) ∧
                                                                                                                                                      y.2 = x0_1.2 ∧ y.1 ≤ y.2) ∧
                                                                                                                                    (¬(↑x_2.1 : Int) < (↑(List.length out) : Int) →
                                                                                                                                      ∃ (y : PlX),
                                                                                                                                        ((((0 : Nat) = (0 : Nat) ∧ (0 : Nat) = (0 : Nat)) ∧
                                                                                                                                              ((0 : Nat) = (0 : Nat) ∧ (0 : Nat) = (0 : Nat)) ∧
                                                                                                                                                ((0 : Nat) = (0 : Nat) ∧ (0 : Nat) = (0 : Nat)) ∧
                                                                                                                                                  (at_ = at_ ∧ len = len ∧ cap = cap) ∧
                                                                                                                                                    (↑len : Int) = (↑len : Int) ∧
                                                                                                                                                      (↑x.1 : Int) = (↑x.1 : Int) ∧ True) ∧
                                                                                                                                            (bd = bd ∧ ob = ob) ∧
                                                                                                                                              L' ++ G_1 = y.4 ∧
                                                                                                                                                (b = b ∧
                                                                                                                                                    Go.Value.slice s.1 s.2 s.3 =
                                                                                                                                                        Go.Value.slice y.2.1 y.2.2 y.2.3 ∧
                                                                                                                                                      True) ∧
                                                                                                                                                  (b_1 = b_1 ∧
                                                                                                                                                      Go.Value.slice s_1.1 s_1.2 s_1.3 =
                                                                                                                                                          Go.Value.slice y.3.1 y.3.2 y.3.3 ∧
                                                                                                                                                        True) ∧
                                                                                                                                                    (b_2 = b_2 ∧ z = z ∧ z_1 = z_1 ∧ z_2 = z_2 ∧ True) ∧
                                                                                                                                                      True) ∧
                                                                                                                                          plMid x0 y)))) ∧
                                                          ∀ (x_1 : PlX),
                                                            plMid x0 x_1 →
                                                              ∃ (x_2 : List Row),
                                                                ∃ (L : List (Nat × Go.Sx.Blk)),
                                                                  ∃ (G : List (Nat × Go.Sx.Blk)),
                                                                    List.Perm x_1.4 (L ++ G) ∧
                                                                      ((0 : Nat) = (0 : Nat) ∧
                                                                          QRep x_2 (Go.Value.slice x_1.2.1 x_1.2.2 x_1.2.3) L ∧ List.length x_2 < (1000000 : Nat)) ∧
                                                                        ∀ (a : NX) (s : Sl) (L' : List (Nat × Go.Sx.Blk)),
                                                                          nxF x_2 a.1 a.2 ∧ QRep x_2 (Go.Value.slice s.1 s.2 s.3) L' →
                                                                            ∃ (x_3 : KX),
                                                                              ∃ (L : List (Nat × Go.Sx.Blk)),
                                                                                ∃ (G_1 : List (Nat × Go.Sx.Blk)),
                                                                                  List.Perm (L' ++ G) (L ++ G_1) ∧
                                                                                    ([Go.Value.int Go.IntKind.i64 z_1] = [Go.Value.int Go.IntKind.i64 x_3.2] ∧
                                                                                        QRep x_3.1 (Go.Value.slice s.1 s.2 s.3) L ∧ List.length x_3.1 < (1000000 : Nat)) ∧
                                                                                      ∀ (a_2 : NX) (s : Sl) (L' : List (Nat × Go.Sx.Blk)),
                                                                                        atF x_3.1 x_3.2 a_2.1 a_2.2 ∧
                                                                                            QRep x_3.1 (Go.Value.slice s.1 s.2 s.3) L' →
                                                                                          (∃ (x_4 : Unit),
                                                                                              (b_1, (0 : Nat), (1 : Nat)) = (b_1, (0 : Nat), (1 : Nat)) ∧
                                                                                                (∃ (G : List (Nat × Go.Sx.Blk)),
                                                                                                    ∀ (r : List (Nat × Nat × Nat)),
                                                                                                      List.Perm [(b_1, Go.Sx.Blk.cells [Go.Value.slice x_1.3.1 x_1.3.2 x_1.3.3] (85 : Nat))]
                                                                                                        ((b_1, Go.Sx.Blk.cells [Go.Value.slice Option.none (0 : Nat) (0 : Nat)] (85 : Nat)) :: G)) ∧
                                                                                                  ∃ (x0 : ScX),
                                                                                                    ((((0 : Int) = x0.4 ∧
                                                                                                            Go.Value.bool Bool.false = Go.Value.bool x0.5 ∧
                                                                                                              (0 : Int) = (↑x0.3 : Int) ∧
                                                                                                                ((0 : Nat) = (0 : Nat) ∧ (0 : Nat) = (0 : Nat)) ∧
                                                                                                                  ((0 : Nat) = (0 : Nat) ∧ (0 : Nat) = (0 : Nat)) ∧
                                                                                                                    ((0 : Nat) = (0 : Nat) ∧ (0 : Nat) = (0 : Nat)) ∧
                                                                                                                      a.1 = a.1 ∧
                                                                                                                        (a.2 ↔ a.2) ∧
                                                                                                                          a_2.1 = a_2.1 ∧
                                                                                                                            (a_2.2 ↔ a_2.2) ∧
                                                                                                                              (at_ = at_ ∧ len = len ∧ cap = cap) ∧
                                                                                                                                (↑len : Int) = (↑len : Int) ∧
                                                                                                                                  (↑x.1 : Int) = (↑x.1 : Int) ∧
                                                                                                                                    Go.Value.slice Option.none (0 : Nat) (0 : Nat) =
                                                                                                                                        Go.Value.slice Option.none (0 : Nat) (0 : Nat) ∧
                                                                                                                                      (↑(0 : Nat) : Int) = (↑(0 : Nat) : Int) ∧ True) ∧
                                                                                                          (bd = bd ∧ ob = ob) ∧
                                                                                                            L' ++ G_1 = L' ++ G_1 ∧
                                                                                                              (b = b ∧ Go.Value.slice s.1 s.2 s.3 = Go.Value.slice s.1 s.2 s.3 ∧ True) ∧
                                                                                                                (b_1 = b_1 ∧
                                                                                                                    Go.Value.slice Option.none (0 : Nat) (0 : Nat) =
                                                                                                                        Go.Value.slice Option.none (0 : Nat) (0 : Nat) ∧
                                                                                                                      True) ∧
                                                                                                                  (b_2 = b_2 ∧ z = z ∧ z_1 = z_1 ∧ z_2 = z_2 ∧ True) ∧
                                                                                                                    ((0 : Nat), (0 : Nat), (0 : Nat)) = ((0 : Nat), (0 : Nat), (0 : Nat)) ∧ True) ∧
                                                                                                        scInv x0 x0) ∧
                                                                                                      ∀ (x_5 : ScX),
                                                                                                        scInv x0 x_5 →
                                                                                                          ((↑x_5.3 : Int) < (↑(0 : Nat) : Int) → False) ∧
                                                                                                            (¬(↑x_5.3 : Int) < (↑(0 : Nat) : Int) →
                                                                                                              ∃ (x_6 : List Row),
                                                                                                                ∃ (L : List (Nat × Go.Sx.Blk)),
                                                                                                                  ∃ (G : List (Nat × Go.Sx.Blk)),
                                                                                                                    List.Perm (L' ++ G_1) (L ++ G) ∧
                                                                                                                      ((0 : Nat) = (0 : Nat) ∧
                                                                                                                          QRep x_6 (Go.Value.slice s.1 s.2 s.3) L) ∧
                                                                                                                        ∀ (a_6 : Int) (s : Sl) (L' : List (Nat × Go.Sx.Blk)),
                                                                                                                          a_6 = (↑(List.length x_6) : Int) ∧
                                                                                                                              QRep x_6 (Go.Value.slice s.1 s.2 s.3) L' →
                                                                                                                            Go.Sx.SV.val (Go.Value.int Go.IntKind.i64 (↑(0 : Nat) : Int)) =
                                                                                                                                Go.Sx.SV.val (Go.Value.int Go.IntKind.i64 (↑(0 : Nat) : Int)) ∧
                                                                                                                              Go.Sx.SV.val (Go.Value.slice Option.none (0 : Nat) (0 : Nat)) =
                                                                                                                                  Go.Sx.SV.val (Go.Value.slice Option.none (0 : Nat) (0 : Nat)) ∧
                                                                                                                                ¬a_6 ≠ (↑(0 : Nat) : Int) ∧
                                                                                                                                  ¬¬(a.2 ↔ (0 : Int) < (↑(0 : Nat) : Int)) ∧
                                                                                                                                    (a.2 → False) ∧
                                                                                                                                      (¬a.2 →
                                                                                                                                        (¬a.2 →
                                                                                                                                            ¬a.1 ≠ (0 : Int) ∧
                                                                                                                                              ¬a_2.1 ≠ x_5.4 ∧
                                                                                                                                                ¬¬(a_2.2 ↔ x_5.5 = Bool.true) ∧
                                                                                                                                                  ∃ (x_7 :
                                                                                                                                                    Sl ×
                                                                                                                                                      List (Nat × Go.Sx.Blk) × Nat × Nat × Nat),
                                                                                                                                                    (b_1, (0 : Nat), (1 : Nat)) =
                                                                                                                                                        (b_1, (0 : Nat), (1 : Nat)) ∧
                                                                                                                                                      ((0 : Nat), (0 : Nat), (0 : Nat)) =
                                                                                                                                                          ((0 : Nat), (0 : Nat), (0 : Nat)) ∧
                                                                                                                                                        ((0 : Nat), (0 : Nat), (0 : Nat)) = x_7.2.2 ∧
                                                                                                                                                          (∃ (G_2 : List (Nat × Go.Sx.Blk)),
                                                                                                                                                              ∀ (r : List (Nat × Nat × Nat)),
                                                                                                                                                                List.Perm
                                                                                                                                                                  ((b_1,
                                                                                                                                                                      Go.Sx.Blk.cells
                                                                                                                                                                        [Go.Value.slice Option.none
                                                                                                                                                                            (0 : Nat) (0 : Nat)]
                                                                                                                                                                        (85 : Nat)) ::
                                                                                                                                                                    (L' ++ G ++ []))
                                                                                                                                                                  ((b_1,
                                                                                                                                                                      Go.Sx.Blk.cells
                                                                                                                                                                        [Go.Value.slice x_7.1.1 x_7.1.2
                                                                                                                                                                            x_7.1.3]
                                                                                                                                                                        (85 : Nat)) ::
                                                                                                                                                                    (x_7.2.1 ++ [] ++ [] ++ G_2))) ∧
                                                                                                                                                            ∃ (y : PlX),
                                                                                                                                                              len - y.1 < len - x.1 ∧
                                                                                                                                                                ((Go.IntKind.wrap Go.IntKind.i64
                                                                                                                                                                          ((↑x.1 : Int) + (1 : Int)) =
                                                                                                                                                                        (↑y.1 : Int) ∧
                                                                                                                                                                      ((0 : Nat) = (0 : Nat) ∧
                                                                                                                                                                          (0 : Nat) = (0 : Nat)) ∧
                                                                                                                                                                        ((0 : Nat) = (0 : Nat) ∧
                                                                                                                                                                            (0 : Nat) = (0 : Nat)) ∧
                                                                                                                                                                          (at_ = at_ ∧
                                                                                                                                                                              len = len ∧ cap = cap) ∧
                                                                                                                                                                            (↑len : Int) =
                                                                                                                                                                                (↑len : Int) ∧
                                                                                                                                                                              True) ∧
                                                                                                                                                                    (bd = bd ∧ ob = ob) ∧
                                                                                                                                                                      x_7.2.1 = y.4 ∧
                                                                                                                                                                        (b = b ∧
                                                                                                                                                                            Go.Value.slice s.1 s.2 s.3 =
                                                                                                                                                                                Go.Value.slice y.2.1
                                                                                                                                                                                  y.2.2 y.2.3 ∧
                                                                                                                                                                              True) ∧
                                                                                                                                                                          (b_1 = b_1 ∧
                                                                                                                                                                              Go.Value.slice x_7.1.1
                                                                                                                                                                                    x_7.1.2 x_7.1.3 =
                                                                                                                                                                                  Go.Value.slice y.3.1
                                                                                                                                                                                    y.3.2 y.3.3 ∧
                                                                                                                                                                                True) ∧
                                                                                                                                                                            True) ∧
                                                                                                                                                                  plInv len y) ∧
                                                                                                                                          (¬¬a.2 →
                                                                                                                                            ¬a_2.1 ≠ x_5.4 ∧
                                                                                                                                              ¬¬(a_2.2 ↔ x_5.5 = Bool.true) ∧
                                                                                                                                                ∃ (x_7 :
                                                                                                                                                  Sl ×
                                                                                                                                                    List (Nat × Go.Sx.Blk) × Nat × Nat × Nat),
                                                                                                                                                  (b_1, (0 : Nat), (1 : Nat)) =
                                                                                                                                                      (b_1, (0 : Nat), (1 : Nat)) ∧
                                                                                                                                                    ((0 : Nat), (0 : Nat), (0 : Nat)) =
                                                                                                                                                        ((0 : Nat), (0 : Nat), (0 : Nat)) ∧
                                                                                                                                                      ((0 : Nat), (0 : Nat), (0 : Nat)) = x_7.2.2 ∧
                                                                                                                                                        (∃ (G_2 : List (Nat × Go.Sx.Blk)),
                                                                                                                                                            ∀ (r : List (Nat × Nat × Nat)),
                                                                                                                                                              List.Perm
                                                                                                                                                                ((b_1,
                                                                                                                                                                    Go.Sx.Blk.cells
                                                                                                                                                                      [Go.Value.slice Option.none
                                                                                                                                                                          (0 : Nat) (0 : Nat)]
                                                                                                                                                                      (85 : Nat)) ::
                                                                                                                                                                  (L' ++ G ++ []))
                                                                                                                                                                ((b_1,
                                                                                                                                                                    Go.Sx.Blk.cells
                                                                                                                                                                      [Go.Value.slice x_7.1.1 x_7.1.2
                                                                                                                                                                          x_7.1.3]
                                                                                                                                                                      (85 : Nat)) ::
                                                                                                                                                                  (x_7.2.1 ++ [] ++ [] ++ G_2))) ∧
                                                                                                                                                          ∃ (y : PlX),
                                                                                                                                                            len - y.1 < len - x.1 ∧
                                                                                                                                                              ((Go.IntKind.wrap Go.IntKind.i64
                                                                                                                                                                        ((↑x.1 : Int) + (1 : Int)) =
                                                                                                                                                                      (↑y.1 : Int) ∧
                                                                                                                                                                    ((0 : Nat) = (0 : Nat) ∧
                                                                                                                                                                        (0 : Nat) = (0 : Nat)) ∧
                                                                                                                                                                      ((0 : Nat) = (0 : Nat) ∧
                                                                                                                                                                          (0 : Nat) = (0 : Nat)) ∧
                                                                                                                                                                        (at_ = at_ ∧
                                                                                                                                                                            len = len ∧ cap = cap) ∧
                                                                                                                                                                          (↑len : Int) = (↑len : Int) ∧
                                                                                                                                                                            True) ∧
                                                                                                                                                                  (bd = bd ∧ ob = ob) ∧
                                                                                                                                                                    x_7.2.1 = y.4 ∧
                                                                                                                                                                      (b = b ∧
                                                                                                                                                                          Go.Value.slice s.1 s.2 s.3 =
                                                                                                                                                                              Go.Value.slice y.2.1 y.2.2
                                                                                                                                                                                y.2.3 ∧
                                                                                                                                                                            True) ∧
                                                                                                                                                                        (b_1 = b_1 ∧
                                                                                                                                                                            Go.Value.slice x_7.1.1
                                                                                                                                                                                  x_7.1.2 x_7.1.3 =
                                                                                                                                                                                Go.Value.slice y.3.1
                                                                                                                                                                                  y.3.2 y.3.3 ∧
                                                                                                                                                                              True) ∧
                                                                                                                                                                          True) ∧
                                                                                                                                                                plInv len y)))) ∨
                                                                                            ∃ (x_4 : FX × Nat),
                                                                                              (b_1, (0 : Nat), (1 : Nat)) = (b_1, (0 : Nat), (1 : Nat)) ∧
                                                                                                ((0 : Nat), (0 : Nat), (0 : Nat)) = ((0 : Nat), (0 : Nat), (0 : Nat)) ∧
                                                                                                  (∃ (G : List (Nat × Go.Sx.Blk)),
                                                                                                      ∀ (r : List (Nat × Nat × Nat)),
                                                                                                        List.Perm
                                                                                                          ((b_1, Go.Sx.Blk.cells [Go.Value.slice x_1.3.1 x_1.3.2 x_1.3.3] (85 : Nat)) ::
                                                                                                            (L' ++ G_1 ++ []))
                                                                                                          ((b_1,
                                                                                                              Go.Sx.Blk.cells
                                                                                                                [Go.Value.slice
                                                                                                                    (Option.some { block := x_4.1.1, off := (x_4.1.2 + x_4.1.3) * (2 : Nat) }) x_4.2
                                                                                                                    x_4.1.5]
                                                                                                                (85 : Nat)) ::
                                                                                                            (x_4.1.8 ++ [] ++
                                                                                                                [(x_4.1.1,
                                                                                                                    Go.Sx.Blk.tab (90 : Go.TypeId) x_4.1.2 x_4.1.4
                                                                                                                      [Go.Sx.Col.ints Go.IntKind.i64 x_4.1.6,
                                                                                                                        Go.Sx.Col.ints Go.IntKind.u64 x_4.1.7])] ++
                                                                                                              G))) ∧
                                                                                                    ∃ (x0 : ScX),
                                                                                                      ((((0 : Int) = x0.4 ∧
                                                                                                              Go.Value.bool Bool.false = Go.Value.bool x0.5 ∧
                                                                                                                (0 : Int) = (↑x0.3 : Int) ∧
                                                                                                                  ((0 : Nat) = (0 : Nat) ∧ (0 : Nat) = (0 : Nat)) ∧
                                                                                                                    ((0 : Nat) = (0 : Nat) ∧ (0 : Nat) = (0 : Nat)) ∧
                                                                                                                      ((0 : Nat) = (0 : Nat) ∧ (0 : Nat) = (0 : Nat)) ∧
                                                                                                                        a.1 = a.1 ∧
                                                                                                                          (a.2 ↔ a.2) ∧
                                                                                                                            a_2.1 = a_2.1 ∧
                                                                                                                              (a_2.2 ↔ a_2.2) ∧
                                                                                                                                (at_ = at_ ∧ len = len ∧ cap = cap) ∧
                                                                                                                                  (↑len : Int) = (↑len : Int) ∧
                                                                                                                                    (↑x.1 : Int) = (↑x.1 : Int) ∧
                                                                                                                                      (x_4.1.3 = x_4.1.3 ∧ x_4.2 = x_4.2 ∧ x_4.1.5 = x_4.1.5) ∧
                                                                                                                                        (↑x_4.2 : Int) = (↑x_4.2 : Int) ∧ True) ∧
                                                                                                            (bd = bd ∧ ob = ob) ∧
                                                                                                              x_4.1.8 = x_4.1.8 ∧
                                                                                                                (b = b ∧ Go.Value.slice s.1 s.2 s.3 = Go.Value.slice s.1 s.2 s.3 ∧ True) ∧
                                                                                                                  (b_1 = b_1 ∧ (x_4.1.3 = x_4.1.3 ∧ x_4.2 = x_4.2 ∧ x_4.1.5 = x_4.1.5) ∧ True) ∧
                                                                                                                    (b_2 = b_2 ∧ z = z ∧ z_1 = z_1 ∧ z_2 = z_2 ∧ True) ∧
                                                                                                                      (x_4.1.1 = x_4.1.1 ∧
                                                                                                                          x_4.1.2 = x_4.1.2 ∧
                                                                                                                            x_4.1.4 = x_4.1.4 ∧ x_4.1.6 = x_4.1.6 ∧ x_4.1.7 = x_4.1.7 ∧ True) ∧
                                                                                                                        True) ∧
                                                                                                          scInv x0 x0) ∧
                                                                                                        ∀ (x_5 : ScX),
                                                                                                          scInv x0 x_5 →
                                                                                                            ((↑x_5.3 : Int) < (↑x_4.2 : Int) →
                                                                                                                ((0 : Int) ≤ (↑x_5.3 : Int) ∧ (↑x_5.3 : Int) < (↑x_4.2 : Int)) ∧
                                                                                                                  x_4.1.3 + x_5.3 < x_4.1.4 ∧
                                                                                                                    x_4.1.3 + x_5.3 < x_4.1.4 ∧
                                                                                                                      ∀ (b_3 : Nat),
                                                                                                                        Go.Value.oneCell'
                                                                                                                              (Go.Value.int Go.IntKind.i64
                                                                                                                                (List.getD x_4.1.6 (x_4.1.3 + x_5.3) (0 : Int))) =
                                                                                                                            Bool.true ∧
                                                                                                                          Go.Value.oneCell'
                                                                                                                                (Go.Value.int Go.IntKind.u64
                                                                                                                                  (List.getD x_4.1.7 (x_4.1.3 + x_5.3) (0 : Int))) =
                                                                                                                              Bool.true ∧
                                                                                                                            (List.getD x_4.1.6 (x_4.1.3 + x_5.3) (0 : Int) = z_1 →
                                                                                                                                ∃ (y : ScX),
                                                                                                                                  List.length y.1 - y.3 < List.length x_5.1 - x_5.3 ∧
                                                                                                                                    ((List.getD x_4.1.7 (x_4.1.3 + x_5.3) (0 : Int) = y.4 ∧
                                                                                                                                          Go.Value.bool Bool.true = Go.Value.bool y.5 ∧
                                                                                                                                            Go.IntKind.wrap Go.IntKind.i64
                                                                                                                                                  ((↑x_5.3 : Int) + (1 : Int)) =
                                                                                                                                                (↑y.3 : Int) ∧
                                                                                                                                              ((0 : Nat) = (0 : Nat) ∧ (0 : Nat) = (0 : Nat)) ∧
                                                                                                                                                ((0 : Nat) = (0 : Nat) ∧ (0 : Nat) = (0 : Nat)) ∧
                                                                                                                                                  ((0 : Nat) = (0 : Nat) ∧ (0 : Nat) = (0 : Nat)) ∧
                                                                                                                                                    a.1 = a.1 ∧
                                                                                                                                                      (a.2 ↔ a.2) ∧
                                                                                                                                                        a_2.1 = a_2.1 ∧
                                                                                                                                                          (a_2.2 ↔ a_2.2) ∧
                                                                                                                                                            (at_ = at_ ∧ len = len ∧ cap = cap) ∧
                                                                                                                                                              (↑len : Int) = (↑len : Int) ∧
                                                                                                                                                                (↑x.1 : Int) = (↑x.1 : Int) ∧
                                                                                                                                                                  (x_4.1.3 = x_4.1.3 ∧
                                                                                                                                                                      x_4.2 = x_4.2 ∧
                                                                                                                                                                        x_4.1.5 = x_4.1.5) ∧
                                                                                                                                                                    (↑x_4.2 : Int) = (↑x_4.2 : Int) ∧
                                                                                                                                                                      True) ∧
                                                                                                                                        (bd = bd ∧ ob = ob) ∧
                                                                                                                                          x_4.1.8 = x_4.1.8 ∧
                                                                                                                                            (b = b ∧
                                                                                                                                                Go.Value.slice s.1 s.2 s.3 =
                                                                                                                                                    Go.Value.slice s.1 s.2 s.3 ∧
                                                                                                                                                  True) ∧
                                                                                                                                              (b_1 = b_1 ∧
                                                                                                                                                  (x_4.1.3 = x_4.1.3 ∧
                                                                                                                                                      x_4.2 = x_4.2 ∧ x_4.1.5 = x_4.1.5) ∧
                                                                                                                                                    True) ∧
                                                                                                                                                (b_2 = b_2 ∧ z = z ∧ z_1 = z_1 ∧ z_2 = z_2 ∧ True) ∧
                                                                                                                                                  (x_4.1.1 = x_4.1.1 ∧
                                                                                                                                                      x_4.1.2 = x_4.1.2 ∧
                                                                                                                                                        x_4.1.4 = x_4.1.4 ∧
                                                                                                                                                          x_4.1.6 = x_4.1.6 ∧
                                                                                                                                                            x_4.1.7 = x_4.1.7 ∧ True) ∧
                                                                                                                                                    True) ∧
                                                                                                                                      scInv x0 y) ∧
                                                                                                                              (¬List.getD x_4.1.6 (x_4.1.3 + x_5.3) (0 : Int) = z_1 →
                                                                                                                                ∃ (y : ScX),
                                                                                                                                  List.length y.1 - y.3 < List.length x_5.1 - x_5.3 ∧
                                                                                                                                    ((x_5.4 = y.4 ∧
                                                                                                                                          Go.Value.bool x_5.5 = Go.Value.bool y.5 ∧
                                                                                                                                            Go.IntKind.wrap Go.IntKind.i64
                                                                                                                                                  ((↑x_5.3 : Int) + (1 : Int)) =
                                                                                                                                                (↑y.3 : Int) ∧
                                                                                                                                              ((0 : Nat) = (0 : Nat) ∧ (0 : Nat) = (0 : Nat)) ∧
                                                                                                                                                ((0 : Nat) = (0 : Nat) ∧ (0 : Nat) = (0 : Nat)) ∧
                                                                                                                                                  ((0 : Nat) = (0 : Nat) ∧ (0 : Nat) = (0 : Nat)) ∧
                                                                                                                                                    a.1 = a.1 ∧
                                                                                                                                                      (a.2 ↔ a.2) ∧
                                                                                                                                                        a_2.1 = a_2.1 ∧
                                                                                                                                                          (a_2.2 ↔ a_2.2) ∧
                                                                                                                                                            (at_ = at_ ∧ len = len ∧ cap = cap) ∧
                                                                                                                                                              (↑len : Int) = (↑len : Int) ∧
                                                                                                                                                                (↑x.1 : Int) = (↑x.1 : Int) ∧
                                                                                                                                                                  (x_4.1.3 = x_4.1.3 ∧
                                                                                                                                                                      x_4.2 = x_4.2 ∧
                                                                                                                                                                        x_4.1.5 = x_4.1.5) ∧
                                                                                                                                                                    (↑x_4.2 : Int) = (↑x_4.2 : Int) ∧
                                                                                                                                                                      True) ∧
                                                                                                                                        (bd = bd ∧ ob = ob) ∧
                                                                                                                                          x_4.1.8 = x_4.1.8 ∧
                                                                                                                                            (b = b ∧
                                                                                                                                                Go.Value.slice s.1 s.2 s.3 =
                                                                                                                                                    Go.Value.slice s.1 s.2 s.3 ∧
                                                                                                                                                  True) ∧
                                                                                                                                              (b_1 = b_1 ∧
                                                                                                                                                  (x_4.1.3 = x_4.1.3 ∧
                                                                                                                                                      x_4.2 = x_4.2 ∧ x_4.1.5 = x_4.1.5) ∧
                                                                                                                                                    True) ∧
                                                                                                                                                (b_2 = b_2 ∧ z = z ∧ z_1 = z_1 ∧ z_2 = z_2 ∧ True) ∧
                                                                                                                                                  (x_4.1.1 = x_4.1.1 ∧
                                                                                                                                                      x_4.1.2 = x_4.1.2 ∧
                                                                                                                                                        x_4.1.4 = x_4.1.4 ∧
                                                                                                                                                          x_4.1.6 = x_4.1.6 ∧
                                                                                                                                                            x_4.1.7 = x_4.1.7 ∧ True) ∧
                                                                                                                                                    True) ∧
                                                                                                                                      scInv x0 y)) ∧
                                                                                                              (¬(↑x_5.3 : Int) < (↑x_4.2 : Int) →
                                                                                                                ∃ (x_6 : List Row),
                                                                                                                  ∃ (L : List (Nat × Go.Sx.Blk)),
                                                                                                                    ∃ (G : List (Nat × Go.Sx.Blk)),
                                                                                                                      List.Perm x_4.1.8 (L ++ G) ∧
                                                                                                                        ((0 : Nat) = (0 : Nat) ∧
                                                                                                                            QRep x_6 (Go.Value.slice s.1 s.2 s.3) L) ∧
                                                                                                                          ∀ (a_6 : Int) (s : Sl)
                                                                                                                            (L' : List (Nat × Go.Sx.Blk)),
                                                                                                                            a_6 = (↑(List.length x_6) : Int) ∧
                                                                                                                                QRep x_6 (Go.Value.slice s.1 s.2 s.3) L' →
                                                                                                                              Go.Sx.SV.val (Go.Value.int Go.IntKind.i64 (↑x_4.2 : Int)) =
                                                                                                                                  Go.Sx.SV.val (Go.Value.int Go.IntKind.i64 (↑x_4.2 : Int)) ∧
                                                                                                                                Go.Sx.SV.slc (5 : Nat) x_4.1.3 x_4.2 x_4.1.5 =
                                                                                                                                    Go.Sx.SV.slc (5 : Nat) x_4.1.3 x_4.2 x_4.1.5 ∧
                                                                                                                                  ¬a_6 ≠ (↑x_4.2 : Int) ∧
                                                                                                                                    ¬¬(a.2 ↔ (0 : Int) < (↑x_4.2 : Int)) ∧
                                                                                                                                      (a.2 →
                                                                                                                                          ((0 : Int) ≤ (0 : Int) ∧ (0 : Int) < (↑x_4.2 : Int)) ∧
                                                                                                                                            x_4.1.3 < x_4.1.4 ∧
                                                                                                                                              ¬a.1 ≠ List.getD x_4.1.7 x_4.1.3 (0 : Int) ∧
                                                                                                                                                (¬a.2 →
                                                                                                                                                    ¬a.1 ≠ (0 : Int) ∧
                                                                                                                                                      ¬a_2.1 ≠ x_5.4 ∧
                                                                                                                                                        ¬¬(a_2.2 ↔ x_5.5 = Bool.true) ∧
                                                                                                                                                          ∃ (x_7 :
                                                                                                                                                            Sl ×
                                                                                                                                                              List (Nat × Go.Sx.Blk) × Nat × Nat × Nat),
                                                                                                                                                            (b_1, (0 : Nat), (1 : Nat)) =
                                                                                                                                                                (b_1, (0 : Nat), (1 : Nat)) ∧
                                                                                                                                                              ((0 : Nat), (0 : Nat), (0 : Nat)) =
                                                                                                                                                                  ((0 : Nat), (0 : Nat), (0 : Nat)) ∧
                                                                                                                                                                (x_4.1.1, x_4.1.2, (2 : Nat)) =
                                                                                                                                                                    x_7.2.2 ∧
                                                                                                                                                                  (∃ (G_2 : List (Nat × Go.Sx.Blk)),
                                                                                                                                                                      ∀ (r : List (Nat × Nat × Nat)),
                                                                                                                                                                        List.Perm
                                                                                                                                                                          ((b_1,
                                                                                                                                                                              Go.Sx.Blk.cells
                                                                                                                                                                                [Go.Value.slice
                                                                                                                                                                                    (Option.some
                                                                                                                                                                                      {
                                                                                                                                                                                        block :=
                                                                                                                                                                                          x_4.1.1,
                                                                                                                                                                                        off :=
                                                                                                                                                                                          (x_4.1.2 +
                                                                                                                                                                                              x_4.1.3) *
                                                                                                                                                                                            (2 : Nat) })
                                                                                                                                                                                    x_4.2 x_4.1.5]
                                                                                                                                                                                (85 : Nat)) ::
                                                                                                                                                                            (L' ++ G ++
                                                                                                                                                                              [(x_4.1.1,
                                                                                                                                                                                  Go.Sx.Blk.tab
                                                                                                                                                                                    (90 : Go.TypeId)
                                                                                                                                                                                    x_4.1.2 x_4.1.4
                                                                                                                                                                                    [Go.Sx.Col.ints
                                                                                                                                                                                        Go.IntKind.i64
                                                                                                                                                                                        x_4.1.6,
                                                                                                                                                                                      Go.Sx.Col.ints
                                                                                                                                                                                        Go.IntKind.u64
                                                                                                                                                                                        x_4.1.7])]))
                                                                                                                                                                          ((b_1,
                                                                                                                                                                              Go.Sx.Blk.cells
                                                                                                                                                                                [Go.Value.slice x_7.1.1
                                                                                                                                                                                    x_7.1.2 x_7.1.3]
                                                                                                                                                                                (85 : Nat)) ::
                                                                                                                                                                            (x_7.2.1 ++ [] ++ [] ++
                                                                                                                                                                              G_2))) ∧
                                                                                                                                                                    ∃ (y : PlX),
                                                                                                                                                                      len - y.1 < len - x.1 ∧
                                                                                                                                                                        ((Go.IntKind.wrap Go.IntKind.i64
                                                                                                                                                                                  ((↑x.1 : Int) +
                                                                                                                                                                                    (1 : Int)) =
                                                                                                                                                                                (↑y.1 : Int) ∧
                                                                                                                                                                              ((0 : Nat) = (0 : Nat) ∧
                                                                                                                                                                                  (0 : Nat) =
                                                                                                                                                                                    (0 : Nat)) ∧
                                                                                                                                                                                ((0 : Nat) = (0 : Nat) ∧
                                                                                                                                                                                    (0 : Nat) =
                                                                                                                                                                                      (0 : Nat)) ∧
                                                                                                                                                                                  (at_ = at_ ∧
                                                                                                                                                                                      len = len ∧
                                                                                                                                                                                        cap = cap) ∧
                                                                                                                                                                                    (↑len : Int) =
                                                                                                                                                                                        (↑len : Int) ∧
                                                                                                                                                                                      True) ∧
                                                                                                                                                                            (bd = bd ∧ ob = ob) ∧
                                                                                                                                                                              x_7.2.1 = y.4 ∧
                                                                                                                                                                                (b = b ∧
                                                                                                                                                                                    Go.Value.slice s.1
                                                                                                                                                                                          s.2 s.3 =
                                                                                                                                                                                        Go.Value.slice
                                                                                                                                                                                          y.2.1 y.2.2
                                                                                                                                                                                          y.2.3 ∧
                                                                                                                                                                                      True) ∧
                                                                                                                                                                                  (b_1 = b_1 ∧
                                                                                                                                                                                      Go.Value.slice
                                                                                                                                                                                            x_7.1.1
                                                                                                                                                                                            x_7.1.2
                                                                                                                                                                                            x_7.1.3 =
                                                                                                                                                                                          Go.Value.slice
                                                                                                                                                                                            y.3.1 y.3.2
                                                                                                                                                                                            y.3.3 ∧
                                                                                                                                                                                        True) ∧
                                                                                                                                                                                    True) ∧
                                                                                                                                                                          plInv len y) ∧
                                                                                                                                                  (¬¬a.2 →
                                                                                                                                                    ¬a_2.1 ≠ x_5.4 ∧
                                                                                                                                                      ¬¬(a_2.2 ↔ x_5.5 = Bool.true) ∧
                                                                                                                                                        ∃ (x_7 :
                                                                                                                                                          Sl ×
                                                                                                                                                            List (Nat × Go.Sx.Blk) × Nat × Nat × Nat),
                                                                                                                                                          (b_1, (0 : Nat), (1 : Nat)) =
                                                                                                                                                              (b_1, (0 : Nat), (1 : Nat)) ∧
                                                                                                                                                            ((0 : Nat), (0 : Nat), (0 : Nat)) =
                                                                                                                                                                ((0 : Nat), (0 : Nat), (0 : Nat)) ∧
                                                                                                                                                              (x_4.1.1, x_4.1.2, (2 : Nat)) = x_7.2.2 ∧
                                                                                                                                                                (∃ (G_2 : List (Nat × Go.Sx.Blk)),
                                                                                                                                                                    ∀ (r : List (Nat × Nat × Nat)),
                                                                                                                                                                      List.Perm
                                                                                                                                                                        ((b_1,
                                                                                                                                                                            Go.Sx.Blk.cells
                                                                                                                                                                              [Go.Value.slice
                                                                                                                                                                                  (Option.some
                                                                                                                                                                                    { block := x_4.1.1,
                                                                                                                                                                                      off :=
                                                                                                                                                                                        (x_4.1.2 +
                                                                                                                                                                                            x_4.1.3) *
                                                                                                                                                                                          (2 : Nat) })
                                                                                                                                                                                  x_4.2 x_4.1.5]
                                                                                                                                                                              (85 : Nat)) ::
                                                                                                                                                                          (L' ++ G ++
                                                                                                                                                                            [(x_4.1.1,
                                                                                                                                                                                Go.Sx.Blk.tab
                                                                                                                                                                                  (90 : Go.TypeId)
                                                                                                                                                                                  x_4.1.2 x_4.1.4
                                                                                                                                                                                  [Go.Sx.Col.ints
                                                                                                                                                                                      Go.IntKind.i64
                                                                                                                                                                                      x_4.1.6,
                                                                                                                                                                                    Go.Sx.Col.ints
                                                                                                                                                                                      Go.IntKind.u64
                                                                                                                                                                                      x_4.1.7])]))
                                                                                                                                                                        ((b_1,
                                                                                                                                                                            Go.Sx.Blk.cells
                                                                                                                                                                              [Go.Value.slice x_7.1.1
                                                                                                                                                                                  x_7.1.2 x_7.1.3]
                                                                                                                                                                              (85 : Nat)) ::
                                                                                                                                                                          (x_7.2.1 ++ [] ++ [] ++
                                                                                                                                                                            G_2))) ∧
                                                                                                                                                                  ∃ (y : PlX),
                                                                                                                                                                    len - y.1 < len - x.1 ∧
                                                                                                                                                                      ((Go.IntKind.wrap Go.IntKind.i64
                                                                                                                                                                                ((↑x.1 : Int) +
                                                                                                                                                                                  (1 : Int)) =
                                                                                                                                                                              (↑y.1 : Int) ∧
                                                                                                                                                                            ((0 : Nat) = (0 : Nat) ∧
                                                                                                                                                                                (0 : Nat) = (0 : Nat)) ∧
                                                                                                                                                                              ((0 : Nat) = (0 : Nat) ∧
                                                                                                                                                                                  (0 : Nat) =
                                                                                                                                                                                    (0 : Nat)) ∧
                                                                                                                                                                                (at_ = at_ ∧
                                                                                                                                                                                    len = len ∧
                                                                                                                                                                                      cap = cap) ∧
                                                                                                                                                                                  (↑len : Int) =
                                                                                                                                                                                      (↑len : Int) ∧
                                                                                                                                                                                    True) ∧
                                                                                                                                                                          (bd = bd ∧ ob = ob) ∧
                                                                                                                                                                            x_7.2.1 = y.4 ∧
                                                                                                                                                                              (b = b ∧
                                                                                                                                                                                  Go.Value.slice s.1 s.2
                                                                                                                                                                                        s.3 =
                                                                                                                                                                                      Go.Value.slice
                                                                                                                                                                                        y.2.1 y.2.2
                                                                                                                                                                                        y.2.3 ∧
                                                                                                                                                                                    True) ∧
                                                                                                                                                                                (b_1 = b_1 ∧
                                                                                                                                                                                    Go.Value.slice
                                                                                                                                                                                          x_7.1.1
                                                                                                                                                                                          x_7.1.2
                                                                                                                                                                                          x_7.1.3 =
                                                                                                                                                                                        Go.Value.slice
                                                                                                                                                                                          y.3.1 y.3.2
                                                                                                                                                                                          y.3.3 ∧
                                                                                                                                                                                      True) ∧
                                                                                                                                                                                  True) ∧
                                                                                                                                                                        plInv len y)) ∧
                                                                                                                                        (¬a.2 →
                                                                                                                                          (¬a.2 →
                                                                                                                                              ¬a.1 ≠ (0 : Int) ∧
                                                                                                                                                ¬a_2.1 ≠ x_5.4 ∧
                                                                                                                                                  ¬¬(a_2.2 ↔ x_5.5 = Bool.true) ∧
                                                                                                                                                    ∃ (x_7 :
                                                                                                                                                      Sl ×
                                                                                                                                                        List (Nat × Go.Sx.Blk) × Nat × Nat × Nat),
                                                                                                                                                      (b_1, (0 : Nat), (1 : Nat)) =
                                                                                                                                                          (b_1, (0 : Nat), (1 : Nat)) ∧
                                                                                                                                                        ((0 : Nat), (0 : Nat), (0 : Nat)) =
                                                                                                                                                            ((0 : Nat), (0 : Nat), (0 : Nat)) ∧
                                                                                                                                                          (x_4.1.1, x_4.1.2, (2 : Nat)) = x_7.2.2 ∧
                                                                                                                                                            (∃ (G_2 : List (Nat × Go.Sx.Blk)),
                                                                                                                                                                ∀ (r : List (Nat × Nat × Nat)),
                                                                                                                                                                  List.Perm
                                                                                                                                                                    ((b_1,
                                                                                                                                                                        Go.Sx.Blk.cells
                                                                                                                                                                          [Go.Value.slice
                                                                                                                                                                              (Option.some
                                                                                                                                                                                { block := x_4.1.1,
                                                                                                                                                                                  off :=
                                                                                                                                                                                    (x_4.1.2 +
                                                                                                                                                                                        x_4.1.3) *
                                                                                                                                                                                      (2 : Nat) })
                                                                                                                                                                              x_4.2 x_4.1.5]
                                                                                                                                                                          (85 : Nat)) ::
                                                                                                                                                                      (L' ++ G ++
                                                                                                                                                                        [(x_4.1.1,
                                                                                                                                                                            Go.Sx.Blk.tab
                                                                                                                                                                              (90 : Go.TypeId) x_4.1.2
                                                                                                                                                                              x_4.1.4
                                                                                                                                                                              [Go.Sx.Col.ints
                                                                                                                                                                                  Go.IntKind.i64
                                                                                                                                                                                  x_4.1.6,
                                                                                                                                                                                Go.Sx.Col.ints
                                                                                                                                                                                  Go.IntKind.u64
                                                                                                                                                                                  x_4.1.7])]))
                                                                                                                                                                    ((b_1,
                                                                                                                                                                        Go.Sx.Blk.cells
                                                                                                                                                                          [Go.Value.slice x_7.1.1
                                                                                                                                                                              x_7.1.2 x_7.1.3]
                                                                                                                                                                          (85 : Nat)) ::
                                                                                                                                                                      (x_7.2.1 ++ [] ++ [] ++ G_2))) ∧
                                                                                                                                                              ∃ (y : PlX),
                                                                                                                                                                len - y.1 < len - x.1 ∧
                                                                                                                                                                  ((Go.IntKind.wrap Go.IntKind.i64
                                                                                                                                                                            ((↑x.1 : Int) + (1 : Int)) =
                                                                                                                                                                          (↑y.1 : Int) ∧
                                                                                                                                                                        ((0 : Nat) = (0 : Nat) ∧
                                                                                                                                                                            (0 : Nat) = (0 : Nat)) ∧
                                                                                                                                                                          ((0 : Nat) = (0 : Nat) ∧
                                                                                                                                                                              (0 : Nat) = (0 : Nat)) ∧
                                                                                                                                                                            (at_ = at_ ∧
                                                                                                                                                                                len = len ∧ cap = cap) ∧
                                                                                                                                                                              (↑len : Int) =
                                                                                                                                                                                  (↑len : Int) ∧
                                                                                                                                                                                True) ∧
                                                                                                                                                                      (bd = bd ∧ ob = ob) ∧
                                                                                                                                                                        x_7.2.1 = y.4 ∧
                                                                                                                                                                          (b = b ∧
                                                                                                                                                                              Go.Value.slice s.1 s.2
                                                                                                                                                                                    s.3 =
                                                                                                                                                                                  Go.Value.slice y.2.1
                                                                                                                                                                                    y.2.2 y.2.3 ∧
                                                                                                                                                                                True) ∧
                                                                                                                                                                            (b_1 = b_1 ∧
                                                                                                                                                                                Go.Value.slice x_7.1.1
                                                                                                                                                                                      x_7.1.2 x_7.1.3 =
                                                                                                                                                                                    Go.Value.slice y.3.1
                                                                                                                                                                                      y.3.2 y.3.3 ∧
                                                                                                                                                                                  True) ∧
                                                                                                                                                                              True) ∧
                                                                                                                                                                    plInv len y) ∧
                                                                                                                                            (¬¬a.2 →
                                                                                                                                              ¬a_2.1 ≠ x_5.4 ∧
                                                                                                                                                ¬¬(a_2.2 ↔ x_5.5 = Bool.true) ∧
                                                                                                                                                  ∃ (x_7 :
                                                                                                                                                    Sl ×
                                                                                                                                                      List (Nat × Go.Sx.Blk) × Nat × Nat × Nat),
                                                                                                                                                    (b_1, (0 : Nat), (1 : Nat)) =
                                                                                                                                                        (b_1, (0 : Nat), (1 : Nat)) ∧
                                                                                                                                                      ((0 : Nat), (0 : Nat), (0 : Nat)) =
                                                                                                                                                          ((0 : Nat), (0 : Nat), (0 : Nat)) ∧
                                                                                                                                                        (x_4.1.1, x_4.1.2, (2 : Nat)) = x_7.2.2 ∧
                                                                                                                                                          (∃ (G_2 : List (Nat × Go.Sx.Blk)),
                                                                                                                                                              ∀ (r : List (Nat × Nat × Nat)),
                                                                                                                                                                List.Perm
                                                                                                                                                                  ((b_1,
                                                                                                                                                                      Go.Sx.Blk.cells
                                                                                                                                                                        [Go.Value.slice
                                                                                                                                                                            (Option.some
                                                                                                                                                                              { block := x_4.1.1,
                                                                                                                                                                                off :=
                                                                                                                                                                                  (x_4.1.2 + x_4.1.3) *
                                                                                                                                                                                    (2 : Nat) })
                                                                                                                                                                            x_4.2 x_4.1.5]
                                                                                                                                                                        (85 : Nat)) ::
                                                                                                                                                                    (L' ++ G ++
                                                                                                                                                                      [(x_4.1.1,
                                                                                                                                                                          Go.Sx.Blk.tab (90 : Go.TypeId)
                                                                                                                                                                            x_4.1.2 x_4.1.4
                                                                                                                                                                            [Go.Sx.Col.ints
                                                                                                                                                                                Go.IntKind.i64 x_4.1.6,
                                                                                                                                                                              Go.Sx.Col.ints
                                                                                                                                                                                Go.IntKind.u64
                                                                                                                                                                                x_4.1.7])]))
                                                                                                                                                                  ((b_1,
                                                                                                                                                                      Go.Sx.Blk.cells
                                                                                                                                                                        [Go.Value.slice x_7.1.1 x_7.1.2
                                                                                                                                                                            x_7.1.3]
                                                                                                                                                                        (85 : Nat)) ::
                                                                                                                                                                    (x_7.2.1 ++ [] ++ [] ++ G_2))) ∧
                                                                                                                                                            ∃ (y : PlX),
                                                                                                                                                              len - y.1 < len - x.1 ∧
                                                                                                                                                                ((Go.IntKind.wrap Go.IntKind.i64
                                                                                                                                                                          ((↑x.1 : Int) + (1 : Int)) =
                                                                                                                                                                        (↑y.1 : Int) ∧
                                                                                                                                                                      ((0 : Nat) = (0 : Nat) ∧
                                                                                                                                                                          (0 : Nat) = (0 : Nat)) ∧
                                                                                                                                                                        ((0 : Nat) = (0 : Nat) ∧
                                                                                                                                                                            (0 : Nat) = (0 : Nat)) ∧
                                                                                                                                                                          (at_ = at_ ∧
                                                                                                                                                                              len = len ∧ cap = cap) ∧
                                                                                                                                                                            (↑len : Int) =
                                                                                                                                                                                (↑len : Int) ∧
                                                                                                                                                                              True) ∧
                                                                                                                                                                    (bd = bd ∧ ob = ob) ∧
                                                                                                                                                                      x_7.2.1 = y.4 ∧
                                                                                                                                                                        (b = b ∧
                                                                                                                                                                            Go.Value.slice s.1 s.2 s.3 =
                                                                                                                                                                                Go.Value.slice y.2.1
                                                                                                                                                                                  y.2.2 y.2.3 ∧
                                                                                                                                                                              True) ∧
                                                                                                                                                                          (b_1 = b_1 ∧
                                                                                                                                                                              Go.Value.slice x_7.1.1
                                                                                                                                                                                    x_7.1.2 x_7.1.3 =
                                                                                                                                                                                  Go.Value.slice y.3.1
                                                                                                                                                                                    y.3.2 y.3.3 ∧
                                                                                                                                                                                True) ∧
                                                                                                                                                                            True) ∧
                                                                                                                                                                  plInv len y))))) ∧
                          (¬(↑x.1 : Int) < (↑len : Int) → True) := by
  simp only [eq_self, true_and, and_true, false_and, and_false, or_false, false_or, and_self, Nat.zero_add, Nat.add_zero, Nat.sub_zero, Nat.zero_mul, Nat.mul_one, Int.toNat_natCast, cond_true, cond_false, forall_const, implies_true, Nat.beq_refl, ne_eq, not_false_eq_true, not_true_eq_false, Classical.not_not, List.cons.injEq, List.append_nil, List.nil_append, Go.Value.int.injEq, Go.Value.bool.injEq, Go.Value.slice.injEq, Nat.le_refl, Nat.zero_le, Go.Sx.one_int, Go.Sx.one_bool, Go.Sx.one_slice, Go.Sx.one_ptr, Go.Sx.one_map, Int.cast_ofNat_Int, reduceCtorEq, Nat.reduceLeDiff, Nat.reduceMul, Nat.reduceAdd, Nat.reduceSub, Nat.reduceEqDiff, Int.reduceLE, Int.reduceLT, Int.reduceEq, Int.reduceAdd, Int.reduceSub, Int.reduceNeg, Int.reduceMul, Nat.reduceBEq]
  refine ⟨(), [], [], List.Perm.refl _, rfl, fun L' b => ⟨⟨0, ⟨none, 0, 0⟩, ⟨none, 0, 0⟩, L' ++ []⟩, ⟨by simp, Nat.zero_le _, Nat.zero_le _, [], [], L', [], [], by simp, QRep.nil, .inl ⟨rfl, rfl⟩, List.Perm.refl _, by simp, by simp [KN], by simp⟩, fun x ⟨hi, h100, L1, L2, G, S, T, hp, hq, hf, hST, hs, hk, hl⟩ hlt => ?_⟩⟩
  have hlS := hST.length_eq
  obtain ⟨c1, c2, c3⟩ := ho x.i (by omega)
  refine ⟨⟨by omega, hlt⟩, _, c1, _, c2, _, c3, fun h100 => ⟨x, ⟨fun _ => ?_, fun _ => ⟨fun _ => ?_, fun _ => ?_⟩⟩, fun m ⟨L1, L2, G, S, T, hp, hq, hf, hST, hs, hk, hl⟩ => ?_⟩⟩
  · refine ⟨⟨S, fs.getD x.i 0, ats.getD x.i 0⟩, L1, L2 ++ G, hp, ⟨⟨rfl, rfl⟩, hq, by show S.length + 1 < _; omega⟩, fun s L3 ⟨S', hS, hq'⟩ => ⟨⟨T, fs.getD x.i 0, ats.getD x.i 0⟩, L2, L3 ++ G, swp3, ⟨⟨rfl, rfl⟩, hf, by show T.length < _; omega⟩, fun s2 L4 hf' => ?_⟩⟩
    obtain ⟨k1, k2, k3, k4⟩ := set_law hS hST hs hk
    exact ⟨⟨0, s, s2, L4 ++ (L3 ++ G)⟩, by and_intros <;> rfl, L3, L4, G, S', _, swp3, hq', hf', k1, k2, k3, Nat.le_trans k4 (Nat.succ_le_succ hl)⟩
  · refine ⟨⟨S, fs.getD x.i 0, 0⟩, L1, L2 ++ G, hp, ⟨rfl, hq, by show S.length < _; omega⟩, fun p s L3 ⟨S', hS, hq'⟩ => ⟨⟨T, fs.getD x.i 0, 0⟩, L2, L3 ++ G, swp3, ⟨rfl, hf, by show T.length < _; omega⟩, fun p2 s2 L4 ⟨hp2, hf'⟩ => ?_⟩⟩
    obtain ⟨k1, k2⟩ := stop_law hS hST hk
    exact ⟨k2.trans hp2.symm, ⟨0, s, s2, L4 ++ (L3 ++ G)⟩, by and_intros <;> rfl, L3, L4, G, S', _, swp3, hq', hf', k1, fl_sorted hs, fl_kn hk, Nat.le_trans (fl_len _ _) (Nat.le_succ_of_le hl)⟩
  · refine ⟨S, L1, L2 ++ G, hp, ⟨hq, by omega⟩, fun S' s L3 hD hq' => ⟨⟨T, 0, ats.getD x.i 0⟩, L2, L3 ++ G, swp3, ⟨rfl, hf, by show T.length < _; omega⟩, fun s2 L4 ⟨o2, T', e1, hF, hf'⟩ => ?_, fun ks2 s2 L4 cap' zs' ⟨o2, T', e1, hF, hf'⟩ m1 m2 m3 m4 => ?_⟩,
      fun out S' s L3 cap1 zs1 hD hq' n1 n2 n3 n4 => ⟨⟨T, 0, ats.getD x.i 0⟩, L2, L3 ++ G, swp3, ⟨rfl, hf, by show T.length < _; omega⟩, fun s2 L4 ⟨o2, T', e1, hF, hf'⟩ => ?_, fun ks2 s2 L4 cap' zs' ⟨o2, T', e1, hF, hf'⟩ m1 m2 m3 m4 => ?_⟩⟩
    · obtain ⟨k0, k1, k2, k3, k4⟩ := due_law hD hST hs hk hF
      exact ⟨⟨0, 0⟩, ⟨rfl, Nat.le_refl _⟩, fun i ⟨_, _⟩ => ⟨fun h => by omega, fun _ => ⟨⟨0, s, s2, L4 ++ (L3 ++ G)⟩, by and_intros <;> rfl, L3, L4, G, S', _, swp3, hq', hf', k1, k2, k3, by omega⟩⟩⟩
    · obtain ⟨k0, k1, k2, k3, k4⟩ := due_law hD hST hs hk hF
      rw [e1, ← k0] at m1
      simp at m1
    · obtain ⟨k0, k1, k2, k3, k4⟩ := due_law hD hST hs hk hF
      rw [k0] at n1
      have : o2.length = 0 := by have := congrArg List.length e1; simpa using this.symm
      omega
    · obtain ⟨k0, k1, k2, k3, k4⟩ := due_law hD hST hs hk hF
      have hkl : ks2.length = out.length := by rw [e1, ← k0]; simp
      refine ⟨by omega, ⟨0, out.length⟩, ⟨rfl, Nat.zero_le _⟩, fun i ⟨i1, i2⟩ => ⟨fun h => ?_, fun _ => ⟨⟨0, s, s2, L4 ++ (L3 ++ G)⟩, by and_intros <;> rfl, L3, L4, G, S', _, swp3, hq', hf', k1, k2, k3, by omega⟩⟩⟩
      have hil : i.i < out.length := by omega
      have w2 : IntKind.wrap .i64 ((i.i : Int) + 1) = ((i.i + 1 : Nat) : Int) := by
        have : out.length ≤ 101 := by have := due_len hD; omega
        rw [IntKind.wrap_i64]; omega
      have i1 : i.m = out.length := i1
      refine ⟨⟨by omega, h⟩, by omega, ⟨by omega, by omega⟩, by omega, ?_, ⟨i.i + 1, i.m⟩, by show i.m - (i.i + 1) < i.m - i.i; omega, w2, i1, by show i.i + 1 ≤ i.m; omega⟩
      rw [take_getD n4 hil, take_getD m4 (by omega), e1, k0]
  · have hlS := hST.length_eq
    have hl : T.length ≤ x.i + 1 := hl
    have w2 : IntKind.wrap .i64 ((x.i : Int) + 1) = ((x.i + 1 : Nat) : Int) := by rw [IntKind.wrap_i64]; omega
    refine ⟨S, L1, L2 ++ G, hp, ⟨hq, by omega⟩, fun a s L3 ⟨hn, hq3⟩ => ⟨⟨S, fs.getD x.i 0, 0⟩, L3, L2 ++ G, List.Perm.refl _, ⟨rfl, hq3, by show S.length < _; omega⟩, fun a2 s4 L4 ⟨hat, hq4⟩ => ?_⟩⟩
    have hat : atF S (fs.getD x.i 0) a2.a a2.p := hat
    obtain ⟨n1, n2, n3⟩ := nx_law hn hST hs
    rcases hf with ⟨rfl, e1⟩ | ⟨z, ok, e1, hp2⟩
    · rw [e1]
      obtain rfl := List.Perm.eq_nil hST
      refine .inl ⟨(), ⟨[], by simp⟩, ⟨[], fs.getD x.i 0, 0, 0, false⟩, ⟨by and_intros <;> first | rfl | exact Iff.rfl, rfl, rfl, Nat.le_refl _, by simp, by simp, by simp⟩, fun y ⟨y1, y2, y3, y4, y5, y6⟩ => ⟨fun h => by omega, fun _ => ⟨[], L4, L2 ++ G, List.Perm.refl _, hq4, fun l s5 L5 ⟨e6, hq5⟩ => ?_⟩⟩⟩
      have hnp : ¬ a.p := fun h => by have := n1.1 h; simp at this
      have y1 : y.T = [] := y1
      have hal := at_law (d := y.d) (w := y.w) hat hST (by rw [y4, y1]; simp) y5 (by simp)
      have fin : plInv len ⟨x.i + 1, s5, ⟨none, 0, 0⟩, L5 ++ (L2 ++ G)⟩ := ⟨by show x.i + 1 ≤ len; omega, by show x.i + 1 ≤ 100; omega, L5, L2, G, [], [], List.Perm.refl _, hq5, .inl ⟨rfl, rfl⟩, List.Perm.refl _, by simp, by simp [KN], by simp⟩
      exact ⟨e6, ⟨fun h => hnp h, fun h => h.elim⟩, fun h => hnp h, fun _ => ⟨fun _ => ⟨n2 hnp, hal.1, hal.2, ⟨⟨none, 0, 0⟩, L5 ++ (L2 ++ G), (0, 0, 0)⟩, rfl, ⟨[], by simp⟩, ⟨x.i + 1, s5, ⟨none, 0, 0⟩, L5 ++ (L2 ++ G)⟩, by show len - (x.i + 1) < len - x.i; omega, by refine ⟨w2, ?_⟩; and_intros <;> rfl, fin⟩, fun h => absurd h hnp⟩⟩
    · rw [e1]
      obtain ⟨o1, o2, o3, o4, o5, o6⟩ := id ok
      have hpv : (L4 ++ (L2 ++ G)).Perm ((z.b, Blk.tab 90 z.base z.N [.ints .i64 z.ks, .ints .u64 z.ats]) :: (L4 ++ (z.G ++ G))) :=
        ((hp2.append_right G).append_left L4).trans List.perm_middle
      refine .inr ⟨({ z with G := L4 ++ (z.G ++ G) }, T.length), ⟨[], by rw [List.append_nil]; exact view_perm hpv⟩, ⟨T, fs.getD x.i 0, 0, 0, false⟩, ⟨by and_intros <;> first | rfl | exact Iff.rfl, rfl, rfl, Nat.zero_le _, by simp, by simp, by simp⟩, fun y ⟨y1, y2, y3, y4, y5, y6⟩ => ⟨fun hlt2 => ?_, fun hge => ?_⟩⟩
      · have y1 : y.T = T := y1
        have y2 : y.kind = fs.getD x.i 0 := y2
        rw [y1] at y3 y4 y6
        rw [y2] at y4 y6
        have hlt2 : (y.k : Int) < (T.length : Int) := hlt2
        have hi : y.k < T.length := by omega
        have e2 := off_get o5 hi
        have e3 := off_get o6 hi
        have w3 : IntKind.wrap .i64 ((y.k : Int) + 1) = ((y.k + 1 : Nat) : Int) := by rw [IntKind.wrap_i64]; omega
        simp only [e2, e3, w3, y1]
        refine ⟨⟨by omega, hlt2⟩, by show z.o + y.k < z.N; omega, by show z.o + y.k < z.N; omega, fun he => ⟨⟨T, fs.getD x.i 0, y.k + 1, T[y.k].1, true⟩, by show T.length - (y.k + 1) < T.length - y.k; omega, by and_intros <;> first | rfl | exact Iff.rfl, rfl, rfl, hi, ⟨fun _ => (exists_take hi).2 (.inr he), fun _ => rfl⟩, fun h => (by cases h), fun r hr h => ?_⟩,
          fun he => ⟨⟨T, fs.getD x.i 0, y.k + 1, y.w, y.d⟩, by show T.length - (y.k + 1) < T.length - y.k; omega, by and_intros <;> first | rfl | exact Iff.rfl, rfl, rfl, hi, ?_, y5, fun r hr h => ?_⟩⟩
        · have hr : r ∈ T.take (y.k + 1) := hr
          have h : r.2 = fs.getD x.i 0 := h
          rw [take_succ' hi] at hr
          rcases List.mem_append.1 hr with hr | hr
          · exact absurd (h.trans he.symm) (kn_one hk hi r hr)
          · rw [List.mem_singleton.1 hr]
        · show y.d = true ↔ ∃ r ∈ T.take (y.k + 1), r.2 = fs.getD x.i 0
          rw [exists_take hi, y4]
          exact ⟨.inl, fun h => h.resolve_right he⟩
        · have hr : r ∈ T.take (y.k + 1) := hr
          have h : r.2 = fs.getD x.i 0 := h
          rw [take_succ' hi] at hr
          rcases List.mem_append.1 hr with hr | hr
          · exact y6 r hr h
          · rw [List.mem_singleton.1 hr] at h; exact absurd h he
      · have y1 : y.T = T := y1
        have y2 : y.kind = fs.getD x.i 0 := y2
        rw [y1] at y3 y4 y6
        rw [y2] at y4 y6
        have hge : ¬ (y.k : Int) < (T.length : Int) := hge
        have hkT : y.k = T.length := by omega
        rw [hkT, List.take_length] at y4 y6
        obtain ⟨hal1, hal2⟩ := at_law hat hST y4 y5 y6
        refine ⟨S, L4, z.G ++ G, List.Perm.refl _, hq4, fun l s5 L5 ⟨e6, hq5⟩ => ?_⟩
        have fin : plInv len ⟨x.i + 1, s5, ⟨some ⟨z.b, (z.base + z.o) * 2, none⟩, T.length, z.cap⟩, L5 ++ (z.G ++ G) ++ [(z.b, .tab 90 z.base z.N [.ints .i64 z.ks, .ints .u64 z.ats])]⟩ := by
          refine ⟨by show x.i + 1 ≤ len; omega, by show x.i + 1 ≤ 100; omega, L5, (z.b, .tab 90 z.base z.N [.ints .i64 z.ks, .ints .u64 z.ats]) :: z.G, G, S, T, ?_, hq5, .inr ⟨z, ok, rfl, List.Perm.refl _⟩, hST, hs, hk, hl⟩
          refine List.perm_append_comm.trans ?_
          exact (List.perm_middle (l₁ := L5)).symm
        have fin2 : ∃ x_7 : Sl × (Blks × Go.Sx.Loc), (z.b, z.base, 2) = x_7.2.2 ∧ (∃ G_2, ((b, Blk.cells [Value.slice (some ⟨z.b, (z.base + z.o) * 2, none⟩) T.length z.cap] 85) :: (L5 ++ (z.G ++ G) ++ [(z.b, .tab 90 z.base z.N [.ints .i64 z.ks, .ints .u64 z.ats])])).Perm ((b, Blk.cells [Value.slice x_7.1.o x_7.1.l x_7.1.c] 85) :: (x_7.2.1 ++ G_2))) ∧
            ∃ y : PlX, len - y.i < len - x.i ∧ ((IntKind.wrap .i64 ((x.i : Int) + 1) = (y.i : Int) ∧ x_7.2.1 = y.L ∧ (s5.o = y.va.o ∧ s5.l = y.va.l ∧ s5.c = y.va.c) ∧ x_7.1.o = y.vb.o ∧ x_7.1.l = y.vb.l ∧ x_7.1.c = y.vb.c) ∧ plInv len y) :=
          ⟨⟨⟨some ⟨z.b, (z.base + z.o) * 2, none⟩, T.length, z.cap⟩, _, (z.b, z.base, 2)⟩, rfl, ⟨[], by rw [List.append_nil]⟩, ⟨x.i + 1, s5, ⟨some ⟨z.b, (z.base + z.o) * 2, none⟩, T.length, z.cap⟩, _⟩, by show len - (x.i + 1) < len - x.i; omega, by refine ⟨w2, ?_⟩; and_intros <;> rfl, fin⟩
        refine ⟨by rw [e6]; show (S.length : Int) = (T.length : Int); omega, ⟨fun h => by have := n1.1 h; show (0 : Int) < (T.length : Int); omega, fun h => n1.2 (by have h : (0 : Int) < (T.length : Int) := h; omega)⟩, fun hpp => ?_, fun hnp => ⟨fun _ => ⟨n2 hnp, hal1, hal2, fin2⟩, fun h => absurd h hnp⟩⟩
        have h0 := n1.1 hpp
        have e3 := off_get o6 h0
        rw [Nat.add_zero] at e3
        exact ⟨by show (0 : Int) < (T.length : Int); omega, by show z.o < z.N; omega, (n3 h0).trans e3.symm, fun hnp => absurd hpp hnp, fun _ => ⟨hal1, hal2, fin2⟩⟩
theorem tlNil_vc (oo : Option Addr) (cap : Nat) :
    ∃ (x : Unit),
  ∃ (L : List (Nat × Go.Sx.Blk)),
    ∃ (G : List (Nat × Go.Sx.Blk)),
      List.Perm [] (L ++ G) ∧
        ((0 : Nat) = (0 : Nat) ∧ L = []) ∧
          ∀ (a : Unit) (L' : List (Nat × Go.Sx.Blk)),
            a = () →
              ∀ (b b_1 : Nat),
                ∃ (x0 : PlX),
                  ((((0 : Int) = (↑x0.1 : Int) ∧
                          ((0 : Nat) = (0 : Nat) ∧ (0 : Nat) = (0 : Nat)) ∧
                            ((0 : Nat) = (0 : Nat) ∧ (0 : Nat) = (0 : Nat)) ∧ Go.Value.slice oo (0 : Nat) cap = Go.Value.slice oo (0 : Nat) cap ∧ (↑(0 : Nat) : Int) = (↑(0 : Nat) : Int) ∧ True) ∧
                        ((0 : Nat), (0 : Nat), (0 : Nat)) = ((0 : Nat), (0 : Nat), (0 : Nat)) ∧
                          L' ++ G = x0.4 ∧
                            (b = b ∧ Go.Value.slice Option.none (0 : Nat) (0 : Nat) = Go.Value.slice x0.2.1 x0.2.2 x0.2.3 ∧ True) ∧
                              (b_1 = b_1 ∧ Go.Value.slice Option.none (0 : Nat) (0 : Nat) = Go.Value.slice x0.3.1 x0.3.2 x0.3.3 ∧ True) ∧ True) ∧
                      plInv (0 : Nat) x0) ∧
                    ∀ (x : PlX), plInv (0 : Nat) x → ((↑x.1 : Int) < (↑(0 : Nat) : Int) → False) ∧ (¬(↑x.1 : Int) < (↑(0 : Nat) : Int) → True) := by
  simp only [eq_self, true_and, and_true, false_and, and_false, or_false, false_or, and_self, Nat.zero_add, Nat.add_zero, Nat.sub_zero, Nat.zero_mul, Nat.mul_one, Int.toNat_natCast, cond_true, cond_false, forall_const, implies_true, Nat.beq_refl, ne_eq, not_false_eq_true, not_true_eq_false, Classical.not_not, List.cons.injEq, List.append_nil, List.nil_append, Go.Value.int.injEq, Go.Value.bool.injEq, Go.Value.slice.injEq, Nat.le_refl, Nat.zero_le, Go.Sx.one_int, Go.Sx.one_bool, Go.Sx.one_slice, Go.Sx.one_ptr, Go.Sx.one_map, Int.cast_ofNat_Int, reduceCtorEq, Nat.reduceLeDiff, Nat.reduceMul, Nat.reduceAdd, Nat.reduceSub, Nat.reduceEqDiff, Int.reduceLE, Int.reduceLT, Int.reduceEq, Int.reduceAdd, Int.reduceSub, Int.reduceNeg, Int.reduceMul, Nat.reduceBEq]
  refine ⟨(), [], [], List.Perm.refl _, rfl, fun L' => ⟨⟨0, ⟨none, 0, 0⟩, ⟨none, 0, 0⟩, L' ++ []⟩, ⟨by simp, Nat.zero_le _, Nat.zero_le _, [], [], L', [], [], by simp, QRep.nil, .inl ⟨rfl, rfl⟩, List.Perm.refl _, by simp, by simp [KN], by simp⟩, fun x hx h => by omega⟩⟩
theorem tl_goal (bd : Nat) (ob : Obj) (at_ len cap : Nat) (ks fs ats : List Int) (ho : OpsAt ob at_ len ks fs ats) (hm : len < 9223372036854775808) : tlGoal bd ob at_ len cap := Eq.mpr (by kernel_rfl) (tl_vc bd ob at_ len cap ks fs ats ho hm)
theorem tlNil_goal (oo : Option Addr) (cap : Nat) : tlNilGoal oo cap := Eq.mpr (by kernel_rfl) (tlNil_vc oo cap)
end Go.Proofs.Ythkcfocoekonjaa
