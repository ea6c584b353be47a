/- Span: Due, Next, Len. -/
import Derived.Test.YthkcfocoekonjaaTmH


set_option maxRecDepth 100000
set_option linter.unusedVariables false
set_option linter.unusedSimpArgs false
namespace Go.Proofs.Ythkcfocoekonjaa
open Go Go.Sx
attribute [local irreducible] Go.Sx.xrun

/-- A list of kinds as a value. -/
def KAt (ks : List Int) (v : Value) (L : Blks) : Prop := (ks = [] ∧ v = .slice none 0 0) ∨ ∃ b base cap zs G, v = .slice (some ⟨b, base * 1, none⟩) ks.length cap ∧ 0 < ks.length ∧ ks.length ≤ cap ∧ zs.length = cap ∧ zs.take ks.length = ks ∧ L.Perm ((b, .tab 3 base cap [.ints .i64 zs]) :: G)
structure DX where
  len : Nat
  xs : List Int
  ys : List Int
  k : Nat
  bo : Nat
  baseo : Nat
  capo : Nat
  zs : List Int
def duIn (now : Int) (rows out q : List Row) : Prop := rows.Perm (out ++ q) ∧ out.Pairwise rle ∧ (∀ a ∈ out, a.1 ≤ now) ∧ ∀ a ∈ out, ∀ c ∈ q, rle a c
def duInv (cap : Nat) (now : Int) (rows : List Row) (x : DX) : Prop := x.len < 1000000 ∧ x.xs.length = cap ∧ x.ys.length = cap ∧ x.len ≤ cap ∧ Heap x.len (zipR x.len x.xs x.ys) ∧ ∃ out : List Row, out.length = x.k ∧ (0 < x.k → x.k ≤ x.capo ∧ x.zs.length = x.capo ∧ x.zs.take x.k = out.map (·.2)) ∧ duIn now rows out (zipR x.len x.xs x.ys)
noncomputable def Ann.du (b b1 base cap : Nat) (now : Int) (rows : List Row) : FnAnn := ⟨[], [(2, ⟨DX, [
  (fun σ x => ⟨σ.n, (5, .val (.slice none 0 0)) :: keepE σ.env [0, 1], [.own b (.cells 1 [.slc 1 0 x.len cap] 70), .own b1 (.tab 150 base cap [.ints .u64 x.xs, .ints .i64 x.ys])]⟩, fun _ x => x.k = 0 ∧ duInv cap now rows x),
  (fun σ x => ⟨σ.n, (5, .slc 2 0 x.k x.capo) :: keepE σ.env [0, 1], [.own b (.cells 1 [.slc 1 0 x.len cap] 70), .own b1 (.tab 150 base cap [.ints .u64 x.xs, .ints .i64 x.ys]), .own x.bo (.tab 3 x.baseo x.capo [.ints .i64 x.zs])]⟩, fun _ x => 0 < x.k ∧ duInv cap now rows x)],
  fun x => x.len⟩)]⟩
def DuV (b : Nat) (now : Int) (rows : List Row) (v : Value) (L : Blks) : Prop := ∃ out q vq L1 L2, duIn now rows out q ∧ (∀ c ∈ q, now < c.1) ∧ Heap q.length q ∧ QAt q vq L1 ∧ KAt (out.map (·.2)) v L2 ∧ L.Perm ((b, .cells [vq] 70) :: (L1 ++ L2))
noncomputable def duGoal (b b1 base cap : Nat) (now : Int) (xs ys : List Int) (rows : List Row) : Prop :=
  xrun Go.Proofs.Try.prog [(83, dnT)] [(29, Ann.du b b1 base cap now rows)] [] 9 [] 29 [.ptr 0 0 0, .val (.int .u64 now)]
    [.own b (.cells 1 [.slc 1 0 rows.length cap] 70), .own b1 (.tab 150 base cap [.ints .u64 xs, .ints .i64 ys])] fun s h => DuV b now rows (den (locs h) s) (owned (locs h) h)
noncomputable def Ann.duN (b : Nat) : FnAnn := ⟨[], [(2, ⟨Unit, [(fun σ x => ⟨σ.n, (5, .val (.slice none 0 0)) :: keepE σ.env [0, 1], [.own b (.cells 1 [.val (.slice none 0 0)] 70)]⟩, fun _ x => x = ())], fun x => 0⟩)]⟩
noncomputable def duNilGoal (b : Nat) (now : Int) : Prop :=
  xrun Go.Proofs.Try.prog [(83, dnT)] [(29, Ann.duN b)] [([], (12, false))] 9 [] 29 [.ptr 0 0 0, .val (.int .u64 now)]
    [.own b (.cells 1 [.val (.slice none 0 0)] 70)] fun s h => DuV b now [] (den (locs h) s) (owned (locs h) h)
/-- The first tick. -/
def nxF (rows : List Row) (at_ : Int) (p : Prop) : Prop := (¬ p → rows = [] ∧ at_ = 0) ∧ (p → ∃ r ∈ rows, r.1 = at_ ∧ ∀ c ∈ rows, at_ ≤ c.1)
noncomputable def nxGoal (b b1 base cap : Nat) (xs ys : List Int) (rows : List Row) : Prop :=
  xrun Go.Proofs.Try.prog [] [] [] 9 [] 32 [.ptr 0 0 0]
    [.own b (.cells 1 [.slc 1 0 rows.length cap] 70), .own b1 (.tab 150 base cap [.ints .u64 xs, .ints .i64 ys])] fun s h => match s with
      | .tup [.val (.int .u64 a), p] => bOf p fun p => nxF rows a p ∧ TbL b b1 base cap (fun q => q = rows) (owned (locs h) h)
      | _ => False
noncomputable def nxNilGoal (b : Nat) : Prop :=
  xrun Go.Proofs.Try.prog [] [] [([], (9, true))] 9 [] 32 [.ptr 0 0 0] [.own b (.cells 1 [.val (.slice none 0 0)] 70)] fun s h => match s with
      | .tup [.val (.int .u64 a), p] => bOf p fun p => nxF [] a p ∧ owned (locs h) h = [(b, .cells [.slice none 0 0] 70)]
      | _ => False
noncomputable def lnGoal (b b1 base cap : Nat) (xs ys : List Int) (rows : List Row) : Prop :=
  xrun Go.Proofs.Try.prog [] [] [] 9 [] 30 [.ptr 0 0 0]
    [.own b (.cells 1 [.slc 1 0 rows.length cap] 70), .own b1 (.tab 150 base cap [.ints .u64 xs, .ints .i64 ys])] fun s h => TbR b b1 base cap (fun v q => v = .int .i64 rows.length ∧ q = rows) (den (locs h) s) (owned (locs h) h)
noncomputable def lnNilGoal (b : Nat) : Prop :=
  xrun Go.Proofs.Try.prog [] [] [] 9 [] 30 [.ptr 0 0 0] [.own b (.cells 1 [.val (.slice none 0 0)] 70)] fun s h => den (locs h) s = .int .i64 0 ∧ owned (locs h) h = [(b, .cells [.slice none 0 0] 70)]

theorem du_cut {q : List Row} {n : Nat} (h : Heap (n + 1) q) (hl : q.length = n + 1) : DnInv n (sw q 0 n) 0 0 := by
  rcases Nat.eq_zero_or_pos n with rfl | h0
  · exact ⟨Nat.zero_le _, Nat.le_refl _, fun k k0 kn => by omega, fun k k0 kn => by omega⟩
  · exact heap_cut h hl.symm h0
theorem du_pop {q q' : List Row} {n : Nat} {p : Prop} {now : Int} {rows out : List Row} (h : Heap (n + 1) q) (hl : q.length = n + 1) (hnow : (gq q 0).1 ≤ now) (hd : dnPost n 0 (sw q 0 n) p q') (hin : duIn now rows out q) :
    q'.length = n + 1 ∧ Heap n (q'.take n) ∧ duIn now rows (out ++ [gq q' n]) (q'.take n) := by
  obtain ⟨d1, d2, d3, d4⟩ := hd
  obtain ⟨i1, i2, i3, i4⟩ := hin
  have hpq : q'.Perm q := d1.trans (sw_perm (by omega) (by omega))
  have hl' : q'.length = n + 1 := by rw [hpq.length_eq, hl]
  have hlast : gq q' n = gq q 0 := by rw [d4 n (Nat.le_refl _), sw_get (by omega) (by omega), if_pos rfl]
  have hpp := pop_perm hpq hl'
  rw [hlast] at hpp ⊢
  have hmin : ∀ c ∈ q, rle (gq q 0) c := fun c hc => by
    obtain ⟨k, hk⟩ := List.mem_iff_getElem?.1 hc
    obtain ⟨hlt, he⟩ := List.getElem?_eq_some_iff.1 hk
    have := heap_min h k (by omega)
    rwa [gq_eq hlt, he] at this
  have hg : gq q 0 ∈ q := by rw [gq_eq (by omega)]; exact List.getElem_mem _
  have hsub : ∀ c ∈ q'.take n, c ∈ q := fun c hc => hpp.mem_iff.2 (by simp [hc])
  have hhn : Heap n q' := by
    by_cases hp : p
    · exact d2 hp
    · rcases Nat.eq_zero_or_pos n with rfl | h0
      · intro k k0 kn; omega
      · exact up_done (d3 hp h0) (.inl rfl)
  refine ⟨hl', heap_take hhn, ?_, ?_, fun a ha => ?_, fun a ha c hc => ?_⟩
  · rw [List.append_assoc]
    exact i1.trans (hpp.append_left out)
  · rw [List.pairwise_append]
    exact ⟨i2, by simp, fun a ha c hc => by simp at hc; subst hc; exact i4 a ha _ hg⟩
  · rcases List.mem_append.1 ha with ha | ha
    · exact i3 a ha
    · simp at ha; subst ha; exact hnow
  · rcases List.mem_append.1 ha with ha | ha
    · exact i4 a ha c (hsub c hc)
    · simp at ha; subst ha; exact hmin c (hsub c hc)
theorem du_end {b b1 base cap : Nat} {now : Int} {rows : List Row} {x : DX} {v : Value} {L2 : Blks} (hx : duInv cap now rows x) (hd : x.len = 0 ∨ now < x.xs.getD 0 0)
    (hv : ∀ out : List Row, out.length = x.k → (0 < x.k → x.k ≤ x.capo ∧ x.zs.length = x.capo ∧ x.zs.take x.k = out.map (·.2)) → KAt (out.map (·.2)) v L2) :
    DuV b now rows v ((b, .cells [.slice (some ⟨b1, base * 2, none⟩) x.len cap] 70) :: (b1, .tab 150 base cap [.ints .u64 x.xs, .ints .i64 x.ys]) :: L2) := by
  obtain ⟨q0, q1, q2, q3, q4, out, o1, o2, o3⟩ := hx
  have hl := zipR_len (len := x.len) (xs := x.xs) (ys := x.ys) (by omega) (by omega)
  refine ⟨out, zipR x.len x.xs x.ys, _, [(b1, .tab 150 base cap [.ints .u64 x.xs, .ints .i64 x.ys])], L2, o3, fun c hc => ?_, by rw [hl]; exact q4, .inr ⟨b1, base, cap, x.xs, x.ys, [], rfl, by omega, q1, q2, by rw [hl]; exact zipR_fst (by omega) (by omega), by rw [hl]; exact zipR_snd (by omega) (by omega), List.Perm.refl _⟩, hv out o1 o2, by rw [hl]; exact List.Perm.refl _⟩
  obtain ⟨k, hk⟩ := List.mem_iff_getElem?.1 hc
  obtain ⟨hlt, he⟩ := List.getElem?_eq_some_iff.1 hk
  rcases hd with hd | hd
  · omega
  · have h1 := heap_min q4 k (by omega)
    rw [gq_eq hlt, he, gq_zip (by omega) (by omega) (by omega)] at h1
    unfold rle at h1
    simp only at h1
    omega
theorem kat_nil {out : List Row} (h : out.length = 0) : KAt (out.map (·.2)) (.slice none 0 0) [] := by
  have : out = [] := List.eq_nil_of_length_eq_zero h
  subst this
  exact .inl ⟨rfl, rfl⟩

set_option maxHeartbeats 1000000 in
theorem du_vc (b b1 base cap : Nat) (now : Int) (xs ys : List Int) (rows : List Row) (hlc : rows.length ≤ cap) (hb : rows.length < 1000000) (hx : xs.length = cap) (hy : ys.length = cap)
    (h1 : xs.take rows.length = rows.map (·.1)) (h2 : ys.take rows.length = rows.map (·.2)) (hh : Heap rows.length rows) :
    ∃ (x0 : DX),
  (((Go.Value.slice Option.none (0 : Nat) (0 : Nat) = Go.Value.slice Option.none (0 : Nat) (0 : Nat) ∧ ((0 : Nat) = (0 : Nat) ∧ (0 : Nat) = (0 : Nat)) ∧ now = now ∧ True) ∧
          (b = b ∧ ((0 : Nat) = (0 : Nat) ∧ List.length rows = x0.1 ∧ cap = cap) ∧ True) ∧ (b1 = b1 ∧ base = base ∧ cap = cap ∧ xs = x0.2 ∧ ys = x0.3 ∧ True) ∧ True) ∧
        x0.4 = (0 : Nat) ∧ duInv cap now rows x0 ∨
      ((False ∧ ((0 : Nat) = (0 : Nat) ∧ (0 : Nat) = (0 : Nat)) ∧ now = now ∧ True) ∧
          (b = b ∧ ((0 : Nat) = (0 : Nat) ∧ List.length rows = x0.1 ∧ cap = cap) ∧ True) ∧ (b1 = b1 ∧ base = base ∧ cap = cap ∧ xs = x0.2 ∧ ys = x0.3 ∧ True) ∧ False ∧ True) ∧
        (0 : Nat) < x0.4 ∧ duInv cap now rows x0) ∧
    (∀ (x : DX),
        x.4 = (0 : Nat) ∧ duInv cap now rows x →
          ((0 : Int) < (↑x.1 : Int) →
              ((0 : Int) ≤ (0 : Int) ∧ (0 : Int) < (↑x.1 : Int)) ∧
                (0 : Nat) + Int.toNat (0 : Int) < cap ∧
                  (List.getD x.2 (0 : Nat) (0 : Int) ≤ now →
                      ((0 : Int) ≤ Go.IntKind.wrap Go.IntKind.i64 ((↑x.1 : Int) - (1 : Int)) ∧ Go.IntKind.wrap Go.IntKind.i64 ((↑x.1 : Int) - (1 : Int)) < (↑x.1 : Int)) ∧
                        (0 : Nat) + Int.toNat (Go.IntKind.wrap Go.IntKind.i64 ((↑x.1 : Int) - (1 : Int))) < cap ∧
                          (0 : Nat) + Int.toNat (Go.IntKind.wrap Go.IntKind.i64 ((↑x.1 : Int) - (1 : Int))) < cap ∧
                            ((0 : Int) ≤ (0 : Int) ∧ (0 : Int) < (↑x.1 : Int)) ∧
                              (0 : Nat) + Int.toNat (0 : Int) < cap ∧
                                (0 : Nat) + Int.toNat (0 : Int) < cap ∧
                                  ((0 : Int) ≤ (0 : Int) ∧ (0 : Int) < (↑x.1 : Int)) ∧
                                    (0 : Nat) + Int.toNat (0 : Int) < cap ∧
                                      (0 : Nat) + Int.toNat (0 : Int) < cap ∧
                                        ((0 : Int) ≤ Go.IntKind.wrap Go.IntKind.i64 ((↑x.1 : Int) - (1 : Int)) ∧ Go.IntKind.wrap Go.IntKind.i64 ((↑x.1 : Int) - (1 : Int)) < (↑x.1 : Int)) ∧
                                          (0 : Nat) + Int.toNat (Go.IntKind.wrap Go.IntKind.i64 ((↑x.1 : Int) - (1 : Int))) < cap ∧
                                            (0 : Nat) + Int.toNat (Go.IntKind.wrap Go.IntKind.i64 ((↑x.1 : Int) - (1 : Int))) < cap ∧
                                              (x.1 ≤ cap ∧
                                                  cap = cap ∧
                                                    x.1 < (1000000 : Nat) ∧
                                                      ∃ (i0 : Nat),
                                                        ∃ (n : Nat),
                                                          [Go.Value.int Go.IntKind.i64 (0 : Int), Go.Value.int Go.IntKind.i64 (Go.IntKind.wrap Go.IntKind.i64 ((↑x.1 : Int) - (1 : Int)))] =
                                                              [Go.Value.int Go.IntKind.i64 (↑i0 : Int), Go.Value.int Go.IntKind.i64 (↑n : Int)] ∧
                                                            n ≤
                                                                List.length
                                                                  (zipR x.1
                                                                    (List.set
                                                                      (List.set x.2 (0 : Nat)
                                                                        (List.getD x.2 ((0 : Nat) + Int.toNat (Go.IntKind.wrap Go.IntKind.i64 ((↑x.1 : Int) - (1 : Int)))) (0 : Int)))
                                                                      ((0 : Nat) + Int.toNat (Go.IntKind.wrap Go.IntKind.i64 ((↑x.1 : Int) - (1 : Int)))) (List.getD x.2 (0 : Nat) (0 : Int)))
                                                                    (List.set
                                                                      (List.set x.3 (0 : Nat)
                                                                        (List.getD x.3 ((0 : Nat) + Int.toNat (Go.IntKind.wrap Go.IntKind.i64 ((↑x.1 : Int) - (1 : Int)))) (0 : Int)))
                                                                      ((0 : Nat) + Int.toNat (Go.IntKind.wrap Go.IntKind.i64 ((↑x.1 : Int) - (1 : Int)))) (List.getD x.3 (0 : Nat) (0 : Int)))) ∧
                                                              i0 <
                                                                  List.length
                                                                    (zipR x.1
                                                                      (List.set
                                                                        (List.set x.2 (0 : Nat)
                                                                          (List.getD x.2 ((0 : Nat) + Int.toNat (Go.IntKind.wrap Go.IntKind.i64 ((↑x.1 : Int) - (1 : Int)))) (0 : Int)))
                                                                        ((0 : Nat) + Int.toNat (Go.IntKind.wrap Go.IntKind.i64 ((↑x.1 : Int) - (1 : Int)))) (List.getD x.2 (0 : Nat) (0 : Int)))
                                                                      (List.set
                                                                        (List.set x.3 (0 : Nat)
                                                                          (List.getD x.3 ((0 : Nat) + Int.toNat (Go.IntKind.wrap Go.IntKind.i64 ((↑x.1 : Int) - (1 : Int)))) (0 : Int)))
                                                                        ((0 : Nat) + Int.toNat (Go.IntKind.wrap Go.IntKind.i64 ((↑x.1 : Int) - (1 : Int)))) (List.getD x.3 (0 : Nat) (0 : Int)))) ∧
                                                                DnInv n
                                                                  (zipR x.1
                                                                    (List.set
                                                                      (List.set x.2 (0 : Nat)
                                                                        (List.getD x.2 ((0 : Nat) + Int.toNat (Go.IntKind.wrap Go.IntKind.i64 ((↑x.1 : Int) - (1 : Int)))) (0 : Int)))
                                                                      ((0 : Nat) + Int.toNat (Go.IntKind.wrap Go.IntKind.i64 ((↑x.1 : Int) - (1 : Int)))) (List.getD x.2 (0 : Nat) (0 : Int)))
                                                                    (List.set
                                                                      (List.set x.3 (0 : Nat)
                                                                        (List.getD x.3 ((0 : Nat) + Int.toNat (Go.IntKind.wrap Go.IntKind.i64 ((↑x.1 : Int) - (1 : Int)))) (0 : Int)))
                                                                      ((0 : Nat) + Int.toNat (Go.IntKind.wrap Go.IntKind.i64 ((↑x.1 : Int) - (1 : Int)))) (List.getD x.3 (0 : Nat) (0 : Int))))
                                                                  i0 i0) ∧
                                                ∀ (a : Prop) (rows' : List Row) (xs' ys' : List Int),
                                                  (∃ (i0 : Nat),
                                                      ∃ (n : Nat),
                                                        [Go.Value.int Go.IntKind.i64 (0 : Int), Go.Value.int Go.IntKind.i64 (Go.IntKind.wrap Go.IntKind.i64 ((↑x.1 : Int) - (1 : Int)))] =
                                                            [Go.Value.int Go.IntKind.i64 (↑i0 : Int), Go.Value.int Go.IntKind.i64 (↑n : Int)] ∧
                                                          dnPost n i0
                                                            (zipR x.1
                                                              (List.set
                                                                (List.set x.2 (0 : Nat) (List.getD x.2 ((0 : Nat) + Int.toNat (Go.IntKind.wrap Go.IntKind.i64 ((↑x.1 : Int) - (1 : Int)))) (0 : Int)))
                                                                ((0 : Nat) + Int.toNat (Go.IntKind.wrap Go.IntKind.i64 ((↑x.1 : Int) - (1 : Int)))) (List.getD x.2 (0 : Nat) (0 : Int)))
                                                              (List.set
                                                                (List.set x.3 (0 : Nat) (List.getD x.3 ((0 : Nat) + Int.toNat (Go.IntKind.wrap Go.IntKind.i64 ((↑x.1 : Int) - (1 : Int)))) (0 : Int)))
                                                                ((0 : Nat) + Int.toNat (Go.IntKind.wrap Go.IntKind.i64 ((↑x.1 : Int) - (1 : Int)))) (List.getD x.3 (0 : Nat) (0 : Int))))
                                                            a rows') →
                                                    List.length rows' ≤ cap →
                                                      List.length xs' = cap →
                                                        List.length ys' = cap →
                                                          List.take (List.length rows') xs' = List.map (fun (x : Row) => x.1) rows' →
                                                            List.take (List.length rows') ys' = List.map (fun (x : Row) => x.2) rows' →
                                                              ((0 : Int) ≤ Go.IntKind.wrap Go.IntKind.i64 ((↑(List.length rows') : Int) - (1 : Int)) ∧
                                                                  Go.IntKind.wrap Go.IntKind.i64 ((↑(List.length rows') : Int) - (1 : Int)) < (↑(List.length rows') : Int)) ∧
                                                                (0 : Nat) + Int.toNat (Go.IntKind.wrap Go.IntKind.i64 ((↑(List.length rows') : Int) - (1 : Int))) < cap ∧
                                                                  (0 : Nat) + Int.toNat (Go.IntKind.wrap Go.IntKind.i64 ((↑(List.length rows') : Int) - (1 : Int))) < cap ∧
                                                                    ∀ (b_1 : Nat),
                                                                      Go.Value.oneCell'
                                                                            (Go.Value.int Go.IntKind.u64
                                                                              (List.getD xs' ((0 : Nat) + Int.toNat (Go.IntKind.wrap Go.IntKind.i64 ((↑(List.length rows') : Int) - (1 : Int))))
                                                                                (0 : Int))) =
                                                                          Bool.true ∧
                                                                        Go.Value.oneCell'
                                                                              (Go.Value.int Go.IntKind.i64
                                                                                (List.getD ys' ((0 : Nat) + Int.toNat (Go.IntKind.wrap Go.IntKind.i64 ((↑(List.length rows') : Int) - (1 : Int))))
                                                                                  (0 : Int))) =
                                                                            Bool.true ∧
                                                                          ((0 : Int) ≤ Go.IntKind.wrap Go.IntKind.i64 ((↑(List.length rows') : Int) - (1 : Int)) ∧
                                                                              Go.IntKind.wrap Go.IntKind.i64 ((↑(List.length rows') : Int) - (1 : Int)) ≤ (↑cap : Int)) ∧
                                                                            ∀ (b_2 : Nat),
                                                                              Go.Value.oneCell'
                                                                                    (Go.Value.int Go.IntKind.i64
                                                                                      (List.getD ys' ((0 : Nat) + Int.toNat (Go.IntKind.wrap Go.IntKind.i64 ((↑(List.length rows') : Int) - (1 : Int))))
                                                                                        (0 : Int))) =
                                                                                  Bool.true ∧
                                                                                (8 : Nat) ≤ (140737488355328 : Nat) ∧
                                                                                  ∀ (b_3 cap' : Nat),
                                                                                    (1 : Nat) ≤ cap' →
                                                                                      ∀ (sp : List Int),
                                                                                        List.length sp = cap' - (1 : Nat) →
                                                                                          ∃ (y : DX),
                                                                                            y.1 < x.1 ∧
                                                                                              (((Go.Value.slice (Option.some { block := b_3, off := (0 : Nat) * (1 : Nat) }) (1 : Nat) cap' =
                                                                                                        Go.Value.slice Option.none (0 : Nat) (0 : Nat) ∧
                                                                                                      ((0 : Nat) = (0 : Nat) ∧ (0 : Nat) = (0 : Nat)) ∧ now = now ∧ True) ∧
                                                                                                    (b = b ∧
                                                                                                        ((0 : Nat) = (0 : Nat) ∧
                                                                                                            Int.toNat (Go.IntKind.wrap Go.IntKind.i64 ((↑(List.length rows') : Int) - (1 : Int))) =
                                                                                                                y.1 ∧
                                                                                                              cap = cap) ∧
                                                                                                          True) ∧
                                                                                                      (b1 = b1 ∧ base = base ∧ cap = cap ∧ xs' = y.2 ∧ ys' = y.3 ∧ True) ∧ True) ∧
                                                                                                  y.4 = (0 : Nat) ∧ duInv cap now rows y ∨
                                                                                                ((((0 : Nat) = (0 : Nat) ∧ (1 : Nat) = y.4 ∧ cap' = y.7) ∧
                                                                                                      ((0 : Nat) = (0 : Nat) ∧ (0 : Nat) = (0 : Nat)) ∧ now = now ∧ True) ∧
                                                                                                    (b = b ∧
                                                                                                        ((0 : Nat) = (0 : Nat) ∧
                                                                                                            Int.toNat (Go.IntKind.wrap Go.IntKind.i64 ((↑(List.length rows') : Int) - (1 : Int))) =
                                                                                                                y.1 ∧
                                                                                                              cap = cap) ∧
                                                                                                          True) ∧
                                                                                                      (b1 = b1 ∧ base = base ∧ cap = cap ∧ xs' = y.2 ∧ ys' = y.3 ∧ True) ∧
                                                                                                        (b_3 = y.5 ∧
                                                                                                            (0 : Nat) = y.6 ∧
                                                                                                              cap' = y.7 ∧
                                                                                                                List.getD ys'
                                                                                                                        ((0 : Nat) +
                                                                                                                          Int.toNat
                                                                                                                            (Go.IntKind.wrap Go.IntKind.i64 ((↑(List.length rows') : Int) - (1 : Int))))
                                                                                                                        (0 : Int) ::
                                                                                                                      sp =
                                                                                                                    y.8 ∧
                                                                                                                  True) ∧
                                                                                                          True) ∧
                                                                                                  (0 : Nat) < y.4 ∧ duInv cap now rows y)) ∧
                    (¬List.getD x.2 (0 : Nat) (0 : Int) ≤ now →
                      DuV b now rows (Go.Value.slice Option.none (0 : Nat) (0 : Nat))
                        [(b, Go.Sx.Blk.cells [Go.Value.slice (Option.some { block := b1, off := base * (2 : Nat) }) x.1 cap] (70 : Go.TypeId)),
                          (b1, Go.Sx.Blk.tab (150 : Go.TypeId) base cap [Go.Sx.Col.ints Go.IntKind.u64 x.2, Go.Sx.Col.ints Go.IntKind.i64 x.3])])) ∧
            (¬(0 : Int) < (↑x.1 : Int) →
              DuV b now rows (Go.Value.slice Option.none (0 : Nat) (0 : Nat))
                [(b, Go.Sx.Blk.cells [Go.Value.slice (Option.some { block := b1, off := base * (2 : Nat) }) x.1 cap] (70 : Go.TypeId)),
                  (b1, Go.Sx.Blk.tab (150 : Go.TypeId) base cap [Go.Sx.Col.ints Go.IntKind.u64 x.2, Go.Sx.Col.ints Go.IntKind.i64 x.3])])) ∧
      ∀ (x : DX),
        (0 : Nat) < x.4 ∧ duInv cap now rows x →
          ((0 : Int) < (↑x.1 : Int) →
              ((0 : Int) ≤ (0 : Int) ∧ (0 : Int) < (↑x.1 : Int)) ∧
                (0 : Nat) + Int.toNat (0 : Int) < cap ∧
                  (List.getD x.2 (0 : Nat) (0 : Int) ≤ now →
                      ((0 : Int) ≤ Go.IntKind.wrap Go.IntKind.i64 ((↑x.1 : Int) - (1 : Int)) ∧ Go.IntKind.wrap Go.IntKind.i64 ((↑x.1 : Int) - (1 : Int)) < (↑x.1 : Int)) ∧
                        (0 : Nat) + Int.toNat (Go.IntKind.wrap Go.IntKind.i64 ((↑x.1 : Int) - (1 : Int))) < cap ∧
                          (0 : Nat) + Int.toNat (Go.IntKind.wrap Go.IntKind.i64 ((↑x.1 : Int) - (1 : Int))) < cap ∧
                            ((0 : Int) ≤ (0 : Int) ∧ (0 : Int) < (↑x.1 : Int)) ∧
                              (0 : Nat) + Int.toNat (0 : Int) < cap ∧
                                (0 : Nat) + Int.toNat (0 : Int) < cap ∧
                                  ((0 : Int) ≤ (0 : Int) ∧ (0 : Int) < (↑x.1 : Int)) ∧
                                    (0 : Nat) + Int.toNat (0 : Int) < cap ∧
                                      (0 : Nat) + Int.toNat (0 : Int) < cap ∧
                                        ((0 : Int) ≤ Go.IntKind.wrap Go.IntKind.i64 ((↑x.1 : Int) - (1 : Int)) ∧ Go.IntKind.wrap Go.IntKind.i64 ((↑x.1 : Int) - (1 : Int)) < (↑x.1 : Int)) ∧
                                          (0 : Nat) + Int.toNat (Go.IntKind.wrap Go.IntKind.i64 ((↑x.1 : Int) - (1 : Int))) < cap ∧
                                            (0 : Nat) + Int.toNat (Go.IntKind.wrap Go.IntKind.i64 ((↑x.1 : Int) - (1 : Int))) < cap ∧
                                              (x.1 ≤ cap ∧
                                                  cap = cap ∧
                                                    x.1 < (1000000 : Nat) ∧
                                                      ∃ (i0 : Nat),
                                                        ∃ (n : Nat),
                                                          [Go.Value.int Go.IntKind.i64 (0 : Int), Go.Value.int Go.IntKind.i64 (Go.IntKind.wrap Go.IntKind.i64 ((↑x.1 : Int) - (1 : Int)))] =
                                                              [Go.Value.int Go.IntKind.i64 (↑i0 : Int), Go.Value.int Go.IntKind.i64 (↑n : Int)] ∧
                                                            n ≤
                                                                List.length
                                                                  (zipR x.1
                                                                    (List.set
                                                                      (List.set x.2 (0 : Nat)
                                                                        (List.getD x.2 ((0 : Nat) + Int.toNat (Go.IntKind.wrap Go.IntKind.i64 ((↑x.1 : Int) - (1 : Int)))) (0 : Int)))
                                                                      ((0 : Nat) + Int.toNat (Go.IntKind.wrap Go.IntKind.i64 ((↑x.1 : Int) - (1 : Int)))) (List.getD x.2 (0 : Nat) (0 : Int)))
                                                                    (List.set
                                                                      (List.set x.3 (0 : Nat)
                                                                        (List.getD x.3 ((0 : Nat) + Int.toNat (Go.IntKind.wrap Go.IntKind.i64 ((↑x.1 : Int) - (1 : Int)))) (0 : Int)))
                                                                      ((0 : Nat) + Int.toNat (Go.IntKind.wrap Go.IntKind.i64 ((↑x.1 : Int) - (1 : Int)))) (List.getD x.3 (0 : Nat) (0 : Int)))) ∧
                                                              i0 <
                                                                  List.length
                                                                    (zipR x.1
                                                                      (List.set
                                                                        (List.set x.2 (0 : Nat)
                                                                          (List.getD x.2 ((0 : Nat) + Int.toNat (Go.IntKind.wrap Go.IntKind.i64 ((↑x.1 : Int) - (1 : Int)))) (0 : Int)))
                                                                        ((0 : Nat) + Int.toNat (Go.IntKind.wrap Go.IntKind.i64 ((↑x.1 : Int) - (1 : Int)))) (List.getD x.2 (0 : Nat) (0 : Int)))
                                                                      (List.set
                                                                        (List.set x.3 (0 : Nat)
                                                                          (List.getD x.3 ((0 : Nat) + Int.toNat (Go.IntKind.wrap Go.IntKind.i64 ((↑x.1 : Int) - (1 : Int)))) (0 : Int)))
                                                                        ((0 : Nat) + Int.toNat (Go.IntKind.wrap Go.IntKind.i64 ((↑x.1 : Int) - (1 : Int)))) (List.getD x.3 (0 : Nat) (0 : Int)))) ∧
                                                                DnInv n
                                                                  (zipR x.1
                                                                    (List.set
                                                                      (List.set x.2 (0 : Nat)
                                                                        (List.getD x.2 ((0 : Nat) + Int.toNat (Go.IntKind.wrap Go.IntKind.i64 ((↑x.1 : Int) - (1 : Int)))) (0 : Int)))
                                                                      ((0 : Nat) + Int.toNat (Go.IntKind.wrap Go.IntKind.i64 ((↑x.1 : Int) - (1 : Int)))) (List.getD x.2 (0 : Nat) (0 : Int)))
                                                                    (List.set
                                                                      (List.set x.3 (0 : Nat)
                                                                        (List.getD x.3 ((0 : Nat) + Int.toNat (Go.IntKind.wrap Go.IntKind.i64 ((↑x.1 : Int) - (1 : Int)))) (0 : Int)))
                                                                      ((0 : Nat) + Int.toNat (Go.IntKind.wrap Go.IntKind.i64 ((↑x.1 : Int) - (1 : Int)))) (List.getD x.3 (0 : Nat) (0 : Int))))
                                                                  i0 i0) ∧
                                                ∀ (a : Prop) (rows' : List Row) (xs' ys' : List Int),
                                                  (∃ (i0 : Nat),
                                                      ∃ (n : Nat),
                                                        [Go.Value.int Go.IntKind.i64 (0 : Int), Go.Value.int Go.IntKind.i64 (Go.IntKind.wrap Go.IntKind.i64 ((↑x.1 : Int) - (1 : Int)))] =
                                                            [Go.Value.int Go.IntKind.i64 (↑i0 : Int), Go.Value.int Go.IntKind.i64 (↑n : Int)] ∧
                                                          dnPost n i0
                                                            (zipR x.1
                                                              (List.set
                                                                (List.set x.2 (0 : Nat) (List.getD x.2 ((0 : Nat) + Int.toNat (Go.IntKind.wrap Go.IntKind.i64 ((↑x.1 : Int) - (1 : Int)))) (0 : Int)))
                                                                ((0 : Nat) + Int.toNat (Go.IntKind.wrap Go.IntKind.i64 ((↑x.1 : Int) - (1 : Int)))) (List.getD x.2 (0 : Nat) (0 : Int)))
                                                              (List.set
                                                                (List.set x.3 (0 : Nat) (List.getD x.3 ((0 : Nat) + Int.toNat (Go.IntKind.wrap Go.IntKind.i64 ((↑x.1 : Int) - (1 : Int)))) (0 : Int)))
                                                                ((0 : Nat) + Int.toNat (Go.IntKind.wrap Go.IntKind.i64 ((↑x.1 : Int) - (1 : Int)))) (List.getD x.3 (0 : Nat) (0 : Int))))
                                                            a rows') →
                                                    List.length rows' ≤ cap →
                                                      List.length xs' = cap →
                                                        List.length ys' = cap →
                                                          List.take (List.length rows') xs' = List.map (fun (x : Row) => x.1) rows' →
                                                            List.take (List.length rows') ys' = List.map (fun (x : Row) => x.2) rows' →
                                                              ((0 : Int) ≤ Go.IntKind.wrap Go.IntKind.i64 ((↑(List.length rows') : Int) - (1 : Int)) ∧
                                                                  Go.IntKind.wrap Go.IntKind.i64 ((↑(List.length rows') : Int) - (1 : Int)) < (↑(List.length rows') : Int)) ∧
                                                                (0 : Nat) + Int.toNat (Go.IntKind.wrap Go.IntKind.i64 ((↑(List.length rows') : Int) - (1 : Int))) < cap ∧
                                                                  (0 : Nat) + Int.toNat (Go.IntKind.wrap Go.IntKind.i64 ((↑(List.length rows') : Int) - (1 : Int))) < cap ∧
                                                                    ∀ (b_1 : Nat),
                                                                      Go.Value.oneCell'
                                                                            (Go.Value.int Go.IntKind.u64
                                                                              (List.getD xs' ((0 : Nat) + Int.toNat (Go.IntKind.wrap Go.IntKind.i64 ((↑(List.length rows') : Int) - (1 : Int))))
                                                                                (0 : Int))) =
                                                                          Bool.true ∧
                                                                        Go.Value.oneCell'
                                                                              (Go.Value.int Go.IntKind.i64
                                                                                (List.getD ys' ((0 : Nat) + Int.toNat (Go.IntKind.wrap Go.IntKind.i64 ((↑(List.length rows') : Int) - (1 : Int))))
                                                                                  (0 : Int))) =
                                                                            Bool.true ∧
                                                                          ((0 : Int) ≤ Go.IntKind.wrap Go.IntKind.i64 ((↑(List.length rows') : Int) - (1 : Int)) ∧
                                                                              Go.IntKind.wrap Go.IntKind.i64 ((↑(List.length rows') : Int) - (1 : Int)) ≤ (↑cap : Int)) ∧
                                                                            ∀ (b_2 : Nat),
                                                                              Go.Value.oneCell'
                                                                                    (Go.Value.int Go.IntKind.i64
                                                                                      (List.getD ys' ((0 : Nat) + Int.toNat (Go.IntKind.wrap Go.IntKind.i64 ((↑(List.length rows') : Int) - (1 : Int))))
                                                                                        (0 : Int))) =
                                                                                  Bool.true ∧
                                                                                (x.4 ≤ x.7 ∧ (0 : Nat) + x.7 ≤ x.7) ∧
                                                                                  (0 : Nat) + x.4 ≤ x.7 ∧
                                                                                    (x.4 + (1 : Nat)) * (8 : Nat) ≤ (140737488355328 : Nat) ∧
                                                                                      ∀ (b_3 base_1 cap' : Nat),
                                                                                        x.4 + (1 : Nat) ≤ cap' →
                                                                                          (x.4 + (1 : Nat) ≤ x.7 → cap' = x.7) →
                                                                                            ∀ (sp : List Int),
                                                                                              List.length sp = cap' - (x.4 + (1 : Nat)) →
                                                                                                ∃ (y : DX),
                                                                                                  y.1 < x.1 ∧
                                                                                                    (((Go.Value.slice (Option.some { block := b_3, off := base_1 * (1 : Nat) }) (x.4 + (1 : Nat)) cap' =
                                                                                                              Go.Value.slice Option.none (0 : Nat) (0 : Nat) ∧
                                                                                                            ((0 : Nat) = (0 : Nat) ∧ (0 : Nat) = (0 : Nat)) ∧ now = now ∧ True) ∧
                                                                                                          (b = b ∧
                                                                                                              ((0 : Nat) = (0 : Nat) ∧
                                                                                                                  Int.toNat
                                                                                                                        (Go.IntKind.wrap Go.IntKind.i64 ((↑(List.length rows') : Int) - (1 : Int))) =
                                                                                                                      y.1 ∧
                                                                                                                    cap = cap) ∧
                                                                                                                True) ∧
                                                                                                            (b1 = b1 ∧ base = base ∧ cap = cap ∧ xs' = y.2 ∧ ys' = y.3 ∧ True) ∧ True) ∧
                                                                                                        y.4 = (0 : Nat) ∧ duInv cap now rows y ∨
                                                                                                      ((((0 : Nat) = (0 : Nat) ∧ x.4 + (1 : Nat) = y.4 ∧ cap' = y.7) ∧
                                                                                                            ((0 : Nat) = (0 : Nat) ∧ (0 : Nat) = (0 : Nat)) ∧ now = now ∧ True) ∧
                                                                                                          (b = b ∧
                                                                                                              ((0 : Nat) = (0 : Nat) ∧
                                                                                                                  Int.toNat
                                                                                                                        (Go.IntKind.wrap Go.IntKind.i64 ((↑(List.length rows') : Int) - (1 : Int))) =
                                                                                                                      y.1 ∧
                                                                                                                    cap = cap) ∧
                                                                                                                True) ∧
                                                                                                            (b1 = b1 ∧ base = base ∧ cap = cap ∧ xs' = y.2 ∧ ys' = y.3 ∧ True) ∧
                                                                                                              (b_3 = y.5 ∧
                                                                                                                  base_1 = y.6 ∧
                                                                                                                    cap' = y.7 ∧
                                                                                                                      List.take x.4 x.8 ++
                                                                                                                              [List.getD ys'
                                                                                                                                  ((0 : Nat) +
                                                                                                                                    Int.toNat
                                                                                                                                      (Go.IntKind.wrap Go.IntKind.i64
                                                                                                                                        ((↑(List.length rows') : Int) - (1 : Int))))
                                                                                                                                  (0 : Int)] ++
                                                                                                                            sp =
                                                                                                                          y.8 ∧
                                                                                                                        True) ∧
                                                                                                                True) ∧
                                                                                                        (0 : Nat) < y.4 ∧ duInv cap now rows y)) ∧
                    (¬List.getD x.2 (0 : Nat) (0 : Int) ≤ now →
                      DuV b now rows (Go.Value.slice (Option.some { block := x.5, off := x.6 * (1 : Nat) }) x.4 x.7)
                        [(b, Go.Sx.Blk.cells [Go.Value.slice (Option.some { block := b1, off := base * (2 : Nat) }) x.1 cap] (70 : Go.TypeId)),
                          (b1, Go.Sx.Blk.tab (150 : Go.TypeId) base cap [Go.Sx.Col.ints Go.IntKind.u64 x.2, Go.Sx.Col.ints Go.IntKind.i64 x.3]),
                          (x.5, Go.Sx.Blk.tab (3 : Go.TypeId) x.6 x.7 [Go.Sx.Col.ints Go.IntKind.i64 x.8])])) ∧
            (¬(0 : Int) < (↑x.1 : Int) →
              DuV b now rows (Go.Value.slice (Option.some { block := x.5, off := x.6 * (1 : Nat) }) x.4 x.7)
                [(b, Go.Sx.Blk.cells [Go.Value.slice (Option.some { block := b1, off := base * (2 : Nat) }) x.1 cap] (70 : Go.TypeId)),
                  (b1, Go.Sx.Blk.tab (150 : Go.TypeId) base cap [Go.Sx.Col.ints Go.IntKind.u64 x.2, Go.Sx.Col.ints Go.IntKind.i64 x.3]),
                  (x.5, Go.Sx.Blk.tab (3 : Go.TypeId) x.6 x.7 [Go.Sx.Col.ints Go.IntKind.i64 x.8])]) := by
  have hz := zipR_of h1 h2
  refine ⟨⟨rows.length, xs, ys, 0, 0, 0, 0, []⟩, .inl ⟨by simp, rfl, hb, hx, hy, hlc, by rw [hz]; exact hh, [], rfl, fun h => by simp at h, by rw [hz]; exact ⟨List.Perm.refl _, List.Pairwise.nil, by simp, by simp⟩⟩, ?_, ?_⟩
  · rintro ⟨len, xs', ys', k, bo, baseo, capo, zs⟩ ⟨hk0, hinv⟩
    have hinv2 := hinv
    obtain ⟨q0, q1, q2, q3, q4, out, o1, o2, o3⟩ := hinv
    simp only at hk0 q0 q1 q2 q3 q4 o1 o2 o3
    subst hk0
    refine ⟨fun hpos => ⟨⟨by omega, hpos⟩, by simp only at hpos ⊢; omega, fun hle => ?_, fun hle => ?_⟩, fun hpos => ?_⟩
    · obtain ⟨n, rfl⟩ : ∃ n, len = n + 1 := ⟨len - 1, by simp only at hpos; omega⟩
      have hl9 := zipR_len (len := n + 1) (xs := xs') (ys := ys') (by omega) (by omega)
      have hw : IntKind.wrap .i64 (((n + 1 : Nat) : Int) - 1) = ((n : Nat) : Int) := by rw [IntKind.wrap_i64]; omega
      have hsw := sw_zip (len := n + 1) (xs := xs') (ys := ys') (i := 0) (j := n) (by omega) (by omega) (by omega) (by omega)
      have hnow : (gq (zipR (n + 1) xs' ys') 0).1 ≤ now := by rw [gq_zip (by omega) (by omega) (by omega)]; exact hle
      have hcut := du_cut q4 hl9
      simp only [hw, Int.toNat_natCast, Nat.zero_add, Int.toNat_zero, hsw, sw_len, hl9]
      refine ⟨⟨by omega, by omega⟩, by omega, by omega, ⟨by first | omega | trivial, by omega⟩, by omega, by omega, ⟨by first | omega | trivial, by omega⟩, by omega, by omega, ⟨by omega, by omega⟩, by omega, by omega, ⟨q3, by trivial, q0, 0, n, rfl, by omega, by omega, hcut⟩, fun p q xs2 ys2 ⟨i0, n0, e2, hd⟩ m1 m2 m3 m4 m5 => ?_⟩
      simp only [List.cons.injEq, Value.int.injEq, true_and, and_true] at e2
      have e3 : i0 = 0 := by omega
      have e4 : n0 = n := by omega
      subst e3 e4
      obtain ⟨w1, w2, w3⟩ := du_pop q4 hl9 hnow hd o3
      have hw2 : IntKind.wrap .i64 ((q.length : Int) - 1) = ((n0 : Nat) : Int) := by rw [IntKind.wrap_i64]; omega
      have hzt := zipR_take (n := n0) m4 m5 (by omega) (by omega) (by omega)
      have hys : ys2.getD n0 0 = (gq q n0).2 := by rw [col_snd m5 (by omega), gq_eq (by omega)]
      simp only [hw2, Int.toNat_natCast, Nat.zero_add]
      refine ⟨⟨by omega, by omega⟩, by omega, by omega, fun b9 => ⟨rfl, rfl, ⟨by omega, by omega⟩, fun b8 => ⟨rfl, ?_⟩⟩⟩
      refine ⟨by omega, fun b5 cap2 hc sp hs => ⟨⟨n0, xs2, ys2, 1, b5, 0, cap2, ys2.getD n0 0 :: sp⟩, by simp only; omega, .inr ⟨by simp, by simp, by simp only; omega, m2, m3, by simp only; omega, by simp only; rw [hzt]; exact w2, out ++ [gq q n0], by simp [o1], fun _ => ⟨hc, by simp; omega, ?_⟩, by simp only; rw [hzt]; exact w3⟩⟩⟩
      have ho : out = [] := List.eq_nil_of_length_eq_zero o1
      subst ho
      simp only [List.take_succ_cons, List.take_zero, hys, List.nil_append, List.map_cons, List.map_nil]
    · exact du_end hinv2 (.inr (by simp only at hle ⊢; omega)) fun out ho _ => kat_nil ho
    · exact du_end hinv2 (.inl (by simp only at hpos ⊢; omega)) fun out ho _ => kat_nil ho
  · rintro ⟨len, xs', ys', k, bo, baseo, capo, zs⟩ ⟨hk0, hinv⟩
    have hinv2 := hinv
    obtain ⟨q0, q1, q2, q3, q4, out, o1, o2, o3⟩ := hinv
    simp only at hk0 q0 q1 q2 q3 q4 o1 o2 o3
    obtain ⟨o4, o5, o6⟩ := o2 hk0
    have hkb : k ≤ rows.length := by have := o3.1.length_eq; simp at this; omega
    have kend : ∀ out : List Row, out.length = k → (0 < k → k ≤ capo ∧ zs.length = capo ∧ zs.take k = out.map (·.2)) → KAt (out.map (·.2)) (.slice (some ⟨bo, baseo * 1, none⟩) k capo) [(bo, .tab 3 baseo capo [.ints .i64 zs])] := fun out ho h => by
      obtain ⟨e1, e2, e3⟩ := h hk0
      exact .inr ⟨bo, baseo, capo, zs, [], by simp [ho], by simp [ho, hk0], by simp [ho, e1], e2, by simp [ho, e3], List.Perm.refl _⟩
    refine ⟨fun hpos => ⟨⟨by omega, hpos⟩, by simp only at hpos ⊢; omega, fun hle => ?_, fun hle => ?_⟩, fun hpos => ?_⟩
    · obtain ⟨n, rfl⟩ : ∃ n, len = n + 1 := ⟨len - 1, by simp only at hpos; omega⟩
      have hl9 := zipR_len (len := n + 1) (xs := xs') (ys := ys') (by omega) (by omega)
      have hw : IntKind.wrap .i64 (((n + 1 : Nat) : Int) - 1) = ((n : Nat) : Int) := by rw [IntKind.wrap_i64]; omega
      have hsw := sw_zip (len := n + 1) (xs := xs') (ys := ys') (i := 0) (j := n) (by omega) (by omega) (by omega) (by omega)
      have hnow : (gq (zipR (n + 1) xs' ys') 0).1 ≤ now := by rw [gq_zip (by omega) (by omega) (by omega)]; exact hle
      have hcut := du_cut q4 hl9
      simp only [hw, Int.toNat_natCast, Nat.zero_add, Int.toNat_zero, hsw, sw_len, hl9]
      refine ⟨⟨by omega, by omega⟩, by omega, by omega, ⟨by first | omega | trivial, by omega⟩, by omega, by omega, ⟨by first | omega | trivial, by omega⟩, by omega, by omega, ⟨by omega, by omega⟩, by omega, by omega, ⟨q3, by trivial, q0, 0, n, rfl, by omega, by omega, hcut⟩, fun p q xs2 ys2 ⟨i0, n0, e2, hd⟩ m1 m2 m3 m4 m5 => ?_⟩
      simp only [List.cons.injEq, Value.int.injEq, true_and, and_true] at e2
      have e3 : i0 = 0 := by omega
      have e4 : n0 = n := by omega
      subst e3 e4
      obtain ⟨w1, w2, w3⟩ := du_pop q4 hl9 hnow hd o3
      have hw2 : IntKind.wrap .i64 ((q.length : Int) - 1) = ((n0 : Nat) : Int) := by rw [IntKind.wrap_i64]; omega
      have hzt := zipR_take (n := n0) m4 m5 (by omega) (by omega) (by omega)
      have hys : ys2.getD n0 0 = (gq q n0).2 := by rw [col_snd m5 (by omega), gq_eq (by omega)]
      simp only [hw2, Int.toNat_natCast, Nat.zero_add]
      refine ⟨⟨by omega, by omega⟩, by omega, by omega, fun b9 => ⟨rfl, rfl, ⟨by omega, by omega⟩, fun b8 => ⟨rfl, ?_⟩⟩⟩
      refine ⟨⟨o4, by omega⟩, by omega, by omega, fun b5 base5 cap2 hc hcc sp hs => ⟨⟨n0, xs2, ys2, k + 1, b5, base5, cap2, zs.take k ++ [ys2.getD n0 0] ++ sp⟩, by simp only; omega, .inr ⟨by simp, by simp, by simp only; omega, m2, m3, by simp only; omega, by simp only; rw [hzt]; exact w2, out ++ [gq q n0], by simp [o1], fun _ => ⟨hc, ?_, ?_⟩, by simp only; rw [hzt]; exact w3⟩⟩⟩
      · simp only at hs hc ⊢
        simp [hs]; omega
      · simp only
        rw [o6, List.map_append, List.map_cons, List.map_nil, hys]
        have : (out.map (·.2) ++ [(gq q n0).2]).length = k + 1 := by simp [o1]
        rw [← this, List.take_left]
    · exact du_end hinv2 (.inr (by simp only at hle ⊢; omega)) kend
    · exact du_end hinv2 (.inl (by simp only at hpos ⊢; omega)) kend
theorem duNil_vc (b : Nat) (now : Int) :
    ∃ (x0 : Unit),
  (((Go.Value.slice Option.none (0 : Nat) (0 : Nat) = Go.Value.slice Option.none (0 : Nat) (0 : Nat) ∧ ((0 : Nat) = (0 : Nat) ∧ (0 : Nat) = (0 : Nat)) ∧ now = now ∧ True) ∧
        (b = b ∧ Go.Value.slice Option.none (0 : Nat) (0 : Nat) = Go.Value.slice Option.none (0 : Nat) (0 : Nat) ∧ True) ∧ True) ∧
      x0 = ()) ∧
    ∀ (x : Unit),
      x = () → ¬(0 : Int) < (↑(0 : Nat) : Int) ∧ DuV b now [] (Go.Value.slice Option.none (0 : Nat) (0 : Nat)) [(b, Go.Sx.Blk.cells [Go.Value.slice Option.none (0 : Nat) (0 : Nat)] (70 : Go.TypeId))] := ⟨(), ⟨by simp, rfl⟩, fun x _ => ⟨by decide, [], [], _, [], [], ⟨List.Perm.refl _, List.Pairwise.nil, by simp, by simp⟩, by simp, fun k k0 kn => by simp at kn, .inl ⟨rfl, rfl⟩, .inl ⟨rfl, rfl⟩, List.Perm.refl _⟩⟩
theorem nx_vc (b b1 base cap : Nat) (xs ys : List Int) (rows : List Row) (hlc : rows.length ≤ cap) (hb : rows.length < 1000000) (hx : xs.length = cap) (hy : ys.length = cap)
    (h1 : xs.take rows.length = rows.map (·.1)) (h2 : ys.take rows.length = rows.map (·.2)) (hh : Heap rows.length rows) :
    ((↑(List.length rows) : Int) = (0 : Int) →
    nxF rows (0 : Int) False ∧
      TbL b b1 base cap (fun (q : List Row) => q = rows)
        [(b, Go.Sx.Blk.cells [Go.Value.slice (Option.some { block := b1, off := base * (2 : Nat) }) (List.length rows) cap] (70 : Go.TypeId)),
          (b1, Go.Sx.Blk.tab (150 : Go.TypeId) base cap [Go.Sx.Col.ints Go.IntKind.u64 xs, Go.Sx.Col.ints Go.IntKind.i64 ys])]) ∧
  (¬(↑(List.length rows) : Int) = (0 : Int) →
    ((0 : Int) ≤ (0 : Int) ∧ (0 : Int) < (↑(List.length rows) : Int)) ∧
      (0 : Nat) + Int.toNat (0 : Int) < cap ∧
        nxF rows (List.getD xs ((0 : Nat) + Int.toNat (0 : Int)) (0 : Int)) True ∧
          TbL b b1 base cap (fun (q : List Row) => q = rows)
            [(b, Go.Sx.Blk.cells [Go.Value.slice (Option.some { block := b1, off := base * (2 : Nat) }) (List.length rows) cap] (70 : Go.TypeId)),
              (b1, Go.Sx.Blk.tab (150 : Go.TypeId) base cap [Go.Sx.Col.ints Go.IntKind.u64 xs, Go.Sx.Col.ints Go.IntKind.i64 ys])]) := by
  have hz := zipR_of h1 h2
  have same := tb_mk (b := b) (b1 := b1) (base := base) (R := fun q => q = rows) hx hy hlc hz
  refine ⟨fun h0 => ⟨⟨fun _ => ⟨List.eq_nil_of_length_eq_zero (by omega), rfl⟩, fun h => h.elim⟩, same⟩, fun h0 => ⟨⟨by omega, by omega⟩, by omega, ⟨fun h => absurd trivial h, fun _ => ?_⟩, same⟩⟩
  have hl : 0 < rows.length := by omega
  rw [Nat.zero_add, Int.toNat_zero, col_fst h1 hl]
  refine ⟨rows[0], List.getElem_mem hl, rfl, fun c hc => ?_⟩
  obtain ⟨k, hk⟩ := List.mem_iff_getElem?.1 hc
  obtain ⟨hlt, he⟩ := List.getElem?_eq_some_iff.1 hk
  have h3 := heap_min hh k hlt
  rw [gq_eq hlt, he, gq_eq hl] at h3
  unfold rle at h3
  omega
theorem nxNil_vc (b : Nat) :
    (↑(0 : Nat) : Int) = (0 : Int) ∧
  nxF [] (0 : Int) False ∧
    [(b, Go.Sx.Blk.cells [Go.Value.slice Option.none (0 : Nat) (0 : Nat)] (70 : Go.TypeId))] = [(b, Go.Sx.Blk.cells [Go.Value.slice Option.none (0 : Nat) (0 : Nat)] (70 : Go.TypeId))] := ⟨by trivial, ⟨fun _ => ⟨rfl, rfl⟩, fun h => h.elim⟩, rfl⟩
theorem ln_vc (b b1 base cap : Nat) (xs ys : List Int) (rows : List Row) (hlc : rows.length ≤ cap) (hx : xs.length = cap) (hy : ys.length = cap)
    (h1 : xs.take rows.length = rows.map (·.1)) (h2 : ys.take rows.length = rows.map (·.2)) :
    TbR b b1 base cap (fun (v : Go.Value) (q : List Row) => v = Go.Value.int Go.IntKind.i64 (↑(List.length rows) : Int) ∧ q = rows)
  (Go.Value.int Go.IntKind.i64 (↑(List.length rows) : Int))
  [(b, Go.Sx.Blk.cells [Go.Value.slice (Option.some { block := b1, off := base * (2 : Nat) }) (List.length rows) cap] (70 : Go.TypeId)),
    (b1, Go.Sx.Blk.tab (150 : Go.TypeId) base cap [Go.Sx.Col.ints Go.IntKind.u64 xs, Go.Sx.Col.ints Go.IntKind.i64 ys])] := tb_same hlc hx hy h1 h2 ⟨rfl, rfl⟩
theorem lnNil_vc (b : Nat) :
    Go.Value.int Go.IntKind.i64 (↑(0 : Nat) : Int) = Go.Value.int Go.IntKind.i64 (0 : Int) ∧
  [(b, Go.Sx.Blk.cells [Go.Value.slice Option.none (0 : Nat) (0 : Nat)] (70 : Go.TypeId))] = [(b, Go.Sx.Blk.cells [Go.Value.slice Option.none (0 : Nat) (0 : Nat)] (70 : Go.TypeId))] := ⟨rfl, rfl⟩
end Go.Proofs.Ythkcfocoekonjaa
