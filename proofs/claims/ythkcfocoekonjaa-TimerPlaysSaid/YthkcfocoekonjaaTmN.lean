/- Timers: the law TimerOrder. -/
import Derived.Test.YthkcfocoekonjaaTmM


set_option maxRecDepth 100000
set_option linter.unusedVariables false
set_option linter.unusedSimpArgs false
namespace Go.Proofs.Ythkcfocoekonjaa
open Go Go.Sx
attribute [local irreducible] Go.Sx.xrun

/-- The values of cells, one after another. -/
def Ann.vals : List Ent → List Sl → List Ent
  | [], _ => []
  | e :: r, [] => e :: r
  | .own b (.cells w _ t) :: r, v :: vs => .own b (.cells w [.val (.slice v.o v.l v.c)] t) :: Ann.vals r vs
  | e :: r, v :: vs => e :: Ann.vals r (v :: vs)
/-- The first chunk. -/
def Ann.chunk : List Ent → Blks → List Ent
  | [], _ => []
  | .chunk _ :: r, L => .chunk L :: r
  | e :: r, L => e :: Ann.chunk r L
structure TX where
  i : Nat
  va : Sl
  vb : Sl
  L : Blks
structure TY where
  va : Sl
  vb : Sl
  L : Blks
  b1 : Nat
  base1 : Nat
  cap1 : Nat
  zs1 : List Int
  b2 : Nat
  base2 : Nat
  cap2 : Nat
  zs2 : List Int
/-- Timer j of these ticks. -/
def tF (ats : List Int) (j : Nat) : Row := (ats.getD j 0, (j : Int))
def toA (ats : List Int) (i : Nat) : List Row := (List.range i).map (tF ats)
def toB (ats : List Int) (n i : Nat) : List Row := (List.range i).map fun j => tF ats (n - 1 - j)
def toInv (ats : List Int) (n : Nat) (x : TX) : Prop := x.i ≤ n ∧ ∃ L1 L2 G Sa Sb, x.L.Perm (L1 ++ (L2 ++ G)) ∧ QRep Sa (.slice x.va.o x.va.l x.va.c) L1 ∧ QRep Sb (.slice x.vb.o x.vb.l x.vb.c) L2 ∧ Sa.Perm (toA ats x.i) ∧ Sb.Perm (toB ats n x.i)
def toInv2 (ats : List Int) (n : Nat) (y : TY) : Prop := n ≤ y.cap1 ∧ n ≤ y.cap2 ∧ y.zs1.length = y.cap1 ∧ y.zs2.length = y.cap2 ∧ (∃ L1 G, y.L.Perm (L1 ++ G) ∧ QRep [] (.slice y.va.o y.va.l y.va.c) L1) ∧
  ∃ out : List Row, out.length = n ∧ out.Perm (toA ats n) ∧ out.Pairwise rle ∧ y.zs1.take n = out.map (·.2) ∧ y.zs2.take n = out.map (·.2)
noncomputable def Ann.to (ats : List Int) (n : Nat) : FnAnn := ⟨[], [(6, ⟨TX, [
  (fun σ x => ⟨σ.n, (16, .val (.int .i64 x.i)) :: keepE σ.env [0, 3, 4, 5, 15], Ann.vals (Ann.chunk σ.heap x.L) [x.va, x.vb]⟩, fun _ x => toInv ats n x)], fun x => n - x.i⟩),
  (1000012, ⟨TY, [(fun σ y => ⟨σ.n, (7, .slc 4 0 n y.cap1) :: (8, .slc 5 0 n y.cap2) :: keepE σ.env [0, 3, 4], Ann.vals (Ann.chunk σ.heap y.L) [y.va, y.vb] ++ [.own y.b1 (.tab 3 y.base1 y.cap1 [.ints .i64 y.zs1]), .own y.b2 (.tab 3 y.base2 y.cap2 [.ints .i64 y.zs2])]⟩,
    fun _ y => toInv2 ats n y)], fun _ => 0⟩),
  (15, ⟨Nat, [(fun σ i => ⟨σ.n, (56, .val (.int .i64 i)) :: keepE σ.env [0, 7, 8, 55], σ.heap⟩, fun _ i => i ≤ n)], fun i => n - i⟩)]⟩
noncomputable def Ann.toN : FnAnn := ⟨[], [(6, ⟨TX, [
  (fun σ x => ⟨σ.n, (16, .val (.int .i64 x.i)) :: keepE σ.env [0, 3, 4, 5, 15], Ann.vals (Ann.chunk σ.heap x.L) [x.va, x.vb]⟩, fun _ x => toInv [] 0 x)], fun x => 0 - x.i⟩),
  (1000012, ⟨TX, [(fun σ y => ⟨σ.n, (7, .val (.slice none 0 0)) :: (8, .val (.slice none 0 0)) :: keepE σ.env [0, 3, 4], Ann.vals (Ann.chunk σ.heap y.L) [y.va, y.vb]⟩,
    fun _ y => ∃ L1 G, y.L.Perm (L1 ++ G) ∧ QRep [] (.slice y.va.o y.va.l y.va.c) L1)], fun _ => 0⟩),
  (15, ⟨Nat, [(fun σ i => ⟨σ.n, (56, .val (.int .i64 i)) :: keepE σ.env [0, 7, 8, 55], σ.heap⟩, fun _ i => i = 0)], fun i => 0⟩)]⟩
noncomputable def toGoal (bd t base len cap n : Nat) (xs : List Int) : Prop :=
  xrun Go.Proofs.Try.prog tbl2T [(6, Ann.to xs n)] [([], (44, false)), ([], (50, false)), ([], (53, false)), ([], (68, false)), ([], (88, false)), ([], (119, false))] 9 [] 6 [.slc 0 0 len cap] [.ro bd (.tab t base cap [.ints .u64 xs]), .chunk []] fun s h => bOf s fun p => p
noncomputable def toNilGoal (o : Option Addr) (cap : Nat) : Prop :=
  xrun Go.Proofs.Try.prog tbl2T [(6, Ann.toN)] [([], (17, false)), ([], (44, false)), ([], (50, false)), ([], (53, false)), ([], (57, false))] 9 [] 6 [.val (.slice o 0 cap)] [.chunk []] fun s h => bOf s fun p => p

theorem due_all {now : Int} {S out S' : List Row} (h : DueP now S out S') (a : ∀ r ∈ S, r.1 ≤ now) : S' = [] ∧ out.Perm S := by
  obtain ⟨h1, h2, h3, h4⟩ := h
  have : S' = [] := by
    cases S' with
    | nil => rfl
    | cons c l =>
      have k1 := h4 c (by simp)
      have k2 := a c (h1.mem_iff.2 (by simp))
      omega
  subst this
  exact ⟨rfl, by simpa using h1.symm⟩
theorem toA_succ (xs : List Int) (i : Nat) : toA xs (i + 1) = toA xs i ++ [tF xs i] := by simp [toA, List.range_succ]
theorem toB_succ (xs : List Int) (n i : Nat) : toB xs n (i + 1) = toB xs n i ++ [tF xs (n - 1 - i)] := by simp [toB, List.range_succ]
theorem toA_len (xs : List Int) (i : Nat) : (toA xs i).length = i := by simp [toA]
theorem toB_len (xs : List Int) (n i : Nat) : (toB xs n i).length = i := by simp [toB]
theorem toA_mem {xs : List Int} {i : Nat} {r : Row} : r ∈ toA xs i ↔ ∃ j, j < i ∧ tF xs j = r := by simp [toA]
theorem toB_mem {xs : List Int} {n i : Nat} {r : Row} : r ∈ toB xs n i ↔ ∃ j, j < i ∧ tF xs (n - 1 - j) = r := by simp [toB]
theorem toAB (xs : List Int) (n : Nat) : (toB xs n n).Perm (toA xs n) := by
  have : toB xs n n = (toA xs n).reverse := by
    refine List.ext_getElem (by simp [toA, toB]) fun k h1 h2 => ?_
    simp [toA, toB]
  rw [this]
  exact List.reverse_perm _
theorem perm_snoc {S' S T : List Row} {r : Row} (h : S' = r :: S) (p : S.Perm T) : S'.Perm (T ++ [r]) := by
  subst h
  exact (List.Perm.cons r p).trans (List.perm_append_comm (l₁ := [r]))
theorem tF_nodup (xs : List Int) (n : Nat) : (toA xs n).Pairwise (· ≠ ·) := by
  unfold toA
  rw [List.pairwise_map]
  exact List.nodup_range.imp fun {a b} h h2 => h (Int.ofNat.inj (congrArg Prod.snd h2))
theorem take_getD {zs ks : List Int} {n k : Nat} (h : zs.take n = ks) (hk : k < n) : zs.getD k 0 = ks.getD k 0 := by
  subst h
  simp [List.getD, List.getElem?_take, hk]
theorem out_get {xs zs : List Int} {out : List Row} {n k : Nat} (hl : out.length = n) (hp : out.Perm (toA xs n)) (hz : zs.take n = out.map (·.2)) (hk : k < n) :
    ∃ j, j < n ∧ zs.getD k 0 = (j : Int) ∧ out[k]? = some (tF xs j) := by
  have hk' : k < out.length := by omega
  obtain ⟨j, hj, he⟩ := toA_mem.1 (hp.mem_iff.1 (List.getElem_mem hk'))
  refine ⟨j, hj, ?_, by rw [List.getElem?_eq_getElem hk', he]⟩
  rw [take_getD hz hk]
  simp [List.getD, List.getElem?_eq_getElem hk', ← he, tF]
theorem out_next {xs : List Int} {out : List Row} {n k i j : Nat} (hp : out.Perm (toA xs n)) (hs : out.Pairwise rle) (h1 : out[k]? = some (tF xs i)) (h2 : out[k + 1]? = some (tF xs j)) :
    ¬ xs.getD j 0 < xs.getD i 0 ∧ (xs.getD i 0 = xs.getD j 0 → ¬ (j : Int) ≤ (i : Int)) := by
  have hn : out.Pairwise (· ≠ ·) := (hp.pairwise_iff (fun {a b} h => h.symm)).2 (tF_nodup xs n)
  have hk2 : k + 1 < out.length := by
    rcases Nat.lt_or_ge (k + 1) out.length with h | h
    · exact h
    · rw [List.getElem?_eq_none h] at h2; cases h2
  have e1 : out[k] = tF xs i := by rw [List.getElem?_eq_getElem (by omega)] at h1; exact Option.some.inj h1
  have e2 : out[k + 1] = tF xs j := by rw [List.getElem?_eq_getElem hk2] at h2; exact Option.some.inj h2
  have r1 := List.pairwise_iff_getElem.1 hs k (k + 1) (by omega) hk2 (by omega)
  have r2 := List.pairwise_iff_getElem.1 hn k (k + 1) (by omega) hk2 (by omega)
  rw [e1, e2] at r1 r2
  simp only [rle, tF] at r1
  have r3 : i ≠ j := fun h => r2 (by rw [h])
  omega
theorem tF_max {xs : List Int} (hx : ∀ z ∈ xs, 0 ≤ z ∧ z < 18446744073709551616) (j : Nat) : (tF xs j).1 ≤ 18446744073709551615 := by
  simp only [tF, List.getD_eq_getElem?_getD]
  cases h : xs[j]? with
  | none => simp
  | some z => have := (hx z (List.mem_of_getElem? h)).2; simp; omega
theorem to_vc (bd t base len cap n : Nat) (xs : List Int) (hn : n = min len 60) (h0 : 0 < len) (hlc : len ≤ cap) (hx : xs.length = cap) (hz : ∀ z ∈ xs, 0 ≤ z ∧ z < 18446744073709551616) :
    ∃ (x : Unit),
  ∃ (L : List (Nat × Go.Sx.Blk)),
    ∃ (G : List (Nat × Go.Sx.Blk)),
      List.Perm [] (L ++ G) ∧
        ((0 : Nat) = (0 : Nat) ∧ L = []) ∧
          ∀ (a : Unit) (L' : List (Nat × Go.Sx.Blk)),
            a = () →
              ∀ (b b_1 : Nat),
                ∃ (x0 : TX),
                  ((((0 : Int) = (↑x0.1 : Int) ∧
                          ((0 : Nat) = (0 : Nat) ∧ len = len ∧ cap = cap) ∧
                            Min.min (↑len : Int) (60 : Int) = Min.min (↑len : Int) (60 : Int) ∧
                              ((0 : Nat) = (0 : Nat) ∧ (0 : Nat) = (0 : Nat)) ∧
                                ((0 : Nat) = (0 : Nat) ∧ (0 : Nat) = (0 : Nat)) ∧ Min.min (↑len : Int) (60 : Int) = Min.min (↑len : Int) (60 : Int) ∧ True) ∧
                        (bd = bd ∧ bif Nat.beq t t then base = base ∧ cap = cap ∧ xs = xs ∧ True else False) ∧
                          L' ++ G = x0.4 ∧
                            (b = b ∧ Go.Value.slice Option.none (0 : Nat) (0 : Nat) = Go.Value.slice x0.2.1 x0.2.2 x0.2.3 ∧ True) ∧
                              (b_1 = b_1 ∧ Go.Value.slice Option.none (0 : Nat) (0 : Nat) = Go.Value.slice x0.3.1 x0.3.2 x0.3.3 ∧ True) ∧ True) ∧
                      toInv xs n x0) ∧
                    ∀ (x : TX),
                      toInv xs n x →
                        ((↑x.1 : Int) < Min.min (↑len : Int) (60 : Int) →
                            ((0 : Int) ≤ (↑x.1 : Int) ∧ (↑x.1 : Int) < (↑len : Int)) ∧
                              (0 : Nat) + x.1 < cap ∧
                                ∃ (x_1 : KX),
                                  ∃ (L : List (Nat × Go.Sx.Blk)),
                                    ∃ (G : List (Nat × Go.Sx.Blk)),
                                      List.Perm x.4 (L ++ G) ∧
                                        ([Go.Value.int Go.IntKind.i64 (↑x.1 : Int), Go.Value.int Go.IntKind.u64 (List.getD xs ((0 : Nat) + x.1) (0 : Int))] =
                                              [Go.Value.int Go.IntKind.i64 x_1.2, Go.Value.int Go.IntKind.u64 x_1.3] ∧
                                            QRep x_1.1 (Go.Value.slice x.2.1 x.2.2 x.2.3) L ∧ List.length x_1.1 + (1 : Nat) < (1000000 : Nat)) ∧
                                          ∀ (a : Unit) (s : Sl) (L' : List (Nat × Go.Sx.Blk)),
                                            (∃ (S' : List Row),
                                                SetP x_1.2 x_1.3 x_1.1 S' ∧ QRep S' (Go.Value.slice s.1 s.2 s.3) L') →
                                              ((0 : Int) ≤ Go.IntKind.wrap Go.IntKind.i64 (Go.IntKind.wrap Go.IntKind.i64 (Min.min (↑len : Int) (60 : Int) - (1 : Int)) - (↑x.1 : Int)) ∧
                                                  Go.IntKind.wrap Go.IntKind.i64 (Go.IntKind.wrap Go.IntKind.i64 (Min.min (↑len : Int) (60 : Int) - (1 : Int)) - (↑x.1 : Int)) < (↑len : Int)) ∧
                                                (0 : Nat) + Int.toNat (Go.IntKind.wrap Go.IntKind.i64 (Go.IntKind.wrap Go.IntKind.i64 (Min.min (↑len : Int) (60 : Int) - (1 : Int)) - (↑x.1 : Int))) <
                                                    cap ∧
                                                  ∃ (x_2 : KX),
                                                    ∃ (L : List (Nat × Go.Sx.Blk)),
                                                      ∃ (G_1 : List (Nat × Go.Sx.Blk)),
                                                        List.Perm (L' ++ G) (L ++ G_1) ∧
                                                          ([Go.Value.int Go.IntKind.i64
                                                                    (Go.IntKind.wrap Go.IntKind.i64 (Go.IntKind.wrap Go.IntKind.i64 (Min.min (↑len : Int) (60 : Int) - (1 : Int)) - (↑x.1 : Int))),
                                                                  Go.Value.int Go.IntKind.u64
                                                                    (List.getD xs
                                                                      ((0 : Nat) +
                                                                        Int.toNat
                                                                          (Go.IntKind.wrap Go.IntKind.i64
                                                                            (Go.IntKind.wrap Go.IntKind.i64 (Min.min (↑len : Int) (60 : Int) - (1 : Int)) - (↑x.1 : Int))))
                                                                      (0 : Int))] =
                                                                [Go.Value.int Go.IntKind.i64 x_2.2, Go.Value.int Go.IntKind.u64 x_2.3] ∧
                                                              QRep x_2.1 (Go.Value.slice x.3.1 x.3.2 x.3.3) L ∧ List.length x_2.1 + (1 : Nat) < (1000000 : Nat)) ∧
                                                            ∀ (a : Unit) (s_1 : Sl) (L' : List (Nat × Go.Sx.Blk)),
                                                              (∃ (S' : List Row),
                                                                  SetP x_2.2 x_2.3 x_2.1 S' ∧ QRep S' (Go.Value.slice s_1.1 s_1.2 s_1.3) L') →
                                                                ∃ (y : TX),
                                                                  n - y.1 < n - x.1 ∧
                                                                    ((Go.IntKind.wrap Go.IntKind.i64 ((↑x.1 : Int) + (1 : Int)) = (↑y.1 : Int) ∧
                                                                          ((0 : Nat) = (0 : Nat) ∧ len = len ∧ cap = cap) ∧
                                                                            Min.min (↑len : Int) (60 : Int) = Min.min (↑len : Int) (60 : Int) ∧
                                                                              ((0 : Nat) = (0 : Nat) ∧ (0 : Nat) = (0 : Nat)) ∧
                                                                                ((0 : Nat) = (0 : Nat) ∧ (0 : Nat) = (0 : Nat)) ∧
                                                                                  Min.min (↑len : Int) (60 : Int) = Min.min (↑len : Int) (60 : Int) ∧ True) ∧
                                                                        (bd = bd ∧ bif Nat.beq t t then base = base ∧ cap = cap ∧ xs = xs ∧ True else False) ∧
                                                                          L' ++ G_1 = y.4 ∧
                                                                            (b = b ∧ Go.Value.slice s.1 s.2 s.3 = Go.Value.slice y.2.1 y.2.2 y.2.3 ∧ True) ∧
                                                                              (b_1 = b_1 ∧ Go.Value.slice s_1.1 s_1.2 s_1.3 = Go.Value.slice y.3.1 y.3.2 y.3.3 ∧ True) ∧ True) ∧
                                                                      toInv xs n y) ∧
                          (¬(↑x.1 : Int) < Min.min (↑len : Int) (60 : Int) →
                            ∃ (x0 : TY),
                              (∃ (S : List Row),
                                  ∃ (L : List (Nat × Go.Sx.Blk)),
                                    ∃ (G : List (Nat × Go.Sx.Blk)),
                                      List.Perm x.4 (L ++ G) ∧
                                        (QRep S (Go.Value.slice x.2.1 x.2.2 x.2.3) L ∧ List.length S < (1000000 : Nat)) ∧
                                          (∀ (S' : List Row) (s : Sl) (L' : List (Nat × Go.Sx.Blk)),
                                              DueP (18446744073709551615 : Int) S [] S' →
                                                QRep S' (Go.Value.slice s.1 s.2 s.3) L' →
                                                  ∃ (S : List Row),
                                                    ∃ (L : List (Nat × Go.Sx.Blk)),
                                                      ∃ (G_1 : List (Nat × Go.Sx.Blk)),
                                                        List.Perm (L' ++ G) (L ++ G_1) ∧
                                                          (QRep S (Go.Value.slice x.3.1 x.3.2 x.3.3) L ∧ List.length S < (1000000 : Nat)) ∧
                                                            (∀ (S' : List Row) (s_1 : Sl) (L' : List (Nat × Go.Sx.Blk)),
                                                                DueP (18446744073709551615 : Int) S [] S' →
                                                                  QRep S' (Go.Value.slice s_1.1 s_1.2 s_1.3) L' →
                                                                    ∃ (y : TY),
                                                                      ((False ∧
                                                                            False ∧
                                                                              ((0 : Nat) = (0 : Nat) ∧ len = len ∧ cap = cap) ∧
                                                                                Min.min (↑len : Int) (60 : Int) = Min.min (↑len : Int) (60 : Int) ∧
                                                                                  ((0 : Nat) = (0 : Nat) ∧ (0 : Nat) = (0 : Nat)) ∧ True) ∧
                                                                          (bd = bd ∧ bif Nat.beq t t then base = base ∧ cap = cap ∧ xs = xs ∧ True else False) ∧
                                                                            L' ++ G_1 = y.3 ∧
                                                                              (b = b ∧ Go.Value.slice s.1 s.2 s.3 = Go.Value.slice y.1.1 y.1.2 y.1.3 ∧ True) ∧
                                                                                (b_1 = b_1 ∧ Go.Value.slice s_1.1 s_1.2 s_1.3 = Go.Value.slice y.2.1 y.2.2 y.2.3 ∧ True) ∧ False ∧ False ∧ True) ∧
                                                                        toInv2 xs n y) ∧
                                                              ∀ (out S' : List Row) (s : Sl) (L' : List (Nat × Go.Sx.Blk)) (b' base' cap' : Nat)
                                                                (zs' : List Int),
                                                                DueP (18446744073709551615 : Int) S out S' →
                                                                  QRep S' (Go.Value.slice s.1 s.2 s.3) L' →
                                                                    (0 : Nat) < List.length out →
                                                                      List.length out ≤ cap' →
                                                                        List.length zs' = cap' →
                                                                          List.take (List.length out) zs' = List.map (fun (x : Row) => x.2) out →
                                                                            ∃ (y : TY), False ∧ toInv2 xs n y) ∧
                                            ∀ (out S' : List Row) (s : Sl) (L' : List (Nat × Go.Sx.Blk)) (b' base' cap' : Nat) (zs' : List Int),
                                              DueP (18446744073709551615 : Int) S out S' →
                                                QRep S' (Go.Value.slice s.1 s.2 s.3) L' →
                                                  (0 : Nat) < List.length out →
                                                    List.length out ≤ cap' →
                                                      List.length zs' = cap' →
                                                        List.take (List.length out) zs' = List.map (fun (x : Row) => x.2) out →
                                                          ∃ (S : List Row),
                                                            ∃ (L : List (Nat × Go.Sx.Blk)),
                                                              ∃ (G_1 : List (Nat × Go.Sx.Blk)),
                                                                List.Perm (L' ++ G) (L ++ G_1) ∧
                                                                  (QRep S (Go.Value.slice x.3.1 x.3.2 x.3.3) L ∧ List.length S < (1000000 : Nat)) ∧
                                                                    (∀ (S' : List Row) (s_1 : Sl) (L' : List (Nat × Go.Sx.Blk)),
                                                                        DueP (18446744073709551615 : Int) S [] S' →
                                                                          QRep S' (Go.Value.slice s_1.1 s_1.2 s_1.3) L' →
                                                                            ∃ (y : TY),
                                                                              ((((0 : Nat) = (0 : Nat) ∧ List.length out = n ∧ cap' = y.6) ∧
                                                                                    False ∧
                                                                                      ((0 : Nat) = (0 : Nat) ∧ len = len ∧ cap = cap) ∧
                                                                                        Min.min (↑len : Int) (60 : Int) = Min.min (↑len : Int) (60 : Int) ∧
                                                                                          ((0 : Nat) = (0 : Nat) ∧ (0 : Nat) = (0 : Nat)) ∧ True) ∧
                                                                                  (bd = bd ∧ bif Nat.beq t t then base = base ∧ cap = cap ∧ xs = xs ∧ True else False) ∧
                                                                                    L' ++ G_1 = y.3 ∧
                                                                                      (b = b ∧ Go.Value.slice s.1 s.2 s.3 = Go.Value.slice y.1.1 y.1.2 y.1.3 ∧ True) ∧
                                                                                        (b_1 = b_1 ∧ Go.Value.slice s_1.1 s_1.2 s_1.3 = Go.Value.slice y.2.1 y.2.2 y.2.3 ∧ True) ∧
                                                                                          (b' = y.4 ∧ base' = y.5 ∧ cap' = y.6 ∧ zs' = y.7 ∧ True) ∧ False ∧ True) ∧
                                                                                toInv2 xs n y) ∧
                                                                      ∀ (out_1 S' : List Row) (s_1 : Sl) (L' : List (Nat × Go.Sx.Blk))
                                                                        (b'_1 base'_1 cap'_1 : Nat) (zs'_1 : List Int),
                                                                        DueP (18446744073709551615 : Int) S out_1 S' →
                                                                          QRep S' (Go.Value.slice s_1.1 s_1.2 s_1.3) L' →
                                                                            (0 : Nat) < List.length out_1 →
                                                                              List.length out_1 ≤ cap'_1 →
                                                                                List.length zs'_1 = cap'_1 →
                                                                                  List.take (List.length out_1) zs'_1 = List.map (fun (x : Row) => x.2) out_1 →
                                                                                    ∃ (y : TY),
                                                                                      ((((0 : Nat) = (0 : Nat) ∧ List.length out = n ∧ cap' = y.6) ∧
                                                                                            ((0 : Nat) = (0 : Nat) ∧ List.length out_1 = n ∧ cap'_1 = y.10) ∧
                                                                                              ((0 : Nat) = (0 : Nat) ∧ len = len ∧ cap = cap) ∧
                                                                                                Min.min (↑len : Int) (60 : Int) = Min.min (↑len : Int) (60 : Int) ∧
                                                                                                  ((0 : Nat) = (0 : Nat) ∧ (0 : Nat) = (0 : Nat)) ∧ True) ∧
                                                                                          (bd = bd ∧ bif Nat.beq t t then base = base ∧ cap = cap ∧ xs = xs ∧ True else False) ∧
                                                                                            L' ++ G_1 = y.3 ∧
                                                                                              (b = b ∧ Go.Value.slice s.1 s.2 s.3 = Go.Value.slice y.1.1 y.1.2 y.1.3 ∧ True) ∧
                                                                                                (b_1 = b_1 ∧ Go.Value.slice s_1.1 s_1.2 s_1.3 = Go.Value.slice y.2.1 y.2.2 y.2.3 ∧ True) ∧
                                                                                                  (b' = y.4 ∧ base' = y.5 ∧ cap' = y.6 ∧ zs' = y.7 ∧ True) ∧
                                                                                                    (b'_1 = y.8 ∧ base'_1 = y.9 ∧ cap'_1 = y.10 ∧ zs'_1 = y.11 ∧ True) ∧ True) ∧
                                                                                        toInv2 xs n y) ∧
                                ∀ (x : TY),
                                  toInv2 xs n x →
                                    ¬(↑n : Int) ≠ Min.min (↑len : Int) (60 : Int) ∧
                                      ¬(↑n : Int) ≠ Min.min (↑len : Int) (60 : Int) ∧
                                        ∃ (x_1 : List Row),
                                          ∃ (L : List (Nat × Go.Sx.Blk)),
                                            ∃ (G : List (Nat × Go.Sx.Blk)),
                                              List.Perm x.3 (L ++ G) ∧
                                                ((0 : Nat) = (0 : Nat) ∧ QRep x_1 (Go.Value.slice x.1.1 x.1.2 x.1.3) L) ∧
                                                  ∀ (a : Int) (s : Sl) (L' : List (Nat × Go.Sx.Blk)),
                                                    a = (↑(List.length x_1) : Int) ∧ QRep x_1 (Go.Value.slice s.1 s.2 s.3) L' →
                                                      ¬a ≠ (0 : Int) ∧
                                                        ∃ (x0 : Nat),
                                                          ((((0 : Int) = (↑x0 : Int) ∧
                                                                  ((0 : Nat) = (0 : Nat) ∧ len = len ∧ cap = cap) ∧
                                                                    ((0 : Nat) = (0 : Nat) ∧ n = n ∧ x.6 = x.6) ∧ ((0 : Nat) = (0 : Nat) ∧ n = n ∧ x.10 = x.10) ∧ (↑n : Int) = (↑n : Int) ∧ True) ∧
                                                                (bd = bd ∧ bif Nat.beq t t then base = base ∧ cap = cap ∧ xs = xs ∧ True else False) ∧
                                                                  L' ++ G = L' ++ G ∧
                                                                    (b = b ∧ Go.Value.slice s.1 s.2 s.3 = Go.Value.slice s.1 s.2 s.3 ∧ True) ∧
                                                                      (b_1 = b_1 ∧ Go.Value.slice x.2.1 x.2.2 x.2.3 = Go.Value.slice x.2.1 x.2.2 x.2.3 ∧ True) ∧
                                                                        (x.4 = x.4 ∧ x.5 = x.5 ∧ x.6 = x.6 ∧ x.7 = x.7 ∧ True) ∧ (x.8 = x.8 ∧ x.9 = x.9 ∧ x.10 = x.10 ∧ x.11 = x.11 ∧ True) ∧ True) ∧
                                                              x0 ≤ n) ∧
                                                            ∀ (x_2 : Nat),
                                                              x_2 ≤ n →
                                                                ((↑x_2 : Int) < (↑n : Int) →
                                                                    ((0 : Int) ≤ (↑x_2 : Int) ∧ (↑x_2 : Int) < (↑n : Int)) ∧
                                                                      (0 : Nat) + x_2 < x.6 ∧
                                                                        ((0 : Int) ≤ (↑x_2 : Int) ∧ (↑x_2 : Int) < (↑n : Int)) ∧
                                                                          (0 : Nat) + x_2 < x.10 ∧
                                                                            ¬List.getD x.7 ((0 : Nat) + x_2) (0 : Int) ≠ List.getD x.11 ((0 : Nat) + x_2) (0 : Int) ∧
                                                                              ((0 : Int) < (↑x_2 : Int) →
                                                                                  ((0 : Int) ≤ Go.IntKind.wrap Go.IntKind.i64 ((↑x_2 : Int) - (1 : Int)) ∧
                                                                                      Go.IntKind.wrap Go.IntKind.i64 ((↑x_2 : Int) - (1 : Int)) < (↑n : Int)) ∧
                                                                                    (0 : Nat) + Int.toNat (Go.IntKind.wrap Go.IntKind.i64 ((↑x_2 : Int) - (1 : Int))) < x.6 ∧
                                                                                      ((0 : Int) ≤
                                                                                            List.getD x.7 ((0 : Nat) + Int.toNat (Go.IntKind.wrap Go.IntKind.i64 ((↑x_2 : Int) - (1 : Int))))
                                                                                              (0 : Int) ∧
                                                                                          List.getD x.7 ((0 : Nat) + Int.toNat (Go.IntKind.wrap Go.IntKind.i64 ((↑x_2 : Int) - (1 : Int)))) (0 : Int) <
                                                                                            (↑len : Int)) ∧
                                                                                        (0 : Nat) +
                                                                                              Int.toNat
                                                                                                (List.getD x.7 ((0 : Nat) + Int.toNat (Go.IntKind.wrap Go.IntKind.i64 ((↑x_2 : Int) - (1 : Int))))
                                                                                                  (0 : Int)) <
                                                                                            cap ∧
                                                                                          ((0 : Int) ≤ (↑x_2 : Int) ∧ (↑x_2 : Int) < (↑n : Int)) ∧
                                                                                            (0 : Nat) + x_2 < x.6 ∧
                                                                                              ((0 : Int) ≤ List.getD x.7 ((0 : Nat) + x_2) (0 : Int) ∧
                                                                                                  List.getD x.7 ((0 : Nat) + x_2) (0 : Int) < (↑len : Int)) ∧
                                                                                                (0 : Nat) + Int.toNat (List.getD x.7 ((0 : Nat) + x_2) (0 : Int)) < cap ∧
                                                                                                  ¬List.getD xs ((0 : Nat) + Int.toNat (List.getD x.7 ((0 : Nat) + x_2) (0 : Int))) (0 : Int) <
                                                                                                        List.getD xs
                                                                                                          ((0 : Nat) +
                                                                                                            Int.toNat
                                                                                                              (List.getD x.7
                                                                                                                ((0 : Nat) + Int.toNat (Go.IntKind.wrap Go.IntKind.i64 ((↑x_2 : Int) - (1 : Int))))
                                                                                                                (0 : Int)))
                                                                                                          (0 : Int) ∧
                                                                                                    ((0 : Int) ≤ Go.IntKind.wrap Go.IntKind.i64 ((↑x_2 : Int) - (1 : Int)) ∧
                                                                                                        Go.IntKind.wrap Go.IntKind.i64 ((↑x_2 : Int) - (1 : Int)) < (↑n : Int)) ∧
                                                                                                      (0 : Nat) + Int.toNat (Go.IntKind.wrap Go.IntKind.i64 ((↑x_2 : Int) - (1 : Int))) < x.6 ∧
                                                                                                        ((0 : Int) ≤
                                                                                                              List.getD x.7
                                                                                                                ((0 : Nat) + Int.toNat (Go.IntKind.wrap Go.IntKind.i64 ((↑x_2 : Int) - (1 : Int))))
                                                                                                                (0 : Int) ∧
                                                                                                            List.getD x.7
                                                                                                                ((0 : Nat) + Int.toNat (Go.IntKind.wrap Go.IntKind.i64 ((↑x_2 : Int) - (1 : Int))))
                                                                                                                (0 : Int) <
                                                                                                              (↑len : Int)) ∧
                                                                                                          (0 : Nat) +
                                                                                                                Int.toNat
                                                                                                                  (List.getD x.7
                                                                                                                    ((0 : Nat) + Int.toNat (Go.IntKind.wrap Go.IntKind.i64 ((↑x_2 : Int) - (1 : Int))))
                                                                                                                    (0 : Int)) <
                                                                                                              cap ∧
                                                                                                            ((0 : Int) ≤ (↑x_2 : Int) ∧ (↑x_2 : Int) < (↑n : Int)) ∧
                                                                                                              (0 : Nat) + x_2 < x.6 ∧
                                                                                                                ((0 : Int) ≤ List.getD x.7 ((0 : Nat) + x_2) (0 : Int) ∧
                                                                                                                    List.getD x.7 ((0 : Nat) + x_2) (0 : Int) < (↑len : Int)) ∧
                                                                                                                  (0 : Nat) + Int.toNat (List.getD x.7 ((0 : Nat) + x_2) (0 : Int)) < cap ∧
                                                                                                                    (List.getD xs
                                                                                                                            ((0 : Nat) +
                                                                                                                              Int.toNat
                                                                                                                                (List.getD x.7
                                                                                                                                  ((0 : Nat) +
                                                                                                                                    Int.toNat
                                                                                                                                      (Go.IntKind.wrap Go.IntKind.i64 ((↑x_2 : Int) - (1 : Int))))
                                                                                                                                  (0 : Int)))
                                                                                                                            (0 : Int) =
                                                                                                                          List.getD xs
                                                                                                                            ((0 : Nat) + Int.toNat (List.getD x.7 ((0 : Nat) + x_2) (0 : Int)))
                                                                                                                            (0 : Int) →
                                                                                                                        ((0 : Int) ≤ Go.IntKind.wrap Go.IntKind.i64 ((↑x_2 : Int) - (1 : Int)) ∧
                                                                                                                            Go.IntKind.wrap Go.IntKind.i64 ((↑x_2 : Int) - (1 : Int)) < (↑n : Int)) ∧
                                                                                                                          (0 : Nat) +
                                                                                                                                Int.toNat (Go.IntKind.wrap Go.IntKind.i64 ((↑x_2 : Int) - (1 : Int))) <
                                                                                                                              x.6 ∧
                                                                                                                            ((0 : Int) ≤ (↑x_2 : Int) ∧ (↑x_2 : Int) < (↑n : Int)) ∧
                                                                                                                              (0 : Nat) + x_2 < x.6 ∧
                                                                                                                                ¬List.getD x.7 ((0 : Nat) + x_2) (0 : Int) ≤
                                                                                                                                      List.getD x.7
                                                                                                                                        ((0 : Nat) +
                                                                                                                                          Int.toNat
                                                                                                                                            (Go.IntKind.wrap Go.IntKind.i64 ((↑x_2 : Int) - (1 : Int))))
                                                                                                                                        (0 : Int) ∧
                                                                                                                                  ∃ (y : Nat),
                                                                                                                                    n - y < n - x_2 ∧
                                                                                                                                      ((Go.IntKind.wrap Go.IntKind.i64 ((↑x_2 : Int) + (1 : Int)) =
                                                                                                                                              (↑y : Int) ∧
                                                                                                                                            ((0 : Nat) = (0 : Nat) ∧ len = len ∧ cap = cap) ∧
                                                                                                                                              ((0 : Nat) = (0 : Nat) ∧ n = n ∧ x.6 = x.6) ∧
                                                                                                                                                ((0 : Nat) = (0 : Nat) ∧ n = n ∧ x.10 = x.10) ∧
                                                                                                                                                  (↑n : Int) = (↑n : Int) ∧ True) ∧
                                                                                                                                          (bd = bd ∧
                                                                                                                                              bif Nat.beq t t then
                                                                                                                                                base = base ∧ cap = cap ∧ xs = xs ∧ True
                                                                                                                                              else False) ∧
                                                                                                                                            L' ++ G = L' ++ G ∧
                                                                                                                                              (b = b ∧
                                                                                                                                                  Go.Value.slice s.1 s.2 s.3 =
                                                                                                                                                      Go.Value.slice s.1 s.2 s.3 ∧
                                                                                                                                                    True) ∧
                                                                                                                                                (b_1 = b_1 ∧
                                                                                                                                                    Go.Value.slice x.2.1 x.2.2 x.2.3 =
                                                                                                                                                        Go.Value.slice x.2.1 x.2.2 x.2.3 ∧
                                                                                                                                                      True) ∧
                                                                                                                                                  (x.4 = x.4 ∧
                                                                                                                                                      x.5 = x.5 ∧ x.6 = x.6 ∧ x.7 = x.7 ∧ True) ∧
                                                                                                                                                    (x.8 = x.8 ∧
                                                                                                                                                        x.9 = x.9 ∧ x.10 = x.10 ∧ x.11 = x.11 ∧ True) ∧
                                                                                                                                                      True) ∧
                                                                                                                                        y ≤ n) ∧
                                                                                                                      (¬List.getD xs
                                                                                                                              ((0 : Nat) +
                                                                                                                                Int.toNat
                                                                                                                                  (List.getD x.7
                                                                                                                                    ((0 : Nat) +
                                                                                                                                      Int.toNat
                                                                                                                                        (Go.IntKind.wrap Go.IntKind.i64 ((↑x_2 : Int) - (1 : Int))))
                                                                                                                                    (0 : Int)))
                                                                                                                              (0 : Int) =
                                                                                                                            List.getD xs
                                                                                                                              ((0 : Nat) + Int.toNat (List.getD x.7 ((0 : Nat) + x_2) (0 : Int)))
                                                                                                                              (0 : Int) →
                                                                                                                        ∃ (y : Nat),
                                                                                                                          n - y < n - x_2 ∧
                                                                                                                            ((Go.IntKind.wrap Go.IntKind.i64 ((↑x_2 : Int) + (1 : Int)) = (↑y : Int) ∧
                                                                                                                                  ((0 : Nat) = (0 : Nat) ∧ len = len ∧ cap = cap) ∧
                                                                                                                                    ((0 : Nat) = (0 : Nat) ∧ n = n ∧ x.6 = x.6) ∧
                                                                                                                                      ((0 : Nat) = (0 : Nat) ∧ n = n ∧ x.10 = x.10) ∧
                                                                                                                                        (↑n : Int) = (↑n : Int) ∧ True) ∧
                                                                                                                                (bd = bd ∧
                                                                                                                                    bif Nat.beq t t then base = base ∧ cap = cap ∧ xs = xs ∧ True
                                                                                                                                    else False) ∧
                                                                                                                                  L' ++ G = L' ++ G ∧
                                                                                                                                    (b = b ∧
                                                                                                                                        Go.Value.slice s.1 s.2 s.3 = Go.Value.slice s.1 s.2 s.3 ∧
                                                                                                                                          True) ∧
                                                                                                                                      (b_1 = b_1 ∧
                                                                                                                                          Go.Value.slice x.2.1 x.2.2 x.2.3 =
                                                                                                                                              Go.Value.slice x.2.1 x.2.2 x.2.3 ∧
                                                                                                                                            True) ∧
                                                                                                                                        (x.4 = x.4 ∧ x.5 = x.5 ∧ x.6 = x.6 ∧ x.7 = x.7 ∧ True) ∧
                                                                                                                                          (x.8 = x.8 ∧ x.9 = x.9 ∧ x.10 = x.10 ∧ x.11 = x.11 ∧ True) ∧
                                                                                                                                            True) ∧
                                                                                                                              y ≤ n)) ∧
                                                                                (¬(0 : Int) < (↑x_2 : Int) →
                                                                                  ∃ (y : Nat),
                                                                                    n - y < n - x_2 ∧
                                                                                      ((Go.IntKind.wrap Go.IntKind.i64 ((↑x_2 : Int) + (1 : Int)) = (↑y : Int) ∧
                                                                                            ((0 : Nat) = (0 : Nat) ∧ len = len ∧ cap = cap) ∧
                                                                                              ((0 : Nat) = (0 : Nat) ∧ n = n ∧ x.6 = x.6) ∧
                                                                                                ((0 : Nat) = (0 : Nat) ∧ n = n ∧ x.10 = x.10) ∧ (↑n : Int) = (↑n : Int) ∧ True) ∧
                                                                                          (bd = bd ∧ bif Nat.beq t t then base = base ∧ cap = cap ∧ xs = xs ∧ True else False) ∧
                                                                                            L' ++ G = L' ++ G ∧
                                                                                              (b = b ∧ Go.Value.slice s.1 s.2 s.3 = Go.Value.slice s.1 s.2 s.3 ∧ True) ∧
                                                                                                (b_1 = b_1 ∧ Go.Value.slice x.2.1 x.2.2 x.2.3 = Go.Value.slice x.2.1 x.2.2 x.2.3 ∧ True) ∧
                                                                                                  (x.4 = x.4 ∧ x.5 = x.5 ∧ x.6 = x.6 ∧ x.7 = x.7 ∧ True) ∧
                                                                                                    (x.8 = x.8 ∧ x.9 = x.9 ∧ x.10 = x.10 ∧ x.11 = x.11 ∧ True) ∧ True) ∧
                                                                                        y ≤ n)) ∧
                                                                  (¬(↑x_2 : Int) < (↑n : Int) → True)) := by
  have hmin : Min.min (↑len : Int) (60 : Int) = (n : Int) := by subst hn; omega
  have hnl : n ≤ len := by subst hn; exact Nat.min_le_left _ _
  have hn60 : n ≤ 60 := by subst hn; exact Nat.min_le_right _ _
  have hn0 : 0 < n := by subst hn; omega
  have htt : Nat.beq t t = true := Nat.beq_refl t
  simp only [hmin, htt, cond_true]
  refine ⟨(), [], [], by simp, ⟨trivial, rfl⟩, fun _ L' _ b b1 => ?_⟩
  refine ⟨⟨0, ⟨none, 0, 0⟩, ⟨none, 0, 0⟩, L' ++ []⟩, ⟨by simp, ?_⟩, fun x hx1 => ⟨fun hi => ?_, fun hi => ?_⟩⟩
  · exact ⟨Nat.zero_le _, [], [], L', [], [], by simp, QRep.nil, QRep.nil, by simp [toA], by simp [toB]⟩
  · obtain ⟨h1, L1, L2, G, Sa, Sb, hp, ha, hb, hA, hB⟩ := hx1
    have hi : x.i < n := by omega
    have w1 : IntKind.wrap .i64 (IntKind.wrap .i64 ((n : Int) - 1) - (x.i : Int)) = ((n - 1 - x.i : Nat) : Int) := by rw [IntKind.wrap_i64, IntKind.wrap_i64]; omega
    have w2 : IntKind.wrap .i64 ((x.i : Int) + 1) = ((x.i + 1 : Nat) : Int) := by rw [IntKind.wrap_i64]; omega
    have la := hA.length_eq
    have lb := hB.length_eq
    rw [toA_len] at la
    rw [toB_len] at lb
    simp only [w1, w2, Nat.zero_add, Int.toNat_natCast]
    refine ⟨⟨by omega, by omega⟩, by omega, ⟨Sa, x.i, xs.getD x.i 0⟩, L1, L2 ++ G, hp, ⟨rfl, ha, by show Sa.length + 1 < _; omega⟩, fun _ s L3 ⟨S', hs, hq⟩ => ?_⟩
    have e1 := set_new hs fun r hr h => by
      obtain ⟨j, hj, he⟩ := toA_mem.1 (hA.mem_iff.1 hr)
      rw [← he] at h
      simp [tF] at h
      omega
    refine ⟨⟨by omega, by omega⟩, by omega, ⟨Sb, ((n - 1 - x.i : Nat) : Int), xs.getD (n - 1 - x.i) 0⟩, L2, L3 ++ G, ?_, ⟨rfl, hb, by show Sb.length + 1 < _; omega⟩, fun _ s2 L4 ⟨S2, hs2, hq2⟩ => ?_⟩
    · rw [← List.append_assoc, ← List.append_assoc]
      exact List.perm_append_comm.append_right G
    · have e2 := set_new hs2 fun r hr h => by
        obtain ⟨j, hj, he⟩ := toB_mem.1 (hB.mem_iff.1 hr)
        rw [← he] at h
        simp [tF] at h
        omega
      refine ⟨⟨x.i + 1, s, s2, L4 ++ (L3 ++ G)⟩, by show n - (x.i + 1) < n - x.i; omega, by simp, by show x.i + 1 ≤ n; omega, L3, L4, G, S', S2, ?_, hq, hq2, ?_, ?_⟩
      · show (L4 ++ (L3 ++ G)).Perm (L3 ++ (L4 ++ G))
        rw [← List.append_assoc, ← List.append_assoc]
        exact List.perm_append_comm.append_right G
      · show S'.Perm (toA xs (x.i + 1))
        rw [toA_succ]
        exact perm_snoc e1 hA
      · show S2.Perm (toB xs n (x.i + 1))
        rw [toB_succ]
        exact perm_snoc e2 hB
  · obtain ⟨h1, L1, L2, G, Sa, Sb, hp, ha, hb, hA, hB⟩ := hx1
    have hi : x.i = n := by omega
    rw [hi] at hA hB
    have la := hA.length_eq
    have lb := hB.length_eq
    rw [toA_len] at la
    rw [toB_len] at lb
    have mA : ∀ r ∈ Sa, r.1 ≤ 18446744073709551615 := fun r hr => by
      obtain ⟨j, hj, he⟩ := toA_mem.1 (hA.mem_iff.1 hr)
      rw [← he]; exact tF_max hz j
    have mB : ∀ r ∈ Sb, r.1 ≤ 18446744073709551615 := fun r hr => by
      obtain ⟨j, hj, he⟩ := toB_mem.1 (hB.mem_iff.1 hr)
      rw [← he]; exact tF_max hz _
    have swp : ∀ {A B C : Blks}, (A ++ (B ++ C)).Perm (B ++ (A ++ C)) := fun {A B C} => by
      rw [← List.append_assoc, ← List.append_assoc]
      exact List.perm_append_comm.append_right C
    refine ⟨⟨⟨none, 0, 0⟩, ⟨none, 0, 0⟩, [], 0, 0, 0, [], 0, 0, 0, []⟩, ⟨Sa, L1, L2 ++ G, hp, ⟨ha, by omega⟩, fun S' s L3 hd hq => ?_, fun out S' s L3 b' base' cap' zs' hd hq k1 k2 k3 k4 => ?_⟩, fun y hy => ?_⟩
    · have := (due_all hd mA).2.length_eq
      simp at this
      omega
    · obtain ⟨rfl, p1⟩ := due_all hd mA
      have lo := p1.length_eq
      refine ⟨Sb, L2, L3 ++ G, swp, ⟨hb, by omega⟩, fun S2 s2 L4 hd2 hq2 => ?_, fun out2 S2 s2 L4 b2 base2 cap2 zs2 hd2 hq2 m1 m2 m3 m4 => ?_⟩
      · have := (due_all hd2 mB).2.length_eq
        simp at this
        omega
      · obtain ⟨rfl, p2⟩ := due_all hd2 mB
        have lo2 := p2.length_eq
        have eo : out2 = out := sorted_one (p2.trans ((hB.trans (toAB xs n)).trans (hA.symm.trans p1.symm))) hd2.2.1 hd.2.1
        subst eo
        refine ⟨⟨s, s2, L4 ++ (L3 ++ G), b', base', cap', zs', b2, base2, cap2, zs2⟩, ⟨⟨⟨trivial, by omega, rfl⟩, ⟨trivial, by omega, rfl⟩, by simp⟩, by simp⟩, by show n ≤ cap'; omega, by show n ≤ cap2; omega, k3, m3, ⟨L3, L4 ++ G, swp, hq⟩, out2, by omega, p1.trans hA, hd.2.1, ?_, ?_⟩
        · show zs'.take n = _
          rw [← k4]; congr 1; omega
        · show zs2.take n = _
          rw [← m4]; congr 1; omega
    · obtain ⟨c1, c2, c3, c4, ⟨L1, G, c5, c6⟩, out, o1, o2, o3, o4, o5⟩ := hy
      refine ⟨by simp, by simp, [], L1, G, c5, ⟨trivial, c6⟩, fun a s L3 ⟨e, hq⟩ => ⟨by simp [e], 0, ⟨by simp, Nat.zero_le _⟩, fun k hk => ⟨fun hi => ?_, fun _ => trivial⟩⟩⟩
      have hi : k < n := by omega
      have w1 : IntKind.wrap .i64 ((k : Int) + 1) = ((k + 1 : Nat) : Int) := by rw [IntKind.wrap_i64]; omega
      obtain ⟨j, j1, j2, j3⟩ := out_get o1 o2 o4 hi
      have j4 : y.zs2.getD k 0 = (j : Int) := by rw [take_getD o5 hi, ← take_getD o4 hi]; exact j2
      have stop : ∃ y_1 : Nat, n - y_1 < n - k ∧ (((k + 1 : Nat) : Int) = (y_1 : Int)) ∧ y_1 ≤ n := ⟨k + 1, by omega, rfl, by omega⟩
      simp only [w1, Nat.zero_add, j2, j4, Int.toNat_natCast]
      refine ⟨by omega, by omega, by omega, by omega, by simp, fun hk0 => ?_, fun _ => ⟨k + 1, by omega, by simp, by omega⟩⟩
      have w2 : IntKind.wrap .i64 ((k : Int) - 1) = ((k - 1 : Nat) : Int) := by rw [IntKind.wrap_i64]; omega
      obtain ⟨i, i1, i2, i3⟩ := out_get o1 o2 o4 (k := k - 1) (by omega)
      have nx := out_next (k := k - 1) o2 o3 i3 (by rw [show k - 1 + 1 = k by omega]; exact j3)
      simp only [w2, i2, Int.toNat_natCast]
      refine ⟨by omega, by omega, by omega, by omega, by omega, by omega, by omega, by omega, nx.1, by omega, by omega, by omega, by omega, by omega, by omega, by omega, by omega, fun he => ⟨by omega, by omega, by omega, by omega, nx.2 he, k + 1, by omega, by simp, by omega⟩, fun _ => ⟨k + 1, by omega, by simp, by omega⟩⟩
theorem toNil_vc (o : Option Addr) (cap : Nat) :
    ∃ (x : Unit),
  ∃ (L : List (Nat × Go.Sx.Blk)),
    ∃ (G : List (Nat × Go.Sx.Blk)),
      List.Perm [] (L ++ G) ∧
        ((0 : Nat) = (0 : Nat) ∧ L = []) ∧
          ∀ (a : Unit) (L' : List (Nat × Go.Sx.Blk)),
            a = () →
              ∀ (b b_1 : Nat),
                ∃ (x0 : TX),
                  ((((0 : Int) = (↑x0.1 : Int) ∧
                          Go.Value.slice o (0 : Nat) cap = Go.Value.slice o (0 : Nat) cap ∧
                            Min.min (↑(0 : Nat) : Int) (60 : Int) = Min.min (↑(0 : Nat) : Int) (60 : Int) ∧
                              ((0 : Nat) = (0 : Nat) ∧ (0 : Nat) = (0 : Nat)) ∧
                                ((0 : Nat) = (0 : Nat) ∧ (0 : Nat) = (0 : Nat)) ∧ Min.min (↑(0 : Nat) : Int) (60 : Int) = Min.min (↑(0 : Nat) : Int) (60 : Int) ∧ True) ∧
                        L' ++ G = x0.4 ∧
                          (b = b ∧ Go.Value.slice Option.none (0 : Nat) (0 : Nat) = Go.Value.slice x0.2.1 x0.2.2 x0.2.3 ∧ True) ∧
                            (b_1 = b_1 ∧ Go.Value.slice Option.none (0 : Nat) (0 : Nat) = Go.Value.slice x0.3.1 x0.3.2 x0.3.3 ∧ True) ∧ True) ∧
                      toInv [] (0 : Nat) x0) ∧
                    ∀ (x : TX),
                      toInv [] (0 : Nat) x →
                        ¬(↑x.1 : Int) < Min.min (↑(0 : Nat) : Int) (60 : Int) ∧
                          ∃ (x0 : TX),
                            (∃ (S : List Row),
                                ∃ (L : List (Nat × Go.Sx.Blk)),
                                  ∃ (G : List (Nat × Go.Sx.Blk)),
                                    List.Perm x.4 (L ++ G) ∧
                                      (QRep S (Go.Value.slice x.2.1 x.2.2 x.2.3) L ∧ List.length S < (1000000 : Nat)) ∧
                                        (∀ (S' : List Row) (s : Sl) (L' : List (Nat × Go.Sx.Blk)),
                                            DueP (18446744073709551615 : Int) S [] S' →
                                              QRep S' (Go.Value.slice s.1 s.2 s.3) L' →
                                                ∃ (S : List Row),
                                                  ∃ (L : List (Nat × Go.Sx.Blk)),
                                                    ∃ (G_1 : List (Nat × Go.Sx.Blk)),
                                                      List.Perm (L' ++ G) (L ++ G_1) ∧
                                                        (QRep S (Go.Value.slice x.3.1 x.3.2 x.3.3) L ∧ List.length S < (1000000 : Nat)) ∧
                                                          (∀ (S' : List Row) (s_1 : Sl) (L' : List (Nat × Go.Sx.Blk)),
                                                              DueP (18446744073709551615 : Int) S [] S' →
                                                                QRep S' (Go.Value.slice s_1.1 s_1.2 s_1.3) L' →
                                                                  ∃ (y : TX),
                                                                    ((Go.Value.slice Option.none (0 : Nat) (0 : Nat) = Go.Value.slice Option.none (0 : Nat) (0 : Nat) ∧
                                                                          Go.Value.slice Option.none (0 : Nat) (0 : Nat) = Go.Value.slice Option.none (0 : Nat) (0 : Nat) ∧
                                                                            Go.Value.slice o (0 : Nat) cap = Go.Value.slice o (0 : Nat) cap ∧
                                                                              Min.min (↑(0 : Nat) : Int) (60 : Int) = Min.min (↑(0 : Nat) : Int) (60 : Int) ∧
                                                                                ((0 : Nat) = (0 : Nat) ∧ (0 : Nat) = (0 : Nat)) ∧ True) ∧
                                                                        L' ++ G_1 = y.4 ∧
                                                                          (b = b ∧ Go.Value.slice s.1 s.2 s.3 = Go.Value.slice y.2.1 y.2.2 y.2.3 ∧ True) ∧
                                                                            (b_1 = b_1 ∧ Go.Value.slice s_1.1 s_1.2 s_1.3 = Go.Value.slice y.3.1 y.3.2 y.3.3 ∧ True) ∧ True) ∧
                                                                      ∃ (L1 : List (Nat × Go.Sx.Blk)),
                                                                        ∃ (G : List (Nat × Go.Sx.Blk)),
                                                                          List.Perm y.4 (L1 ++ G) ∧ QRep [] (Go.Value.slice y.2.1 y.2.2 y.2.3) L1) ∧
                                                            ∀ (out S' : List Row) (s_1 : Sl) (L' : List (Nat × Go.Sx.Blk)) (b' base' cap' : Nat)
                                                              (zs' : List Int),
                                                              DueP (18446744073709551615 : Int) S out S' →
                                                                QRep S' (Go.Value.slice s_1.1 s_1.2 s_1.3) L' →
                                                                  (0 : Nat) < List.length out →
                                                                    List.length out ≤ cap' →
                                                                      List.length zs' = cap' →
                                                                        List.take (List.length out) zs' = List.map (fun (x : Row) => x.2) out →
                                                                          ∃ (y : TX),
                                                                            ((Go.Value.slice Option.none (0 : Nat) (0 : Nat) = Go.Value.slice Option.none (0 : Nat) (0 : Nat) ∧
                                                                                  Go.Value.slice (Option.some { block := b', off := base' * (1 : Nat) }) (List.length out) cap' =
                                                                                      Go.Value.slice Option.none (0 : Nat) (0 : Nat) ∧
                                                                                    Go.Value.slice o (0 : Nat) cap = Go.Value.slice o (0 : Nat) cap ∧
                                                                                      Min.min (↑(0 : Nat) : Int) (60 : Int) = Min.min (↑(0 : Nat) : Int) (60 : Int) ∧
                                                                                        ((0 : Nat) = (0 : Nat) ∧ (0 : Nat) = (0 : Nat)) ∧ True) ∧
                                                                                L' ++ G_1 = y.4 ∧
                                                                                  (b = b ∧ Go.Value.slice s.1 s.2 s.3 = Go.Value.slice y.2.1 y.2.2 y.2.3 ∧ True) ∧
                                                                                    (b_1 = b_1 ∧ Go.Value.slice s_1.1 s_1.2 s_1.3 = Go.Value.slice y.3.1 y.3.2 y.3.3 ∧ True) ∧ True) ∧
                                                                              ∃ (L1 : List (Nat × Go.Sx.Blk)),
                                                                                ∃ (G : List (Nat × Go.Sx.Blk)),
                                                                                  List.Perm y.4 (L1 ++ G) ∧ QRep [] (Go.Value.slice y.2.1 y.2.2 y.2.3) L1) ∧
                                          ∀ (out S' : List Row) (s : Sl) (L' : List (Nat × Go.Sx.Blk)) (b' base' cap' : Nat) (zs' : List Int),
                                            DueP (18446744073709551615 : Int) S out S' →
                                              QRep S' (Go.Value.slice s.1 s.2 s.3) L' →
                                                (0 : Nat) < List.length out →
                                                  List.length out ≤ cap' →
                                                    List.length zs' = cap' →
                                                      List.take (List.length out) zs' = List.map (fun (x : Row) => x.2) out →
                                                        ∃ (S : List Row),
                                                          ∃ (L : List (Nat × Go.Sx.Blk)),
                                                            ∃ (G_1 : List (Nat × Go.Sx.Blk)),
                                                              List.Perm (L' ++ G) (L ++ G_1) ∧
                                                                (QRep S (Go.Value.slice x.3.1 x.3.2 x.3.3) L ∧ List.length S < (1000000 : Nat)) ∧
                                                                  (∀ (S' : List Row) (s_1 : Sl) (L' : List (Nat × Go.Sx.Blk)),
                                                                      DueP (18446744073709551615 : Int) S [] S' →
                                                                        QRep S' (Go.Value.slice s_1.1 s_1.2 s_1.3) L' →
                                                                          ∃ (y : TX),
                                                                            ((Go.Value.slice (Option.some { block := b', off := base' * (1 : Nat) }) (List.length out) cap' =
                                                                                    Go.Value.slice Option.none (0 : Nat) (0 : Nat) ∧
                                                                                  Go.Value.slice Option.none (0 : Nat) (0 : Nat) = Go.Value.slice Option.none (0 : Nat) (0 : Nat) ∧
                                                                                    Go.Value.slice o (0 : Nat) cap = Go.Value.slice o (0 : Nat) cap ∧
                                                                                      Min.min (↑(0 : Nat) : Int) (60 : Int) = Min.min (↑(0 : Nat) : Int) (60 : Int) ∧
                                                                                        ((0 : Nat) = (0 : Nat) ∧ (0 : Nat) = (0 : Nat)) ∧ True) ∧
                                                                                L' ++ G_1 = y.4 ∧
                                                                                  (b = b ∧ Go.Value.slice s.1 s.2 s.3 = Go.Value.slice y.2.1 y.2.2 y.2.3 ∧ True) ∧
                                                                                    (b_1 = b_1 ∧ Go.Value.slice s_1.1 s_1.2 s_1.3 = Go.Value.slice y.3.1 y.3.2 y.3.3 ∧ True) ∧ True) ∧
                                                                              ∃ (L1 : List (Nat × Go.Sx.Blk)),
                                                                                ∃ (G : List (Nat × Go.Sx.Blk)),
                                                                                  List.Perm y.4 (L1 ++ G) ∧ QRep [] (Go.Value.slice y.2.1 y.2.2 y.2.3) L1) ∧
                                                                    ∀ (out_1 S' : List Row) (s_1 : Sl) (L' : List (Nat × Go.Sx.Blk))
                                                                      (b'_1 base'_1 cap'_1 : Nat) (zs' : List Int),
                                                                      DueP (18446744073709551615 : Int) S out_1 S' →
                                                                        QRep S' (Go.Value.slice s_1.1 s_1.2 s_1.3) L' →
                                                                          (0 : Nat) < List.length out_1 →
                                                                            List.length out_1 ≤ cap'_1 →
                                                                              List.length zs' = cap'_1 →
                                                                                List.take (List.length out_1) zs' = List.map (fun (x : Row) => x.2) out_1 →
                                                                                  ∃ (y : TX),
                                                                                    ((Go.Value.slice (Option.some { block := b', off := base' * (1 : Nat) }) (List.length out) cap' =
                                                                                            Go.Value.slice Option.none (0 : Nat) (0 : Nat) ∧
                                                                                          Go.Value.slice (Option.some { block := b'_1, off := base'_1 * (1 : Nat) }) (List.length out_1) cap'_1 =
                                                                                              Go.Value.slice Option.none (0 : Nat) (0 : Nat) ∧
                                                                                            Go.Value.slice o (0 : Nat) cap = Go.Value.slice o (0 : Nat) cap ∧
                                                                                              Min.min (↑(0 : Nat) : Int) (60 : Int) = Min.min (↑(0 : Nat) : Int) (60 : Int) ∧
                                                                                                ((0 : Nat) = (0 : Nat) ∧ (0 : Nat) = (0 : Nat)) ∧ True) ∧
                                                                                        L' ++ G_1 = y.4 ∧
                                                                                          (b = b ∧ Go.Value.slice s.1 s.2 s.3 = Go.Value.slice y.2.1 y.2.2 y.2.3 ∧ True) ∧
                                                                                            (b_1 = b_1 ∧ Go.Value.slice s_1.1 s_1.2 s_1.3 = Go.Value.slice y.3.1 y.3.2 y.3.3 ∧ True) ∧ True) ∧
                                                                                      ∃ (L1 : List (Nat × Go.Sx.Blk)),
                                                                                        ∃ (G : List (Nat × Go.Sx.Blk)),
                                                                                          List.Perm y.4 (L1 ++ G) ∧ QRep [] (Go.Value.slice y.2.1 y.2.2 y.2.3) L1) ∧
                              ∀ (x : TX),
                                (∃ (L1 : List (Nat × Go.Sx.Blk)), ∃ (G : List (Nat × Go.Sx.Blk)), List.Perm x.4 (L1 ++ G) ∧ QRep [] (Go.Value.slice x.2.1 x.2.2 x.2.3) L1) →
                                  ¬(↑(0 : Nat) : Int) ≠ Min.min (↑(0 : Nat) : Int) (60 : Int) ∧
                                    ¬(↑(0 : Nat) : Int) ≠ Min.min (↑(0 : Nat) : Int) (60 : Int) ∧
                                      ∃ (x_1 : List Row),
                                        ∃ (L : List (Nat × Go.Sx.Blk)),
                                          ∃ (G : List (Nat × Go.Sx.Blk)),
                                            List.Perm x.4 (L ++ G) ∧
                                              ((0 : Nat) = (0 : Nat) ∧ QRep x_1 (Go.Value.slice x.2.1 x.2.2 x.2.3) L) ∧
                                                ∀ (a : Int) (s : Sl) (L' : List (Nat × Go.Sx.Blk)),
                                                  a = (↑(List.length x_1) : Int) ∧ QRep x_1 (Go.Value.slice s.1 s.2 s.3) L' →
                                                    ¬a ≠ (0 : Int) ∧
                                                      ∃ (x0 : Nat),
                                                        ((((0 : Int) = (↑x0 : Int) ∧
                                                                Go.Value.slice o (0 : Nat) cap = Go.Value.slice o (0 : Nat) cap ∧
                                                                  Go.Value.slice Option.none (0 : Nat) (0 : Nat) = Go.Value.slice Option.none (0 : Nat) (0 : Nat) ∧
                                                                    Go.Value.slice Option.none (0 : Nat) (0 : Nat) = Go.Value.slice Option.none (0 : Nat) (0 : Nat) ∧
                                                                      (↑(0 : Nat) : Int) = (↑(0 : Nat) : Int) ∧ True) ∧
                                                              L' ++ G = L' ++ G ∧
                                                                (b = b ∧ Go.Value.slice s.1 s.2 s.3 = Go.Value.slice s.1 s.2 s.3 ∧ True) ∧
                                                                  (b_1 = b_1 ∧ Go.Value.slice x.3.1 x.3.2 x.3.3 = Go.Value.slice x.3.1 x.3.2 x.3.3 ∧ True) ∧ True) ∧
                                                            x0 = (0 : Nat)) ∧
                                                          ∀ (x : Nat), x = (0 : Nat) → ¬(↑x : Int) < (↑(0 : Nat) : Int) ∧ True := by
  refine ⟨(), [], [], by simp, ⟨rfl, rfl⟩, fun _ L' _ b b1 => ?_⟩
  refine ⟨⟨0, ⟨none, 0, 0⟩, ⟨none, 0, 0⟩, L' ++ []⟩, ⟨by simp, ?_⟩, fun x hx1 => ?_⟩
  · exact ⟨Nat.zero_le _, [], [], L', [], [], by simp, QRep.nil, QRep.nil, by simp [toA], by simp [toB]⟩
  · obtain ⟨h1, L1, L2, G, Sa, Sb, hp, ha, hb, hA, hB⟩ := hx1
    have hi : x.i = 0 := by omega
    rw [hi] at hA hB
    have la : Sa = [] := List.Perm.eq_nil (by simpa [toA] using hA)
    have lb : Sb = [] := List.Perm.eq_nil (by simpa [toB] using hB)
    subst la lb
    have swp : ∀ {A B C : Blks}, (A ++ (B ++ C)).Perm (B ++ (A ++ C)) := fun {A B C} => by
      rw [← List.append_assoc, ← List.append_assoc]
      exact List.perm_append_comm.append_right C
    refine ⟨by omega, ⟨0, ⟨none, 0, 0⟩, ⟨none, 0, 0⟩, []⟩, ⟨[], L1, L2 ++ G, hp, ⟨ha, by simp⟩, fun S' s L3 hd hq => ?_, fun out S' s L3 b' base' cap' zs' hd hq k1 k2 k3 k4 => ?_⟩, fun y ⟨L1, G, c5, c6⟩ => ?_⟩
    · obtain ⟨rfl, -⟩ := due_all hd (by simp)
      refine ⟨[], L2, L3 ++ G, swp, ⟨hb, by simp⟩, fun S2 s2 L4 hd2 hq2 => ?_, fun out2 S2 s2 L4 b2 base2 cap2 zs2 hd2 hq2 m1 m2 m3 m4 => ?_⟩
      · exact ⟨⟨0, s, s2, L4 ++ (L3 ++ G)⟩, by simp, L3, L4 ++ G, swp, hq⟩
      · have := (due_all hd2 (by simp)).2.length_eq
        simp only [List.length_nil] at this
        omega
    · have := (due_all hd (by simp)).2.length_eq
      simp only [List.length_nil] at this
      omega
    · exact ⟨by omega, by omega, [], L1, G, c5, ⟨rfl, c6⟩, fun a s L3 ⟨e, hq⟩ => ⟨by simp [e], 0, ⟨by simp, rfl⟩, fun k hk => ⟨by omega, trivial⟩⟩⟩
theorem to_goal (bd t base len cap n : Nat) (xs : List Int) (hn : n = min len 60) (h0 : 0 < len) (hlc : len ≤ cap) (hx : xs.length = cap) (hz : ∀ z ∈ xs, 0 ≤ z ∧ z < 18446744073709551616) : toGoal bd t base len cap n xs :=
  Eq.mpr (by kernel_rfl) (to_vc bd t base len cap n xs hn h0 hlc hx hz)
theorem toNil_goal (o : Option Addr) (cap : Nat) : toNilGoal o cap := Eq.mpr (by kernel_rfl) (toNil_vc o cap)
end Go.Proofs.Ythkcfocoekonjaa
