/- Timers: the law TimerParts. -/
import Derived.Test.YthkcfocoekonjaaTmP
set_option maxRecDepth 100000
set_option linter.unusedVariables false
set_option linter.unusedSimpArgs false
namespace Go.Proofs.Ythkcfocoekonjaa
open Go Go.Sx
attribute [local irreducible] Go.Sx.xrun

structure TpX where
  i : Nat
  va : Sl
  vb : Sl
  L : Blks
structure TpO where
  va : Sl
  vb : Sl
  L : Blks
  m : Nat
  b : Nat
  base : Nat
  cap : Nat
  zs : List Int
def KN (S : List Row) : Prop := (S.map (·.2)).Nodup
def tpInv (n : Nat) (x : TpX) : Prop := x.i ≤ n ∧ ∃ L1 L2 G Sa Sb, x.L.Perm (L1 ++ (L2 ++ G)) ∧ QRep Sa (.slice x.va.o x.va.l x.va.c) L1 ∧ QRep Sb (.slice x.vb.o x.vb.l x.vb.c) L2 ∧ Sa.Perm Sb ∧ KN Sb ∧ Sb.length ≤ x.i
/-- Of the table b these have been due. -/
def tpOut (now : Int) (va vb : Sl) (L : Blks) (D : List Row) : Prop := ∃ L1 L2 G Sb S1, L.Perm (L1 ++ (L2 ++ G)) ∧ QRep S1 (.slice va.o va.l va.c) L1 ∧ QRep Sb (.slice vb.o vb.l vb.c) L2 ∧ DueP now Sb D S1 ∧ Sb.length ≤ 60
def tpRow (x : TpO) (D : List Row) : Prop := D.length = x.m ∧ x.m ≤ x.cap ∧ x.zs.length = x.cap ∧ x.zs.take x.m = D.map (·.2)
def tpEnd (va vb : Sl) (L : Blks) (l : Nat) : Prop := l ≤ 60 ∧ ∃ L1 L2 G S1 S2, L.Perm (L1 ++ (L2 ++ G)) ∧ QRep S1 (.slice va.o va.l va.c) L1 ∧ QRep S2 (.slice vb.o vb.l vb.c) L2 ∧ S1.Perm S2
noncomputable def Ann.tp (n : Nat) (hi : Int) : FnAnn := ⟨[], [(5, ⟨TpX, [
  (fun σ x => ⟨σ.n, (18, .val (.int .i64 x.i)) :: keepE σ.env [0, 1, 2, 7, 8, 17], Ann.vals (Ann.chunk σ.heap x.L) [x.va, x.vb]⟩, fun _ x => tpInv n x)], fun x => n - x.i⟩),
  (2010012, ⟨TpO, [
    (fun σ x => ⟨σ.n, (10, .slc 4 0 x.m x.cap) :: keepE σ.env [1, 2, 7, 8], List.take 4 (Ann.vals (Ann.chunk σ.heap x.L) [x.va, x.vb]) ++ [.own x.b (.tab 3 x.base x.cap [.ints .i64 x.zs])]⟩, fun _ x => ∃ D, tpOut hi x.va x.vb x.L D ∧ tpRow x D)], fun _ => 0⟩),
  (1000013, ⟨TpO × TpO, [
    (fun σ x => ⟨σ.n, (10, .slc 4 0 0 x.1.cap) :: (11, .val (.slice none 0 0)) :: keepE σ.env [7, 8], List.take 4 (Ann.vals (Ann.chunk σ.heap x.1.L) [x.1.va, x.1.vb]) ++ [.own x.1.b (.tab 3 x.1.base x.1.cap [.ints .i64 x.1.zs])]⟩,
      fun _ x => tpEnd x.1.va x.1.vb x.1.L 0 ∧ x.1.m = 0),
    (fun σ x => ⟨σ.n, (10, .slc 4 0 x.1.m x.1.cap) :: (11, .slc 5 0 x.1.m x.2.cap) :: keepE σ.env [7, 8], List.take 4 (Ann.vals (Ann.chunk σ.heap x.1.L) [x.1.va, x.1.vb]) ++ [.own x.1.b (.tab 3 x.1.base x.1.cap [.ints .i64 x.1.zs]), .own x.2.b (.tab 3 x.2.base x.2.cap [.ints .i64 x.2.zs])]⟩,
      fun _ x => tpEnd x.1.va x.1.vb x.1.L x.1.m ∧ ∃ D, tpRow x.1 D ∧ tpRow x.2 D)], fun _ => 0⟩),
  (16, ⟨ImX, [(fun σ i => ⟨σ.n, (64, .val (.int .i64 i.i)) :: keepE σ.env [10, 11, 63], σ.heap⟩, fun x0 i => i.m = x0.m ∧ i.i ≤ i.m)], fun i => i.m - i.i⟩)]⟩
noncomputable def tpGoal (bd t base len cap n : Nat) (xs : List Int) (cut end_ : Int) : Prop :=
  xrun Go.Proofs.Try.prog tbl2T [(7, Ann.tp n (max cut end_))] [] 9 [] 7 [.slc 0 0 len cap, .val (.int .u64 cut), .val (.int .u64 end_)] [.ro bd (.tab t base cap [.ints .u64 xs]), .chunk []] fun s h => bOf s fun p => p
noncomputable def tpNilGoal (o : Option Addr) (cap : Nat) (cut end_ : Int) : Prop :=
  xrun Go.Proofs.Try.prog tbl2T [(7, Ann.tp 0 (max cut end_))] [] 9 [] 7 [.val (.slice o 0 cap), .val (.int .u64 cut), .val (.int .u64 end_)] [.gone (0, 0, 0), .chunk []] fun s h => bOf s fun p => p

theorem due_perm {now : Int} {S T out S' : List Row} (h : DueP now S out S') (p : S.Perm T) : DueP now T out S' := ⟨p.symm.trans h.1, h.2⟩
theorem due_two {lo hi : Int} {S o1 S1 o2 S2 : List Row} (h1 : DueP lo S o1 S1) (h2 : DueP hi S1 o2 S2) (hl : lo ≤ hi) : DueP hi S (o1 ++ o2) S2 := by
  obtain ⟨a1, a2, a3, a4⟩ := h1
  obtain ⟨b1, b2, b3, b4⟩ := h2
  refine ⟨?_, ?_, ?_, b4⟩
  · rw [List.append_assoc]; exact a1.trans (b1.append_left o1)
  · refine List.pairwise_append.2 ⟨a2, b2, fun x hx y hy => ?_⟩
    have k1 := a3 x hx
    have k2 := a4 y (b1.mem_iff.2 (by simp [hy]))
    unfold rle; omega
  · intro x hx
    rcases List.mem_append.1 hx with hx | hx
    · have := a3 x hx; omega
    · exact b3 x hx
theorem due_same {now : Int} {S o S1 o' S2 : List Row} (h1 : DueP now S o S1) (h2 : DueP now S o' S2) : o' = o ∧ S2.Perm S1 :=
  due_eval h2 h1.1 h1.2.1 h1.2.2.1 h1.2.2.2
theorem due_len {now : Int} {S o S1 : List Row} (h : DueP now S o S1) : S.length = o.length + S1.length := by
  have := h.1.length_eq
  simpa using this
theorem set_filter {kind at_ : Int} {S S' : List Row} (h : SetP kind at_ S S') (hk : KN S) : S'.Perm ((at_, kind) :: S.filter fun r => decide (r.2 ≠ kind)) := by
  obtain ⟨S1, h1, rfl⟩ := h
  refine List.Perm.cons _ ?_
  rcases h1 with ⟨r, e1, e2⟩ | ⟨rfl, e⟩
  · have hk2 : ((r :: S1).map (·.2)).Nodup := (e2.map _).nodup_iff.1 hk
    have f := e2.filter fun r : Row => decide (r.2 ≠ kind)
    refine List.Perm.trans ?_ f.symm
    rw [List.filter_cons_of_neg (by simp [e1]), List.filter_eq_self.2]
    intro c hc
    simp only [List.map_cons, List.nodup_cons] at hk2
    refine decide_eq_true fun h => hk2.1 ?_
    rw [e1, ← h]
    exact List.mem_map_of_mem hc
  · rw [List.filter_eq_self.2 fun c hc => decide_eq_true (e c hc)]
theorem kn_filter {kind at_ : Int} {S : List Row} (hk : KN S) : KN ((at_, kind) :: S.filter fun r => decide (r.2 ≠ kind)) := by
  unfold KN
  rw [List.map_cons, List.nodup_cons]
  refine ⟨fun h => ?_, (List.filter_sublist.map _).nodup hk⟩
  obtain ⟨r, h1, h2⟩ := List.mem_map.1 h
  exact of_decide_eq_true (List.mem_filter.1 h1).2 h2
theorem set_both {kind at_ : Int} {S T S' T' : List Row} (h : SetP kind at_ S S') (h2 : SetP kind at_ T T') (p : S.Perm T) (hk : KN T) : S'.Perm T' ∧ KN T' ∧ T'.length ≤ T.length + 1 := by
  have hkS : KN S := (p.map _).nodup_iff.2 hk
  have a := set_filter h hkS
  have b := set_filter h2 hk
  refine ⟨a.trans (((p.filter _).cons _).trans b.symm), (b.map _).nodup_iff.2 (kn_filter hk), ?_⟩
  rw [b.length_eq, List.length_cons]
  exact Nat.succ_le_succ (List.length_filter_le _ _)
theorem swp3 {A B C : Blks} : (A ++ (B ++ C)).Perm (B ++ (A ++ C)) := by
  rw [← List.append_assoc, ← List.append_assoc]
  exact List.perm_append_comm.append_right C
theorem tp_vc (bd t base len cap n : Nat) (xs : List Int) (cut end_ : Int) (hn : n = min len 60) (h0 : 0 < len) (hlc : len ≤ cap) (hx : xs.length = cap) :
    ∃ (x : Unit),
  ∃ (L : List (Nat × Go.Sx.Blk)),
    ∃ (G : List (Nat × Go.Sx.Blk)),
      List.Perm [] (L ++ G) ∧
        ((0 : Nat) = (0 : Nat) ∧ L = []) ∧
          ∀ (a : Unit) (L' : List (Nat × Go.Sx.Blk)),
            a = () →
              ∀ (b b_1 : Nat),
                ∃ (x0 : TpX),
                  ((((0 : Int) = (↑x0.1 : Int) ∧
                          ((0 : Nat) = (0 : Nat) ∧ len = len ∧ cap = cap) ∧
                            cut = cut ∧
                              end_ = end_ ∧
                                ((0 : Nat) = (0 : Nat) ∧ (0 : Nat) = (0 : Nat)) ∧
                                  ((0 : Nat) = (0 : Nat) ∧ (0 : Nat) = (0 : Nat)) ∧ Min.min (↑len : Int) (60 : Int) = Min.min (↑len : Int) (60 : Int) ∧ True) ∧
                        (bd = bd ∧ bif Nat.beq t t then base = base ∧ cap = cap ∧ xs = xs ∧ True else False) ∧
                          L' ++ G = x0.4 ∧
                            (b = b ∧ Go.Value.slice Option.none (0 : Nat) (0 : Nat) = Go.Value.slice x0.2.1 x0.2.2 x0.2.3 ∧ True) ∧
                              (b_1 = b_1 ∧ Go.Value.slice Option.none (0 : Nat) (0 : Nat) = Go.Value.slice x0.3.1 x0.3.2 x0.3.3 ∧ True) ∧ True) ∧
                      tpInv n x0) ∧
                    ∀ (x : TpX),
                      tpInv n x →
                        ((↑x.1 : Int) < Min.min (↑len : Int) (60 : Int) →
                            (20 : Int) ≠ (0 : Int) ∧
                              ((0 : Int) ≤ (↑x.1 : Int) ∧ (↑x.1 : Int) < (↑len : Int)) ∧
                                (0 : Nat) + x.1 < cap ∧
                                  ∃ (x_1 : KX),
                                    ∃ (L : List (Nat × Go.Sx.Blk)),
                                      ∃ (G : List (Nat × Go.Sx.Blk)),
                                        List.Perm x.4 (L ++ G) ∧
                                          ([Go.Value.int Go.IntKind.i64 (Int.tmod (↑x.1 : Int) (20 : Int)), Go.Value.int Go.IntKind.u64 (List.getD xs ((0 : Nat) + x.1) (0 : Int))] =
                                                [Go.Value.int Go.IntKind.i64 x_1.2, Go.Value.int Go.IntKind.u64 x_1.3] ∧
                                              QRep x_1.1 (Go.Value.slice x.2.1 x.2.2 x.2.3) L ∧ List.length x_1.1 + (1 : Nat) < (1000000 : Nat)) ∧
                                            ∀ (a : Unit) (s : Sl) (L' : List (Nat × Go.Sx.Blk)),
                                              (∃ (S' : List Row),
                                                  SetP x_1.2 x_1.3 x_1.1 S' ∧ QRep S' (Go.Value.slice s.1 s.2 s.3) L') →
                                                (20 : Int) ≠ (0 : Int) ∧
                                                  ((0 : Int) ≤ (↑x.1 : Int) ∧ (↑x.1 : Int) < (↑len : Int)) ∧
                                                    (0 : Nat) + x.1 < cap ∧
                                                      ∃ (x_2 : KX),
                                                        ∃ (L : List (Nat × Go.Sx.Blk)),
                                                          ∃ (G_1 : List (Nat × Go.Sx.Blk)),
                                                            List.Perm (L' ++ G) (L ++ G_1) ∧
                                                              ([Go.Value.int Go.IntKind.i64 (Int.tmod (↑x.1 : Int) (20 : Int)),
                                                                      Go.Value.int Go.IntKind.u64 (List.getD xs ((0 : Nat) + x.1) (0 : Int))] =
                                                                    [Go.Value.int Go.IntKind.i64 x_2.2, Go.Value.int Go.IntKind.u64 x_2.3] ∧
                                                                  QRep x_2.1 (Go.Value.slice x.3.1 x.3.2 x.3.3) L ∧ List.length x_2.1 + (1 : Nat) < (1000000 : Nat)) ∧
                                                                ∀ (a : Unit) (s_1 : Sl) (L' : List (Nat × Go.Sx.Blk)),
                                                                  (∃ (S' : List Row),
                                                                      SetP x_2.2 x_2.3 x_2.1 S' ∧ QRep S' (Go.Value.slice s_1.1 s_1.2 s_1.3) L') →
                                                                    ∃ (y : TpX),
                                                                      n - y.1 < n - x.1 ∧
                                                                        ((Go.IntKind.wrap Go.IntKind.i64 ((↑x.1 : Int) + (1 : Int)) = (↑y.1 : Int) ∧
                                                                              ((0 : Nat) = (0 : Nat) ∧ len = len ∧ cap = cap) ∧
                                                                                cut = cut ∧
                                                                                  end_ = end_ ∧
                                                                                    ((0 : Nat) = (0 : Nat) ∧ (0 : Nat) = (0 : Nat)) ∧
                                                                                      ((0 : Nat) = (0 : Nat) ∧ (0 : Nat) = (0 : Nat)) ∧
                                                                                        Min.min (↑len : Int) (60 : Int) = Min.min (↑len : Int) (60 : Int) ∧ True) ∧
                                                                            (bd = bd ∧ bif Nat.beq t t then base = base ∧ cap = cap ∧ xs = xs ∧ True else False) ∧
                                                                              L' ++ G_1 = y.4 ∧
                                                                                (b = b ∧ Go.Value.slice s.1 s.2 s.3 = Go.Value.slice y.2.1 y.2.2 y.2.3 ∧ True) ∧
                                                                                  (b_1 = b_1 ∧ Go.Value.slice s_1.1 s_1.2 s_1.3 = Go.Value.slice y.3.1 y.3.2 y.3.3 ∧ True) ∧ True) ∧
                                                                          tpInv n y) ∧
                          (¬(↑x.1 : Int) < Min.min (↑len : Int) (60 : Int) →
                            ∃ (x0 : TpO),
                              (∃ (S : List Row),
                                  ∃ (L : List (Nat × Go.Sx.Blk)),
                                    ∃ (G : List (Nat × Go.Sx.Blk)),
                                      List.Perm x.4 (L ++ G) ∧
                                        (QRep S (Go.Value.slice x.2.1 x.2.2 x.2.3) L ∧ List.length S < (1000000 : Nat)) ∧
                                          (∀ (S' : List Row) (s : Sl) (L' : List (Nat × Go.Sx.Blk)),
                                              DueP (Min.min cut end_) S [] S' →
                                                QRep S' (Go.Value.slice s.1 s.2 s.3) L' →
                                                  ∀ (b_2 : Nat),
                                                    (0 : Nat) ≤ (0 : Nat) ∧
                                                      ∃ (S : List Row),
                                                        ∃ (L : List (Nat × Go.Sx.Blk)),
                                                          ∃ (G_1 : List (Nat × Go.Sx.Blk)),
                                                            List.Perm (L' ++ G) (L ++ G_1) ∧
                                                              (QRep S (Go.Value.slice s.1 s.2 s.3) L ∧ List.length S < (1000000 : Nat)) ∧
                                                                (∀ (S' : List Row) (s : Sl) (L' : List (Nat × Go.Sx.Blk)),
                                                                    DueP (Max.max cut end_) S [] S' →
                                                                      QRep S' (Go.Value.slice s.1 s.2 s.3) L' →
                                                                        (0 : Nat) ≤ (0 : Nat) ∧
                                                                          ∃ (y : TpO),
                                                                            ((((0 : Nat) = (0 : Nat) ∧ (0 : Nat) = y.4 ∧ (0 : Nat) = y.7) ∧
                                                                                  cut = cut ∧
                                                                                    end_ = end_ ∧
                                                                                      ((0 : Nat) = (0 : Nat) ∧ (0 : Nat) = (0 : Nat)) ∧ ((0 : Nat) = (0 : Nat) ∧ (0 : Nat) = (0 : Nat)) ∧ True) ∧
                                                                                (bd = bd ∧ bif Nat.beq t t then base = base ∧ cap = cap ∧ xs = xs ∧ True else False) ∧
                                                                                  L' ++ G_1 = y.3 ∧
                                                                                    (b = b ∧ Go.Value.slice s.1 s.2 s.3 = Go.Value.slice y.1.1 y.1.2 y.1.3 ∧ True) ∧
                                                                                      (b_1 = b_1 ∧ Go.Value.slice x.3.1 x.3.2 x.3.3 = Go.Value.slice y.2.1 y.2.2 y.2.3 ∧ True) ∧
                                                                                        (b_2 = y.5 ∧ (0 : Nat) = y.6 ∧ (0 : Nat) = y.7 ∧ [] = y.8 ∧ True) ∧ True) ∧
                                                                              ∃ (D : List Row), tpOut (Max.max cut end_) y.1 y.2 y.3 D ∧ tpRow y D) ∧
                                                                  ∀ (out S' : List Row) (s : Sl) (L' : List (Nat × Go.Sx.Blk))
                                                                    (b' base' cap' : Nat) (zs' : List Int),
                                                                    DueP (Max.max cut end_) S out S' →
                                                                      QRep S' (Go.Value.slice s.1 s.2 s.3) L' →
                                                                        (0 : Nat) < List.length out →
                                                                          List.length out ≤ cap' →
                                                                            List.length zs' = cap' →
                                                                              List.take (List.length out) zs' = List.map (fun (x : Row) => x.2) out →
                                                                                (0 : Nat) + List.length out ≤ cap' ∧
                                                                                  ((0 : Nat) ≤ (0 : Nat) ∧ (0 : Nat) ≤ (0 : Nat)) ∧
                                                                                    (0 : Nat) ≤ (0 : Nat) ∧
                                                                                      ((0 : Nat) + List.length out) * (8 : Nat) ≤ (140737488355328 : Nat) ∧
                                                                                        ∀ (b_3 base_1 cap' : Nat),
                                                                                          (0 : Nat) + List.length out ≤ cap' →
                                                                                            ((0 : Nat) + List.length out ≤ (0 : Nat) → cap' = (0 : Nat)) →
                                                                                              ∀ (sp : List Int),
                                                                                                List.length sp = cap' - ((0 : Nat) + List.length out) →
                                                                                                  ∃ (y : TpO),
                                                                                                    ((((0 : Nat) = (0 : Nat) ∧ (0 : Nat) + List.length out = y.4 ∧ cap' = y.7) ∧
                                                                                                          cut = cut ∧
                                                                                                            end_ = end_ ∧
                                                                                                              ((0 : Nat) = (0 : Nat) ∧ (0 : Nat) = (0 : Nat)) ∧
                                                                                                                ((0 : Nat) = (0 : Nat) ∧ (0 : Nat) = (0 : Nat)) ∧ True) ∧
                                                                                                        (bd = bd ∧ bif Nat.beq t t then base = base ∧ cap = cap ∧ xs = xs ∧ True else False) ∧
                                                                                                          L' ++ G_1 = y.3 ∧
                                                                                                            (b = b ∧ Go.Value.slice s.1 s.2 s.3 = Go.Value.slice y.1.1 y.1.2 y.1.3 ∧ True) ∧
                                                                                                              (b_1 = b_1 ∧ Go.Value.slice x.3.1 x.3.2 x.3.3 = Go.Value.slice y.2.1 y.2.2 y.2.3 ∧ True) ∧
                                                                                                                (b_3 = y.5 ∧
                                                                                                                    base_1 = y.6 ∧
                                                                                                                      cap' = y.7 ∧
                                                                                                                        List.take (0 : Nat) [] ++ List.take (List.length out) zs' ++ sp = y.8 ∧ True) ∧
                                                                                                                  True) ∧
                                                                                                      ∃ (D : List Row), tpOut (Max.max cut end_) y.1 y.2 y.3 D ∧ tpRow y D) ∧
                                            ∀ (out S' : List Row) (s : Sl) (L' : List (Nat × Go.Sx.Blk)) (b' base' cap' : Nat) (zs' : List Int),
                                              DueP (Min.min cut end_) S out S' →
                                                QRep S' (Go.Value.slice s.1 s.2 s.3) L' →
                                                  (0 : Nat) < List.length out →
                                                    List.length out ≤ cap' →
                                                      List.length zs' = cap' →
                                                        List.take (List.length out) zs' = List.map (fun (x : Row) => x.2) out →
                                                          ∀ (b_2 : Nat),
                                                            (0 : Nat) + List.length out ≤ cap' ∧
                                                              ((0 : Nat) ≤ (0 : Nat) ∧ (0 : Nat) ≤ (0 : Nat)) ∧
                                                                (0 : Nat) ≤ (0 : Nat) ∧
                                                                  ((0 : Nat) + List.length out) * (8 : Nat) ≤ (140737488355328 : Nat) ∧
                                                                    ∀ (b_3 base_1 cap' : Nat),
                                                                      (0 : Nat) + List.length out ≤ cap' →
                                                                        ((0 : Nat) + List.length out ≤ (0 : Nat) → cap' = (0 : Nat)) →
                                                                          ∀ (sp : List Int),
                                                                            List.length sp = cap' - ((0 : Nat) + List.length out) →
                                                                              ∃ (S : List Row),
                                                                                ∃ (L : List (Nat × Go.Sx.Blk)),
                                                                                  ∃ (G_1 : List (Nat × Go.Sx.Blk)),
                                                                                    List.Perm (L' ++ G) (L ++ G_1) ∧
                                                                                      (QRep S (Go.Value.slice s.1 s.2 s.3) L ∧ List.length S < (1000000 : Nat)) ∧
                                                                                        (∀ (S' : List Row) (s : Sl) (L' : List (Nat × Go.Sx.Blk)),
                                                                                            DueP (Max.max cut end_) S [] S' →
                                                                                              QRep S' (Go.Value.slice s.1 s.2 s.3) L' →
                                                                                                (0 : Nat) + List.length out ≤ cap' ∧
                                                                                                  ∃ (y : TpO),
                                                                                                    ((((0 : Nat) = (0 : Nat) ∧ (0 : Nat) + List.length out = y.4 ∧ cap' = y.7) ∧
                                                                                                          cut = cut ∧
                                                                                                            end_ = end_ ∧
                                                                                                              ((0 : Nat) = (0 : Nat) ∧ (0 : Nat) = (0 : Nat)) ∧
                                                                                                                ((0 : Nat) = (0 : Nat) ∧ (0 : Nat) = (0 : Nat)) ∧ True) ∧
                                                                                                        (bd = bd ∧ bif Nat.beq t t then base = base ∧ cap = cap ∧ xs = xs ∧ True else False) ∧
                                                                                                          L' ++ G_1 = y.3 ∧
                                                                                                            (b = b ∧ Go.Value.slice s.1 s.2 s.3 = Go.Value.slice y.1.1 y.1.2 y.1.3 ∧ True) ∧
                                                                                                              (b_1 = b_1 ∧ Go.Value.slice x.3.1 x.3.2 x.3.3 = Go.Value.slice y.2.1 y.2.2 y.2.3 ∧ True) ∧
                                                                                                                (b_3 = y.5 ∧
                                                                                                                    base_1 = y.6 ∧
                                                                                                                      cap' = y.7 ∧
                                                                                                                        List.take (0 : Nat) [] ++ List.take (List.length out) zs' ++ sp = y.8 ∧ True) ∧
                                                                                                                  True) ∧
                                                                                                      ∃ (D : List Row), tpOut (Max.max cut end_) y.1 y.2 y.3 D ∧ tpRow y D) ∧
                                                                                          ∀ (out_1 S' : List Row) (s : Sl)
                                                                                            (L' : List (Nat × Go.Sx.Blk)) (b' base' cap'_1 : Nat) (zs'_1 : List Int),
                                                                                            DueP (Max.max cut end_) S out_1 S' →
                                                                                              QRep S' (Go.Value.slice s.1 s.2 s.3) L' →
                                                                                                (0 : Nat) < List.length out_1 →
                                                                                                  List.length out_1 ≤ cap'_1 →
                                                                                                    List.length zs'_1 = cap'_1 →
                                                                                                      List.take (List.length out_1) zs'_1 =
                                                                                                          List.map (fun (x : Row) => x.2) out_1 →
                                                                                                        (0 : Nat) + List.length out_1 ≤ cap'_1 ∧
                                                                                                          ((0 : Nat) + List.length out ≤ cap' ∧ (0 : Nat) + cap' ≤ cap') ∧
                                                                                                            (0 : Nat) + ((0 : Nat) + List.length out) ≤ cap' ∧
                                                                                                              ((0 : Nat) + List.length out + List.length out_1) * (8 : Nat) ≤ (140737488355328 : Nat) ∧
                                                                                                                ∀ (b_4 base_2 cap'_2 : Nat),
                                                                                                                  (0 : Nat) + List.length out + List.length out_1 ≤ cap'_2 →
                                                                                                                    ((0 : Nat) + List.length out + List.length out_1 ≤ cap' → cap'_2 = cap') →
                                                                                                                      ∀ (sp_1 : List Int),
                                                                                                                        List.length sp_1 = cap'_2 - ((0 : Nat) + List.length out + List.length out_1) →
                                                                                                                          ∃ (y : TpO),
                                                                                                                            ((((0 : Nat) = (0 : Nat) ∧
                                                                                                                                    (0 : Nat) + List.length out + List.length out_1 = y.4 ∧
                                                                                                                                      cap'_2 = y.7) ∧
                                                                                                                                  cut = cut ∧
                                                                                                                                    end_ = end_ ∧
                                                                                                                                      ((0 : Nat) = (0 : Nat) ∧ (0 : Nat) = (0 : Nat)) ∧
                                                                                                                                        ((0 : Nat) = (0 : Nat) ∧ (0 : Nat) = (0 : Nat)) ∧ True) ∧
                                                                                                                                (bd = bd ∧
                                                                                                                                    bif Nat.beq t t then base = base ∧ cap = cap ∧ xs = xs ∧ True
                                                                                                                                    else False) ∧
                                                                                                                                  L' ++ G_1 = y.3 ∧
                                                                                                                                    (b = b ∧
                                                                                                                                        Go.Value.slice s.1 s.2 s.3 = Go.Value.slice y.1.1 y.1.2 y.1.3 ∧
                                                                                                                                          True) ∧
                                                                                                                                      (b_1 = b_1 ∧
                                                                                                                                          Go.Value.slice x.3.1 x.3.2 x.3.3 =
                                                                                                                                              Go.Value.slice y.2.1 y.2.2 y.2.3 ∧
                                                                                                                                            True) ∧
                                                                                                                                        (b_4 = y.5 ∧
                                                                                                                                            base_2 = y.6 ∧
                                                                                                                                              cap'_2 = y.7 ∧
                                                                                                                                                List.take ((0 : Nat) + List.length out)
                                                                                                                                                          (List.take (0 : Nat) [] ++
                                                                                                                                                              List.take (List.length out) zs' ++
                                                                                                                                                            sp) ++
                                                                                                                                                        List.take (List.length out_1) zs'_1 ++
                                                                                                                                                      sp_1 =
                                                                                                                                                    y.8 ∧
                                                                                                                                                  True) ∧
                                                                                                                                          True) ∧
                                                                                                                              ∃ (D : List Row),
                                                                                                                                tpOut (Max.max cut end_) y.1 y.2 y.3 D ∧ tpRow y D) ∧
                                ∀ (x : TpO),
                                  (∃ (D : List Row), tpOut (Max.max cut end_) x.1 x.2 x.3 D ∧ tpRow x D) →
                                    ∃ (x0 : TpO × TpO),
                                      (∃ (S : List Row),
                                          ∃ (L : List (Nat × Go.Sx.Blk)),
                                            ∃ (G : List (Nat × Go.Sx.Blk)),
                                              List.Perm x.3 (L ++ G) ∧
                                                (QRep S (Go.Value.slice x.2.1 x.2.2 x.2.3) L ∧ List.length S < (1000000 : Nat)) ∧
                                                  (∀ (S' : List Row) (s : Sl) (L' : List (Nat × Go.Sx.Blk)),
                                                      DueP (Max.max cut end_) S [] S' →
                                                        QRep S' (Go.Value.slice s.1 s.2 s.3) L' →
                                                          ∃ (y : TpO × TpO),
                                                            ((((0 : Nat) = (0 : Nat) ∧ x.4 = (0 : Nat) ∧ x.7 = y.1.7) ∧
                                                                    Go.Value.slice Option.none (0 : Nat) (0 : Nat) = Go.Value.slice Option.none (0 : Nat) (0 : Nat) ∧
                                                                      ((0 : Nat) = (0 : Nat) ∧ (0 : Nat) = (0 : Nat)) ∧ ((0 : Nat) = (0 : Nat) ∧ (0 : Nat) = (0 : Nat)) ∧ True) ∧
                                                                  (bd = bd ∧ bif Nat.beq t t then base = base ∧ cap = cap ∧ xs = xs ∧ True else False) ∧
                                                                    L' ++ G = y.1.3 ∧
                                                                      (b = b ∧ Go.Value.slice x.1.1 x.1.2 x.1.3 = Go.Value.slice y.1.1.1 y.1.1.2 y.1.1.3 ∧ True) ∧
                                                                        (b_1 = b_1 ∧ Go.Value.slice s.1 s.2 s.3 = Go.Value.slice y.1.2.1 y.1.2.2 y.1.2.3 ∧ True) ∧
                                                                          (x.5 = y.1.5 ∧ x.6 = y.1.6 ∧ x.7 = y.1.7 ∧ x.8 = y.1.8 ∧ True) ∧ True) ∧
                                                                tpEnd y.1.1 y.1.2 y.1.3 (0 : Nat) ∧ y.1.4 = (0 : Nat) ∨
                                                              ((((0 : Nat) = (0 : Nat) ∧ x.4 = y.1.4 ∧ x.7 = y.1.7) ∧
                                                                    False ∧ ((0 : Nat) = (0 : Nat) ∧ (0 : Nat) = (0 : Nat)) ∧ ((0 : Nat) = (0 : Nat) ∧ (0 : Nat) = (0 : Nat)) ∧ True) ∧
                                                                  (bd = bd ∧ bif Nat.beq t t then base = base ∧ cap = cap ∧ xs = xs ∧ True else False) ∧
                                                                    L' ++ G = y.1.3 ∧
                                                                      (b = b ∧ Go.Value.slice x.1.1 x.1.2 x.1.3 = Go.Value.slice y.1.1.1 y.1.1.2 y.1.1.3 ∧ True) ∧
                                                                        (b_1 = b_1 ∧ Go.Value.slice s.1 s.2 s.3 = Go.Value.slice y.1.2.1 y.1.2.2 y.1.2.3 ∧ True) ∧
                                                                          (x.5 = y.1.5 ∧ x.6 = y.1.6 ∧ x.7 = y.1.7 ∧ x.8 = y.1.8 ∧ True) ∧ False ∧ True) ∧
                                                                tpEnd y.1.1 y.1.2 y.1.3 y.1.4 ∧ ∃ (D : List Row), tpRow y.1 D ∧ tpRow y.2 D) ∧
                                                    ∀ (out S' : List Row) (s : Sl) (L' : List (Nat × Go.Sx.Blk)) (b' base' cap' : Nat)
                                                      (zs' : List Int),
                                                      DueP (Max.max cut end_) S out S' →
                                                        QRep S' (Go.Value.slice s.1 s.2 s.3) L' →
                                                          (0 : Nat) < List.length out →
                                                            List.length out ≤ cap' →
                                                              List.length zs' = cap' →
                                                                List.take (List.length out) zs' = List.map (fun (x : Row) => x.2) out →
                                                                  ∃ (y : TpO × TpO),
                                                                    ((((0 : Nat) = (0 : Nat) ∧ x.4 = (0 : Nat) ∧ x.7 = y.1.7) ∧
                                                                            Go.Value.slice (Option.some { block := b', off := base' * (1 : Nat) }) (List.length out) cap' =
                                                                                Go.Value.slice Option.none (0 : Nat) (0 : Nat) ∧
                                                                              ((0 : Nat) = (0 : Nat) ∧ (0 : Nat) = (0 : Nat)) ∧ ((0 : Nat) = (0 : Nat) ∧ (0 : Nat) = (0 : Nat)) ∧ True) ∧
                                                                          (bd = bd ∧ bif Nat.beq t t then base = base ∧ cap = cap ∧ xs = xs ∧ True else False) ∧
                                                                            L' ++ G = y.1.3 ∧
                                                                              (b = b ∧ Go.Value.slice x.1.1 x.1.2 x.1.3 = Go.Value.slice y.1.1.1 y.1.1.2 y.1.1.3 ∧ True) ∧
                                                                                (b_1 = b_1 ∧ Go.Value.slice s.1 s.2 s.3 = Go.Value.slice y.1.2.1 y.1.2.2 y.1.2.3 ∧ True) ∧
                                                                                  (x.5 = y.1.5 ∧ x.6 = y.1.6 ∧ x.7 = y.1.7 ∧ x.8 = y.1.8 ∧ True) ∧ True) ∧
                                                                        tpEnd y.1.1 y.1.2 y.1.3 (0 : Nat) ∧ y.1.4 = (0 : Nat) ∨
                                                                      ((((0 : Nat) = (0 : Nat) ∧ x.4 = y.1.4 ∧ x.7 = y.1.7) ∧
                                                                            ((0 : Nat) = (0 : Nat) ∧ List.length out = y.1.4 ∧ cap' = y.2.7) ∧
                                                                              ((0 : Nat) = (0 : Nat) ∧ (0 : Nat) = (0 : Nat)) ∧ ((0 : Nat) = (0 : Nat) ∧ (0 : Nat) = (0 : Nat)) ∧ True) ∧
                                                                          (bd = bd ∧ bif Nat.beq t t then base = base ∧ cap = cap ∧ xs = xs ∧ True else False) ∧
                                                                            L' ++ G = y.1.3 ∧
                                                                              (b = b ∧ Go.Value.slice x.1.1 x.1.2 x.1.3 = Go.Value.slice y.1.1.1 y.1.1.2 y.1.1.3 ∧ True) ∧
                                                                                (b_1 = b_1 ∧ Go.Value.slice s.1 s.2 s.3 = Go.Value.slice y.1.2.1 y.1.2.2 y.1.2.3 ∧ True) ∧
                                                                                  (x.5 = y.1.5 ∧ x.6 = y.1.6 ∧ x.7 = y.1.7 ∧ x.8 = y.1.8 ∧ True) ∧
                                                                                    (b' = y.2.5 ∧ base' = y.2.6 ∧ cap' = y.2.7 ∧ zs' = y.2.8 ∧ True) ∧ True) ∧
                                                                        tpEnd y.1.1 y.1.2 y.1.3 y.1.4 ∧ ∃ (D : List Row), tpRow y.1 D ∧ tpRow y.2 D) ∧
                                        (∀ (x : TpO × TpO),
                                            tpEnd x.1.1 x.1.2 x.1.3 (0 : Nat) ∧ x.1.4 = (0 : Nat) →
                                              ((↑(0 : Nat) : Int) ≠ (↑(0 : Nat) : Int) → False) ∧
                                                (¬(↑(0 : Nat) : Int) ≠ (↑(0 : Nat) : Int) →
                                                  ∃ (x_1 : List Row),
                                                    ∃ (L : List (Nat × Go.Sx.Blk)),
                                                      ∃ (G : List (Nat × Go.Sx.Blk)),
                                                        List.Perm x.1.3 (L ++ G) ∧
                                                          ((0 : Nat) = (0 : Nat) ∧ QRep x_1 (Go.Value.slice x.1.1.1 x.1.1.2 x.1.1.3) L) ∧
                                                            ∀ (a : Int) (s : Sl) (L' : List (Nat × Go.Sx.Blk)),
                                                              a = (↑(List.length x_1) : Int) ∧ QRep x_1 (Go.Value.slice s.1 s.2 s.3) L' →
                                                                ∃ (x_2 : List Row),
                                                                  ∃ (L : List (Nat × Go.Sx.Blk)),
                                                                    ∃ (G_1 : List (Nat × Go.Sx.Blk)),
                                                                      List.Perm (L' ++ G) (L ++ G_1) ∧
                                                                        ((0 : Nat) = (0 : Nat) ∧ QRep x_2 (Go.Value.slice x.1.2.1 x.1.2.2 x.1.2.3) L) ∧
                                                                          ∀ (a_2 : Int) (s_1 : Sl) (L' : List (Nat × Go.Sx.Blk)),
                                                                            a_2 = (↑(List.length x_2) : Int) ∧ QRep x_2 (Go.Value.slice s_1.1 s_1.2 s_1.3) L' →
                                                                              (a ≠ a_2 → False) ∧
                                                                                (¬a ≠ a_2 →
                                                                                  ∃ (x0 : ImX),
                                                                                    ((((0 : Int) = (↑x0.1 : Int) ∧
                                                                                            ((0 : Nat) = (0 : Nat) ∧ (0 : Nat) = (0 : Nat) ∧ x.1.7 = x.1.7) ∧
                                                                                              Go.Value.slice Option.none (0 : Nat) (0 : Nat) = Go.Value.slice Option.none (0 : Nat) (0 : Nat) ∧
                                                                                                (↑(0 : Nat) : Int) = (↑(0 : Nat) : Int) ∧ True) ∧
                                                                                          (bd = bd ∧ bif Nat.beq t t then base = base ∧ cap = cap ∧ xs = xs ∧ True else False) ∧
                                                                                            L' ++ G_1 = L' ++ G_1 ∧
                                                                                              (b = b ∧ Go.Value.slice s.1 s.2 s.3 = Go.Value.slice s.1 s.2 s.3 ∧ True) ∧
                                                                                                (b_1 = b_1 ∧ Go.Value.slice s_1.1 s_1.2 s_1.3 = Go.Value.slice s_1.1 s_1.2 s_1.3 ∧ True) ∧
                                                                                                  (x.1.5 = x.1.5 ∧ x.1.6 = x.1.6 ∧ x.1.7 = x.1.7 ∧ x.1.8 = x.1.8 ∧ True) ∧ True) ∧
                                                                                        x0.2 = x0.2 ∧ x0.1 ≤ x0.2) ∧
                                                                                      ∀ (x_3 : ImX),
                                                                                        x_3.2 = x0.2 ∧ x_3.1 ≤ x_3.2 →
                                                                                          ((↑x_3.1 : Int) < (↑(0 : Nat) : Int) →
                                                                                              ((0 : Int) ≤ (↑x_3.1 : Int) ∧ (↑x_3.1 : Int) < (↑(0 : Nat) : Int)) ∧ (0 : Nat) + x_3.1 < x.1.7 ∧ False) ∧
                                                                                            (¬(↑x_3.1 : Int) < (↑(0 : Nat) : Int) → True)))) ∧
                                          ∀ (x : TpO × TpO),
                                            (tpEnd x.1.1 x.1.2 x.1.3 x.1.4 ∧ ∃ (D : List Row), tpRow x.1 D ∧ tpRow x.2 D) →
                                              ((↑x.1.4 : Int) ≠ (↑x.1.4 : Int) → False) ∧
                                                (¬(↑x.1.4 : Int) ≠ (↑x.1.4 : Int) →
                                                  ∃ (x_1 : List Row),
                                                    ∃ (L : List (Nat × Go.Sx.Blk)),
                                                      ∃ (G : List (Nat × Go.Sx.Blk)),
                                                        List.Perm x.1.3 (L ++ G) ∧
                                                          ((0 : Nat) = (0 : Nat) ∧ QRep x_1 (Go.Value.slice x.1.1.1 x.1.1.2 x.1.1.3) L) ∧
                                                            ∀ (a : Int) (s : Sl) (L' : List (Nat × Go.Sx.Blk)),
                                                              a = (↑(List.length x_1) : Int) ∧ QRep x_1 (Go.Value.slice s.1 s.2 s.3) L' →
                                                                ∃ (x_2 : List Row),
                                                                  ∃ (L : List (Nat × Go.Sx.Blk)),
                                                                    ∃ (G_1 : List (Nat × Go.Sx.Blk)),
                                                                      List.Perm (L' ++ G) (L ++ G_1) ∧
                                                                        ((0 : Nat) = (0 : Nat) ∧ QRep x_2 (Go.Value.slice x.1.2.1 x.1.2.2 x.1.2.3) L) ∧
                                                                          ∀ (a_2 : Int) (s_1 : Sl) (L' : List (Nat × Go.Sx.Blk)),
                                                                            a_2 = (↑(List.length x_2) : Int) ∧ QRep x_2 (Go.Value.slice s_1.1 s_1.2 s_1.3) L' →
                                                                              (a ≠ a_2 → False) ∧
                                                                                (¬a ≠ a_2 →
                                                                                  ∃ (x0 : ImX),
                                                                                    ((((0 : Int) = (↑x0.1 : Int) ∧
                                                                                            ((0 : Nat) = (0 : Nat) ∧ x.1.4 = x.1.4 ∧ x.1.7 = x.1.7) ∧
                                                                                              ((0 : Nat) = (0 : Nat) ∧ x.1.4 = x.1.4 ∧ x.2.7 = x.2.7) ∧ (↑x.1.4 : Int) = (↑x.1.4 : Int) ∧ True) ∧
                                                                                          (bd = bd ∧ bif Nat.beq t t then base = base ∧ cap = cap ∧ xs = xs ∧ True else False) ∧
                                                                                            L' ++ G_1 = L' ++ G_1 ∧
                                                                                              (b = b ∧ Go.Value.slice s.1 s.2 s.3 = Go.Value.slice s.1 s.2 s.3 ∧ True) ∧
                                                                                                (b_1 = b_1 ∧ Go.Value.slice s_1.1 s_1.2 s_1.3 = Go.Value.slice s_1.1 s_1.2 s_1.3 ∧ True) ∧
                                                                                                  (x.1.5 = x.1.5 ∧ x.1.6 = x.1.6 ∧ x.1.7 = x.1.7 ∧ x.1.8 = x.1.8 ∧ True) ∧
                                                                                                    (x.2.5 = x.2.5 ∧ x.2.6 = x.2.6 ∧ x.2.7 = x.2.7 ∧ x.2.8 = x.2.8 ∧ True) ∧ True) ∧
                                                                                        x0.2 = x0.2 ∧ x0.1 ≤ x0.2) ∧
                                                                                      ∀ (x_3 : ImX),
                                                                                        x_3.2 = x0.2 ∧ x_3.1 ≤ x_3.2 →
                                                                                          ((↑x_3.1 : Int) < (↑x.1.4 : Int) →
                                                                                              ((0 : Int) ≤ (↑x_3.1 : Int) ∧ (↑x_3.1 : Int) < (↑x.1.4 : Int)) ∧
                                                                                                (0 : Nat) + x_3.1 < x.1.7 ∧
                                                                                                  ((0 : Int) ≤ (↑x_3.1 : Int) ∧ (↑x_3.1 : Int) < (↑x.1.4 : Int)) ∧
                                                                                                    (0 : Nat) + x_3.1 < x.2.7 ∧
                                                                                                      (List.getD x.1.8 ((0 : Nat) + x_3.1) (0 : Int) ≠ List.getD x.2.8 ((0 : Nat) + x_3.1) (0 : Int) →
                                                                                                          False) ∧
                                                                                                        (¬List.getD x.1.8 ((0 : Nat) + x_3.1) (0 : Int) ≠
                                                                                                              List.getD x.2.8 ((0 : Nat) + x_3.1) (0 : Int) →
                                                                                                          ∃ (y : ImX),
                                                                                                            y.2 - y.1 < x_3.2 - x_3.1 ∧
                                                                                                              ((Go.IntKind.wrap Go.IntKind.i64 ((↑x_3.1 : Int) + (1 : Int)) = (↑y.1 : Int) ∧
                                                                                                                    ((0 : Nat) = (0 : Nat) ∧ x.1.4 = x.1.4 ∧ x.1.7 = x.1.7) ∧
                                                                                                                      ((0 : Nat) = (0 : Nat) ∧ x.1.4 = x.1.4 ∧ x.2.7 = x.2.7) ∧
                                                                                                                        (↑x.1.4 : Int) = (↑x.1.4 : Int) ∧ True) ∧
                                                                                                                  (bd = bd ∧ bif Nat.beq t t then base = base ∧ cap = cap ∧ xs = xs ∧ True else False) ∧
                                                                                                                    L' ++ G_1 = L' ++ G_1 ∧
                                                                                                                      (b = b ∧ Go.Value.slice s.1 s.2 s.3 = Go.Value.slice s.1 s.2 s.3 ∧ True) ∧
                                                                                                                        (b_1 = b_1 ∧
                                                                                                                            Go.Value.slice s_1.1 s_1.2 s_1.3 = Go.Value.slice s_1.1 s_1.2 s_1.3 ∧
                                                                                                                              True) ∧
                                                                                                                          (x.1.5 = x.1.5 ∧ x.1.6 = x.1.6 ∧ x.1.7 = x.1.7 ∧ x.1.8 = x.1.8 ∧ True) ∧
                                                                                                                            (x.2.5 = x.2.5 ∧ x.2.6 = x.2.6 ∧ x.2.7 = x.2.7 ∧ x.2.8 = x.2.8 ∧ True) ∧
                                                                                                                              True) ∧
                                                                                                                y.2 = x0.2 ∧ y.1 ≤ y.2)) ∧
                                                                                            (¬(↑x_3.1 : Int) < (↑x.1.4 : Int) → True)))) := by
  have hmin : Min.min (↑len : Int) (60 : Int) = (n : Int) := by subst hn; omega
  have hnl : n ≤ len := by subst hn; exact Nat.min_le_left _ _
  have hn60 : n ≤ 60 := by subst hn; exact Nat.min_le_right _ _
  have hlo : min cut end_ ≤ max cut end_ := by omega
  simp only [eq_self, true_and, and_true, false_and, and_false, or_false, false_or, and_self, Nat.zero_add, Nat.add_zero, Nat.sub_zero, Nat.zero_mul, Nat.mul_one, Int.toNat_natCast, cond_true, cond_false, forall_const, implies_true, Nat.beq_refl, ne_eq, not_false_eq_true, not_true_eq_false, Classical.not_not, List.cons.injEq, List.append_nil, List.nil_append, Go.Value.int.injEq, Go.Value.bool.injEq, Go.Value.slice.injEq, Nat.le_refl, Nat.zero_le, reduceCtorEq]
  simp only [hmin]
  refine ⟨(), [], [], by simp, rfl, fun L' => ⟨⟨0, ⟨none, 0, 0⟩, ⟨none, 0, 0⟩, L'⟩, ⟨by simp, Nat.zero_le _, [], [], L', [], [], by simp, QRep.nil, QRep.nil, List.Perm.refl _, by simp [KN], by simp⟩, fun x ⟨h1, L1, L2, G, Sa, Sb, hp, ha, hb, hAB, hK, hl⟩ => ⟨fun hi => ?_, fun hi => ?_⟩⟩⟩
  · have la := hAB.length_eq
    have w2 : IntKind.wrap .i64 ((x.i : Int) + 1) = ((x.i + 1 : Nat) : Int) := by rw [IntKind.wrap_i64]; omega
    simp only [w2]
    refine ⟨by simp, ⟨by omega, by omega⟩, by omega, ⟨Sa, (x.i : Int).tmod 20, xs.getD x.i 0⟩, L1, L2 ++ G, hp, ⟨⟨rfl, rfl⟩, ha, by show Sa.length + 1 < _; omega⟩, fun s L3 ⟨S', hs, hq⟩ => ?_⟩
    refine ⟨by simp, ⟨by omega, by omega⟩, by omega, ⟨Sb, (x.i : Int).tmod 20, xs.getD x.i 0⟩, L2, L3 ++ G, swp3, ⟨⟨rfl, rfl⟩, hb, by show Sb.length + 1 < _; omega⟩, fun s2 L4 ⟨S2, hs2, hq2⟩ => ?_⟩
    obtain ⟨e1, e2, e3⟩ := set_both hs hs2 hAB hK
    exact ⟨⟨x.i + 1, s, s2, L4 ++ (L3 ++ G)⟩, by show n - (x.i + 1) < n - x.i; omega, by simp, by show x.i + 1 ≤ n; omega, L3, L4, G, S', S2, swp3, hq, hq2, e1, e2, Nat.le_trans e3 (Nat.succ_le_succ hl)⟩
  ·
    have la := hAB.length_eq
    refine ⟨⟨x.va, x.vb, [], 0, 0, 0, 0, []⟩, ⟨Sa, L1, L2 ++ G, hp, ⟨ha, by omega⟩, fun S' s L3 hd hq b => ⟨S', L3, L2 ++ G, List.Perm.refl _, ⟨hq, by have := due_len hd; omega⟩, fun S2 s2 L4 hd2 hq2 => ?_, fun out S2 s2 L4 cap' zs' hd2 hq2 k1 k2 k3 k4 => ?_⟩,
      fun out S' s L3 cap' zs' hd hq k1 k2 k3 k4 => ?_⟩, fun y ⟨D, ⟨L1', L2', G', Sb', S1', hp', hq1, hq2, hD, hlen⟩, hR⟩ => ?_⟩
    · have hD := due_two (due_perm hd hAB) hd2 hlo
      exact ⟨⟨s2, x.vb, L4 ++ (L2 ++ G), 0, b, 0, 0, []⟩, by simp, [], ⟨L4, L2, G, Sb, S2, List.Perm.refl _, hq2, hb, hD, by omega⟩, by simp [tpRow]⟩
    · have hD := due_two (due_perm hd hAB) hd2 hlo
      have e1 := due_len hD
      simp only [List.nil_append] at e1 hD
      refine ⟨k2, by omega, fun b base cap2 c1 c2 sp hsp => ?_⟩
      exact ⟨⟨s2, x.vb, L4 ++ (L2 ++ G), out.length, b, base, cap2, List.take 0 [] ++ List.take out.length zs' ++ sp⟩, by simp, out, ⟨L4, L2, G, Sb, S2, List.Perm.refl _, hq2, hb, hD, by omega⟩,
        rfl, c1, by simp [hsp]; omega, by simp [k4]⟩
    · have e0 := due_len hd
      refine ⟨k2, by omega, fun b base cap2 c1 c2 sp hsp => ⟨S', L3, L2 ++ G, List.Perm.refl _, ⟨hq, by omega⟩, fun S2 s2 L4 hd2 hq2 => ⟨c1, ?_⟩, fun out2 S2 s2 L4 cap3 zs2 hd2 hq2 m1 m2 m3 m4 => ?_⟩⟩
      · have hD := due_two (due_perm hd hAB) hd2 hlo
        simp only [List.append_nil] at hD
        exact ⟨⟨s2, x.vb, L4 ++ (L2 ++ G), out.length, b, base, cap2, List.take 0 [] ++ List.take out.length zs' ++ sp⟩, by simp, out, ⟨L4, L2, G, Sb, S2, List.Perm.refl _, hq2, hb, hD, by omega⟩,
          rfl, c1, by simp [hsp]; omega, by simp [k4]⟩
      · have hD := due_two (due_perm hd hAB) hd2 hlo
        have e1 := due_len hD
        rw [List.length_append] at e1
        refine ⟨m2, c1, c1, by omega, fun b3 base3 cap4 g1 g2 sp2 hsp2 => ?_⟩
        refine ⟨⟨s2, x.vb, L4 ++ (L2 ++ G), out.length + out2.length, b3, base3, cap4, List.take out.length (List.take 0 [] ++ List.take out.length zs' ++ sp) ++ List.take out2.length zs2 ++ sp2⟩, by simp, out ++ out2, ⟨L4, L2, G, Sb, S2, List.Perm.refl _, hq2, hb, hD, by omega⟩,
          by simp, g1, by simp [hsp2]; omega, ?_⟩
        show List.take (out.length + out2.length) _ = _
        have u1 : (List.take out.length (List.take 0 [] ++ List.take out.length zs' ++ sp)) = out.map (·.2) := by simp [k4]
        rw [u1, m4, List.take_left' (by simp)]
        simp
    · have hlt := due_len hD
      refine ⟨⟨y, y⟩, ⟨Sb', L2', L1' ++ G', hp'.trans swp3, ⟨hq2, by omega⟩, fun S2 s L3 hd hq => ?_, fun out S2 s L3 b' base' cap' zs' hd hq k1 k2 k3 k4 => ?_⟩, fun z ⟨⟨h60, L1, L2, G, S1, S2, hp, h1, h2, h3⟩, hm⟩ => ?_, fun z ⟨⟨h60, L1, L2, G, S1, S2, hp, h1, h2, h3⟩, D, r1, r2⟩ => ?_⟩
      · obtain ⟨e1, e2⟩ := due_same hD hd
        subst e1
        have hm0 : y.m = 0 := hR.1.symm
        exact ⟨⟨⟨y.va, s, L3 ++ (L1' ++ G'), 0, y.b, y.base, y.cap, y.zs⟩, y⟩, by simp [hm0], ⟨Nat.zero_le _, L1', L3, G', S1', S2, swp3, hq1, hq, e2.symm⟩, rfl⟩
      · obtain ⟨e1, e2⟩ := due_same hD hd
        subst e1
        have hm := hR.1
        exact ⟨⟨⟨y.va, s, L3 ++ (L1' ++ G'), y.m, y.b, y.base, y.cap, y.zs⟩, ⟨y.va, s, [], y.m, b', base', cap', zs'⟩⟩, by simp [hm], ⟨by show y.m ≤ 60; omega, L1', L3, G', S1', S2, swp3, hq1, hq, e2.symm⟩, out, hR, hm, by rw [← hm]; exact k2, k3, by rw [← hm]; exact k4⟩
      · exact ⟨fun h => h, S1, L1, L2 ++ G, hp, h1, fun a s L3 ⟨ea, hq⟩ => ⟨S2, L2, L3 ++ G, swp3, h2, fun a2 s2 L4 ⟨ea2, hq2⟩ => ⟨fun hne => hne (by rw [ea, ea2, h3.length_eq]), fun _ => ⟨⟨0, 0⟩, ⟨by simp, Nat.le_refl 0⟩, fun i hi hlt => absurd hlt (by omega)⟩⟩⟩⟩
      · refine ⟨fun h => h, S1, L1, L2 ++ G, hp, h1, fun a s L3 ⟨ea, hq⟩ => ⟨S2, L2, L3 ++ G, swp3, h2, fun a2 s2 L4 ⟨ea2, hq2⟩ => ⟨fun hne => hne (by rw [ea, ea2, h3.length_eq]), fun _ => ⟨⟨0, z.1.m⟩, ⟨by simp, Nat.zero_le _⟩, fun i ⟨im, ile⟩ hlt => ?_⟩⟩⟩⟩
        obtain ⟨p1, p2, p3, p4⟩ := r1
        obtain ⟨q1, q2, q3, q4⟩ := r2
        have im : i.m = z.1.m := im
        have hl : i.i < z.1.m := by omega
        have hmm : z.2.m = z.1.m := by omega
        have w2 : IntKind.wrap .i64 ((i.i : Int) + 1) = ((i.i + 1 : Nat) : Int) := by rw [IntKind.wrap_i64]; omega
        have ev : z.1.zs.getD i.i 0 = z.2.zs.getD i.i 0 := by rw [take_getD p4 hl, take_getD q4 (by omega)]
        exact ⟨⟨by omega, hlt⟩, by omega, ⟨by omega, hlt⟩, by omega, fun hne => hne ev, fun _ => ⟨⟨i.i + 1, i.m⟩, by show i.m - (i.i + 1) < i.m - i.i; omega, w2, im, by show i.i + 1 ≤ i.m; omega⟩⟩
theorem tpNil_vc (o : Option Addr) (cap : Nat) (cut end_ : Int) :
    ∃ (x : Unit),
  ∃ (L : List (Nat × Go.Sx.Blk)),
    ∃ (G : List (Nat × Go.Sx.Blk)),
      List.Perm [] (L ++ G) ∧
        ((0 : Nat) = (0 : Nat) ∧ L = []) ∧
          ∀ (a : Unit) (L' : List (Nat × Go.Sx.Blk)),
            a = () →
              ∀ (b b_1 : Nat),
                ∃ (x0 : TpX),
                  ((((0 : Int) = (↑x0.1 : Int) ∧
                          Go.Value.slice o (0 : Nat) cap = Go.Value.slice o (0 : Nat) cap ∧
                            cut = cut ∧
                              end_ = end_ ∧
                                ((0 : Nat) = (0 : Nat) ∧ (0 : Nat) = (0 : Nat)) ∧
                                  ((0 : Nat) = (0 : Nat) ∧ (0 : Nat) = (0 : Nat)) ∧ Min.min (↑(0 : Nat) : Int) (60 : Int) = Min.min (↑(0 : Nat) : Int) (60 : Int) ∧ True) ∧
                        ((0 : Nat), (0 : Nat), (0 : Nat)) = ((0 : Nat), (0 : Nat), (0 : Nat)) ∧
                          L' ++ G = x0.4 ∧
                            (b = b ∧ Go.Value.slice Option.none (0 : Nat) (0 : Nat) = Go.Value.slice x0.2.1 x0.2.2 x0.2.3 ∧ True) ∧
                              (b_1 = b_1 ∧ Go.Value.slice Option.none (0 : Nat) (0 : Nat) = Go.Value.slice x0.3.1 x0.3.2 x0.3.3 ∧ True) ∧ True) ∧
                      tpInv (0 : Nat) x0) ∧
                    ∀ (x : TpX),
                      tpInv (0 : Nat) x →
                        ((↑x.1 : Int) < Min.min (↑(0 : Nat) : Int) (60 : Int) → (20 : Int) ≠ (0 : Int) ∧ False) ∧
                          (¬(↑x.1 : Int) < Min.min (↑(0 : Nat) : Int) (60 : Int) →
                            ∃ (x0 : TpO),
                              (∃ (S : List Row),
                                  ∃ (L : List (Nat × Go.Sx.Blk)),
                                    ∃ (G : List (Nat × Go.Sx.Blk)),
                                      List.Perm x.4 (L ++ G) ∧
                                        (QRep S (Go.Value.slice x.2.1 x.2.2 x.2.3) L ∧ List.length S < (1000000 : Nat)) ∧
                                          (∀ (S' : List Row) (s : Sl) (L' : List (Nat × Go.Sx.Blk)),
                                              DueP (Min.min cut end_) S [] S' →
                                                QRep S' (Go.Value.slice s.1 s.2 s.3) L' →
                                                  ∀ (b_2 : Nat),
                                                    (0 : Nat) ≤ (0 : Nat) ∧
                                                      ∃ (S : List Row),
                                                        ∃ (L : List (Nat × Go.Sx.Blk)),
                                                          ∃ (G_1 : List (Nat × Go.Sx.Blk)),
                                                            List.Perm (L' ++ G) (L ++ G_1) ∧
                                                              (QRep S (Go.Value.slice s.1 s.2 s.3) L ∧ List.length S < (1000000 : Nat)) ∧
                                                                (∀ (S' : List Row) (s : Sl) (L' : List (Nat × Go.Sx.Blk)),
                                                                    DueP (Max.max cut end_) S [] S' →
                                                                      QRep S' (Go.Value.slice s.1 s.2 s.3) L' →
                                                                        (0 : Nat) ≤ (0 : Nat) ∧
                                                                          ∃ (y : TpO),
                                                                            ((((0 : Nat) = (0 : Nat) ∧ (0 : Nat) = y.4 ∧ (0 : Nat) = y.7) ∧
                                                                                  cut = cut ∧
                                                                                    end_ = end_ ∧
                                                                                      ((0 : Nat) = (0 : Nat) ∧ (0 : Nat) = (0 : Nat)) ∧ ((0 : Nat) = (0 : Nat) ∧ (0 : Nat) = (0 : Nat)) ∧ True) ∧
                                                                                ((0 : Nat), (0 : Nat), (0 : Nat)) = ((0 : Nat), (0 : Nat), (0 : Nat)) ∧
                                                                                  L' ++ G_1 = y.3 ∧
                                                                                    (b = b ∧ Go.Value.slice s.1 s.2 s.3 = Go.Value.slice y.1.1 y.1.2 y.1.3 ∧ True) ∧
                                                                                      (b_1 = b_1 ∧ Go.Value.slice x.3.1 x.3.2 x.3.3 = Go.Value.slice y.2.1 y.2.2 y.2.3 ∧ True) ∧
                                                                                        (b_2 = y.5 ∧ (0 : Nat) = y.6 ∧ (0 : Nat) = y.7 ∧ [] = y.8 ∧ True) ∧ True) ∧
                                                                              ∃ (D : List Row), tpOut (Max.max cut end_) y.1 y.2 y.3 D ∧ tpRow y D) ∧
                                                                  ∀ (out S' : List Row) (s : Sl) (L' : List (Nat × Go.Sx.Blk))
                                                                    (b' base' cap' : Nat) (zs' : List Int),
                                                                    DueP (Max.max cut end_) S out S' →
                                                                      QRep S' (Go.Value.slice s.1 s.2 s.3) L' →
                                                                        (0 : Nat) < List.length out →
                                                                          List.length out ≤ cap' →
                                                                            List.length zs' = cap' →
                                                                              List.take (List.length out) zs' = List.map (fun (x : Row) => x.2) out →
                                                                                (0 : Nat) + List.length out ≤ cap' ∧
                                                                                  ((0 : Nat) ≤ (0 : Nat) ∧ (0 : Nat) ≤ (0 : Nat)) ∧
                                                                                    (0 : Nat) ≤ (0 : Nat) ∧
                                                                                      ((0 : Nat) + List.length out) * (8 : Nat) ≤ (140737488355328 : Nat) ∧
                                                                                        ∀ (b_3 base cap' : Nat),
                                                                                          (0 : Nat) + List.length out ≤ cap' →
                                                                                            ((0 : Nat) + List.length out ≤ (0 : Nat) → cap' = (0 : Nat)) →
                                                                                              ∀ (sp : List Int),
                                                                                                List.length sp = cap' - ((0 : Nat) + List.length out) →
                                                                                                  ∃ (y : TpO),
                                                                                                    ((((0 : Nat) = (0 : Nat) ∧ (0 : Nat) + List.length out = y.4 ∧ cap' = y.7) ∧
                                                                                                          cut = cut ∧
                                                                                                            end_ = end_ ∧
                                                                                                              ((0 : Nat) = (0 : Nat) ∧ (0 : Nat) = (0 : Nat)) ∧
                                                                                                                ((0 : Nat) = (0 : Nat) ∧ (0 : Nat) = (0 : Nat)) ∧ True) ∧
                                                                                                        ((0 : Nat), (0 : Nat), (0 : Nat)) = ((0 : Nat), (0 : Nat), (0 : Nat)) ∧
                                                                                                          L' ++ G_1 = y.3 ∧
                                                                                                            (b = b ∧ Go.Value.slice s.1 s.2 s.3 = Go.Value.slice y.1.1 y.1.2 y.1.3 ∧ True) ∧
                                                                                                              (b_1 = b_1 ∧ Go.Value.slice x.3.1 x.3.2 x.3.3 = Go.Value.slice y.2.1 y.2.2 y.2.3 ∧ True) ∧
                                                                                                                (b_3 = y.5 ∧
                                                                                                                    base = y.6 ∧
                                                                                                                      cap' = y.7 ∧
                                                                                                                        List.take (0 : Nat) [] ++ List.take (List.length out) zs' ++ sp = y.8 ∧ True) ∧
                                                                                                                  True) ∧
                                                                                                      ∃ (D : List Row), tpOut (Max.max cut end_) y.1 y.2 y.3 D ∧ tpRow y D) ∧
                                            ∀ (out S' : List Row) (s : Sl) (L' : List (Nat × Go.Sx.Blk)) (b' base' cap' : Nat) (zs' : List Int),
                                              DueP (Min.min cut end_) S out S' →
                                                QRep S' (Go.Value.slice s.1 s.2 s.3) L' →
                                                  (0 : Nat) < List.length out →
                                                    List.length out ≤ cap' →
                                                      List.length zs' = cap' →
                                                        List.take (List.length out) zs' = List.map (fun (x : Row) => x.2) out →
                                                          ∀ (b_2 : Nat),
                                                            (0 : Nat) + List.length out ≤ cap' ∧
                                                              ((0 : Nat) ≤ (0 : Nat) ∧ (0 : Nat) ≤ (0 : Nat)) ∧
                                                                (0 : Nat) ≤ (0 : Nat) ∧
                                                                  ((0 : Nat) + List.length out) * (8 : Nat) ≤ (140737488355328 : Nat) ∧
                                                                    ∀ (b_3 base cap' : Nat),
                                                                      (0 : Nat) + List.length out ≤ cap' →
                                                                        ((0 : Nat) + List.length out ≤ (0 : Nat) → cap' = (0 : Nat)) →
                                                                          ∀ (sp : List Int),
                                                                            List.length sp = cap' - ((0 : Nat) + List.length out) →
                                                                              ∃ (S : List Row),
                                                                                ∃ (L : List (Nat × Go.Sx.Blk)),
                                                                                  ∃ (G_1 : List (Nat × Go.Sx.Blk)),
                                                                                    List.Perm (L' ++ G) (L ++ G_1) ∧
                                                                                      (QRep S (Go.Value.slice s.1 s.2 s.3) L ∧ List.length S < (1000000 : Nat)) ∧
                                                                                        (∀ (S' : List Row) (s : Sl) (L' : List (Nat × Go.Sx.Blk)),
                                                                                            DueP (Max.max cut end_) S [] S' →
                                                                                              QRep S' (Go.Value.slice s.1 s.2 s.3) L' →
                                                                                                (0 : Nat) + List.length out ≤ cap' ∧
                                                                                                  ∃ (y : TpO),
                                                                                                    ((((0 : Nat) = (0 : Nat) ∧ (0 : Nat) + List.length out = y.4 ∧ cap' = y.7) ∧
                                                                                                          cut = cut ∧
                                                                                                            end_ = end_ ∧
                                                                                                              ((0 : Nat) = (0 : Nat) ∧ (0 : Nat) = (0 : Nat)) ∧
                                                                                                                ((0 : Nat) = (0 : Nat) ∧ (0 : Nat) = (0 : Nat)) ∧ True) ∧
                                                                                                        ((0 : Nat), (0 : Nat), (0 : Nat)) = ((0 : Nat), (0 : Nat), (0 : Nat)) ∧
                                                                                                          L' ++ G_1 = y.3 ∧
                                                                                                            (b = b ∧ Go.Value.slice s.1 s.2 s.3 = Go.Value.slice y.1.1 y.1.2 y.1.3 ∧ True) ∧
                                                                                                              (b_1 = b_1 ∧ Go.Value.slice x.3.1 x.3.2 x.3.3 = Go.Value.slice y.2.1 y.2.2 y.2.3 ∧ True) ∧
                                                                                                                (b_3 = y.5 ∧
                                                                                                                    base = y.6 ∧
                                                                                                                      cap' = y.7 ∧
                                                                                                                        List.take (0 : Nat) [] ++ List.take (List.length out) zs' ++ sp = y.8 ∧ True) ∧
                                                                                                                  True) ∧
                                                                                                      ∃ (D : List Row), tpOut (Max.max cut end_) y.1 y.2 y.3 D ∧ tpRow y D) ∧
                                                                                          ∀ (out_1 S' : List Row) (s : Sl)
                                                                                            (L' : List (Nat × Go.Sx.Blk)) (b' base' cap'_1 : Nat) (zs'_1 : List Int),
                                                                                            DueP (Max.max cut end_) S out_1 S' →
                                                                                              QRep S' (Go.Value.slice s.1 s.2 s.3) L' →
                                                                                                (0 : Nat) < List.length out_1 →
                                                                                                  List.length out_1 ≤ cap'_1 →
                                                                                                    List.length zs'_1 = cap'_1 →
                                                                                                      List.take (List.length out_1) zs'_1 =
                                                                                                          List.map (fun (x : Row) => x.2) out_1 →
                                                                                                        (0 : Nat) + List.length out_1 ≤ cap'_1 ∧
                                                                                                          ((0 : Nat) + List.length out ≤ cap' ∧ (0 : Nat) + cap' ≤ cap') ∧
                                                                                                            (0 : Nat) + ((0 : Nat) + List.length out) ≤ cap' ∧
                                                                                                              ((0 : Nat) + List.length out + List.length out_1) * (8 : Nat) ≤ (140737488355328 : Nat) ∧
                                                                                                                ∀ (b_4 base cap'_2 : Nat),
                                                                                                                  (0 : Nat) + List.length out + List.length out_1 ≤ cap'_2 →
                                                                                                                    ((0 : Nat) + List.length out + List.length out_1 ≤ cap' → cap'_2 = cap') →
                                                                                                                      ∀ (sp_1 : List Int),
                                                                                                                        List.length sp_1 = cap'_2 - ((0 : Nat) + List.length out + List.length out_1) →
                                                                                                                          ∃ (y : TpO),
                                                                                                                            ((((0 : Nat) = (0 : Nat) ∧
                                                                                                                                    (0 : Nat) + List.length out + List.length out_1 = y.4 ∧
                                                                                                                                      cap'_2 = y.7) ∧
                                                                                                                                  cut = cut ∧
                                                                                                                                    end_ = end_ ∧
                                                                                                                                      ((0 : Nat) = (0 : Nat) ∧ (0 : Nat) = (0 : Nat)) ∧
                                                                                                                                        ((0 : Nat) = (0 : Nat) ∧ (0 : Nat) = (0 : Nat)) ∧ True) ∧
                                                                                                                                ((0 : Nat), (0 : Nat), (0 : Nat)) = ((0 : Nat), (0 : Nat), (0 : Nat)) ∧
                                                                                                                                  L' ++ G_1 = y.3 ∧
                                                                                                                                    (b = b ∧
                                                                                                                                        Go.Value.slice s.1 s.2 s.3 = Go.Value.slice y.1.1 y.1.2 y.1.3 ∧
                                                                                                                                          True) ∧
                                                                                                                                      (b_1 = b_1 ∧
                                                                                                                                          Go.Value.slice x.3.1 x.3.2 x.3.3 =
                                                                                                                                              Go.Value.slice y.2.1 y.2.2 y.2.3 ∧
                                                                                                                                            True) ∧
                                                                                                                                        (b_4 = y.5 ∧
                                                                                                                                            base = y.6 ∧
                                                                                                                                              cap'_2 = y.7 ∧
                                                                                                                                                List.take ((0 : Nat) + List.length out)
                                                                                                                                                          (List.take (0 : Nat) [] ++
                                                                                                                                                              List.take (List.length out) zs' ++
                                                                                                                                                            sp) ++
                                                                                                                                                        List.take (List.length out_1) zs'_1 ++
                                                                                                                                                      sp_1 =
                                                                                                                                                    y.8 ∧
                                                                                                                                                  True) ∧
                                                                                                                                          True) ∧
                                                                                                                              ∃ (D : List Row),
                                                                                                                                tpOut (Max.max cut end_) y.1 y.2 y.3 D ∧ tpRow y D) ∧
                                ∀ (x : TpO),
                                  (∃ (D : List Row), tpOut (Max.max cut end_) x.1 x.2 x.3 D ∧ tpRow x D) →
                                    ∃ (x0 : TpO × TpO),
                                      (∃ (S : List Row),
                                          ∃ (L : List (Nat × Go.Sx.Blk)),
                                            ∃ (G : List (Nat × Go.Sx.Blk)),
                                              List.Perm x.3 (L ++ G) ∧
                                                (QRep S (Go.Value.slice x.2.1 x.2.2 x.2.3) L ∧ List.length S < (1000000 : Nat)) ∧
                                                  (∀ (S' : List Row) (s : Sl) (L' : List (Nat × Go.Sx.Blk)),
                                                      DueP (Max.max cut end_) S [] S' →
                                                        QRep S' (Go.Value.slice s.1 s.2 s.3) L' →
                                                          ∃ (y : TpO × TpO),
                                                            ((((0 : Nat) = (0 : Nat) ∧ x.4 = (0 : Nat) ∧ x.7 = y.1.7) ∧
                                                                    Go.Value.slice Option.none (0 : Nat) (0 : Nat) = Go.Value.slice Option.none (0 : Nat) (0 : Nat) ∧
                                                                      ((0 : Nat) = (0 : Nat) ∧ (0 : Nat) = (0 : Nat)) ∧ ((0 : Nat) = (0 : Nat) ∧ (0 : Nat) = (0 : Nat)) ∧ True) ∧
                                                                  ((0 : Nat), (0 : Nat), (0 : Nat)) = ((0 : Nat), (0 : Nat), (0 : Nat)) ∧
                                                                    L' ++ G = y.1.3 ∧
                                                                      (b = b ∧ Go.Value.slice x.1.1 x.1.2 x.1.3 = Go.Value.slice y.1.1.1 y.1.1.2 y.1.1.3 ∧ True) ∧
                                                                        (b_1 = b_1 ∧ Go.Value.slice s.1 s.2 s.3 = Go.Value.slice y.1.2.1 y.1.2.2 y.1.2.3 ∧ True) ∧
                                                                          (x.5 = y.1.5 ∧ x.6 = y.1.6 ∧ x.7 = y.1.7 ∧ x.8 = y.1.8 ∧ True) ∧ True) ∧
                                                                tpEnd y.1.1 y.1.2 y.1.3 (0 : Nat) ∧ y.1.4 = (0 : Nat) ∨
                                                              ((((0 : Nat) = (0 : Nat) ∧ x.4 = y.1.4 ∧ x.7 = y.1.7) ∧
                                                                    False ∧ ((0 : Nat) = (0 : Nat) ∧ (0 : Nat) = (0 : Nat)) ∧ ((0 : Nat) = (0 : Nat) ∧ (0 : Nat) = (0 : Nat)) ∧ True) ∧
                                                                  ((0 : Nat), (0 : Nat), (0 : Nat)) = ((0 : Nat), (0 : Nat), (0 : Nat)) ∧
                                                                    L' ++ G = y.1.3 ∧
                                                                      (b = b ∧ Go.Value.slice x.1.1 x.1.2 x.1.3 = Go.Value.slice y.1.1.1 y.1.1.2 y.1.1.3 ∧ True) ∧
                                                                        (b_1 = b_1 ∧ Go.Value.slice s.1 s.2 s.3 = Go.Value.slice y.1.2.1 y.1.2.2 y.1.2.3 ∧ True) ∧
                                                                          (x.5 = y.1.5 ∧ x.6 = y.1.6 ∧ x.7 = y.1.7 ∧ x.8 = y.1.8 ∧ True) ∧ False ∧ True) ∧
                                                                tpEnd y.1.1 y.1.2 y.1.3 y.1.4 ∧ ∃ (D : List Row), tpRow y.1 D ∧ tpRow y.2 D) ∧
                                                    ∀ (out S' : List Row) (s : Sl) (L' : List (Nat × Go.Sx.Blk)) (b' base' cap' : Nat)
                                                      (zs' : List Int),
                                                      DueP (Max.max cut end_) S out S' →
                                                        QRep S' (Go.Value.slice s.1 s.2 s.3) L' →
                                                          (0 : Nat) < List.length out →
                                                            List.length out ≤ cap' →
                                                              List.length zs' = cap' →
                                                                List.take (List.length out) zs' = List.map (fun (x : Row) => x.2) out →
                                                                  ∃ (y : TpO × TpO),
                                                                    ((((0 : Nat) = (0 : Nat) ∧ x.4 = (0 : Nat) ∧ x.7 = y.1.7) ∧
                                                                            Go.Value.slice (Option.some { block := b', off := base' * (1 : Nat) }) (List.length out) cap' =
                                                                                Go.Value.slice Option.none (0 : Nat) (0 : Nat) ∧
                                                                              ((0 : Nat) = (0 : Nat) ∧ (0 : Nat) = (0 : Nat)) ∧ ((0 : Nat) = (0 : Nat) ∧ (0 : Nat) = (0 : Nat)) ∧ True) ∧
                                                                          ((0 : Nat), (0 : Nat), (0 : Nat)) = ((0 : Nat), (0 : Nat), (0 : Nat)) ∧
                                                                            L' ++ G = y.1.3 ∧
                                                                              (b = b ∧ Go.Value.slice x.1.1 x.1.2 x.1.3 = Go.Value.slice y.1.1.1 y.1.1.2 y.1.1.3 ∧ True) ∧
                                                                                (b_1 = b_1 ∧ Go.Value.slice s.1 s.2 s.3 = Go.Value.slice y.1.2.1 y.1.2.2 y.1.2.3 ∧ True) ∧
                                                                                  (x.5 = y.1.5 ∧ x.6 = y.1.6 ∧ x.7 = y.1.7 ∧ x.8 = y.1.8 ∧ True) ∧ True) ∧
                                                                        tpEnd y.1.1 y.1.2 y.1.3 (0 : Nat) ∧ y.1.4 = (0 : Nat) ∨
                                                                      ((((0 : Nat) = (0 : Nat) ∧ x.4 = y.1.4 ∧ x.7 = y.1.7) ∧
                                                                            ((0 : Nat) = (0 : Nat) ∧ List.length out = y.1.4 ∧ cap' = y.2.7) ∧
                                                                              ((0 : Nat) = (0 : Nat) ∧ (0 : Nat) = (0 : Nat)) ∧ ((0 : Nat) = (0 : Nat) ∧ (0 : Nat) = (0 : Nat)) ∧ True) ∧
                                                                          ((0 : Nat), (0 : Nat), (0 : Nat)) = ((0 : Nat), (0 : Nat), (0 : Nat)) ∧
                                                                            L' ++ G = y.1.3 ∧
                                                                              (b = b ∧ Go.Value.slice x.1.1 x.1.2 x.1.3 = Go.Value.slice y.1.1.1 y.1.1.2 y.1.1.3 ∧ True) ∧
                                                                                (b_1 = b_1 ∧ Go.Value.slice s.1 s.2 s.3 = Go.Value.slice y.1.2.1 y.1.2.2 y.1.2.3 ∧ True) ∧
                                                                                  (x.5 = y.1.5 ∧ x.6 = y.1.6 ∧ x.7 = y.1.7 ∧ x.8 = y.1.8 ∧ True) ∧
                                                                                    (b' = y.2.5 ∧ base' = y.2.6 ∧ cap' = y.2.7 ∧ zs' = y.2.8 ∧ True) ∧ True) ∧
                                                                        tpEnd y.1.1 y.1.2 y.1.3 y.1.4 ∧ ∃ (D : List Row), tpRow y.1 D ∧ tpRow y.2 D) ∧
                                        (∀ (x : TpO × TpO),
                                            tpEnd x.1.1 x.1.2 x.1.3 (0 : Nat) ∧ x.1.4 = (0 : Nat) →
                                              ((↑(0 : Nat) : Int) ≠ (↑(0 : Nat) : Int) → False) ∧
                                                (¬(↑(0 : Nat) : Int) ≠ (↑(0 : Nat) : Int) →
                                                  ∃ (x_1 : List Row),
                                                    ∃ (L : List (Nat × Go.Sx.Blk)),
                                                      ∃ (G : List (Nat × Go.Sx.Blk)),
                                                        List.Perm x.1.3 (L ++ G) ∧
                                                          ((0 : Nat) = (0 : Nat) ∧ QRep x_1 (Go.Value.slice x.1.1.1 x.1.1.2 x.1.1.3) L) ∧
                                                            ∀ (a : Int) (s : Sl) (L' : List (Nat × Go.Sx.Blk)),
                                                              a = (↑(List.length x_1) : Int) ∧ QRep x_1 (Go.Value.slice s.1 s.2 s.3) L' →
                                                                ∃ (x_2 : List Row),
                                                                  ∃ (L : List (Nat × Go.Sx.Blk)),
                                                                    ∃ (G_1 : List (Nat × Go.Sx.Blk)),
                                                                      List.Perm (L' ++ G) (L ++ G_1) ∧
                                                                        ((0 : Nat) = (0 : Nat) ∧ QRep x_2 (Go.Value.slice x.1.2.1 x.1.2.2 x.1.2.3) L) ∧
                                                                          ∀ (a_2 : Int) (s_1 : Sl) (L' : List (Nat × Go.Sx.Blk)),
                                                                            a_2 = (↑(List.length x_2) : Int) ∧ QRep x_2 (Go.Value.slice s_1.1 s_1.2 s_1.3) L' →
                                                                              (a ≠ a_2 → False) ∧
                                                                                (¬a ≠ a_2 →
                                                                                  ∃ (x0 : ImX),
                                                                                    ((((0 : Int) = (↑x0.1 : Int) ∧
                                                                                            ((0 : Nat) = (0 : Nat) ∧ (0 : Nat) = (0 : Nat) ∧ x.1.7 = x.1.7) ∧
                                                                                              Go.Value.slice Option.none (0 : Nat) (0 : Nat) = Go.Value.slice Option.none (0 : Nat) (0 : Nat) ∧
                                                                                                (↑(0 : Nat) : Int) = (↑(0 : Nat) : Int) ∧ True) ∧
                                                                                          ((0 : Nat), (0 : Nat), (0 : Nat)) = ((0 : Nat), (0 : Nat), (0 : Nat)) ∧
                                                                                            L' ++ G_1 = L' ++ G_1 ∧
                                                                                              (b = b ∧ Go.Value.slice s.1 s.2 s.3 = Go.Value.slice s.1 s.2 s.3 ∧ True) ∧
                                                                                                (b_1 = b_1 ∧ Go.Value.slice s_1.1 s_1.2 s_1.3 = Go.Value.slice s_1.1 s_1.2 s_1.3 ∧ True) ∧
                                                                                                  (x.1.5 = x.1.5 ∧ x.1.6 = x.1.6 ∧ x.1.7 = x.1.7 ∧ x.1.8 = x.1.8 ∧ True) ∧ True) ∧
                                                                                        x0.2 = x0.2 ∧ x0.1 ≤ x0.2) ∧
                                                                                      ∀ (x_3 : ImX),
                                                                                        x_3.2 = x0.2 ∧ x_3.1 ≤ x_3.2 →
                                                                                          ((↑x_3.1 : Int) < (↑(0 : Nat) : Int) →
                                                                                              ((0 : Int) ≤ (↑x_3.1 : Int) ∧ (↑x_3.1 : Int) < (↑(0 : Nat) : Int)) ∧ (0 : Nat) + x_3.1 < x.1.7 ∧ False) ∧
                                                                                            (¬(↑x_3.1 : Int) < (↑(0 : Nat) : Int) → True)))) ∧
                                          ∀ (x : TpO × TpO),
                                            (tpEnd x.1.1 x.1.2 x.1.3 x.1.4 ∧ ∃ (D : List Row), tpRow x.1 D ∧ tpRow x.2 D) →
                                              ((↑x.1.4 : Int) ≠ (↑x.1.4 : Int) → False) ∧
                                                (¬(↑x.1.4 : Int) ≠ (↑x.1.4 : Int) →
                                                  ∃ (x_1 : List Row),
                                                    ∃ (L : List (Nat × Go.Sx.Blk)),
                                                      ∃ (G : List (Nat × Go.Sx.Blk)),
                                                        List.Perm x.1.3 (L ++ G) ∧
                                                          ((0 : Nat) = (0 : Nat) ∧ QRep x_1 (Go.Value.slice x.1.1.1 x.1.1.2 x.1.1.3) L) ∧
                                                            ∀ (a : Int) (s : Sl) (L' : List (Nat × Go.Sx.Blk)),
                                                              a = (↑(List.length x_1) : Int) ∧ QRep x_1 (Go.Value.slice s.1 s.2 s.3) L' →
                                                                ∃ (x_2 : List Row),
                                                                  ∃ (L : List (Nat × Go.Sx.Blk)),
                                                                    ∃ (G_1 : List (Nat × Go.Sx.Blk)),
                                                                      List.Perm (L' ++ G) (L ++ G_1) ∧
                                                                        ((0 : Nat) = (0 : Nat) ∧ QRep x_2 (Go.Value.slice x.1.2.1 x.1.2.2 x.1.2.3) L) ∧
                                                                          ∀ (a_2 : Int) (s_1 : Sl) (L' : List (Nat × Go.Sx.Blk)),
                                                                            a_2 = (↑(List.length x_2) : Int) ∧ QRep x_2 (Go.Value.slice s_1.1 s_1.2 s_1.3) L' →
                                                                              (a ≠ a_2 → False) ∧
                                                                                (¬a ≠ a_2 →
                                                                                  ∃ (x0 : ImX),
                                                                                    ((((0 : Int) = (↑x0.1 : Int) ∧
                                                                                            ((0 : Nat) = (0 : Nat) ∧ x.1.4 = x.1.4 ∧ x.1.7 = x.1.7) ∧
                                                                                              ((0 : Nat) = (0 : Nat) ∧ x.1.4 = x.1.4 ∧ x.2.7 = x.2.7) ∧ (↑x.1.4 : Int) = (↑x.1.4 : Int) ∧ True) ∧
                                                                                          ((0 : Nat), (0 : Nat), (0 : Nat)) = ((0 : Nat), (0 : Nat), (0 : Nat)) ∧
                                                                                            L' ++ G_1 = L' ++ G_1 ∧
                                                                                              (b = b ∧ Go.Value.slice s.1 s.2 s.3 = Go.Value.slice s.1 s.2 s.3 ∧ True) ∧
                                                                                                (b_1 = b_1 ∧ Go.Value.slice s_1.1 s_1.2 s_1.3 = Go.Value.slice s_1.1 s_1.2 s_1.3 ∧ True) ∧
                                                                                                  (x.1.5 = x.1.5 ∧ x.1.6 = x.1.6 ∧ x.1.7 = x.1.7 ∧ x.1.8 = x.1.8 ∧ True) ∧
                                                                                                    (x.2.5 = x.2.5 ∧ x.2.6 = x.2.6 ∧ x.2.7 = x.2.7 ∧ x.2.8 = x.2.8 ∧ True) ∧ True) ∧
                                                                                        x0.2 = x0.2 ∧ x0.1 ≤ x0.2) ∧
                                                                                      ∀ (x_3 : ImX),
                                                                                        x_3.2 = x0.2 ∧ x_3.1 ≤ x_3.2 →
                                                                                          ((↑x_3.1 : Int) < (↑x.1.4 : Int) →
                                                                                              ((0 : Int) ≤ (↑x_3.1 : Int) ∧ (↑x_3.1 : Int) < (↑x.1.4 : Int)) ∧
                                                                                                (0 : Nat) + x_3.1 < x.1.7 ∧
                                                                                                  ((0 : Int) ≤ (↑x_3.1 : Int) ∧ (↑x_3.1 : Int) < (↑x.1.4 : Int)) ∧
                                                                                                    (0 : Nat) + x_3.1 < x.2.7 ∧
                                                                                                      (List.getD x.1.8 ((0 : Nat) + x_3.1) (0 : Int) ≠ List.getD x.2.8 ((0 : Nat) + x_3.1) (0 : Int) →
                                                                                                          False) ∧
                                                                                                        (¬List.getD x.1.8 ((0 : Nat) + x_3.1) (0 : Int) ≠
                                                                                                              List.getD x.2.8 ((0 : Nat) + x_3.1) (0 : Int) →
                                                                                                          ∃ (y : ImX),
                                                                                                            y.2 - y.1 < x_3.2 - x_3.1 ∧
                                                                                                              ((Go.IntKind.wrap Go.IntKind.i64 ((↑x_3.1 : Int) + (1 : Int)) = (↑y.1 : Int) ∧
                                                                                                                    ((0 : Nat) = (0 : Nat) ∧ x.1.4 = x.1.4 ∧ x.1.7 = x.1.7) ∧
                                                                                                                      ((0 : Nat) = (0 : Nat) ∧ x.1.4 = x.1.4 ∧ x.2.7 = x.2.7) ∧
                                                                                                                        (↑x.1.4 : Int) = (↑x.1.4 : Int) ∧ True) ∧
                                                                                                                  ((0 : Nat), (0 : Nat), (0 : Nat)) = ((0 : Nat), (0 : Nat), (0 : Nat)) ∧
                                                                                                                    L' ++ G_1 = L' ++ G_1 ∧
                                                                                                                      (b = b ∧ Go.Value.slice s.1 s.2 s.3 = Go.Value.slice s.1 s.2 s.3 ∧ True) ∧
                                                                                                                        (b_1 = b_1 ∧
                                                                                                                            Go.Value.slice s_1.1 s_1.2 s_1.3 = Go.Value.slice s_1.1 s_1.2 s_1.3 ∧
                                                                                                                              True) ∧
                                                                                                                          (x.1.5 = x.1.5 ∧ x.1.6 = x.1.6 ∧ x.1.7 = x.1.7 ∧ x.1.8 = x.1.8 ∧ True) ∧
                                                                                                                            (x.2.5 = x.2.5 ∧ x.2.6 = x.2.6 ∧ x.2.7 = x.2.7 ∧ x.2.8 = x.2.8 ∧ True) ∧
                                                                                                                              True) ∧
                                                                                                                y.2 = x0.2 ∧ y.1 ≤ y.2)) ∧
                                                                                            (¬(↑x_3.1 : Int) < (↑x.1.4 : Int) → True)))) := by
  have hlo : min cut end_ ≤ max cut end_ := by omega
  simp only [eq_self, true_and, and_true, false_and, and_false, or_false, false_or, and_self, Nat.zero_add, Nat.add_zero, Nat.sub_zero, Nat.zero_mul, Nat.mul_one, Int.toNat_natCast, cond_true, cond_false, forall_const, implies_true, Nat.beq_refl, ne_eq, not_false_eq_true, not_true_eq_false, Classical.not_not, List.cons.injEq, List.append_nil, List.nil_append, Go.Value.int.injEq, Go.Value.bool.injEq, Go.Value.slice.injEq, Nat.le_refl, Nat.zero_le, reduceCtorEq]
  refine ⟨(), [], [], by simp, rfl, fun L' => ⟨⟨0, ⟨none, 0, 0⟩, ⟨none, 0, 0⟩, L'⟩, ⟨by simp, Nat.zero_le _, [], [], L', [], [], by simp, QRep.nil, QRep.nil, List.Perm.refl _, by simp [KN], by simp⟩, fun x ⟨h1, L1, L2, G, Sa, Sb, hp, ha, hb, hAB, hK, hl⟩ => ⟨fun hi => by omega, fun hi => ?_⟩⟩⟩
  have la := hAB.length_eq
  refine ⟨⟨x.va, x.vb, [], 0, 0, 0, 0, []⟩, ⟨Sa, L1, L2 ++ G, hp, ⟨ha, by omega⟩, fun S' s L3 hd hq b => ⟨S', L3, L2 ++ G, List.Perm.refl _, ⟨hq, by have := due_len hd; omega⟩, fun S2 s2 L4 hd2 hq2 => ?_, fun out S2 s2 L4 cap' zs' hd2 hq2 k1 k2 k3 k4 => ?_⟩,
    fun out S' s L3 cap' zs' hd hq k1 k2 k3 k4 => ?_⟩, fun y ⟨D, ⟨L1', L2', G', Sb', S1', hp', hq1, hq2, hD, hlen⟩, hR⟩ => ?_⟩
  · have hD := due_two (due_perm hd hAB) hd2 hlo
    exact ⟨⟨s2, x.vb, L4 ++ (L2 ++ G), 0, b, 0, 0, []⟩, by simp, [], ⟨L4, L2, G, Sb, S2, List.Perm.refl _, hq2, hb, hD, by omega⟩, by simp [tpRow]⟩
  · have hD := due_two (due_perm hd hAB) hd2 hlo
    have e1 := due_len hD
    simp only [List.nil_append] at e1 hD
    refine ⟨k2, by omega, fun b base cap2 c1 c2 sp hsp => ?_⟩
    exact ⟨⟨s2, x.vb, L4 ++ (L2 ++ G), out.length, b, base, cap2, List.take 0 [] ++ List.take out.length zs' ++ sp⟩, by simp, out, ⟨L4, L2, G, Sb, S2, List.Perm.refl _, hq2, hb, hD, by omega⟩,
      rfl, c1, by simp [hsp]; omega, by simp [k4]⟩
  · have e0 := due_len hd
    refine ⟨k2, by omega, fun b base cap2 c1 c2 sp hsp => ⟨S', L3, L2 ++ G, List.Perm.refl _, ⟨hq, by omega⟩, fun S2 s2 L4 hd2 hq2 => ⟨c1, ?_⟩, fun out2 S2 s2 L4 cap3 zs2 hd2 hq2 m1 m2 m3 m4 => ?_⟩⟩
    · have hD := due_two (due_perm hd hAB) hd2 hlo
      simp only [List.append_nil] at hD
      exact ⟨⟨s2, x.vb, L4 ++ (L2 ++ G), out.length, b, base, cap2, List.take 0 [] ++ List.take out.length zs' ++ sp⟩, by simp, out, ⟨L4, L2, G, Sb, S2, List.Perm.refl _, hq2, hb, hD, by omega⟩,
        rfl, c1, by simp [hsp]; omega, by simp [k4]⟩
    · have hD := due_two (due_perm hd hAB) hd2 hlo
      have e1 := due_len hD
      rw [List.length_append] at e1
      refine ⟨m2, c1, c1, by omega, fun b3 base3 cap4 g1 g2 sp2 hsp2 => ?_⟩
      refine ⟨⟨s2, x.vb, L4 ++ (L2 ++ G), out.length + out2.length, b3, base3, cap4, List.take out.length (List.take 0 [] ++ List.take out.length zs' ++ sp) ++ List.take out2.length zs2 ++ sp2⟩, by simp, out ++ out2, ⟨L4, L2, G, Sb, S2, List.Perm.refl _, hq2, hb, hD, by omega⟩,
        by simp, g1, by simp [hsp2]; omega, ?_⟩
      show List.take (out.length + out2.length) _ = _
      have u1 : (List.take out.length (List.take 0 [] ++ List.take out.length zs' ++ sp)) = out.map (·.2) := by simp [k4]
      rw [u1, m4, List.take_left' (by simp)]
      simp
  · have hlt := due_len hD
    refine ⟨⟨y, y⟩, ⟨Sb', L2', L1' ++ G', hp'.trans swp3, ⟨hq2, by omega⟩, fun S2 s L3 hd hq => ?_, fun out S2 s L3 b' base' cap' zs' hd hq k1 k2 k3 k4 => ?_⟩, fun z ⟨⟨h60, L1, L2, G, S1, S2, hp, h1, h2, h3⟩, hm⟩ => ?_, fun z ⟨⟨h60, L1, L2, G, S1, S2, hp, h1, h2, h3⟩, D, r1, r2⟩ => ?_⟩
    · obtain ⟨e1, e2⟩ := due_same hD hd
      subst e1
      have hm0 : y.m = 0 := hR.1.symm
      exact ⟨⟨⟨y.va, s, L3 ++ (L1' ++ G'), 0, y.b, y.base, y.cap, y.zs⟩, y⟩, by simp [hm0], ⟨Nat.zero_le _, L1', L3, G', S1', S2, swp3, hq1, hq, e2.symm⟩, rfl⟩
    · obtain ⟨e1, e2⟩ := due_same hD hd
      subst e1
      have hm := hR.1
      exact ⟨⟨⟨y.va, s, L3 ++ (L1' ++ G'), y.m, y.b, y.base, y.cap, y.zs⟩, ⟨y.va, s, [], y.m, b', base', cap', zs'⟩⟩, by simp [hm], ⟨by show y.m ≤ 60; omega, L1', L3, G', S1', S2, swp3, hq1, hq, e2.symm⟩, out, hR, hm, by rw [← hm]; exact k2, k3, by rw [← hm]; exact k4⟩
    · exact ⟨fun h => h, S1, L1, L2 ++ G, hp, h1, fun a s L3 ⟨ea, hq⟩ => ⟨S2, L2, L3 ++ G, swp3, h2, fun a2 s2 L4 ⟨ea2, hq2⟩ => ⟨fun hne => hne (by rw [ea, ea2, h3.length_eq]), fun _ => ⟨⟨0, 0⟩, ⟨by simp, Nat.le_refl 0⟩, fun i hi hlt => absurd hlt (by omega)⟩⟩⟩⟩
    · refine ⟨fun h => h, S1, L1, L2 ++ G, hp, h1, fun a s L3 ⟨ea, hq⟩ => ⟨S2, L2, L3 ++ G, swp3, h2, fun a2 s2 L4 ⟨ea2, hq2⟩ => ⟨fun hne => hne (by rw [ea, ea2, h3.length_eq]), fun _ => ⟨⟨0, z.1.m⟩, ⟨by simp, Nat.zero_le _⟩, fun i ⟨im, ile⟩ hlt => ?_⟩⟩⟩⟩
      obtain ⟨p1, p2, p3, p4⟩ := r1
      obtain ⟨q1, q2, q3, q4⟩ := r2
      have im : i.m = z.1.m := im
      have hl : i.i < z.1.m := by omega
      have hmm : z.2.m = z.1.m := by omega
      have w2 : IntKind.wrap .i64 ((i.i : Int) + 1) = ((i.i + 1 : Nat) : Int) := by rw [IntKind.wrap_i64]; omega
      have ev : z.1.zs.getD i.i 0 = z.2.zs.getD i.i 0 := by rw [take_getD p4 hl, take_getD q4 (by omega)]
      exact ⟨⟨by omega, hlt⟩, by omega, ⟨by omega, hlt⟩, by omega, fun hne => hne ev, fun _ => ⟨⟨i.i + 1, i.m⟩, by show i.m - (i.i + 1) < i.m - i.i; omega, w2, im, by show i.i + 1 ≤ i.m; omega⟩⟩
theorem tp_goal (bd t base len cap n : Nat) (xs : List Int) (cut end_ : Int) (hn : n = min len 60) (h0 : 0 < len) (hlc : len ≤ cap) (hx : xs.length = cap) : tpGoal bd t base len cap n xs cut end_ :=
  Eq.mpr (by kernel_rfl) (tp_vc bd t base len cap n xs cut end_ hn h0 hlc hx)
theorem tpNil_goal (o : Option Addr) (cap : Nat) (cut end_ : Int) : tpNilGoal o cap cut end_ := Eq.mpr (by kernel_rfl) (tpNil_vc o cap cut end_)
end Go.Proofs.Ythkcfocoekonjaa
