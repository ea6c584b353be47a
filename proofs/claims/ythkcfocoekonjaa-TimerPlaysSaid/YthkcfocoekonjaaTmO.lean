/- Timers: the law TimerAnew. -/
import Derived.Test.YthkcfocoekonjaaTmN


set_option maxRecDepth 100000
set_option linter.unusedVariables false
set_option linter.unusedSimpArgs false
namespace Go.Proofs.Ythkcfocoekonjaa
open Go Go.Sx
attribute [local irreducible] Go.Sx.xrun

structure OneX where
  i : Nat
  va : Sl
  L : Blks
def anF (kind : Int) (xs : List Int) (i : Nat) : List Row := if min i 50 = 0 then [] else [(xs.getD (min i 50 - 1) 0, kind)]
def anInv (kind : Int) (xs : List Int) (len : Nat) (x : OneX) : Prop := x.i ≤ len ∧ ∃ L1 G, x.L.Perm (L1 ++ G) ∧ QRep (anF kind xs x.i) (.slice x.va.o x.va.l x.va.c) L1
noncomputable def Ann.an (kind : Int) (xs : List Int) (len : Nat) : FnAnn := ⟨[], [(5, ⟨OneX, [
  (fun σ x => ⟨σ.n, (17, .val (.int .i64 x.i)) :: keepE σ.env [0, 1, 2, 7, 15, 16], Ann.vals (Ann.chunk σ.heap x.L) [x.va]⟩, fun _ x => anInv kind xs len x)], fun x => len - x.i⟩),
  (1000018, ⟨OneX, [(fun σ x => ⟨σ.n, keepE σ.env [0, 7, 11], Ann.vals (Ann.chunk σ.heap x.L) [x.va]⟩, fun _ x => anInv kind xs len x ∧ x.i = len)], fun _ => 0⟩)]⟩
noncomputable def anGoal (bd t base len cap : Nat) (xs : List Int) (kind : Int) (stop : Bool) : Prop :=
  xrun Go.Proofs.Try.prog tbl2T [(8, Ann.an kind xs len)] [([], (32, false)), ([], (44, true)), ([], (48, true)), ([], (61, false)), ([], (67, true)), ([], (74, true)), ([], (78, true))] 9 [] 8
    [.val (.int .i64 kind), .slc 0 0 len cap, .val (.bool stop)] [.ro bd (.tab t base cap [.ints .u64 xs]), .chunk []] fun s h => bOf s fun p => p
noncomputable def anNilGoal (o : Option Addr) (cap : Nat) (kind : Int) (stop : Bool) : Prop :=
  xrun Go.Proofs.Try.prog tbl2T [(8, Ann.an kind [] 0)] [([], (18, false)), ([], (32, true))] 9 [] 8 [.val (.int .i64 kind), .val (.slice o 0 cap), .val (.bool stop)] [.chunk []] fun s h => bOf s fun p => p

theorem u64_id {x : Int} (h0 : 0 ≤ x) (h1 : x < 18446744073709551616) : IntKind.wrap .u64 x = x := by
  simp [IntKind.wrap, IntKind.bits, IntKind.signed]
  omega
theorem set_again {kind at_ a0 : Int} {S' : List Row} (h : SetP kind at_ [(a0, kind)] S') : S' = [(at_, kind)] := by
  obtain ⟨S1, h1, rfl⟩ := h
  rcases h1 with ⟨r, e1, e2⟩ | ⟨rfl, h2⟩
  · have := e2.length_eq
    simp at this
    rw [this]
  · exact absurd rfl (h2 (a0, kind) (by simp))
theorem set_none {kind at_ : Int} {S' : List Row} (h : SetP kind at_ [] S') : S' = [(at_, kind)] := set_new h (by simp)
theorem stop_one {kind a0 : Int} {p : Prop} {S' : List Row} (h : StopP kind [(a0, kind)] p S') : p ∧ S' = [] := by
  have hp : p := Classical.byContradiction fun hn => (h.1 hn).2 (a0, kind) (by simp) rfl
  obtain ⟨r, -, e⟩ := h.2 hp
  have := e.length_eq
  simp at this
  exact ⟨hp, this⟩
theorem stop_none {kind : Int} {p : Prop} {S' : List Row} (h : StopP kind [] p S') : ¬ p ∧ S' = [] := by
  have hp : ¬ p := fun hp => by
    obtain ⟨r, -, e⟩ := h.2 hp
    exact absurd e.length_eq (by simp)
  exact ⟨hp, (h.1 hp).1⟩
theorem due_not {now a0 kind : Int} {out S' : List Row} (h : DueP now [(a0, kind)] out S') (hl : now < a0) : out = [] ∧ S' = [(a0, kind)] := by
  obtain ⟨h1, h2⟩ := due_eval (A := []) (B := [(a0, kind)]) h (by simp) (by simp) (by simp) (by simpa using hl)
  exact ⟨h1, List.perm_singleton.1 h2⟩
theorem due_one {now a0 kind : Int} {out S' : List Row} (h : DueP now [(a0, kind)] out S') (hl : a0 ≤ now) : out = [(a0, kind)] ∧ S' = [] := by
  obtain ⟨h1, h2⟩ := due_eval (A := [(a0, kind)]) (B := []) h (by simp) (by simp) (by simpa using hl) (by simp)
  exact ⟨h1, List.Perm.eq_nil h2⟩
theorem due_none {now : Int} {out S' : List Row} (h : DueP now [] out S') : out = [] ∧ S' = [] := by
  obtain ⟨h1, h2⟩ := due_eval (A := []) (B := []) h (by simp) (by simp) (by simp) (by simp)
  exact ⟨h1, List.Perm.eq_nil h2⟩
theorem getD_zero {zs : List Int} {a : Int} (h : zs.take 1 = [a]) : zs.getD 0 0 = a := by
  cases zs with
  | nil => simp at h
  | cons z l => simpa using h
theorem anF_succ {kind : Int} {xs : List Int} {i : Nat} {S' : List Row} (hi : i < 50) (h : SetP kind (xs.getD i 0) (anF kind xs i) S') : S' = anF kind xs (i + 1) := by
  have e2 : anF kind xs (i + 1) = [(xs.getD i 0, kind)] := by
    unfold anF
    rw [if_neg (by omega), show min (i + 1) 50 - 1 = i by omega]
  rw [e2]
  unfold anF at h
  split at h
  · exact set_none h
  · exact set_again h
theorem anF_stay {kind : Int} {xs : List Int} {i : Nat} (hi : ¬ i < 50) : anF kind xs (i + 1) = anF kind xs i := by
  unfold anF
  rw [show min (i + 1) 50 = min i 50 by omega]
theorem anF_len (kind : Int) (xs : List Int) (i : Nat) : (anF kind xs i).length ≤ 1 := by unfold anF; split <;> simp
theorem an_vc (bd t base len cap : Nat) (xs : List Int) (kind : Int) (stop : Bool) (h0 : 0 < len) (hlc : len ≤ cap) (hm : cap ≤ maxLen) (hx : xs.length = cap) (hz : ∀ z ∈ xs, 0 ≤ z ∧ z < 18446744073709551616) :
    ∃ (x : Unit),
  ∃ (L : List (Nat × Go.Sx.Blk)),
    ∃ (G : List (Nat × Go.Sx.Blk)),
      List.Perm [] (L ++ G) ∧
        ((0 : Nat) = (0 : Nat) ∧ L = []) ∧
          ∀ (a : Unit) (L' : List (Nat × Go.Sx.Blk)),
            a = () →
              ∀ (b : Nat),
                ∃ (x0 : OneX),
                  ((((0 : Int) = (↑x0.1 : Int) ∧
                          kind = kind ∧
                            ((0 : Nat) = (0 : Nat) ∧ len = len ∧ cap = cap) ∧
                              Go.Value.bool stop = Go.Value.bool stop ∧
                                ((0 : Nat) = (0 : Nat) ∧ (0 : Nat) = (0 : Nat)) ∧ ((0 : Nat) = (0 : Nat) ∧ len = len ∧ cap = cap) ∧ (↑len : Int) = (↑len : Int) ∧ True) ∧
                        (bd = bd ∧ bif Nat.beq t t then base = base ∧ cap = cap ∧ xs = xs ∧ True else False) ∧
                          L' ++ G = x0.3 ∧ (b = b ∧ Go.Value.slice Option.none (0 : Nat) (0 : Nat) = Go.Value.slice x0.2.1 x0.2.2 x0.2.3 ∧ True) ∧ True) ∧
                      anInv kind xs len x0) ∧
                    ∀ (x : OneX),
                      anInv kind xs len x →
                        ((↑x.1 : Int) < (↑len : Int) →
                            ((0 : Int) ≤ (↑x.1 : Int) ∧ (↑x.1 : Int) < (↑len : Int)) ∧
                              (0 : Nat) + x.1 < cap ∧
                                ((↑x.1 : Int) < (50 : Int) →
                                    ∃ (x_1 : KX),
                                      ∃ (L : List (Nat × Go.Sx.Blk)),
                                        ∃ (G : List (Nat × Go.Sx.Blk)),
                                          List.Perm x.3 (L ++ G) ∧
                                            ([Go.Value.int Go.IntKind.i64 kind, Go.Value.int Go.IntKind.u64 (List.getD xs ((0 : Nat) + x.1) (0 : Int))] =
                                                  [Go.Value.int Go.IntKind.i64 x_1.2, Go.Value.int Go.IntKind.u64 x_1.3] ∧
                                                QRep x_1.1 (Go.Value.slice x.2.1 x.2.2 x.2.3) L ∧ List.length x_1.1 + (1 : Nat) < (1000000 : Nat)) ∧
                                              ∀ (a : Unit) (s : Sl) (L' : List (Nat × Go.Sx.Blk)),
                                                (∃ (S' : List Row),
                                                    SetP x_1.2 x_1.3 x_1.1 S' ∧ QRep S' (Go.Value.slice s.1 s.2 s.3) L') →
                                                  ∃ (y : OneX),
                                                    len - y.1 < len - x.1 ∧
                                                      ((Go.IntKind.wrap Go.IntKind.i64 ((↑x.1 : Int) + (1 : Int)) = (↑y.1 : Int) ∧
                                                            kind = kind ∧
                                                              ((0 : Nat) = (0 : Nat) ∧ len = len ∧ cap = cap) ∧
                                                                Go.Value.bool stop = Go.Value.bool stop ∧
                                                                  ((0 : Nat) = (0 : Nat) ∧ (0 : Nat) = (0 : Nat)) ∧
                                                                    ((0 : Nat) = (0 : Nat) ∧ len = len ∧ cap = cap) ∧ (↑len : Int) = (↑len : Int) ∧ True) ∧
                                                          (bd = bd ∧ bif Nat.beq t t then base = base ∧ cap = cap ∧ xs = xs ∧ True else False) ∧
                                                            L' ++ G = y.3 ∧ (b = b ∧ Go.Value.slice s.1 s.2 s.3 = Go.Value.slice y.2.1 y.2.2 y.2.3 ∧ True) ∧ True) ∧
                                                        anInv kind xs len y) ∧
                                  (¬(↑x.1 : Int) < (50 : Int) →
                                    ∃ (y : OneX),
                                      len - y.1 < len - x.1 ∧
                                        ((Go.IntKind.wrap Go.IntKind.i64 ((↑x.1 : Int) + (1 : Int)) = (↑y.1 : Int) ∧
                                              kind = kind ∧
                                                ((0 : Nat) = (0 : Nat) ∧ len = len ∧ cap = cap) ∧
                                                  Go.Value.bool stop = Go.Value.bool stop ∧
                                                    ((0 : Nat) = (0 : Nat) ∧ (0 : Nat) = (0 : Nat)) ∧ ((0 : Nat) = (0 : Nat) ∧ len = len ∧ cap = cap) ∧ (↑len : Int) = (↑len : Int) ∧ True) ∧
                                            (bd = bd ∧ bif Nat.beq t t then base = base ∧ cap = cap ∧ xs = xs ∧ True else False) ∧
                                              x.3 = y.3 ∧ (b = b ∧ Go.Value.slice x.2.1 x.2.2 x.2.3 = Go.Value.slice y.2.1 y.2.2 y.2.3 ∧ True) ∧ True) ∧
                                          anInv kind xs len y)) ∧
                          (¬(↑x.1 : Int) < (↑len : Int) →
                            ¬Min.min (↑len : Int) (50 : Int) = (0 : Int) ∧
                              ((0 : Int) ≤ Go.IntKind.wrap Go.IntKind.i64 (Min.min (↑len : Int) (50 : Int) - (1 : Int)) ∧
                                  Go.IntKind.wrap Go.IntKind.i64 (Min.min (↑len : Int) (50 : Int) - (1 : Int)) < (↑len : Int)) ∧
                                (0 : Nat) + Int.toNat (Go.IntKind.wrap Go.IntKind.i64 (Min.min (↑len : Int) (50 : Int) - (1 : Int))) < cap ∧
                                  (stop = Bool.true →
                                      ∃ (x_1 : KX),
                                        ∃ (L : List (Nat × Go.Sx.Blk)),
                                          ∃ (G : List (Nat × Go.Sx.Blk)),
                                            List.Perm x.3 (L ++ G) ∧
                                              ([Go.Value.int Go.IntKind.i64 kind] = [Go.Value.int Go.IntKind.i64 x_1.2] ∧
                                                  QRep x_1.1 (Go.Value.slice x.2.1 x.2.2 x.2.3) L ∧ List.length x_1.1 < (1000000 : Nat)) ∧
                                                ∀ (a : Prop) (s : Sl) (L' : List (Nat × Go.Sx.Blk)),
                                                  (∃ (S' : List Row),
                                                      StopP x_1.2 x_1.1 a S' ∧ QRep S' (Go.Value.slice s.1 s.2 s.3) L') →
                                                    a ∧
                                                      ∃ (x : List Row),
                                                        ∃ (L : List (Nat × Go.Sx.Blk)),
                                                          ∃ (G_1 : List (Nat × Go.Sx.Blk)),
                                                            List.Perm (L' ++ G) (L ++ G_1) ∧
                                                              ((0 : Nat) = (0 : Nat) ∧ QRep x (Go.Value.slice s.1 s.2 s.3) L) ∧
                                                                ∀ (a : Int) (s : Sl) (L' : List (Nat × Go.Sx.Blk)),
                                                                  a = (↑(List.length x) : Int) ∧ QRep x (Go.Value.slice s.1 s.2 s.3) L' →
                                                                    a = (0 : Int) ∧
                                                                      ∃ (S : List Row),
                                                                        ∃ (L : List (Nat × Go.Sx.Blk)),
                                                                          ∃ (G : List (Nat × Go.Sx.Blk)),
                                                                            List.Perm (L' ++ G_1) (L ++ G) ∧
                                                                              (QRep S (Go.Value.slice s.1 s.2 s.3) L ∧ List.length S < (1000000 : Nat)) ∧
                                                                                (∀ (S' : List Row) (s : Sl) (L' : List (Nat × Go.Sx.Blk)),
                                                                                    DueP (18446744073709551615 : Int) S [] S' →
                                                                                      QRep S' (Go.Value.slice s.1 s.2 s.3) L' → (↑(0 : Nat) : Int) = (0 : Int)) ∧
                                                                                  ∀ (out S' : List Row) (s : Sl) (L' : List (Nat × Go.Sx.Blk))
                                                                                    (b' base' cap' : Nat) (zs' : List Int),
                                                                                    DueP (18446744073709551615 : Int) S out S' →
                                                                                      QRep S' (Go.Value.slice s.1 s.2 s.3) L' →
                                                                                        (0 : Nat) < List.length out →
                                                                                          List.length out ≤ cap' →
                                                                                            List.length zs' = cap' →
                                                                                              List.take (List.length out) zs' = List.map (fun (x : Row) => x.2) out →
                                                                                                (↑(List.length out) : Int) = (0 : Int)) ∧
                                    (¬stop = Bool.true →
                                      ∃ (x0 : OneX),
                                        (((0 : Int) < List.getD xs ((0 : Nat) + Int.toNat (Go.IntKind.wrap Go.IntKind.i64 (Min.min (↑len : Int) (50 : Int) - (1 : Int)))) (0 : Int) →
                                              ∃ (S : List Row),
                                                ∃ (L : List (Nat × Go.Sx.Blk)),
                                                  ∃ (G : List (Nat × Go.Sx.Blk)),
                                                    List.Perm x.3 (L ++ G) ∧
                                                      (QRep S (Go.Value.slice x.2.1 x.2.2 x.2.3) L ∧ List.length S < (1000000 : Nat)) ∧
                                                        (∀ (S' : List Row) (s : Sl) (L' : List (Nat × Go.Sx.Blk)),
                                                            DueP
                                                                (Go.IntKind.wrap Go.IntKind.u64
                                                                  (List.getD xs ((0 : Nat) + Int.toNat (Go.IntKind.wrap Go.IntKind.i64 (Min.min (↑len : Int) (50 : Int) - (1 : Int)))) (0 : Int) -
                                                                    (1 : Int)))
                                                                S [] S' →
                                                              QRep S' (Go.Value.slice s.1 s.2 s.3) L' →
                                                                ¬(↑(0 : Nat) : Int) ≠ (0 : Int) ∧
                                                                  ∃ (y : OneX),
                                                                    ((kind = kind ∧
                                                                          ((0 : Nat) = (0 : Nat) ∧ (0 : Nat) = (0 : Nat)) ∧
                                                                            List.getD xs ((0 : Nat) + Int.toNat (Go.IntKind.wrap Go.IntKind.i64 (Min.min (↑len : Int) (50 : Int) - (1 : Int))))
                                                                                  (0 : Int) =
                                                                                List.getD xs ((0 : Nat) + Int.toNat (Go.IntKind.wrap Go.IntKind.i64 (Min.min (↑len : Int) (50 : Int) - (1 : Int))))
                                                                                  (0 : Int) ∧
                                                                              True) ∧
                                                                        (bd = bd ∧ bif Nat.beq t t then base = base ∧ cap = cap ∧ xs = xs ∧ True else False) ∧
                                                                          L' ++ G = y.3 ∧ (b = b ∧ Go.Value.slice s.1 s.2 s.3 = Go.Value.slice y.2.1 y.2.2 y.2.3 ∧ True) ∧ True) ∧
                                                                      anInv kind xs len y ∧ y.1 = len) ∧
                                                          ∀ (out S' : List Row) (s : Sl) (L' : List (Nat × Go.Sx.Blk)) (b' base' cap' : Nat)
                                                            (zs' : List Int),
                                                            DueP
                                                                (Go.IntKind.wrap Go.IntKind.u64
                                                                  (List.getD xs ((0 : Nat) + Int.toNat (Go.IntKind.wrap Go.IntKind.i64 (Min.min (↑len : Int) (50 : Int) - (1 : Int)))) (0 : Int) -
                                                                    (1 : Int)))
                                                                S out S' →
                                                              QRep S' (Go.Value.slice s.1 s.2 s.3) L' →
                                                                (0 : Nat) < List.length out →
                                                                  List.length out ≤ cap' →
                                                                    List.length zs' = cap' →
                                                                      List.take (List.length out) zs' = List.map (fun (x : Row) => x.2) out →
                                                                        ¬(↑(List.length out) : Int) ≠ (0 : Int) ∧
                                                                          ∃ (y : OneX),
                                                                            ((kind = kind ∧
                                                                                  ((0 : Nat) = (0 : Nat) ∧ (0 : Nat) = (0 : Nat)) ∧
                                                                                    List.getD xs ((0 : Nat) + Int.toNat (Go.IntKind.wrap Go.IntKind.i64 (Min.min (↑len : Int) (50 : Int) - (1 : Int))))
                                                                                          (0 : Int) =
                                                                                        List.getD xs
                                                                                          ((0 : Nat) + Int.toNat (Go.IntKind.wrap Go.IntKind.i64 (Min.min (↑len : Int) (50 : Int) - (1 : Int))))
                                                                                          (0 : Int) ∧
                                                                                      True) ∧
                                                                                (bd = bd ∧ bif Nat.beq t t then base = base ∧ cap = cap ∧ xs = xs ∧ True else False) ∧
                                                                                  L' ++ G = y.3 ∧ (b = b ∧ Go.Value.slice s.1 s.2 s.3 = Go.Value.slice y.2.1 y.2.2 y.2.3 ∧ True) ∧ True) ∧
                                                                              anInv kind xs len y ∧ y.1 = len) ∧
                                            (¬(0 : Int) < List.getD xs ((0 : Nat) + Int.toNat (Go.IntKind.wrap Go.IntKind.i64 (Min.min (↑len : Int) (50 : Int) - (1 : Int)))) (0 : Int) →
                                              ∃ (y : OneX),
                                                ((kind = kind ∧
                                                      ((0 : Nat) = (0 : Nat) ∧ (0 : Nat) = (0 : Nat)) ∧
                                                        List.getD xs ((0 : Nat) + Int.toNat (Go.IntKind.wrap Go.IntKind.i64 (Min.min (↑len : Int) (50 : Int) - (1 : Int)))) (0 : Int) =
                                                            List.getD xs ((0 : Nat) + Int.toNat (Go.IntKind.wrap Go.IntKind.i64 (Min.min (↑len : Int) (50 : Int) - (1 : Int)))) (0 : Int) ∧
                                                          True) ∧
                                                    (bd = bd ∧ bif Nat.beq t t then base = base ∧ cap = cap ∧ xs = xs ∧ True else False) ∧
                                                      x.3 = y.3 ∧ (b = b ∧ Go.Value.slice x.2.1 x.2.2 x.2.3 = Go.Value.slice y.2.1 y.2.2 y.2.3 ∧ True) ∧ True) ∧
                                                  anInv kind xs len y ∧ y.1 = len)) ∧
                                          ∀ (x : OneX),
                                            anInv kind xs len x ∧ x.1 = len →
                                              ∃ (S : List Row),
                                                ∃ (L : List (Nat × Go.Sx.Blk)),
                                                  ∃ (G : List (Nat × Go.Sx.Blk)),
                                                    List.Perm x.3 (L ++ G) ∧
                                                      (QRep S (Go.Value.slice x.2.1 x.2.2 x.2.3) L ∧ List.length S < (1000000 : Nat)) ∧
                                                        (∀ (S' : List Row) (s : Sl) (L' : List (Nat × Go.Sx.Blk)),
                                                            DueP
                                                                (List.getD xs ((0 : Nat) + Int.toNat (Go.IntKind.wrap Go.IntKind.i64 (Min.min (↑len : Int) (50 : Int) - (1 : Int)))) (0 : Int)) S []
                                                                S' →
                                                              QRep S' (Go.Value.slice s.1 s.2 s.3) L' → (↑(0 : Nat) : Int) = (1 : Int) ∧ False) ∧
                                                          ∀ (out S' : List Row) (s : Sl) (L' : List (Nat × Go.Sx.Blk)) (b' base' cap' : Nat)
                                                            (zs' : List Int),
                                                            DueP
                                                                (List.getD xs ((0 : Nat) + Int.toNat (Go.IntKind.wrap Go.IntKind.i64 (Min.min (↑len : Int) (50 : Int) - (1 : Int)))) (0 : Int)) S out
                                                                S' →
                                                              QRep S' (Go.Value.slice s.1 s.2 s.3) L' →
                                                                (0 : Nat) < List.length out →
                                                                  List.length out ≤ cap' →
                                                                    List.length zs' = cap' →
                                                                      List.take (List.length out) zs' = List.map (fun (x : Row) => x.2) out →
                                                                        (↑(List.length out) : Int) = (1 : Int) ∧
                                                                          ((0 : Int) ≤ (0 : Int) ∧ (0 : Int) < (↑(List.length out) : Int)) ∧
                                                                            (0 : Nat) + Int.toNat (0 : Int) < cap' ∧
                                                                              List.getD zs' ((0 : Nat) + Int.toNat (0 : Int)) (0 : Int) = kind ∧
                                                                                ∃ (x : List Row),
                                                                                  ∃ (L : List (Nat × Go.Sx.Blk)),
                                                                                    ∃ (G_1 : List (Nat × Go.Sx.Blk)),
                                                                                      List.Perm (L' ++ G) (L ++ G_1) ∧
                                                                                        ((0 : Nat) = (0 : Nat) ∧ QRep x (Go.Value.slice s.1 s.2 s.3) L) ∧
                                                                                          ∀ (a : Int) (s : Sl) (L' : List (Nat × Go.Sx.Blk)),
                                                                                            a = (↑(List.length x) : Int) ∧ QRep x (Go.Value.slice s.1 s.2 s.3) L' →
                                                                                              a = (0 : Int) ∧
                                                                                                ∃ (x : KX),
                                                                                                  ∃ (L : List (Nat × Go.Sx.Blk)),
                                                                                                    ∃ (G : List (Nat × Go.Sx.Blk)),
                                                                                                      List.Perm (L' ++ G_1) (L ++ G) ∧
                                                                                                        ([Go.Value.int Go.IntKind.i64 kind] = [Go.Value.int Go.IntKind.i64 x.2] ∧
                                                                                                            QRep x.1 (Go.Value.slice s.1 s.2 s.3) L ∧
                                                                                                              List.length x.1 < (1000000 : Nat)) ∧
                                                                                                          ∀ (a : Prop) (s : Sl) (L' : List (Nat × Go.Sx.Blk)),
                                                                                                            (∃ (S' : List Row),
                                                                                                                StopP x.2 x.1 a S' ∧
                                                                                                                  QRep S' (Go.Value.slice s.1 s.2 s.3) L') →
                                                                                                              ¬a)) := by
  have hm' : len < 9223372036854775808 := by unfold maxLen at hm; omega
  have hmin : Min.min (↑len : Int) (50 : Int) = ((min len 50 : Nat) : Int) := by omega
  have htt : Nat.beq t t = true := Nat.beq_refl t
  have w0 : IntKind.wrap .i64 (((min len 50 : Nat) : Int) - 1) = ((min len 50 - 1 : Nat) : Int) := by rw [IntKind.wrap_i64]; omega
  simp only [hmin, w0, htt, cond_true, Int.toNat_natCast, Nat.zero_add]
  have eF : anF kind xs len = [(xs.getD (min len 50 - 1) 0, kind)] := by unfold anF; rw [if_neg (by omega)]
  have hlast : 0 ≤ xs.getD (min len 50 - 1) 0 ∧ xs.getD (min len 50 - 1) 0 < 18446744073709551616 := by
    rw [List.getD_eq_getElem?_getD]
    cases h : xs[min len 50 - 1]? with
    | none => simp
    | some z => simpa using hz z (List.mem_of_getElem? h)
  generalize hlv : xs.getD (min len 50 - 1) 0 = last at *
  refine ⟨(), [], [], by simp, ⟨trivial, rfl⟩, fun _ L' _ b => ?_⟩
  refine ⟨⟨0, ⟨none, 0, 0⟩, L' ++ []⟩, ⟨by simp, Nat.zero_le _, [], L', by simp, by simpa [anF] using QRep.nil⟩, fun x hx1 => ⟨fun hi => ?_, fun hi => ?_⟩⟩
  · obtain ⟨h1, L1, G, hp, hq⟩ := hx1
    have hi : x.i < len := by omega
    have w2 : IntKind.wrap .i64 ((x.i : Int) + 1) = ((x.i + 1 : Nat) : Int) := by rw [IntKind.wrap_i64]; omega
    simp only [w2]
    refine ⟨⟨by omega, by omega⟩, by omega, fun h50 => ⟨⟨anF kind xs x.i, kind, xs.getD x.i 0⟩, L1, G, hp, ⟨rfl, hq, by have := anF_len kind xs x.i; show (anF kind xs x.i).length + 1 < _; omega⟩, fun _ s L2 ⟨S', hs, hq'⟩ => ?_⟩, fun h50 => ?_⟩
    · have e := anF_succ (by omega) hs
      refine ⟨⟨x.i + 1, s, L2 ++ G⟩, by show len - (x.i + 1) < len - x.i; omega, by simp, by show x.i + 1 ≤ len; omega, L2, G, List.Perm.refl _, ?_⟩
      show QRep (anF kind xs (x.i + 1)) _ _
      rw [← e]; exact hq'
    · refine ⟨⟨x.i + 1, x.va, x.L⟩, by show len - (x.i + 1) < len - x.i; omega, by simp, by show x.i + 1 ≤ len; omega, L1, G, hp, ?_⟩
      show QRep (anF kind xs (x.i + 1)) _ _
      rw [anF_stay (by omega)]; exact hq
  · obtain ⟨h1, L1, G, hp, hq⟩ := hx1
    have hi : x.i = len := by omega
    rw [hi, eF] at hq
    refine ⟨by omega, ⟨by omega, by omega⟩, by omega, fun hs => ?_, fun hs => ?_⟩
    · refine ⟨⟨[(last, kind)], kind, 0⟩, L1, G, hp, ⟨rfl, hq, by show ([_] : List Row).length < _; simp⟩, fun p s L2 ⟨S', k1, k2⟩ => ?_⟩
      obtain ⟨hp1, rfl⟩ := stop_one k1
      refine ⟨hp1, [], L2, G, List.Perm.refl _, ⟨trivial, k2⟩, fun a s L3 ⟨e, k3⟩ => ⟨by simp [e], [], L3, G, List.Perm.refl _, ⟨k3, by simp⟩, fun S' s L4 hd hq => rfl, fun out S' s L4 b' base' cap' zs' hd hq m1 m2 m3 m4 => ?_⟩⟩
      rw [(due_none hd).1]; rfl
    · refine ⟨x, ⟨fun hl => ?_, fun hl => ?_⟩, fun y hy => ?_⟩
      · have w3 : IntKind.wrap .u64 (last - 1) = last - 1 := u64_id (by omega) (by omega)
        simp only [w3]
        refine ⟨[(last, kind)], L1, G, hp, ⟨hq, by simp⟩, fun S' s L2 hd hq2 => ?_, fun out S' s L2 b' base' cap' zs' hd hq2 m1 m2 m3 m4 => ?_⟩
        · obtain ⟨-, rfl⟩ := due_not hd (by omega)
          exact ⟨by simp, ⟨len, s, L2 ++ G⟩, ⟨by simp, ⟨Nat.le_refl _, L2, G, List.Perm.refl _, by show QRep (anF kind xs len) _ _; rw [eF]; exact hq2⟩, rfl⟩⟩
        · obtain ⟨rfl, rfl⟩ := due_not hd (by omega)
          simp at m1
      · exact ⟨x, by simp, ⟨h1, L1, G, hp, by rw [hi, eF]; exact hq⟩, hi⟩
      · obtain ⟨⟨g1, L1, G, hp, hq⟩, g2⟩ := hy
        rw [g2, eF] at hq
        refine ⟨[(last, kind)], L1, G, hp, ⟨hq, by simp⟩, fun S' s L2 hd hq2 => ?_, fun out S' s L2 b' base' cap' zs' hd hq2 m1 m2 m3 m4 => ?_⟩
        · exact absurd (due_one hd (by omega)).1 (by simp)
        · obtain ⟨rfl, rfl⟩ := due_one hd (by omega)
          simp only [List.length_cons, List.length_nil, Nat.zero_add] at m2 m4
          have := getD_zero m4
          refine ⟨rfl, ⟨by omega, by simp⟩, by simp only [Int.toNat_zero]; omega, by simpa using this, [], L2, G, List.Perm.refl _, ⟨trivial, hq2⟩, fun a s L3 ⟨e, k3⟩ => ⟨by simp [e], ⟨[], kind, 0⟩, L3, G, List.Perm.refl _, ⟨rfl, k3, by show ([] : List Row).length < _; simp⟩, fun p s L4 ⟨S', k1, k2⟩ => (stop_none k1).1⟩⟩
theorem anNil_vc (o : Option Addr) (cap : Nat) (kind : Int) (stop : Bool) :
    ∃ (x : Unit),
  ∃ (L : List (Nat × Go.Sx.Blk)),
    ∃ (G : List (Nat × Go.Sx.Blk)),
      List.Perm [] (L ++ G) ∧
        ((0 : Nat) = (0 : Nat) ∧ L = []) ∧
          ∀ (a : Unit) (L' : List (Nat × Go.Sx.Blk)),
            a = () →
              ∀ (b : Nat),
                ∃ (x0 : OneX),
                  ((((0 : Int) = (↑x0.1 : Int) ∧
                          kind = kind ∧
                            Go.Value.slice o (0 : Nat) cap = Go.Value.slice o (0 : Nat) cap ∧
                              Go.Value.bool stop = Go.Value.bool stop ∧
                                ((0 : Nat) = (0 : Nat) ∧ (0 : Nat) = (0 : Nat)) ∧ Go.Value.slice o (0 : Nat) cap = Go.Value.slice o (0 : Nat) cap ∧ (↑(0 : Nat) : Int) = (↑(0 : Nat) : Int) ∧ True) ∧
                        L' ++ G = x0.3 ∧ (b = b ∧ Go.Value.slice Option.none (0 : Nat) (0 : Nat) = Go.Value.slice x0.2.1 x0.2.2 x0.2.3 ∧ True) ∧ True) ∧
                      anInv kind [] (0 : Nat) x0) ∧
                    ∀ (x : OneX),
                      anInv kind [] (0 : Nat) x →
                        ¬(↑x.1 : Int) < (↑(0 : Nat) : Int) ∧
                          Min.min (↑(0 : Nat) : Int) (50 : Int) = (0 : Int) ∧
                            ∃ (x_1 : KX),
                              ∃ (L : List (Nat × Go.Sx.Blk)),
                                ∃ (G : List (Nat × Go.Sx.Blk)),
                                  List.Perm x.3 (L ++ G) ∧
                                    ([Go.Value.int Go.IntKind.i64 kind] = [Go.Value.int Go.IntKind.i64 x_1.2] ∧
                                        QRep x_1.1 (Go.Value.slice x.2.1 x.2.2 x.2.3) L ∧ List.length x_1.1 < (1000000 : Nat)) ∧
                                      ∀ (a : Prop) (s : Sl) (L' : List (Nat × Go.Sx.Blk)),
                                        (∃ (S' : List Row),
                                            StopP x_1.2 x_1.1 a S' ∧ QRep S' (Go.Value.slice s.1 s.2 s.3) L') →
                                          ¬a := by
  refine ⟨(), [], [], by simp, ⟨rfl, rfl⟩, fun _ L' _ b => ?_⟩
  refine ⟨⟨0, ⟨none, 0, 0⟩, L' ++ []⟩, ⟨by simp, Nat.zero_le _, [], L', by simp, by simpa [anF] using QRep.nil⟩, fun x hx1 => ?_⟩
  obtain ⟨h1, L1, G, hp, hq⟩ := hx1
  have hi : x.i = 0 := by omega
  rw [hi] at hq
  exact ⟨by omega, by omega, ⟨[], kind, 0⟩, L1, G, hp, ⟨rfl, hq, by show ([] : List Row).length < _; simp⟩, fun p s L4 ⟨S', k1, k2⟩ => (stop_none k1).1⟩
theorem an_goal (bd t base len cap : Nat) (xs : List Int) (kind : Int) (stop : Bool) (h0 : 0 < len) (hlc : len ≤ cap) (hm : cap ≤ maxLen) (hx : xs.length = cap) (hz : ∀ z ∈ xs, 0 ≤ z ∧ z < 18446744073709551616) : anGoal bd t base len cap xs kind stop :=
  Eq.mpr (by kernel_rfl) (an_vc bd t base len cap xs kind stop h0 hlc hm hx hz)
theorem anNil_goal (o : Option Addr) (cap : Nat) (kind : Int) (stop : Bool) : anNilGoal o cap kind stop := Eq.mpr (by kernel_rfl) (anNil_vc o cap kind stop)
end Go.Proofs.Ythkcfocoekonjaa
