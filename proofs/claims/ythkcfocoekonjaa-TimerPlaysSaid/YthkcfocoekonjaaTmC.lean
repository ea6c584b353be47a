/- Span: Timers: Compare and Less. -/
import Derived.Test.YthkcfocoekonjaaTmB


set_option maxRecDepth 100000
set_option linter.unusedVariables false
set_option linter.unusedSimpArgs false
namespace Go.Proofs.Ythkcfocoekonjaa
open Go Go.Sx
attribute [local irreducible] Go.Sx.xrun

def CmpR (a b : Int) (v : Value) (_ : Blks) : Prop := v = .int .i64 (cmpF a b)
noncomputable def cuGoal (a b : Int) : Prop := xrun Go.Proofs.Try.prog [] [] [] 9 [] 113 [.val (.int .u64 a), .val (.int .u64 b)] [] fun s h => CmpR a b (den (locs h) s) (owned (locs h) h)
noncomputable def ciGoal (a b : Int) : Prop := xrun Go.Proofs.Try.prog [] [] [] 9 [] 114 [.val (.int .i64 a), .val (.int .i64 b)] [] fun s h => CmpR a b (den (locs h) s) (owned (locs h) h)
noncomputable def Ann.or2 (a b : Int) : FnAnn := ⟨[], [(3, ⟨Nat, [(fun σ x => ⟨σ.n, (8, .val (.int .i64 0)) :: keepE σ.env [3, 6, 7], σ.heap⟩, fun _ x => x = 0),
  (fun σ x => ⟨σ.n, (8, .val (.int .i64 1)) :: keepE σ.env [3, 6, 7], σ.heap⟩, fun _ x => x = 1 ∧ a = 0),
  (fun σ x => ⟨σ.n, (8, .val (.int .i64 2)) :: keepE σ.env [3, 6, 7], σ.heap⟩, fun _ x => x = 2 ∧ a = 0 ∧ b = 0)], fun x => 2 - x⟩)]⟩
def LsH (b1 base cap : Nat) (xs ys : List Int) (L : Blks) : Prop := ∃ G, L = (b1, .tab 150 base cap [.ints .u64 xs, .ints .i64 ys]) :: G
noncomputable def lsGoal (b1 base len cap i j : Nat) (xs ys : List Int) : Prop :=
  xrun Go.Proofs.Try.prog [(113, cmpT .u64), (114, cmpT .i64)] [(112, Ann.or2 (cmpF (xs.getD i 0) (xs.getD j 0)) (cmpF (ys.getD i 0) (ys.getD j 0)))] [] 9 [] 110 [.slc 0 0 len cap, .val (.int .i64 i), .val (.int .i64 j)]
    [.own b1 (.tab 150 base cap [.ints .u64 xs, .ints .i64 ys])] fun s h => bOf s fun p => (p ↔ rlt (xs.getD i 0, ys.getD i 0) (xs.getD j 0, ys.getD j 0)) ∧ LsH b1 base cap xs ys (owned (locs h) h)

theorem cu_vc (a b : Int) :
    (a ≠ a → (b ≠ b → CmpR a b (Go.Value.int Go.IntKind.i64 (0 : Int)) []) ∧ (¬b ≠ b → CmpR a b (Go.Value.int Go.IntKind.i64 (-1 : Int)) [])) ∧
  (¬a ≠ a →
    (b ≠ b → CmpR a b (Go.Value.int Go.IntKind.i64 (1 : Int)) []) ∧
      (¬b ≠ b →
        (a < b → CmpR a b (Go.Value.int Go.IntKind.i64 (-1 : Int)) []) ∧
          (¬a < b → (b < a → CmpR a b (Go.Value.int Go.IntKind.i64 (1 : Int)) []) ∧ (¬b < a → CmpR a b (Go.Value.int Go.IntKind.i64 (0 : Int)) [])))) := by
  refine ⟨fun h => absurd rfl h, fun _ => ⟨fun h => absurd rfl h, fun _ => ⟨fun h => ?_, fun h => ⟨fun h2 => ?_, fun h2 => ?_⟩⟩⟩⟩
  · simp [CmpR, cmpF, h]
  · simp [CmpR, cmpF, h, h2]
  · simp [CmpR, cmpF, h, h2]
theorem ci_vc (a b : Int) :
    (a ≠ a → (b ≠ b → CmpR a b (Go.Value.int Go.IntKind.i64 (0 : Int)) []) ∧ (¬b ≠ b → CmpR a b (Go.Value.int Go.IntKind.i64 (-1 : Int)) [])) ∧
  (¬a ≠ a →
    (b ≠ b → CmpR a b (Go.Value.int Go.IntKind.i64 (1 : Int)) []) ∧
      (¬b ≠ b →
        (a < b → CmpR a b (Go.Value.int Go.IntKind.i64 (-1 : Int)) []) ∧
          (¬a < b → (b < a → CmpR a b (Go.Value.int Go.IntKind.i64 (1 : Int)) []) ∧ (¬b < a → CmpR a b (Go.Value.int Go.IntKind.i64 (0 : Int)) [])))) := by
  refine ⟨fun h => absurd rfl h, fun _ => ⟨fun h => absurd rfl h, fun _ => ⟨fun h => ?_, fun h => ⟨fun h2 => ?_, fun h2 => ?_⟩⟩⟩⟩
  · simp [CmpR, cmpF, h]
  · simp [CmpR, cmpF, h, h2]
  · simp [CmpR, cmpF, h, h2]
theorem mixed : Go.Proofs.Try.prog.follows .mixedOrders = true := by kernel_rfl
def plainNames (l : List Func) : Bool := l.all fun fn => !(fn.name == "runtime.NumGoroutine")
theorem plain_names : plainNames Go.Proofs.Try.prog.funcs.toList = true := by kernel_rfl
theorem no_numG (f : FuncId) (fn : Func) (h : Go.Proofs.Try.prog.funcs[f]? = some fn) : (fn.name == "runtime.NumGoroutine") = false := by
  have h1 := plain_names
  unfold plainNames at h1
  rw [List.all_eq_true] at h1
  have := h1 fn (by rw [← Array.getElem?_toList] at h; exact List.mem_of_getElem? h)
  simpa using this
theorem findT_sound {P : Program} : ∀ {l : List (FuncId × Trans)}, (∀ p ∈ l, SoundT P p.1 p.2) → ∀ g T, findT l g = some T → SoundT P g T
  | [], _, _, _, h => by cases h
  | (f, T0) :: r, hl, g, T, h => by
    simp only [findT] at h
    cases hb : Nat.beq f g with
    | true =>
      rw [hb] at h
      have := Nat.eq_of_beq_eq_true hb
      subst this
      cases h
      exact hl (f, T0) (by simp)
    | false =>
      rw [hb] at h
      exact findT_sound (fun p hp => hl p (by simp [hp])) g T h
theorem run_with {l : List (FuncId × Trans)} (hl : ∀ p ∈ l, SoundT Go.Proofs.Try.prog p.1 p.2) (ann : List (Nat × FnAnn)) (hs : Hints) (d : Nat) (path : List Nat) (g : FuncId) : SoundT Go.Proofs.Try.prog g (xrun Go.Proofs.Try.prog l ann hs d path g) :=
  xrun_sound mixed no_numG (findT_sound hl) d path g
theorem no_contracts : ∀ p ∈ ([] : List (FuncId × Trans)), SoundT Go.Proofs.Try.prog p.1 p.2 := by simp
theorem enters113 : Enters Go.Proofs.Try.prog 113 := ⟨Go.Proofs.Try.f113, Go.Proofs.Try.func113, by kernel_rfl, by kernel_rfl⟩
theorem enters114 : Enters Go.Proofs.Try.prog 114 := ⟨Go.Proofs.Try.f114, Go.Proofs.Try.func114, by kernel_rfl, by kernel_rfl⟩
theorem enters110 : Enters Go.Proofs.Try.prog 110 := ⟨Go.Proofs.Try.f110, Go.Proofs.Try.func110, by kernel_rfl, by kernel_rfl⟩
theorem cu_eq (a b : Int) : cuGoal a b = (
    (a ≠ a → (b ≠ b → CmpR a b (Go.Value.int Go.IntKind.i64 (0 : Int)) []) ∧ (¬b ≠ b → CmpR a b (Go.Value.int Go.IntKind.i64 (-1 : Int)) [])) ∧
  (¬a ≠ a →
    (b ≠ b → CmpR a b (Go.Value.int Go.IntKind.i64 (1 : Int)) []) ∧
      (¬b ≠ b →
        (a < b → CmpR a b (Go.Value.int Go.IntKind.i64 (-1 : Int)) []) ∧
          (¬a < b → (b < a → CmpR a b (Go.Value.int Go.IntKind.i64 (1 : Int)) []) ∧ (¬b < a → CmpR a b (Go.Value.int Go.IntKind.i64 (0 : Int)) []))))) := by kernel_rfl
theorem cu_goal (a b : Int) : cuGoal a b := by
  rw [cu_eq]
  exact cu_vc a b
theorem ci_eq (a b : Int) : ciGoal a b = (
    (a ≠ a → (b ≠ b → CmpR a b (Go.Value.int Go.IntKind.i64 (0 : Int)) []) ∧ (¬b ≠ b → CmpR a b (Go.Value.int Go.IntKind.i64 (-1 : Int)) [])) ∧
  (¬a ≠ a →
    (b ≠ b → CmpR a b (Go.Value.int Go.IntKind.i64 (1 : Int)) []) ∧
      (¬b ≠ b →
        (a < b → CmpR a b (Go.Value.int Go.IntKind.i64 (-1 : Int)) []) ∧
          (¬a < b → (b < a → CmpR a b (Go.Value.int Go.IntKind.i64 (1 : Int)) []) ∧ (¬b < a → CmpR a b (Go.Value.int Go.IntKind.i64 (0 : Int)) []))))) := by kernel_rfl
theorem ci_goal (a b : Int) : ciGoal a b := by
  rw [ci_eq]
  exact ci_vc a b
theorem cu_triple (a b : Int) : Triple Go.Proofs.Try.prog 113 [.int .u64 a, .int .u64 b] [] (CmpR a b) :=
  triple_of_run (h := []) (args := [.val (.int .u64 a), .val (.int .u64 b)]) (run_with no_contracts _ _ _ _ _) (fun r => rfl) (fun r => rfl) (by simp) (cu_goal a b)
theorem ci_triple (a b : Int) : Triple Go.Proofs.Try.prog 114 [.int .i64 a, .int .i64 b] [] (CmpR a b) :=
  triple_of_run (h := []) (args := [.val (.int .i64 a), .val (.int .i64 b)]) (run_with no_contracts _ _ _ _ _) (fun r => rfl) (fun r => rfl) (by simp) (ci_goal a b)
theorem cu_sound : SoundT Go.Proofs.Try.prog 113 (cmpT .u64) := cmpT_sound enters113 cu_triple
theorem ci_sound : SoundT Go.Proofs.Try.prog 114 (cmpT .i64) := cmpT_sound enters114 ci_triple

theorem cmpF_lt {a b : Int} : cmpF a b < 0 ↔ a < b := by
  unfold cmpF
  split
  · omega
  · split <;> omega
theorem cmpF_zero {a b : Int} : cmpF a b = 0 ↔ a = b := by
  unfold cmpF
  split
  · omega
  · split <;> omega
theorem ls_vc (b1 base len cap i j : Nat) (xs ys : List Int) (hi : i < len) (hj : j < len) (hlc : len ≤ cap) :
    ((0 : Int) ≤ (↑i : Int) ∧ (↑i : Int) < (↑len : Int)) ∧
  (0 : Nat) + i < cap ∧
    ((0 : Int) ≤ (↑j : Int) ∧ (↑j : Int) < (↑len : Int)) ∧
      (0 : Nat) + j < cap ∧
        ((0 : Int) ≤ (↑i : Int) ∧ (↑i : Int) < (↑len : Int)) ∧
          (0 : Nat) + i < cap ∧
            ((0 : Int) ≤ (↑j : Int) ∧ (↑j : Int) < (↑len : Int)) ∧
              (0 : Nat) + j < cap ∧
                ((0 : Nat) + j < cap ∧
                    Go.Sx.SV.val (Go.Value.int Go.IntKind.i64 (List.getD ys ((0 : Nat) + j) (0 : Int))) = Go.Sx.SV.val (Go.Value.int Go.IntKind.i64 (List.getD ys ((0 : Nat) + j) (0 : Int)))) ∧
                  (((0 : Int) ≤ (↑j : Int) ∧ (↑j : Int) < (↑len : Int)) ∧ Go.Sx.SV.ptr (0 : Nat) ((0 : Nat) + j) (0 : Nat) = Go.Sx.SV.ptr (0 : Nat) ((0 : Nat) + j) (0 : Nat)) ∧
                    ((0 : Nat) + i < cap ∧
                        Go.Sx.SV.val (Go.Value.int Go.IntKind.i64 (List.getD ys ((0 : Nat) + i) (0 : Int))) = Go.Sx.SV.val (Go.Value.int Go.IntKind.i64 (List.getD ys ((0 : Nat) + i) (0 : Int)))) ∧
                      (((0 : Int) ≤ (↑i : Int) ∧ (↑i : Int) < (↑len : Int)) ∧ Go.Sx.SV.ptr (0 : Nat) ((0 : Nat) + i) (0 : Nat) = Go.Sx.SV.ptr (0 : Nat) ((0 : Nat) + i) (0 : Nat)) ∧
                        ∀ (b : Nat),
                          ∃ (x0 : Nat),
                            ((((0 : Int) = (0 : Int) ∧
                                      (0 : Int) = (0 : Int) ∧ ((0 : Nat) = (0 : Nat) ∧ (2 : Nat) = (2 : Nat) ∧ (2 : Nat) = (2 : Nat)) ∧ (↑(2 : Nat) : Int) = (↑(2 : Nat) : Int) ∧ True) ∧
                                    (b1 = b1 ∧ base = base ∧ cap = cap ∧ xs = xs ∧ ys = ys ∧ True) ∧
                                      (b = b ∧
                                          cmpF (List.getD xs ((0 : Nat) + i) (0 : Int)) (List.getD xs ((0 : Nat) + j) (0 : Int)) =
                                              cmpF (List.getD xs ((0 : Nat) + i) (0 : Int)) (List.getD xs ((0 : Nat) + j) (0 : Int)) ∧
                                            cmpF (List.getD ys ((0 : Nat) + i) (0 : Int)) (List.getD ys ((0 : Nat) + j) (0 : Int)) =
                                                cmpF (List.getD ys ((0 : Nat) + i) (0 : Int)) (List.getD ys ((0 : Nat) + j) (0 : Int)) ∧
                                              True) ∧
                                        True) ∧
                                  x0 = (0 : Nat) ∨
                                (((0 : Int) = (1 : Int) ∧
                                        (0 : Int) = (0 : Int) ∧ ((0 : Nat) = (0 : Nat) ∧ (2 : Nat) = (2 : Nat) ∧ (2 : Nat) = (2 : Nat)) ∧ (↑(2 : Nat) : Int) = (↑(2 : Nat) : Int) ∧ True) ∧
                                      (b1 = b1 ∧ base = base ∧ cap = cap ∧ xs = xs ∧ ys = ys ∧ True) ∧
                                        (b = b ∧
                                            cmpF (List.getD xs ((0 : Nat) + i) (0 : Int)) (List.getD xs ((0 : Nat) + j) (0 : Int)) =
                                                cmpF (List.getD xs ((0 : Nat) + i) (0 : Int)) (List.getD xs ((0 : Nat) + j) (0 : Int)) ∧
                                              cmpF (List.getD ys ((0 : Nat) + i) (0 : Int)) (List.getD ys ((0 : Nat) + j) (0 : Int)) =
                                                  cmpF (List.getD ys ((0 : Nat) + i) (0 : Int)) (List.getD ys ((0 : Nat) + j) (0 : Int)) ∧
                                                True) ∧
                                          True) ∧
                                    x0 = (1 : Nat) ∧ cmpF (List.getD xs i (0 : Int)) (List.getD xs j (0 : Int)) = (0 : Int) ∨
                                  (((0 : Int) = (2 : Int) ∧
                                        (0 : Int) = (0 : Int) ∧ ((0 : Nat) = (0 : Nat) ∧ (2 : Nat) = (2 : Nat) ∧ (2 : Nat) = (2 : Nat)) ∧ (↑(2 : Nat) : Int) = (↑(2 : Nat) : Int) ∧ True) ∧
                                      (b1 = b1 ∧ base = base ∧ cap = cap ∧ xs = xs ∧ ys = ys ∧ True) ∧
                                        (b = b ∧
                                            cmpF (List.getD xs ((0 : Nat) + i) (0 : Int)) (List.getD xs ((0 : Nat) + j) (0 : Int)) =
                                                cmpF (List.getD xs ((0 : Nat) + i) (0 : Int)) (List.getD xs ((0 : Nat) + j) (0 : Int)) ∧
                                              cmpF (List.getD ys ((0 : Nat) + i) (0 : Int)) (List.getD ys ((0 : Nat) + j) (0 : Int)) =
                                                  cmpF (List.getD ys ((0 : Nat) + i) (0 : Int)) (List.getD ys ((0 : Nat) + j) (0 : Int)) ∧
                                                True) ∧
                                          True) ∧
                                    x0 = (2 : Nat) ∧
                                      cmpF (List.getD xs i (0 : Int)) (List.getD xs j (0 : Int)) = (0 : Int) ∧
                                        cmpF (List.getD ys i (0 : Int)) (List.getD ys j (0 : Int)) = (0 : Int)) ∧
                              (∀ (x : Nat),
                                  x = (0 : Nat) →
                                    ((0 : Int) < (↑(2 : Nat) : Int) →
                                        ((0 : Int) ≤ (0 : Int) ∧ (0 : Int) < (↑(2 : Nat) : Int)) ∧
                                          (cmpF (List.getD xs ((0 : Nat) + i) (0 : Int)) (List.getD xs ((0 : Nat) + j) (0 : Int)) ≠ (0 : Int) →
                                              (cmpF (List.getD xs ((0 : Nat) + i) (0 : Int)) (List.getD xs ((0 : Nat) + j) (0 : Int)) < (0 : Int) ↔
                                                  rlt (List.getD xs i (0 : Int), List.getD ys i (0 : Int)) (List.getD xs j (0 : Int), List.getD ys j (0 : Int))) ∧
                                                LsH b1 base cap xs ys
                                                  [(b1, Go.Sx.Blk.tab (150 : Go.TypeId) base cap [Go.Sx.Col.ints Go.IntKind.u64 xs, Go.Sx.Col.ints Go.IntKind.i64 ys]),
                                                    (b,
                                                      Go.Sx.Blk.cells
                                                        [Go.Value.int Go.IntKind.i64
                                                            (cmpF (List.getD xs ((0 : Nat) + i) (0 : Int)) (List.getD xs ((0 : Nat) + j) (0 : Int))),
                                                          Go.Value.int Go.IntKind.i64
                                                            (cmpF (List.getD ys ((0 : Nat) + i) (0 : Int)) (List.getD ys ((0 : Nat) + j) (0 : Int)))]
                                                        (3 : Nat))]) ∧
                                            (¬cmpF (List.getD xs ((0 : Nat) + i) (0 : Int)) (List.getD xs ((0 : Nat) + j) (0 : Int)) ≠ (0 : Int) →
                                              ∃ (y : Nat),
                                                (2 : Nat) - y < (2 : Nat) - x ∧
                                                  (((Go.IntKind.wrap Go.IntKind.i64 ((0 : Int) + (1 : Int)) = (0 : Int) ∧
                                                          (0 : Int) = (0 : Int) ∧
                                                            ((0 : Nat) = (0 : Nat) ∧ (2 : Nat) = (2 : Nat) ∧ (2 : Nat) = (2 : Nat)) ∧ (↑(2 : Nat) : Int) = (↑(2 : Nat) : Int) ∧ True) ∧
                                                        (b1 = b1 ∧ base = base ∧ cap = cap ∧ xs = xs ∧ ys = ys ∧ True) ∧
                                                          (b = b ∧
                                                              cmpF (List.getD xs ((0 : Nat) + i) (0 : Int)) (List.getD xs ((0 : Nat) + j) (0 : Int)) =
                                                                  cmpF (List.getD xs ((0 : Nat) + i) (0 : Int)) (List.getD xs ((0 : Nat) + j) (0 : Int)) ∧
                                                                cmpF (List.getD ys ((0 : Nat) + i) (0 : Int)) (List.getD ys ((0 : Nat) + j) (0 : Int)) =
                                                                    cmpF (List.getD ys ((0 : Nat) + i) (0 : Int)) (List.getD ys ((0 : Nat) + j) (0 : Int)) ∧
                                                                  True) ∧
                                                            True) ∧
                                                      y = (0 : Nat) ∨
                                                    ((Go.IntKind.wrap Go.IntKind.i64 ((0 : Int) + (1 : Int)) = (1 : Int) ∧
                                                            (0 : Int) = (0 : Int) ∧
                                                              ((0 : Nat) = (0 : Nat) ∧ (2 : Nat) = (2 : Nat) ∧ (2 : Nat) = (2 : Nat)) ∧ (↑(2 : Nat) : Int) = (↑(2 : Nat) : Int) ∧ True) ∧
                                                          (b1 = b1 ∧ base = base ∧ cap = cap ∧ xs = xs ∧ ys = ys ∧ True) ∧
                                                            (b = b ∧
                                                                cmpF (List.getD xs ((0 : Nat) + i) (0 : Int)) (List.getD xs ((0 : Nat) + j) (0 : Int)) =
                                                                    cmpF (List.getD xs ((0 : Nat) + i) (0 : Int)) (List.getD xs ((0 : Nat) + j) (0 : Int)) ∧
                                                                  cmpF (List.getD ys ((0 : Nat) + i) (0 : Int)) (List.getD ys ((0 : Nat) + j) (0 : Int)) =
                                                                      cmpF (List.getD ys ((0 : Nat) + i) (0 : Int)) (List.getD ys ((0 : Nat) + j) (0 : Int)) ∧
                                                                    True) ∧
                                                              True) ∧
                                                        y = (1 : Nat) ∧ cmpF (List.getD xs i (0 : Int)) (List.getD xs j (0 : Int)) = (0 : Int) ∨
                                                      ((Go.IntKind.wrap Go.IntKind.i64 ((0 : Int) + (1 : Int)) = (2 : Int) ∧
                                                            (0 : Int) = (0 : Int) ∧
                                                              ((0 : Nat) = (0 : Nat) ∧ (2 : Nat) = (2 : Nat) ∧ (2 : Nat) = (2 : Nat)) ∧ (↑(2 : Nat) : Int) = (↑(2 : Nat) : Int) ∧ True) ∧
                                                          (b1 = b1 ∧ base = base ∧ cap = cap ∧ xs = xs ∧ ys = ys ∧ True) ∧
                                                            (b = b ∧
                                                                cmpF (List.getD xs ((0 : Nat) + i) (0 : Int)) (List.getD xs ((0 : Nat) + j) (0 : Int)) =
                                                                    cmpF (List.getD xs ((0 : Nat) + i) (0 : Int)) (List.getD xs ((0 : Nat) + j) (0 : Int)) ∧
                                                                  cmpF (List.getD ys ((0 : Nat) + i) (0 : Int)) (List.getD ys ((0 : Nat) + j) (0 : Int)) =
                                                                      cmpF (List.getD ys ((0 : Nat) + i) (0 : Int)) (List.getD ys ((0 : Nat) + j) (0 : Int)) ∧
                                                                    True) ∧
                                                              True) ∧
                                                        y = (2 : Nat) ∧
                                                          cmpF (List.getD xs i (0 : Int)) (List.getD xs j (0 : Int)) = (0 : Int) ∧
                                                            cmpF (List.getD ys i (0 : Int)) (List.getD ys j (0 : Int)) = (0 : Int)))) ∧
                                      (¬(0 : Int) < (↑(2 : Nat) : Int) →
                                        ((0 : Int) < (0 : Int) ↔
                                            rlt (List.getD xs i (0 : Int), List.getD ys i (0 : Int)) (List.getD xs j (0 : Int), List.getD ys j (0 : Int))) ∧
                                          LsH b1 base cap xs ys
                                            [(b1, Go.Sx.Blk.tab (150 : Go.TypeId) base cap [Go.Sx.Col.ints Go.IntKind.u64 xs, Go.Sx.Col.ints Go.IntKind.i64 ys]),
                                              (b,
                                                Go.Sx.Blk.cells
                                                  [Go.Value.int Go.IntKind.i64 (cmpF (List.getD xs ((0 : Nat) + i) (0 : Int)) (List.getD xs ((0 : Nat) + j) (0 : Int))),
                                                    Go.Value.int Go.IntKind.i64 (cmpF (List.getD ys ((0 : Nat) + i) (0 : Int)) (List.getD ys ((0 : Nat) + j) (0 : Int)))]
                                                  (3 : Nat))])) ∧
                                (∀ (x : Nat),
                                    x = (1 : Nat) ∧ cmpF (List.getD xs i (0 : Int)) (List.getD xs j (0 : Int)) = (0 : Int) →
                                      ((1 : Int) < (↑(2 : Nat) : Int) →
                                          ((0 : Int) ≤ (1 : Int) ∧ (1 : Int) < (↑(2 : Nat) : Int)) ∧
                                            (cmpF (List.getD ys ((0 : Nat) + i) (0 : Int)) (List.getD ys ((0 : Nat) + j) (0 : Int)) ≠ (0 : Int) →
                                                (cmpF (List.getD ys ((0 : Nat) + i) (0 : Int)) (List.getD ys ((0 : Nat) + j) (0 : Int)) < (0 : Int) ↔
                                                    rlt (List.getD xs i (0 : Int), List.getD ys i (0 : Int)) (List.getD xs j (0 : Int), List.getD ys j (0 : Int))) ∧
                                                  LsH b1 base cap xs ys
                                                    [(b1, Go.Sx.Blk.tab (150 : Go.TypeId) base cap [Go.Sx.Col.ints Go.IntKind.u64 xs, Go.Sx.Col.ints Go.IntKind.i64 ys]),
                                                      (b,
                                                        Go.Sx.Blk.cells
                                                          [Go.Value.int Go.IntKind.i64
                                                              (cmpF (List.getD xs ((0 : Nat) + i) (0 : Int)) (List.getD xs ((0 : Nat) + j) (0 : Int))),
                                                            Go.Value.int Go.IntKind.i64
                                                              (cmpF (List.getD ys ((0 : Nat) + i) (0 : Int)) (List.getD ys ((0 : Nat) + j) (0 : Int)))]
                                                          (3 : Nat))]) ∧
                                              (¬cmpF (List.getD ys ((0 : Nat) + i) (0 : Int)) (List.getD ys ((0 : Nat) + j) (0 : Int)) ≠ (0 : Int) →
                                                ∃ (y : Nat),
                                                  (2 : Nat) - y < (2 : Nat) - x ∧
                                                    (((Go.IntKind.wrap Go.IntKind.i64 ((1 : Int) + (1 : Int)) = (0 : Int) ∧
                                                            (0 : Int) = (0 : Int) ∧
                                                              ((0 : Nat) = (0 : Nat) ∧ (2 : Nat) = (2 : Nat) ∧ (2 : Nat) = (2 : Nat)) ∧ (↑(2 : Nat) : Int) = (↑(2 : Nat) : Int) ∧ True) ∧
                                                          (b1 = b1 ∧ base = base ∧ cap = cap ∧ xs = xs ∧ ys = ys ∧ True) ∧
                                                            (b = b ∧
                                                                cmpF (List.getD xs ((0 : Nat) + i) (0 : Int)) (List.getD xs ((0 : Nat) + j) (0 : Int)) =
                                                                    cmpF (List.getD xs ((0 : Nat) + i) (0 : Int)) (List.getD xs ((0 : Nat) + j) (0 : Int)) ∧
                                                                  cmpF (List.getD ys ((0 : Nat) + i) (0 : Int)) (List.getD ys ((0 : Nat) + j) (0 : Int)) =
                                                                      cmpF (List.getD ys ((0 : Nat) + i) (0 : Int)) (List.getD ys ((0 : Nat) + j) (0 : Int)) ∧
                                                                    True) ∧
                                                              True) ∧
                                                        y = (0 : Nat) ∨
                                                      ((Go.IntKind.wrap Go.IntKind.i64 ((1 : Int) + (1 : Int)) = (1 : Int) ∧
                                                              (0 : Int) = (0 : Int) ∧
                                                                ((0 : Nat) = (0 : Nat) ∧ (2 : Nat) = (2 : Nat) ∧ (2 : Nat) = (2 : Nat)) ∧ (↑(2 : Nat) : Int) = (↑(2 : Nat) : Int) ∧ True) ∧
                                                            (b1 = b1 ∧ base = base ∧ cap = cap ∧ xs = xs ∧ ys = ys ∧ True) ∧
                                                              (b = b ∧
                                                                  cmpF (List.getD xs ((0 : Nat) + i) (0 : Int)) (List.getD xs ((0 : Nat) + j) (0 : Int)) =
                                                                      cmpF (List.getD xs ((0 : Nat) + i) (0 : Int)) (List.getD xs ((0 : Nat) + j) (0 : Int)) ∧
                                                                    cmpF (List.getD ys ((0 : Nat) + i) (0 : Int)) (List.getD ys ((0 : Nat) + j) (0 : Int)) =
                                                                        cmpF (List.getD ys ((0 : Nat) + i) (0 : Int)) (List.getD ys ((0 : Nat) + j) (0 : Int)) ∧
                                                                      True) ∧
                                                                True) ∧
                                                          y = (1 : Nat) ∧ cmpF (List.getD xs i (0 : Int)) (List.getD xs j (0 : Int)) = (0 : Int) ∨
                                                        ((Go.IntKind.wrap Go.IntKind.i64 ((1 : Int) + (1 : Int)) = (2 : Int) ∧
                                                              (0 : Int) = (0 : Int) ∧
                                                                ((0 : Nat) = (0 : Nat) ∧ (2 : Nat) = (2 : Nat) ∧ (2 : Nat) = (2 : Nat)) ∧ (↑(2 : Nat) : Int) = (↑(2 : Nat) : Int) ∧ True) ∧
                                                            (b1 = b1 ∧ base = base ∧ cap = cap ∧ xs = xs ∧ ys = ys ∧ True) ∧
                                                              (b = b ∧
                                                                  cmpF (List.getD xs ((0 : Nat) + i) (0 : Int)) (List.getD xs ((0 : Nat) + j) (0 : Int)) =
                                                                      cmpF (List.getD xs ((0 : Nat) + i) (0 : Int)) (List.getD xs ((0 : Nat) + j) (0 : Int)) ∧
                                                                    cmpF (List.getD ys ((0 : Nat) + i) (0 : Int)) (List.getD ys ((0 : Nat) + j) (0 : Int)) =
                                                                        cmpF (List.getD ys ((0 : Nat) + i) (0 : Int)) (List.getD ys ((0 : Nat) + j) (0 : Int)) ∧
                                                                      True) ∧
                                                                True) ∧
                                                          y = (2 : Nat) ∧
                                                            cmpF (List.getD xs i (0 : Int)) (List.getD xs j (0 : Int)) = (0 : Int) ∧
                                                              cmpF (List.getD ys i (0 : Int)) (List.getD ys j (0 : Int)) = (0 : Int)))) ∧
                                        (¬(1 : Int) < (↑(2 : Nat) : Int) →
                                          ((0 : Int) < (0 : Int) ↔
                                              rlt (List.getD xs i (0 : Int), List.getD ys i (0 : Int)) (List.getD xs j (0 : Int), List.getD ys j (0 : Int))) ∧
                                            LsH b1 base cap xs ys
                                              [(b1, Go.Sx.Blk.tab (150 : Go.TypeId) base cap [Go.Sx.Col.ints Go.IntKind.u64 xs, Go.Sx.Col.ints Go.IntKind.i64 ys]),
                                                (b,
                                                  Go.Sx.Blk.cells
                                                    [Go.Value.int Go.IntKind.i64 (cmpF (List.getD xs ((0 : Nat) + i) (0 : Int)) (List.getD xs ((0 : Nat) + j) (0 : Int))),
                                                      Go.Value.int Go.IntKind.i64 (cmpF (List.getD ys ((0 : Nat) + i) (0 : Int)) (List.getD ys ((0 : Nat) + j) (0 : Int)))]
                                                    (3 : Nat))])) ∧
                                  ∀ (x : Nat),
                                    x = (2 : Nat) ∧
                                        cmpF (List.getD xs i (0 : Int)) (List.getD xs j (0 : Int)) = (0 : Int) ∧
                                          cmpF (List.getD ys i (0 : Int)) (List.getD ys j (0 : Int)) = (0 : Int) →
                                      ((2 : Int) < (↑(2 : Nat) : Int) → ((0 : Int) ≤ (2 : Int) ∧ (2 : Int) < (↑(2 : Nat) : Int)) ∧ False) ∧
                                        (¬(2 : Int) < (↑(2 : Nat) : Int) →
                                          ((0 : Int) < (0 : Int) ↔
                                              rlt (List.getD xs i (0 : Int), List.getD ys i (0 : Int)) (List.getD xs j (0 : Int), List.getD ys j (0 : Int))) ∧
                                            LsH b1 base cap xs ys
                                              [(b1, Go.Sx.Blk.tab (150 : Go.TypeId) base cap [Go.Sx.Col.ints Go.IntKind.u64 xs, Go.Sx.Col.ints Go.IntKind.i64 ys]),
                                                (b,
                                                  Go.Sx.Blk.cells
                                                    [Go.Value.int Go.IntKind.i64 (cmpF (List.getD xs ((0 : Nat) + i) (0 : Int)) (List.getD xs ((0 : Nat) + j) (0 : Int))),
                                                      Go.Value.int Go.IntKind.i64 (cmpF (List.getD ys ((0 : Nat) + i) (0 : Int)) (List.getD ys ((0 : Nat) + j) (0 : Int)))]
                                                    (3 : Nat))]) := by
  simp only [Nat.zero_add]
  have e1 := @cmpF_lt (xs.getD i 0) (xs.getD j 0)
  have e2 := @cmpF_zero (xs.getD i 0) (xs.getD j 0)
  have e3 := @cmpF_lt (ys.getD i 0) (ys.getD j 0)
  have e4 := @cmpF_zero (ys.getD i 0) (ys.getD j 0)
  unfold rlt
  simp only
  generalize cmpF (xs.getD i 0) (xs.getD j 0) = A at *
  generalize cmpF (ys.getD i 0) (ys.getD j 0) = B at *
  generalize xs.getD i 0 = xi at *
  generalize xs.getD j 0 = xj at *
  have w1 : IntKind.wrap .i64 ((0 : Int) + 1) = 1 := by decide
  have w2 : IntKind.wrap .i64 ((1 : Int) + 1) = 2 := by decide
  refine ⟨⟨by omega, by omega⟩, by omega, ⟨by omega, by omega⟩, by omega, ⟨by omega, by omega⟩, by omega, ⟨by omega, by omega⟩, by omega, ⟨by omega, by trivial⟩, ⟨⟨by omega, by omega⟩, by trivial⟩, ⟨by omega, by trivial⟩, ⟨⟨by omega, by omega⟩, by trivial⟩, fun b => ?_⟩
  refine ⟨0, .inl ⟨by simp, rfl⟩, fun x hx => ⟨fun _ => ⟨⟨by first | trivial | decide, by first | trivial | decide⟩, fun h => ⟨?_, _, rfl⟩, fun h => ⟨1, by omega, .inr (.inl ⟨?_, rfl, Decidable.not_not.1 h⟩)⟩⟩, fun h => absurd (by decide) h⟩,
    fun x hx => ⟨fun _ => ⟨⟨by first | trivial | decide, by first | trivial | decide⟩, fun h => ⟨?_, _, rfl⟩, fun h => ⟨2, by omega, .inr (.inr ⟨?_, rfl, hx.2, Decidable.not_not.1 h⟩)⟩⟩, fun h => absurd (by decide) h⟩,
    fun x hx => ⟨fun h => absurd h (by decide), fun h => ⟨?_, _, rfl⟩⟩⟩
  · constructor
    · intro h2; exact .inl (e1.1 h2)
    · rintro (h2 | h2)
      · exact e1.2 h2
      · exact absurd (e2.2 h2.1) h
  · simp; decide
  · have := e2.1 hx.2
    rw [e3]
    constructor
    · intro h2; exact .inr ⟨this, h2⟩
    · rintro (h2 | h2)
      · omega
      · exact h2.2
  · simp; decide
  · have h1 := e2.1 hx.2.1
    have h2 := e4.1 hx.2.2
    constructor
    · intro h3; omega
    · rintro (h3 | h3)
      · omega
      · omega
theorem less_run (b1 base len cap i j : Nat) (xs ys : List Int) (hi : i < len) (hj : j < len) (hlc : len ≤ cap) : lsGoal b1 base len cap i j xs ys := Eq.mpr (by kernel_rfl) (ls_vc b1 base len cap i j xs ys hi hj hlc)
theorem cmps_sound : ∀ p ∈ [(113, cmpT .u64), (114, cmpT .i64)], SoundT Go.Proofs.Try.prog p.1 p.2 := by
  intro p hp
  simp only [List.mem_cons, List.not_mem_nil, or_false] at hp
  rcases hp with rfl | rfl
  · exact cu_sound
  · exact ci_sound
end Go.Proofs.Ythkcfocoekonjaa
