/- What every proof over this program uses. -/
import Derived.Test.YtpjikjhaljennaaSxRw
import Derived.Test.YtpjikjhaljennaaProg
set_option maxRecDepth 100000
set_option linter.unusedVariables false
set_option linter.unusedSimpArgs false
namespace Go.Proofs.Ytpjikjhaljennaa
open Go Go.Sx

theorem mixed : Go.Proofs.Try.prog.follows .mixedOrders = true := by kernel_rfl
def plainNames (l : List Func) : Bool := l.all fun fn => !(fn.name == "runtime.NumGoroutine")
theorem plain_names : plainNames Go.Proofs.Try.prog.funcs.toList = true := by kernel_rfl
theorem no_numG (f : FuncId) (fn : Func) (h : Go.Proofs.Try.prog.funcs[f]? = some fn) : (fn.name == "runtime.NumGoroutine") = false := by
  have h1 := plain_names
  unfold plainNames at h1
  rw [List.all_eq_true] at h1
  have := h1 fn (by rw [← Array.getElem?_toList] at h; exact List.mem_of_getElem? h)
  simpa using this
theorem findT_sound {P : Program} : ∀ {l : List (FuncId × Trans)}, (∀ p ∈ l, SoundT P p.1 p.2) → ∀ g T, findT l g = some T → SoundT P g T
  | [], _, _, _, h => by cases h
  | (f, T0) :: r, hl, g, T, h => by
    simp only [findT] at h
    cases hb : Nat.beq f g with
    | true =>
      rw [hb] at h
      have := Nat.eq_of_beq_eq_true hb
      subst this
      cases h
      exact hl (f, T0) (by simp)
    | false =>
      rw [hb] at h
      exact findT_sound (fun p hp => hl p (by simp [hp])) g T h
theorem run_with {l : List (FuncId × Trans)} (hl : ∀ p ∈ l, SoundT Go.Proofs.Try.prog p.1 p.2) (ann : List (Nat × FnAnn)) (hs : Hints) (d : Nat) (path : List Nat) (g : FuncId) : SoundT Go.Proofs.Try.prog g (xrun Go.Proofs.Try.prog l ann hs d path g) :=
  xrun_sound mixed no_numG (findT_sound hl) d path g
theorem no_contracts : ∀ p ∈ ([] : List (FuncId × Trans)), SoundT Go.Proofs.Try.prog p.1 p.2 := by simp
theorem locs_app' (h es : List Ent) : locs (h ++ es) = locs h ++ locs es := by simp [locs_eq]
theorem ix_succ {i n : Nat} (h : i < n) (hn : n < 1000000) : IntKind.wrap .i64 ((i : Int) + (1 : Int)) = ((i + 1 : Nat) : Int) := by rw [IntKind.wrap_i64]; omega
theorem perm_last2 {G : Blks} {p q : Nat × Blk} : (G ++ [p, q]).Perm (q :: (G ++ [p])) := by
  have : G ++ [p, q] = (G ++ [p]) ++ [q] := by simp
  rw [this]
  exact List.perm_append_comm (l₂ := [q])
theorem swp3 {A B C : Blks} : (A ++ (B ++ C)).Perm (B ++ (A ++ C)) := by
  rw [← List.append_assoc, ← List.append_assoc]
  exact List.perm_append_comm.append_right C
end Go.Proofs.Ytpjikjhaljennaa
