/- Timers: the contract of Less. -/
import Derived.Test.YthkcfocoekonjaaTmC
set_option maxRecDepth 100000
set_option linter.unusedVariables false
set_option linter.unusedSimpArgs false
namespace Go.Proofs.Ythkcfocoekonjaa
open Go Go.Sx
attribute [local irreducible] Go.Sx.xrun

noncomputable def lessT : Trans := fun args h K => match args with
  | [.slc q 0 len cap, .val (.int .i64 i), .val (.int .i64 j)] => (match entAt h q with
    | some (.own b1 (.tab 150 base N [.ints .u64 xs, .ints .i64 ys])) => (0 ≤ i ∧ i < len ∧ 0 ≤ j ∧ j < len ∧ len ≤ cap ∧ N = cap) ∧
        K (.prop (rlt (gq (zipR len xs ys) i.toNat) (gq (zipR len xs ys) j.toNat))) h
    | _ => False)
  | _ => False

theorem gq_zip {len : Nat} {xs ys : List Int} (hx : len ≤ xs.length) (hy : len ≤ ys.length) {i : Nat} (hi : i < len) : gq (zipR len xs ys) i = (xs.getD i 0, ys.getD i 0) := by
  unfold gq zipR
  simp only [List.getD]
  have e : ((xs.take len).zip (ys.take len))[i]? = some (xs[i]'(by omega), ys[i]'(by omega)) :=
    List.getElem?_zip_eq_some.2 ⟨by rw [List.getElem?_take, if_pos hi, List.getElem?_eq_getElem], by rw [List.getElem?_take, if_pos hi, List.getElem?_eq_getElem]⟩
  rw [e]
  rw [List.getElem?_eq_getElem (show i < xs.length by omega), List.getElem?_eq_getElem (show i < ys.length by omega)]
  rfl

open Classical in
theorem lessT_sound : SoundT Go.Proofs.Try.prog 110 lessT := by
  intro F h w args vs K c ha hx
  refine ⟨enters110, ?_⟩
  unfold lessT at hx
  split at hx
  · rename_i q len cap i j
    split at hx
    · rename_i b1 base N xs ys heq
      obtain ⟨⟨i0, il, j0, jl, hlc, rfl⟩, hx⟩ := hx
      obtain ⟨⟨ob, hob, hk⟩, hloc2⟩ := c.blk heq rfl
      obtain ⟨arr, lo, hi, -, g1, -, -⟩ := hk []
      have hxl : xs.length = N := (g1 (.ints .u64 xs) (by simp)).1
      have hyl : ys.length = N := (g1 (.ints .i64 ys) (by simp)).1
      obtain ⟨i, rfl⟩ := Int.eq_ofNat_of_zero_le i0
      obtain ⟨j, rfl⟩ := Int.eq_ofNat_of_zero_le j0
      have hi' : i < len := by omega
      have hj' : j < len := by omega
      have hvs : vs = [.slice (some ⟨b1, base * 2, none⟩) len N, .int .i64 (i : Int), .int .i64 (j : Int)] := by
        have := ha []
        rw [List.append_nil] at this
        rw [← this]
        have e1 := hloc2 []
        rw [List.append_nil] at e1
        simp only [denL, den, e1, SBlk.base, SBlk.wd, List.length_cons, List.length_nil, Nat.add_zero, Nat.zero_add]
      rw [hvs]
      have ht : Triple Go.Proofs.Try.prog 110 [.slice (some ⟨b1, base * 2, none⟩) len N, .int .i64 (i : Int), .int .i64 (j : Int)] [(b1, .tab 150 base N [.ints .u64 xs, .ints .i64 ys])]
          fun v L' => v = .bool (decide (rlt (xs.getD i 0, ys.getD i 0) (xs.getD j 0, ys.getD j 0))) ∧ ∃ G, L' = (b1, .tab 150 base N [.ints .u64 xs, .ints .i64 ys]) :: G := by
        refine triple_of_runK (h := [.own b1 (.tab 150 base N [.ints .u64 xs, .ints .i64 ys])]) (args := [.slc 0 0 len N, .val (.int .i64 (i : Int)), .val (.int .i64 (j : Int))]) (run_with cmps_sound _ _ _ _ _) (fun r => rfl) (fun r => rfl) (by simp) (less_run b1 base len N i j xs ys hi' hj' hlc) ?_
        intro s h' hk
        obtain ⟨p, ⟨h1, G, h2⟩, h3⟩ := bOf_spec hk (locs h')
        exact ⟨by rw [h3]; simp only [h1], G, h2⟩
      refine frame_many (G := []) c [(q, .own b1 (.tab 150 base N [.ints .u64 xs, .ints .i64 ys]))] (by simp [heq]) (by simp) (L := [(b1, .tab 150 base N [.ints .u64 xs, .ints .i64 ys])]) (by simp [blksOf, Ent.blocks, SBlk.den]) ht fun v L' hr => ?_
      obtain ⟨rfl, G, rfl⟩ := hr
      rw [Int.toNat_natCast, Int.toNat_natCast, gq_zip (by omega) (by omega) hi', gq_zip (by omega) (by omega) hj'] at hx
      refine ⟨.prop (rlt (xs.getD i 0, ys.getD i 0) (xs.getD j 0, ys.getD j 0)), [(q, .own b1 (.tab 150 base N [.ints .u64 xs, .ints .i64 ys]))], [], G, ?_, rfl, ?_, fun r => ?_, by simp, by simp, fun r => rfl⟩
      · rw [put_self _ _ (by simp [heq]), List.append_nil]; exact hx
      · intro x hx'
        simp at hx'
        subst hx'
        exact ⟨_, heq, rfl⟩
      · simp [blksOf, Ent.blocks, owned, SBlk.den]
    · exact hx.elim
  · exact hx.elim
end Go.Proofs.Ythkcfocoekonjaa
