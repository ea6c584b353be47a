/- Span: first. -/
import Derived.Test.YthkcfocoekonjaaTmL


set_option maxRecDepth 100000
set_option linter.unusedVariables false
set_option linter.unusedSimpArgs false
namespace Go.Proofs.Ythkcfocoekonjaa
open Go Go.Sx
attribute [local irreducible] Go.Sx.xrun

noncomputable def fiGoal : Prop :=
  xrun Go.Proofs.Try.prog tblT [] [([], (17, true)), ([], (20, true)), ([], (25, true)), ([], (31, true)), ([], (36, true)), ([], (42, true))] 9 [] 27 [] [.chunk []] fun s h => bOf s fun p => p

theorem sorted_one {l l' : List Row} (hp : l.Perm l') (h : l.Pairwise rle) (h' : l'.Pairwise rle) : l = l' := by
  induction l generalizing l' with
  | nil => exact (List.Perm.nil_eq hp)
  | cons a l ih =>
    cases l' with
    | nil => exact absurd hp.length_eq (by simp)
    | cons b l' =>
      rw [List.pairwise_cons] at h h'
      have hab : a = b := by
        have h1 : a ∈ b :: l' := hp.mem_iff.1 (by simp)
        have h2 : b ∈ a :: l := hp.mem_iff.2 (by simp)
        rcases List.mem_cons.1 h1 with h1 | h1
        · exact h1
        · rcases List.mem_cons.1 h2 with h2 | h2
          · exact h2.symm
          · exact rle_antisymm (h.1 b h2) (h'.1 a h1)
      subst hab
      rw [ih (List.perm_cons a |>.1 hp) h.2 h'.2]
theorem due_eval {now : Int} {S out S' A B : List Row} (h : DueP now S out S') (hp : S.Perm (A ++ B)) (hA : A.Pairwise rle) (a : ∀ r ∈ A, r.1 ≤ now) (b : ∀ r ∈ B, now < r.1) : out = A ∧ S'.Perm B := by
  obtain ⟨h1, h2, h3, h4⟩ := h
  have hpp := h1.symm.trans hp
  have f1 := hpp.filter fun r : Row => decide (r.1 ≤ now)
  have f2 := hpp.filter fun r : Row => decide (now < r.1)
  rw [List.filter_append, List.filter_append] at f1 f2
  rw [List.filter_eq_self.2 fun r hr => by simpa using h3 r hr, List.filter_eq_nil_iff.2 fun r hr => by simpa using h4 r hr, List.filter_eq_self.2 fun r hr => by simpa using a r hr, List.filter_eq_nil_iff.2 fun r hr => by simpa using b r hr, List.append_nil, List.append_nil] at f1
  rw [List.filter_eq_nil_iff.2 fun r hr => by simpa using h3 r hr, List.filter_eq_self.2 fun r hr => by simpa using h4 r hr, List.filter_eq_nil_iff.2 fun r hr => by simpa using a r hr, List.filter_eq_self.2 fun r hr => by simpa using b r hr, List.nil_append, List.nil_append] at f2
  exact ⟨sorted_one f1 h2 hA, f2⟩
theorem set_new {kind at_ : Int} {S S' : List Row} (h : SetP kind at_ S S') (hn : ∀ r ∈ S, r.2 ≠ kind) : S' = (at_, kind) :: S := by
  obtain ⟨S1, h1, rfl⟩ := h
  rcases h1 with ⟨r, e1, e2⟩ | ⟨rfl, -⟩
  · exact absurd e1 (hn r (e2.mem_iff.2 (by simp)))
  · rfl
theorem next_eval {S : List Row} {x : NX} {r : Row} (h : nxF S x.a x.p) (hr : r ∈ S) (hm : ∀ c ∈ S, r.1 ≤ c.1) : x.a = r.1 ∧ x.p := by
  have hp : x.p := Classical.byContradiction fun hn => by
    obtain ⟨rfl, -⟩ := h.1 hn
    simp at hr
  obtain ⟨c, h1, h2, h3⟩ := h.2 hp
  have := hm c h1
  have := h3 r hr
  exact ⟨by omega, hp⟩

theorem fi_vc :
    ∀ (b : Nat),
  ∃ (x : KX),
    ∃ (L : List (Nat × Go.Sx.Blk)),
      ∃ (G : List (Nat × Go.Sx.Blk)),
        List.Perm [] (L ++ G) ∧
          ([Go.Value.int Go.IntKind.i64 (3 : Int), Go.Value.int Go.IntKind.u64 (10 : Int)] = [Go.Value.int Go.IntKind.i64 x.2, Go.Value.int Go.IntKind.u64 x.3] ∧
              QRep x.1 (Go.Value.slice Option.none (0 : Nat) (0 : Nat)) L ∧ List.length x.1 + (1 : Nat) < (1000000 : Nat)) ∧
            ∀ (a : Unit) (s : Sl) (L' : List (Nat × Go.Sx.Blk)),
              (∃ (S' : List Row), SetP x.2 x.3 x.1 S' ∧ QRep S' (Go.Value.slice s.1 s.2 s.3) L') →
                ∃ (x : KX),
                  ∃ (L : List (Nat × Go.Sx.Blk)),
                    ∃ (G_1 : List (Nat × Go.Sx.Blk)),
                      List.Perm (L' ++ G) (L ++ G_1) ∧
                        ([Go.Value.int Go.IntKind.i64 (1 : Int), Go.Value.int Go.IntKind.u64 (10 : Int)] = [Go.Value.int Go.IntKind.i64 x.2, Go.Value.int Go.IntKind.u64 x.3] ∧
                            QRep x.1 (Go.Value.slice s.1 s.2 s.3) L ∧ List.length x.1 + (1 : Nat) < (1000000 : Nat)) ∧
                          ∀ (a : Unit) (s : Sl) (L' : List (Nat × Go.Sx.Blk)),
                            (∃ (S' : List Row), SetP x.2 x.3 x.1 S' ∧ QRep S' (Go.Value.slice s.1 s.2 s.3) L') →
                              ∃ (x : KX),
                                ∃ (L : List (Nat × Go.Sx.Blk)),
                                  ∃ (G : List (Nat × Go.Sx.Blk)),
                                    List.Perm (L' ++ G_1) (L ++ G) ∧
                                      ([Go.Value.int Go.IntKind.i64 (2 : Int), Go.Value.int Go.IntKind.u64 (4 : Int)] = [Go.Value.int Go.IntKind.i64 x.2, Go.Value.int Go.IntKind.u64 x.3] ∧
                                          QRep x.1 (Go.Value.slice s.1 s.2 s.3) L ∧ List.length x.1 + (1 : Nat) < (1000000 : Nat)) ∧
                                        ∀ (a : Unit) (s : Sl) (L' : List (Nat × Go.Sx.Blk)),
                                          (∃ (S' : List Row),
                                              SetP x.2 x.3 x.1 S' ∧ QRep S' (Go.Value.slice s.1 s.2 s.3) L') →
                                            ∃ (x : List Row),
                                              ∃ (L : List (Nat × Go.Sx.Blk)),
                                                ∃ (G_2 : List (Nat × Go.Sx.Blk)),
                                                  List.Perm (L' ++ G) (L ++ G_2) ∧
                                                    ((0 : Nat) = (0 : Nat) ∧ QRep x (Go.Value.slice s.1 s.2 s.3) L ∧ List.length x < (1000000 : Nat)) ∧
                                                      ∀ (a : NX) (s : Sl) (L' : List (Nat × Go.Sx.Blk)),
                                                        nxF x a.1 a.2 ∧ QRep x (Go.Value.slice s.1 s.2 s.3) L' →
                                                          ∃ (S : List Row),
                                                            ∃ (L : List (Nat × Go.Sx.Blk)),
                                                              ∃ (G : List (Nat × Go.Sx.Blk)),
                                                                List.Perm (L' ++ G_2) (L ++ G) ∧
                                                                  (QRep S (Go.Value.slice s.1 s.2 s.3) L ∧ List.length S < (1000000 : Nat)) ∧
                                                                    (∀ (S' : List Row) (s : Sl) (L' : List (Nat × Go.Sx.Blk)),
                                                                        DueP (9 : Int) S [] S' →
                                                                          QRep S' (Go.Value.slice s.1 s.2 s.3) L' →
                                                                            ∃ (S : List Row),
                                                                              ∃ (L : List (Nat × Go.Sx.Blk)),
                                                                                ∃ (G_3 : List (Nat × Go.Sx.Blk)),
                                                                                  List.Perm (L' ++ G) (L ++ G_3) ∧
                                                                                    (QRep S (Go.Value.slice s.1 s.2 s.3) L ∧ List.length S < (1000000 : Nat)) ∧
                                                                                      (∀ (S' : List Row) (s : Sl) (L' : List (Nat × Go.Sx.Blk)),
                                                                                          DueP (10 : Int) S [] S' →
                                                                                            QRep S' (Go.Value.slice s.1 s.2 s.3) L' →
                                                                                              a.1 = (4 : Int) ∧ a.2 ∧ (↑(0 : Nat) : Int) = (1 : Int) ∧ False) ∧
                                                                                        ∀ (out S' : List Row) (s : Sl)
                                                                                          (L' : List (Nat × Go.Sx.Blk)) (b' base' cap' : Nat) (zs' : List Int),
                                                                                          DueP (10 : Int) S out S' →
                                                                                            QRep S' (Go.Value.slice s.1 s.2 s.3) L' →
                                                                                              (0 : Nat) < List.length out →
                                                                                                List.length out ≤ cap' →
                                                                                                  List.length zs' = cap' →
                                                                                                    List.take (List.length out) zs' = List.map (fun (x : Row) => x.2) out →
                                                                                                      a.1 = (4 : Int) ∧ a.2 ∧ (↑(0 : Nat) : Int) = (1 : Int) ∧ False) ∧
                                                                      ∀ (out S' : List Row) (s : Sl) (L' : List (Nat × Go.Sx.Blk))
                                                                        (b' base' cap' : Nat) (zs' : List Int),
                                                                        DueP (9 : Int) S out S' →
                                                                          QRep S' (Go.Value.slice s.1 s.2 s.3) L' →
                                                                            (0 : Nat) < List.length out →
                                                                              List.length out ≤ cap' →
                                                                                List.length zs' = cap' →
                                                                                  List.take (List.length out) zs' = List.map (fun (x : Row) => x.2) out →
                                                                                    ∃ (S : List Row),
                                                                                      ∃ (L : List (Nat × Go.Sx.Blk)),
                                                                                        ∃ (G_3 : List (Nat × Go.Sx.Blk)),
                                                                                          List.Perm (L' ++ G) (L ++ G_3) ∧
                                                                                            (QRep S (Go.Value.slice s.1 s.2 s.3) L ∧ List.length S < (1000000 : Nat)) ∧
                                                                                              (∀ (S' : List Row) (s : Sl)
                                                                                                  (L' : List (Nat × Go.Sx.Blk)),
                                                                                                  DueP (10 : Int) S [] S' →
                                                                                                    QRep S' (Go.Value.slice s.1 s.2 s.3) L' →
                                                                                                      a.1 = (4 : Int) ∧
                                                                                                        a.2 ∧
                                                                                                          (↑(List.length out) : Int) = (1 : Int) ∧
                                                                                                            ((0 : Int) ≤ (0 : Int) ∧ (0 : Int) < (↑(List.length out) : Int)) ∧
                                                                                                              (0 : Nat) + Int.toNat (0 : Int) < cap' ∧
                                                                                                                List.getD zs' ((0 : Nat) + Int.toNat (0 : Int)) (0 : Int) = (2 : Int) ∧
                                                                                                                  (↑(0 : Nat) : Int) = (2 : Int) ∧ False) ∧
                                                                                                ∀ (out_1 S' : List Row) (s : Sl)
                                                                                                  (L' : List (Nat × Go.Sx.Blk)) (b' base' cap'_1 : Nat) (zs'_1 : List Int),
                                                                                                  DueP (10 : Int) S out_1 S' →
                                                                                                    QRep S' (Go.Value.slice s.1 s.2 s.3) L' →
                                                                                                      (0 : Nat) < List.length out_1 →
                                                                                                        List.length out_1 ≤ cap'_1 →
                                                                                                          List.length zs'_1 = cap'_1 →
                                                                                                            List.take (List.length out_1) zs'_1 =
                                                                                                                List.map (fun (x : Row) => x.2) out_1 →
                                                                                                              a.1 = (4 : Int) ∧
                                                                                                                a.2 ∧
                                                                                                                  (↑(List.length out) : Int) = (1 : Int) ∧
                                                                                                                    ((0 : Int) ≤ (0 : Int) ∧ (0 : Int) < (↑(List.length out) : Int)) ∧
                                                                                                                      (0 : Nat) + Int.toNat (0 : Int) < cap' ∧
                                                                                                                        List.getD zs' ((0 : Nat) + Int.toNat (0 : Int)) (0 : Int) = (2 : Int) ∧
                                                                                                                          (↑(List.length out_1) : Int) = (2 : Int) ∧
                                                                                                                            ((0 : Int) ≤ (0 : Int) ∧ (0 : Int) < (↑(List.length out_1) : Int)) ∧
                                                                                                                              (0 : Nat) + Int.toNat (0 : Int) < cap'_1 ∧
                                                                                                                                List.getD zs'_1 ((0 : Nat) + Int.toNat (0 : Int)) (0 : Int) =
                                                                                                                                    (1 : Int) ∧
                                                                                                                                  ∃ (x : List Row),
                                                                                                                                    ∃ (L : List (Nat × Go.Sx.Blk)),
                                                                                                                                      ∃ (G : List (Nat × Go.Sx.Blk)),
                                                                                                                                        List.Perm (L' ++ G_3) (L ++ G) ∧
                                                                                                                                          ((0 : Nat) = (0 : Nat) ∧
                                                                                                                                              QRep x
                                                                                                                                                (Go.Value.slice s.1 s.2 s.3) L) ∧
                                                                                                                                            ∀ (a : Int) (s : Sl)
                                                                                                                                              (L' : List (Nat × Go.Sx.Blk)),
                                                                                                                                              a = (↑(List.length x) : Int) ∧
                                                                                                                                                  QRep x
                                                                                                                                                    (Go.Value.slice s.1 s.2 s.3) L' →
                                                                                                                                                a = (0 : Int) := by
  refine fun b => ⟨⟨[], 3, 10⟩, [], [], by simp, ⟨rfl, QRep.nil, by simp⟩, fun _ v L ⟨S, hs, hq⟩ => ?_⟩
  obtain rfl := set_new hs (by simp)
  refine ⟨⟨_, 1, 10⟩, L, [], List.Perm.refl _, ⟨rfl, hq, by simp⟩, fun _ v L ⟨S, hs, hq⟩ => ?_⟩
  obtain rfl := set_new hs (by simp)
  refine ⟨⟨_, 2, 4⟩, L, [], List.Perm.refl _, ⟨rfl, hq, by simp⟩, fun _ v L ⟨S, hs, hq⟩ => ?_⟩
  obtain rfl := set_new hs (by simp)
  refine ⟨_, L, [], List.Perm.refl _, ⟨rfl, hq, by simp⟩, fun x v L ⟨hx, hq⟩ => ?_⟩
  obtain ⟨x1, x2⟩ := next_eval (r := (4, 2)) hx (by simp) (by simp)
  have ev : ∀ {out S'}, DueP 9 [(4, 2), (10, 1), (10, 3)] out S' → out = [(4, 2)] ∧ S'.Perm [(10, 1), (10, 3)] := fun h => due_eval (A := [(4, 2)]) (B := [(10, 1), (10, 3)]) h (List.Perm.refl _) (by simp) (by simp) (by simp)
  have ev2 : ∀ {S out S'}, S.Perm [(10, 1), (10, 3)] → DueP 10 S out S' → out = [(10, 1), (10, 3)] ∧ S'.Perm [] := fun hp h => due_eval (A := [(10, 1), (10, 3)]) (B := []) h hp (by simp [rle]) (by simp) (by simp)
  refine ⟨_, L, [], List.Perm.refl _, ⟨hq, by simp⟩, fun S' v L hd hq => ?_, fun out S' v L b' base' cap' zs' hd hq k1 k2 k3 k4 => ?_⟩
  · exact absurd (ev hd).1 (by simp)
  · obtain ⟨rfl, hp⟩ := ev hd
    refine ⟨_, L, [], List.Perm.refl _, ⟨hq, by have := hp.length_eq; simp at this; omega⟩, fun S2 v L hd2 hq2 => ?_, fun out2 S2 v L b2 base2 cap2 zs2 hd2 hq2 m1 m2 m3 m4 => ?_⟩
    · exact absurd (ev2 hp hd2).1 (by simp)
    · obtain ⟨rfl, hp2⟩ := ev2 hp hd2
      have e0 : zs'.getD 0 0 = 2 := by
        cases zs' with
        | nil => simp at k4
        | cons z l => simp at k4; simp [k4]
      have e1 : zs2.getD 0 0 = 1 := by
        cases zs2 with
        | nil => simp at m4
        | cons z l => simp at m4; simp [m4.1]
      have hS2 : S2 = [] := by have := hp2.length_eq; simp at this; exact this
      subst hS2
      simp only [List.length_cons, List.length_nil, Nat.zero_add] at k2 m2
      refine ⟨x1, x2, rfl, ⟨by decide, by simp⟩, by simp only [Int.toNat_zero]; omega, by simpa using e0, rfl, ⟨by decide, by simp⟩, by simp only [Int.toNat_zero]; omega, by simpa using e1, [], L, [], List.Perm.refl _, ⟨rfl, hq2⟩, fun n v' L' ⟨hn, _⟩ => hn⟩
theorem first_triple : Triple Go.Proofs.Try.prog 27 [] [] fun v _ => v = .bool true :=
  triple_of_runK (h := [.chunk []]) (args := []) (run_with tbl_sound _ _ _ _ _) (fun r => rfl) (fun r => rfl) (by simp) (Eq.mpr (by kernel_rfl) fi_vc : fiGoal) fun s h' hk => by
    obtain ⟨p, h1, h2⟩ := bOf_spec hk (locs h')
    rw [h2]; simp [h1]
theorem enters27 : Enters Go.Proofs.Try.prog 27 := ⟨Go.Proofs.Try.f27, Go.Proofs.Try.func27, by kernel_rfl, by kernel_rfl⟩
noncomputable def firstT : Trans := chunkR (fun _ : Unit => .tt) (fun (_ : Unit) vs L => vs.length = 0 ∧ L = []) fun _ u _ => u = ()
theorem firstT_sound : SoundT Go.Proofs.Try.prog 27 firstT := chunkR_sound (val := fun _ => .bool true) enters27 (fun a ρ => rfl) (fun a => by simp) fun _ vs L ⟨h1, h2⟩ => by
  obtain rfl := List.eq_nil_of_length_eq_zero h1
  subst h2
  exact Triple.to first_triple fun v L' h => ⟨(), h, rfl⟩
noncomputable def tbl2T : List (FuncId × Trans) := (27, firstT) :: tblT
theorem tbl2_sound : ∀ p ∈ tbl2T, SoundT Go.Proofs.Try.prog p.1 p.2 := by
  intro p hp
  rcases List.mem_cons.1 hp with rfl | hp
  · exact firstT_sound
  · exact tbl_sound p hp
end Go.Proofs.Ythkcfocoekonjaa
