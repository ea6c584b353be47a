/- law09.first -/
import Derived.Test.YtpjikjhaljennaaCkP
set_option maxRecDepth 100000
set_option linter.unusedVariables false
set_option linter.unusedSimpArgs false
namespace Go.Proofs.Ytpjikjhaljennaa
open Go Go.Sx
attribute [local irreducible] Go.Sx.xrun

noncomputable def ckfiGoal (L : Blks) : Prop :=
  xrun Go.Proofs.Try.prog [(36, makeT), (37, openRT)] [] [] 9 [] 35 [] [.chunk L] fun s h => bOf s (fun p => p) ∧ headIs h L
attribute [local irreducible] sealF openF
def ckFi : Ck := ⟨7, 0, 0, 0, 0, 0, 0, 0, 100, 0, 0⟩
theorem ckFi_ok : ckFi.ok := by unfold Ck.ok ckFi; decide
theorem octets_b16 (v : Int) : Octets (b16 v) := fun z hz => by
  have h : z = w8 (v.fdiv (2 ^ 8)) ∨ z = w8 v := by simpa [b16] using hz
  rcases h with rfl | rfl <;> rw [w8_eq] <;> omega
theorem octets_b32 (v : Int) : Octets (b32 v) := octets_app (octets_b16 _) (octets_b16 _)
theorem octets_words {x : Ck} (h : x.ok) : Octets (ckWords x) := by
  obtain ⟨ha, hb, hc, hd, he, hf, hg, h8, hi, hj, hk⟩ := h
  have h1 : Octets [x.h] := fun z hz => by
    simp at hz
    subst hz
    exact h8
  have h0 : Octets [0] := fun z hz => by
    simp at hz
    omega
  exact octets_app (octets_app (octets_app (octets_app (octets_app (octets_app (octets_app (octets_app (octets_app (octets_app (octets_app (octets_b32 _) (octets_b32 _)) (octets_b32 _)) (octets_b32 _)) (octets_b32 _)) (octets_b16 _)) (octets_b16 _)) h1) h0) (octets_b32 _)) (octets_b32 _)) (octets_b32 _)
theorem octets_ck {key : List Int} {x : Ck} (h : x.ok) : Octets (ckBytes key x) := by
  unfold ckBytes
  exact octets_app (octets_words h) (by unfold sealF; exact octets_hash _)
theorem ckfi_goal (L : Blks) : ckfiGoal L :=
  Eq.mpr (by kernel_rfl) (show
  ∀ (b : Nat), Value.oneCell' (Value.int IntKind.u8 (107 : Int)) = Bool.true ∧ ∃ (x : MkX), MakePre x [Value.slice (Option.some { block := b, off := (0 : Nat) * (1 : Nat) }) (1 : Nat) (1 : Nat), Value.agg #[Value.int IntKind.u32 (7 : Int), Value.int IntKind.u32 (0 : Int), Value.int IntKind.u32 (0 : Int), Value.int IntKind.u32 (0 : Int), Value.int IntKind.u32 (0 : Int), Value.int IntKind.u16 (0 : Int), Value.int IntKind.u16 (0 : Int), Value.int IntKind.u8 (0 : Int), Value.int IntKind.u32 (100 : Int), Value.int IntKind.u32 (0 : Int), Value.int IntKind.u32 (0 : Int)]]
  (L ++ [(b, Blk.tab (5 : Nat) (0 : Nat) (1 : Nat) [Col.ints IntKind.u8 [(107 : Int)]])] ++ []) ∧ ∀ (b_1 base cap : Nat) (xs : List Int), List.length xs = cap → List.length (ckBytes x.4 x.5) ≤ cap → List.take (List.length (ckBytes x.4 x.5)) xs = ckBytes x.4 x.5 → ∀ (b_2 : Nat), Value.oneCell' (Value.int IntKind.u8 (107 : Int)) = Bool.true ∧ ∃ (x_1 : OrX), OrPre x_1 [Value.slice (Option.some { block := b_2, off := (0 : Nat) * (1 : Nat) }) (1 : Nat) (1 : Nat), Value.slice (Option.some { block := b_1, off := base * (1 : Nat) }) (List.length (ckBytes x.4 x.5)) cap,
  Value.int IntKind.u32 (700 : Int)] (L ++ [(b, Blk.tab (5 : Nat) (0 : Nat) (1 : Nat) [Col.ints IntKind.u8 [(107 : Int)]]), (b_1, Blk.tab (5 : Go.TypeId) base cap [Col.ints IntKind.u8 xs]), (b_2, Blk.tab (5 : Nat) (0 : Nat) (1 : Nat) [Col.ints IntKind.u8 [(107 : Int)]])] ++ []) ∧ ∀ (b_3 : Nat), Value.oneCell' (Value.int IntKind.u32 x_1.2.1) = Bool.true ∧ Value.oneCell' (Value.int IntKind.u32 x_1.2.2) = Bool.true ∧ Value.oneCell' (Value.int IntKind.u32 x_1.2.3) = Bool.true ∧ Value.oneCell' (Value.int IntKind.u32 x_1.2.4) = Bool.true ∧ Value.oneCell' (Value.int IntKind.u32 x_1.2.5) = Bool.true ∧
  Value.oneCell' (Value.int IntKind.u16 x_1.2.6) = Bool.true ∧ Value.oneCell' (Value.int IntKind.u16 x_1.2.7) = Bool.true ∧ Value.oneCell' (Value.int IntKind.u8 x_1.2.8) = Bool.true ∧ Value.oneCell' (Value.int IntKind.u32 x_1.2.9) = Bool.true ∧ Value.oneCell' (Value.int IntKind.u32 x_1.2.10) = Bool.true ∧ Value.oneCell' (Value.int IntKind.u32 x_1.2.11) = Bool.true ∧ ∀ (b_4 : Nat), Value.oneCell' (Value.int IntKind.u8 (107 : Int)) = Bool.true ∧ ∃ (x_2 : OrX), OrPre x_2 [Value.slice (Option.some { block := b_4, off := (0 : Nat) * (1 : Nat) }) (1 : Nat) (1 : Nat),
  Value.slice (Option.some { block := b_1, off := base * (1 : Nat) }) (List.length (ckBytes x.4 x.5)) cap, Value.int IntKind.u32 (701 : Int)] (L ++ [(b, Blk.tab (5 : Nat) (0 : Nat) (1 : Nat) [Col.ints IntKind.u8 [(107 : Int)]]), (b_1, Blk.tab (5 : Go.TypeId) base cap [Col.ints IntKind.u8 xs]), (b_2, Blk.tab (5 : Nat) (0 : Nat) (1 : Nat) [Col.ints IntKind.u8 [(107 : Int)]]), (b_3, Blk.cells [Value.int IntKind.u32 x_1.2.1, Value.int IntKind.u32 x_1.2.2, Value.int IntKind.u32 x_1.2.3, Value.int IntKind.u32 x_1.2.4, Value.int IntKind.u32 x_1.2.5, Value.int IntKind.u16 x_1.2.6,
  Value.int IntKind.u16 x_1.2.7, Value.int IntKind.u8 x_1.2.8, Value.int IntKind.u32 x_1.2.9, Value.int IntKind.u32 x_1.2.10, Value.int IntKind.u32 x_1.2.11] (74 : Nat)), (b_4, Blk.tab (5 : Nat) (0 : Nat) (1 : Nat) [Col.ints IntKind.u8 [(107 : Int)]])] ++ []) ∧ ∀ (b_5 : Nat), Value.oneCell' (Value.int IntKind.u32 x_2.2.1) = Bool.true ∧ Value.oneCell' (Value.int IntKind.u32 x_2.2.2) = Bool.true ∧ Value.oneCell' (Value.int IntKind.u32 x_2.2.3) = Bool.true ∧ Value.oneCell' (Value.int IntKind.u32 x_2.2.4) = Bool.true ∧ Value.oneCell' (Value.int IntKind.u32 x_2.2.5) = Bool.true ∧
  Value.oneCell' (Value.int IntKind.u16 x_2.2.6) = Bool.true ∧ Value.oneCell' (Value.int IntKind.u16 x_2.2.7) = Bool.true ∧ Value.oneCell' (Value.int IntKind.u8 x_2.2.8) = Bool.true ∧ Value.oneCell' (Value.int IntKind.u32 x_2.2.9) = Bool.true ∧ Value.oneCell' (Value.int IntKind.u32 x_2.2.10) = Bool.true ∧ Value.oneCell' (Value.int IntKind.u32 x_2.2.11) = Bool.true ∧ ((↑(List.length (ckBytes x.4 x.5)) : Int) ≠ (70 : Int) → False ∧ L = L) ∧ (¬(↑(List.length (ckBytes x.4 x.5)) : Int) ≠ (70 : Int) → ∀ (b_6 : Nat), Value.oneCell' (Value.int IntKind.u8 (107 : Int)) = Bool.true ∧
  ((0 : Int) ≤ (1 : Int) ∧ (1 : Int) ≤ (↑(List.length (ckBytes x.4 x.5)) : Int)) ∧ ∃ (x_3 : OrX), OrPre x_3 [Value.slice (Option.some { block := b_6, off := (0 : Nat) * (1 : Nat) }) (1 : Nat) (1 : Nat), Value.slice (Option.some { block := b_1, off := (base + if cap = Int.toNat (1 : Int) then (0 : Nat) else (0 : Nat) + Int.toNat (1 : Int)) * (1 : Nat) }) (List.length (ckBytes x.4 x.5) - (1 : Nat)) (cap - Int.toNat (1 : Int)), Value.int IntKind.u32 (700 : Int)] (L ++ [(b, Blk.tab (5 : Nat) (0 : Nat) (1 : Nat) [Col.ints IntKind.u8 [(107 : Int)]]),
  (b_1, Blk.tab (5 : Go.TypeId) base cap [Col.ints IntKind.u8 xs]), (b_2, Blk.tab (5 : Nat) (0 : Nat) (1 : Nat) [Col.ints IntKind.u8 [(107 : Int)]]), (b_3, Blk.cells [Value.int IntKind.u32 x_1.2.1, Value.int IntKind.u32 x_1.2.2, Value.int IntKind.u32 x_1.2.3, Value.int IntKind.u32 x_1.2.4, Value.int IntKind.u32 x_1.2.5, Value.int IntKind.u16 x_1.2.6, Value.int IntKind.u16 x_1.2.7, Value.int IntKind.u8 x_1.2.8, Value.int IntKind.u32 x_1.2.9, Value.int IntKind.u32 x_1.2.10, Value.int IntKind.u32 x_1.2.11] (74 : Nat)),
  (b_4, Blk.tab (5 : Nat) (0 : Nat) (1 : Nat) [Col.ints IntKind.u8 [(107 : Int)]]), (b_5, Blk.cells [Value.int IntKind.u32 x_2.2.1, Value.int IntKind.u32 x_2.2.2, Value.int IntKind.u32 x_2.2.3, Value.int IntKind.u32 x_2.2.4, Value.int IntKind.u32 x_2.2.5, Value.int IntKind.u16 x_2.2.6, Value.int IntKind.u16 x_2.2.7, Value.int IntKind.u8 x_2.2.8, Value.int IntKind.u32 x_2.2.9, Value.int IntKind.u32 x_2.2.10, Value.int IntKind.u32 x_2.2.11] (74 : Nat)), (b_6, Blk.tab (5 : Nat) (0 : Nat) (1 : Nat) [Col.ints IntKind.u8 [(107 : Int)]])] ++ []) ∧ ∀ (b : Nat),
  Value.oneCell' (Value.int IntKind.u32 x_3.2.1) = Bool.true ∧ Value.oneCell' (Value.int IntKind.u32 x_3.2.2) = Bool.true ∧ Value.oneCell' (Value.int IntKind.u32 x_3.2.3) = Bool.true ∧ Value.oneCell' (Value.int IntKind.u32 x_3.2.4) = Bool.true ∧ Value.oneCell' (Value.int IntKind.u32 x_3.2.5) = Bool.true ∧ Value.oneCell' (Value.int IntKind.u16 x_3.2.6) = Bool.true ∧ Value.oneCell' (Value.int IntKind.u16 x_3.2.7) = Bool.true ∧ Value.oneCell' (Value.int IntKind.u8 x_3.2.8) = Bool.true ∧ Value.oneCell' (Value.int IntKind.u32 x_3.2.9) = Bool.true ∧
  Value.oneCell' (Value.int IntKind.u32 x_3.2.10) = Bool.true ∧ Value.oneCell' (Value.int IntKind.u32 x_3.2.11) = Bool.true ∧ (x_1.3 = (0 : Int) → (x_1.2.1 = (7 : Int) → (x_2.3 = (91 : Int) → x_3.3 = (40 : Int) ∧ L = L) ∧ (¬x_2.3 = (91 : Int) → False ∧ L = L)) ∧ (¬x_1.2.1 = (7 : Int) → False ∧ L = L)) ∧ (¬x_1.3 = (0 : Int) → False ∧ L = L)) from by
  have t1 : Int.toNat 1 = 1 := rfl
  simp only [t1]
  simp only [eq_self, true_and, and_true, false_and, and_false, or_false, false_or, and_self, Nat.zero_add, Nat.add_zero, Nat.sub_zero, Nat.zero_mul, Nat.mul_one, Int.toNat_natCast, cond_true, cond_false, forall_const, implies_true, Nat.beq_refl, ne_eq, not_false_eq_true, not_true_eq_false, Classical.not_not, List.cons.injEq, List.append_nil, List.nil_append, Go.Value.int.injEq, Go.Value.bool.injEq, Go.Value.slice.injEq, Nat.le_refl, Nat.zero_le, Go.Sx.one_int, Go.Sx.one_bool, Go.Sx.one_slice, Go.Sx.one_ptr, Go.Sx.one_map, Int.cast_ofNat_Int, reduceCtorEq, Nat.reduceLeDiff, Nat.reduceMul, Nat.reduceAdd, Nat.reduceSub, Nat.reduceEqDiff, Int.reduceLE, Int.reduceLT, Int.reduceEq, Int.reduceAdd, Int.reduceSub, Int.reduceNeg, Int.reduceMul, Nat.reduceBEq]
  have hl : (ckBytes [107] ckFi).length = 70 := ckBytes_len _ _
  have hoc : Octets (ckBytes [107] ckFi) := octets_ck ckFi_ok
  have hO1 : Octets [107] := by intro z hz; simp at hz; omega
  have h700 : openF [107] (ckBytes [107] ckFi) 700 = (ckFi, 0) := by
    rw [openF_bytes ckFi_ok, if_neg (by decide)]
  have h701 : openF [107] (ckBytes [107] ckFi) 701 = (Ck.zero, 91) := by
    rw [openF_bytes ckFi_ok, if_pos (by decide)]
  have hsh : openF [107] (win (ckBytes [107] ckFi) 1 69) 700 = (Ck.zero, 40) := openF_short (by unfold win; rw [List.length_take, List.length_drop, hl]; decide)
  intro b
  refine ⟨⟨some ⟨b, 0, none⟩, 1, 1, [107], ckFi⟩, ⟨rfl, BytesAt.tab (t := 5) (List.mem_append_right _ (by repeat (first | exact List.Mem.head _ | apply List.Mem.tail))) rfl (Nat.le_refl _) rfl, by show 1 < 900000; decide⟩, ?_⟩
  show ∀ (b_1 base cap : Nat) (xs : List Int), _
  simp only [hl]
  intro b1 base cap xs g1 g2 g3 b2
  have hB : ∀ M : Blks, (b1, Blk.tab 5 base cap [Col.ints IntKind.u8 xs]) ∈ M → BytesAt M (some ⟨b1, base, none⟩) 70 (ckBytes [107] ckFi) := fun M hM => by
    have := BytesAt.tab (t := 5) (n := 70) hM hl g2 g3
    exact this
  refine ⟨⟨⟨⟨some ⟨b2, 0, none⟩, 1, 1, [107]⟩, ⟨some ⟨b1, base, none⟩, 70, cap, ckBytes [107] ckFi⟩, 700⟩, ckFi, 0⟩, ⟨⟨rfl, ⟨BytesAt.tab (t := 5) (List.mem_append_right _ (by repeat (first | exact List.Mem.head _ | apply List.Mem.tail))) rfl (Nat.le_refl _) rfl, by show 1 < 900000; decide⟩, hB _ (List.mem_append_right _ (by repeat (first | exact List.Mem.head _ | apply List.Mem.tail))), hoc, g2⟩, h700⟩, fun b3 b4 => ?_⟩
  refine ⟨⟨⟨⟨some ⟨b4, 0, none⟩, 1, 1, [107]⟩, ⟨some ⟨b1, base, none⟩, 70, cap, ckBytes [107] ckFi⟩, 701⟩, Ck.zero, 91⟩, ⟨⟨rfl, ⟨BytesAt.tab (t := 5) (List.mem_append_right _ (by repeat (first | exact List.Mem.head _ | apply List.Mem.tail))) rfl (Nat.le_refl _) rfl, by show 1 < 900000; decide⟩, hB _ (List.mem_append_right _ (by repeat (first | exact List.Mem.head _ | apply List.Mem.tail))), hoc, g2⟩, h701⟩, fun b5 => ?_⟩
  have hc1 : ¬ cap = 1 := by omega
  refine ⟨fun h => absurd rfl h, fun _ b6 => ⟨by decide, ?_⟩⟩
  rw [if_neg hc1]
  have hB' : ∀ M : Blks, (b1, Blk.tab 5 base cap [Col.ints IntKind.u8 xs]) ∈ M → BytesAt M (some ⟨b1, base + 1, none⟩) 69 (win (ckBytes [107] ckFi) 1 69) := fun M hM => by
    have h := BytesAt.part (hB M hM) (c := cap) (n := 1) (m := 69) g2 (by decide)
    rw [if_neg hc1] at h
    exact h
  refine ⟨⟨⟨⟨some ⟨b6, 0, none⟩, 1, 1, [107]⟩, ⟨some ⟨b1, base + 1, none⟩, 69, cap - 1, win (ckBytes [107] ckFi) 1 69⟩, 700⟩, Ck.zero, 40⟩, ⟨⟨rfl, ⟨BytesAt.tab (t := 5) (List.mem_append_right _ (by repeat (first | exact List.Mem.head _ | apply List.Mem.tail))) rfl (Nat.le_refl _) rfl, by show 1 < 900000; decide⟩, hB' _ (List.mem_append_right _ (by repeat (first | exact List.Mem.head _ | apply List.Mem.tail))), octets_win hoc 1 69, by show 69 ≤ cap - 1; omega⟩, hsh⟩, ?_⟩
  exact ⟨fun _ => ⟨fun _ => ⟨fun _ => rfl, fun h => absurd rfl h⟩, fun h => absurd rfl h⟩, fun h => absurd rfl h⟩)
theorem enters35 : Enters Go.Proofs.Try.prog 35 := ⟨Go.Proofs.Try.f35, Go.Proofs.Try.func35, by kernel_rfl, by kernel_rfl⟩
theorem ckfi_sound : ∀ p ∈ [((36 : Nat), makeT), (37, openRT)], SoundT Go.Proofs.Try.prog p.1 p.2 := by
  intro p hp
  simp at hp
  rcases hp with rfl | rfl
  · exact makeT_sound
  · exact openRT_sound
/-- first answers true. -/
noncomputable def ckFirstT : Trans := fun args h K => match args with
  | [] => K .tt h
  | _ => False
theorem ckFirst0_sound : SoundT Go.Proofs.Try.prog 35 (readT (fun _ : Unit => .tt) fun _ vs _ => vs = []) :=
  readT_sound (val := fun _ => .bool true) enters35 (fun a ρ => by simp only [den]) (fun a => by simp) (fun x vs L L' _ h => h) fun x vs L h1 => by
    subst h1
    exact pure_of_run (args := []) (run_with ckfi_sound _ _ _ _ _) (fun r => rfl) (ckfi_goal L) fun s h' ⟨h1, h2⟩ => by
      obtain ⟨p, hp, hd⟩ := bOf_spec h1 (locs h')
      exact ⟨by rw [hd]; simp [hp], h2⟩
theorem ckFirstT_sound : SoundT Go.Proofs.Try.prog 35 ckFirstT := SoundT.imp ckFirst0_sound fun args h K hx => by
  unfold ckFirstT at hx
  split at hx
  · exact ⟨(), rfl, hx⟩
  · exact hx.elim
end Go.Proofs.Ytpjikjhaljennaa
