/- CookieMakes' run; cookies and bytes that came in -/
import Derived.Test.YtpjikjhaljennaaCkF
import Derived.Test.YtpjikjhaljennaaLwA
set_option maxRecDepth 100000
set_option linter.unusedVariables false
set_option linter.unusedSimpArgs false
namespace Go.Proofs.Ytpjikjhaljennaa
open Go Go.Sx
attribute [local irreducible] Go.Sx.xrun

noncomputable def cmGoal (ko : Option Addr) (kl kc : Nat) (x : Ck) (later : Int) (L : Blks) : Prop :=
  xrun Go.Proofs.Try.prog [(35, ckFirstT), (36, makeT), (37, openRT), (38, refCkSealT), (39, wordsT)] [] [] 9 [] 12 [.sl ko kl kc, .agg x.sv, .val (.int .u32 later)] [.chunk L] fun s h => bOf s (fun p => p) ∧ headIs h L
theorem ps74 : plainStruct Go.Proofs.Try.prog 74 11 = true := by kernel_rfl
theorem ck_wrap {i l : Int} (hl : 0 ≤ l ∧ l < 4294967296) : IntKind.wrap .u32 (IntKind.wrap .u32 (i + l) - i) = l := by
  simp only [wrap_u32a]
  omega
theorem seal_is (key : List Int) (x : Ck) : sealed key (ckWords x) = ckBytes key x := rfl
attribute [local irreducible] sealF openF
set_option maxHeartbeats 1000000 in
theorem cm_goal (ko : Option Addr) (kl kc : Nat) (x : Ck) (later : Int) (L : Blks) (key : List Int) (hx : x.ok) (hk : BytesAt L ko kl key) (hok : Octets key) (hlat : 0 ≤ later ∧ later < 4294967296) : cmGoal ko kl kc x later L :=
  Eq.mpr (by kernel_rfl) (show
  ∀ (b : Nat), ((500 : Int) < (↑kl : Int) → True ∧ L = L) ∧ (¬(500 : Int) < (↑kl : Int) → ∃ (x_1 : MkX), MakePre x_1 [Value.slice ko kl kc, Value.agg #[Value.int IntKind.u32 x.1, Value.int IntKind.u32 x.2, Value.int IntKind.u32 x.3, Value.int IntKind.u32 x.4, Value.int IntKind.u32 x.5, Value.int IntKind.u16 x.6, Value.int IntKind.u16 x.7, Value.int IntKind.u8 x.8, Value.int IntKind.u32 x.9, Value.int IntKind.u32 x.10, Value.int IntKind.u32 x.11]] (L ++ [(b, Blk.cells
  [Value.int IntKind.u32 x.1, Value.int IntKind.u32 x.2, Value.int IntKind.u32 x.3, Value.int IntKind.u32 x.4, Value.int IntKind.u32 x.5, Value.int IntKind.u16 x.6, Value.int IntKind.u16 x.7, Value.int IntKind.u8 x.8, Value.int IntKind.u32 x.9, Value.int IntKind.u32 x.10, Value.int IntKind.u32 x.11] (74 : Nat))] ++ []) ∧ ∀ (b_1 base cap : Nat) (xs : List Int), List.length xs = cap → List.length (ckBytes x_1.4 x_1.5) ≤ cap → List.take (List.length (ckBytes x_1.4 x_1.5)) xs = ckBytes x_1.4 x_1.5 → ∃ (x_2 : OrX), OrPre x_2
  [Value.slice ko kl kc, Value.slice (Option.some { block := b_1, off := base * (1 : Nat) }) (List.length (ckBytes x_1.4 x_1.5)) cap, Value.int IntKind.u32 (IntKind.wrap IntKind.u32 (x.9 + later))] (L ++ [(b, Blk.cells [Value.int IntKind.u32 x.1, Value.int IntKind.u32 x.2, Value.int IntKind.u32 x.3, Value.int IntKind.u32 x.4, Value.int IntKind.u32 x.5, Value.int IntKind.u16 x.6, Value.int IntKind.u16 x.7, Value.int IntKind.u8 x.8, Value.int IntKind.u32 x.9, Value.int IntKind.u32 x.10, Value.int IntKind.u32 x.11] (74 : Nat)), (b_1, Blk.tab (5 : Go.TypeId) base cap [Col.ints IntKind.u8 xs])] ++
  []) ∧ ∀ (b_2 : Nat), Value.oneCell' (Value.int IntKind.u32 x_2.2.1) = Bool.true ∧ Value.oneCell' (Value.int IntKind.u32 x_2.2.2) = Bool.true ∧ Value.oneCell' (Value.int IntKind.u32 x_2.2.3) = Bool.true ∧ Value.oneCell' (Value.int IntKind.u32 x_2.2.4) = Bool.true ∧ Value.oneCell' (Value.int IntKind.u32 x_2.2.5) = Bool.true ∧ Value.oneCell' (Value.int IntKind.u16 x_2.2.6) = Bool.true ∧ Value.oneCell' (Value.int IntKind.u16 x_2.2.7) = Bool.true ∧ Value.oneCell' (Value.int IntKind.u8 x_2.2.8) = Bool.true ∧ Value.oneCell' (Value.int IntKind.u32 x_2.2.9) = Bool.true ∧
  Value.oneCell' (Value.int IntKind.u32 x_2.2.10) = Bool.true ∧ Value.oneCell' (Value.int IntKind.u32 x_2.2.11) = Bool.true ∧ (0 : Nat) + List.length (ckBytes x_1.4 x_1.5) ≤ cap ∧ ∃ (x_3 : Ck), WdPre x_3 [Value.agg #[Value.int IntKind.u32 x.1, Value.int IntKind.u32 x.2, Value.int IntKind.u32 x.3, Value.int IntKind.u32 x.4, Value.int IntKind.u32 x.5, Value.int IntKind.u16 x.6, Value.int IntKind.u16 x.7, Value.int IntKind.u8 x.8, Value.int IntKind.u32 x.9, Value.int IntKind.u32 x.10, Value.int IntKind.u32 x.11]] (L ++ [(b, Blk.cells
  [Value.int IntKind.u32 x.1, Value.int IntKind.u32 x.2, Value.int IntKind.u32 x.3, Value.int IntKind.u32 x.4, Value.int IntKind.u32 x.5, Value.int IntKind.u16 x.6, Value.int IntKind.u16 x.7, Value.int IntKind.u8 x.8, Value.int IntKind.u32 x.9, Value.int IntKind.u32 x.10, Value.int IntKind.u32 x.11] (74 : Nat)), (b_1, Blk.tab (5 : Go.TypeId) base cap [Col.ints IntKind.u8 xs]), (b_2, Blk.cells [Value.int IntKind.u32 x_2.2.1, Value.int IntKind.u32 x_2.2.2, Value.int IntKind.u32 x_2.2.3, Value.int IntKind.u32 x_2.2.4, Value.int IntKind.u32 x_2.2.5, Value.int IntKind.u16 x_2.2.6,
  Value.int IntKind.u16 x_2.2.7, Value.int IntKind.u8 x_2.2.8, Value.int IntKind.u32 x_2.2.9, Value.int IntKind.u32 x_2.2.10, Value.int IntKind.u32 x_2.2.11] (74 : Nat))] ++ []) ∧ ∀ (b_3 base_1 cap_1 : Nat) (xs_1 : List Int), List.length xs_1 = cap_1 → List.length (ckWords x_3) ≤ cap_1 → List.take (List.length (ckWords x_3)) xs_1 = ckWords x_3 → ((0 : Nat) + List.length (ckBytes x_1.4 x_1.5) ≤ cap ∧ SV.val (Value.string (ByteArray.mk (List.toArray (List.map (fun (n : Int) => UInt8.ofNat (Int.toNat n)) (List.take (List.length (ckBytes x_1.4 x_1.5)) xs))))) = SV.val (Value.string (ByteArray.mk (List.toArray (List.map (fun (n : Int) => UInt8.ofNat (Int.toNat n)) (List.take (List.length (ckBytes x_1.4 x_1.5)) xs)))))) ∧ ∃ (x_4 : Bv × Bv), RsPre x_4 [Value.slice ko kl kc, Value.slice (Option.some { block := b_3, off := base_1 * (1 : Nat) }) (List.length (ckWords x_3)) cap_1] (L ++ [(b, Blk.cells [Value.int IntKind.u32 x.1, Value.int IntKind.u32 x.2, Value.int IntKind.u32 x.3, Value.int IntKind.u32 x.4, Value.int IntKind.u32 x.5, Value.int IntKind.u16 x.6, Value.int IntKind.u16 x.7, Value.int IntKind.u8 x.8, Value.int IntKind.u32 x.9,
  Value.int IntKind.u32 x.10, Value.int IntKind.u32 x.11] (74 : Nat)), (b_1, Blk.tab (5 : Go.TypeId) base cap [Col.ints IntKind.u8 xs]), (b_2, Blk.cells [Value.int IntKind.u32 x_2.2.1, Value.int IntKind.u32 x_2.2.2, Value.int IntKind.u32 x_2.2.3, Value.int IntKind.u32 x_2.2.4, Value.int IntKind.u32 x_2.2.5, Value.int IntKind.u16 x_2.2.6, Value.int IntKind.u16 x_2.2.7, Value.int IntKind.u8 x_2.2.8, Value.int IntKind.u32 x_2.2.9, Value.int IntKind.u32 x_2.2.10, Value.int IntKind.u32 x_2.2.11] (74 : Nat)), (b_3, Blk.tab (5 : Go.TypeId) base_1 cap_1 [Col.ints IntKind.u8 xs_1])] ++ []) ∧
  ∀ (b base cap_2 : Nat) (xs_2 : List Int), List.length xs_2 = cap_2 → List.length (sealed x_4.1.4 x_4.2.4) ≤ cap_2 → List.take (List.length (sealed x_4.1.4 x_4.2.4)) xs_2 = sealed x_4.1.4 x_4.2.4 → ((0 : Nat) + List.length (ckBytes x_1.4 x_1.5) ≤ cap ∧ SV.val (Value.string (ByteArray.mk (List.toArray (List.map (fun (n : Int) => UInt8.ofNat (Int.toNat n)) (List.take (List.length (ckBytes x_1.4 x_1.5)) xs))))) = SV.val (Value.string (ByteArray.mk (List.toArray (List.map (fun (n : Int) => UInt8.ofNat (Int.toNat n)) (List.take (List.length (ckBytes x_1.4 x_1.5)) xs)))))) ∧
  (0 : Nat) + List.length (sealed x_4.1.4 x_4.2.4) ≤ cap_2 ∧ (¬ByteArray.toList (ByteArray.mk (List.toArray (List.map (fun (n : Int) => UInt8.ofNat (Int.toNat n)) (List.take (List.length (ckBytes x_1.4 x_1.5)) xs)))) = ByteArray.toList (ByteArray.mk (List.toArray (List.map (fun (n : Int) => UInt8.ofNat (Int.toNat n)) (List.take (List.length (sealed x_4.1.4 x_4.2.4)) xs_2)))) → False ∧ L = L) ∧ (¬¬ByteArray.toList (ByteArray.mk (List.toArray (List.map (fun (n : Int) => UInt8.ofNat (Int.toNat n)) (List.take (List.length (ckBytes x_1.4 x_1.5)) xs)))) = ByteArray.toList (ByteArray.mk (List.toArray
  (List.map (fun (n : Int) => UInt8.ofNat (Int.toNat n)) (List.take (List.length (sealed x_4.1.4 x_4.2.4)) xs_2)))) → ((600 : Int) < later → (x_2.3 = (91 : Int) → plainStruct Go.Proofs.Try.prog (74 : Nat) (11 : Nat) = Bool.true ∧ (x_2.2.1 = (0 : Int) ∧ x_2.2.2 = (0 : Int) ∧ x_2.2.3 = (0 : Int) ∧ x_2.2.4 = (0 : Int) ∧ x_2.2.5 = (0 : Int) ∧ x_2.2.6 = (0 : Int) ∧ x_2.2.7 = (0 : Int) ∧ x_2.2.8 = (0 : Int) ∧ x_2.2.9 = (0 : Int) ∧ x_2.2.10 = (0 : Int) ∧ x_2.2.11 = (0 : Int) ∧ True) ∧ L = L) ∧ (¬x_2.3 = (91 : Int) → False ∧ L = L)) ∧ (¬(600 : Int) < later → (x_2.3 = (0 : Int) →
  plainStruct Go.Proofs.Try.prog (74 : Nat) (11 : Nat) = Bool.true ∧ (x_2.2.1 = x.1 ∧ x_2.2.2 = x.2 ∧ x_2.2.3 = x.3 ∧ x_2.2.4 = x.4 ∧ x_2.2.5 = x.5 ∧ x_2.2.6 = x.6 ∧ x_2.2.7 = x.7 ∧ x_2.2.8 = x.8 ∧ x_2.2.9 = x.9 ∧ x_2.2.10 = x.10 ∧ x_2.2.11 = x.11 ∧ True) ∧ L = L) ∧ (¬x_2.3 = (0 : Int) → False ∧ L = L)))) from by
  simp only [eq_self, true_and, and_true, false_and, and_false, or_false, false_or, and_self, Nat.zero_add, Nat.add_zero, Nat.sub_zero, Nat.zero_mul, Nat.mul_one, Int.toNat_natCast, cond_true, cond_false, forall_const, implies_true, Nat.beq_refl, ne_eq, not_false_eq_true, not_true_eq_false, Classical.not_not, List.cons.injEq, List.append_nil, List.nil_append, Go.Value.int.injEq, Go.Value.bool.injEq, Go.Value.slice.injEq, Nat.le_refl, Nat.zero_le, Go.Sx.one_int, Go.Sx.one_bool, Go.Sx.one_slice, Go.Sx.one_ptr, Go.Sx.one_map, Int.cast_ofNat_Int, reduceCtorEq, Nat.reduceLeDiff, Nat.reduceMul, Nat.reduceAdd, Nat.reduceSub, Nat.reduceEqDiff, Int.reduceLE, Int.reduceLT, Int.reduceEq, Int.reduceAdd, Int.reduceSub, Int.reduceNeg, Int.reduceMul, Nat.reduceBEq]
  have hl : (ckBytes key x).length = 70 := ckBytes_len _ _
  have hw : (ckWords x).length = 38 := ckWords_len _
  have hoc : Octets (ckBytes key x) ∨ True := .inr trivial
  intro b h500
  have hkl : kl < 900000 := by omega
  have hob : Octets (ckBytes key x) := octets_ck hx
  have fin : ∃ c r, openF key (ckBytes key x) (IntKind.wrap .u32 (x.i + later)) = (c, r) ∧ (600 < later → r = 91 ∧ c = Ck.zero) ∧ (¬ 600 < later → r = 0 ∧ c = x) := by
    rw [openF_bytes hx, ck_wrap hlat]
    by_cases h6 : 600 < later
    · exact ⟨_, _, if_pos h6, fun _ => ⟨rfl, rfl⟩, fun h => absurd h6 h⟩
    · exact ⟨_, _, if_neg h6, fun h => absurd h h6, fun _ => ⟨rfl, rfl⟩⟩
  obtain ⟨c, r, hq, f1, f2⟩ := fin
  refine ⟨⟨ko, kl, kc, key, x⟩, ⟨rfl, hk.seen (seen_app _ _), hkl⟩, ?_⟩
  show ∀ (b_1 base cap : Nat) (xs : List Int), _
  simp only [hl]
  intro b1 base cap xs g1 g2 g3
  have hB : ∀ M : Blks, (b1, Blk.tab 5 base cap [Col.ints IntKind.u8 xs]) ∈ M → BytesAt M (some ⟨b1, base, none⟩) 70 (ckBytes key x) := fun M hM => BytesAt.tab (t := 5) (n := 70) hM hl g2 g3
  refine ⟨⟨⟨⟨ko, kl, kc, key⟩, ⟨some ⟨b1, base, none⟩, 70, cap, ckBytes key x⟩, _⟩, c, r⟩, ⟨⟨rfl, ⟨hk.seen (seen_app _ _), hkl⟩, hB _ (List.mem_append_right _ (by repeat (first | exact List.Mem.head _ | apply List.Mem.tail))), hob, g2⟩, hq⟩, fun b2 => ⟨g2, x, ⟨rfl, hx⟩, ?_⟩⟩
  show ∀ (b_3 base_1 cap_1 : Nat) (xs_1 : List Int), _
  simp only [hw]
  intro b3 base1 cap1 xs1 q1 q2 q3
  refine ⟨g2, ⟨⟨ko, kl, kc, key⟩, ⟨some ⟨b3, base1, none⟩, 38, cap1, ckWords x⟩⟩, ⟨rfl, ⟨hk.seen (seen_app _ _), hok, hkl⟩, BytesAt.tab (t := 5) (n := 38) (List.mem_append_right _ (by repeat (first | exact List.Mem.head _ | apply List.Mem.tail))) hw q2 q3, octets_words hx, by show 38 < 900000; decide⟩, ?_⟩
  dsimp only
  simp only [seal_is, hl]
  intro cap2 xs2 r1 r2 r3
  rw [g3, r3]
  refine ⟨g2, r2, fun h => h rfl, fun _ => ⟨fun h6 => ?_, fun h6 => ?_⟩⟩
  · obtain ⟨rfl, rfl⟩ := f1 h6
    exact ⟨fun _ => ⟨ps74, rfl, rfl, rfl, rfl, rfl, rfl, rfl, rfl, rfl, rfl, rfl⟩, fun h => h rfl⟩
  · obtain ⟨rfl, rfl⟩ := f2 h6
    exact ⟨fun _ => ⟨ps74, rfl, rfl, rfl, rfl, rfl, rfl, rfl, rfl, rfl, rfl, rfl⟩, fun h => h rfl⟩)
theorem cm_sound : ∀ p ∈ [((35 : Nat), ckFirstT), (36, makeT), (37, openRT), (38, refCkSealT), (39, wordsT)], SoundT Go.Proofs.Try.prog p.1 p.2 := by
  intro p hp
  simp at hp
  rcases hp with rfl | rfl | rfl | rfl | rfl
  · exact ckFirstT_sound
  · exact makeT_sound
  · exact openRT_sound
  · exact refCkSealT_sound
  · exact wordsT_sound
/-! A cookie that came in. -/
theorem open_ck {W : World} {base : Nat} {v : Value} (h : Value.okWide Try.prog W .any base 74 v) : ∃ x : Ck, v = x.val ∧ x.ok := by
  have hu : ∀ t k, Try.prog.underlying t = some (.int k) → ∀ u, Cell.okWide Try.prog W .any base t u → ∃ n, u = .int k n ∧ k.has n := fun t k ht u hc => by
    simp only [Cell.okWide, ht, Cell.ok] at hc
    cases u <;> simp_all
  obtain ⟨fs, hfs⟩ : ∃ fs, Try.prog.underlying 74 = some (.struct fs) := ⟨_, Try.underlying74⟩
  simp only [Value.okWide, hfs] at h
  obtain ⟨cs, rfl, hs, ts, hts, -, hc⟩ := h
  have hs : cs.size = 11 := hs.trans (by kernel_rfl)
  have e : Try.prog.cellTypes Try.prog.depth 74 = some [28, 28, 28, 28, 28, 23, 23, 5, 28, 28, 28] := by kernel_rfl
  rw [e] at hts
  obtain rfl := Option.some.inj hts
  obtain ⟨l⟩ := cs
  match l, hs with
  | [c0, c1, c2, c3, c4, c5, c6, c7, c8, c9, c10], _ =>
    have g : ∀ (i : Nat) (v : Value) t k, [c0, c1, c2, c3, c4, c5, c6, c7, c8, c9, c10][i]? = some v → [28, 28, 28, 28, 28, 23, 23, 5, 28, 28, 28][i % 11]? = some t → Try.prog.underlying t = some (.int k) → ∃ n, v = .int k n ∧ k.has n := fun i v t k h1 h2 h3 => by
      obtain ⟨u, e1, e2⟩ := hc i v (by simpa using h1)
      have e1 : [28, 28, 28, 28, 28, 23, 23, 5, 28, 28, 28][i % 11]? = some u := e1
      rw [h2] at e1
      obtain rfl := Option.some.inj e1
      exact hu _ _ h3 _ e2
    obtain ⟨n0, rfl, k0⟩ := g 0 c0 28 .u32 rfl rfl Try.underlying28
    obtain ⟨n1, rfl, k1⟩ := g 1 c1 28 .u32 rfl rfl Try.underlying28
    obtain ⟨n2, rfl, k2⟩ := g 2 c2 28 .u32 rfl rfl Try.underlying28
    obtain ⟨n3, rfl, k3⟩ := g 3 c3 28 .u32 rfl rfl Try.underlying28
    obtain ⟨n4, rfl, k4⟩ := g 4 c4 28 .u32 rfl rfl Try.underlying28
    obtain ⟨n5, rfl, k5⟩ := g 5 c5 23 .u16 rfl rfl Try.underlying23
    obtain ⟨n6, rfl, k6⟩ := g 6 c6 23 .u16 rfl rfl Try.underlying23
    obtain ⟨n7, rfl, k7⟩ := g 7 c7 5 .u8 rfl rfl Try.underlying5
    obtain ⟨n8, rfl, k8⟩ := g 8 c8 28 .u32 rfl rfl Try.underlying28
    obtain ⟨n9, rfl, k9⟩ := g 9 c9 28 .u32 rfl rfl Try.underlying28
    obtain ⟨n10, rfl, k10⟩ := g 10 c10 28 .u32 rfl rfl Try.underlying28
    refine ⟨⟨n0, n1, n2, n3, n4, n5, n6, n7, n8, n9, n10⟩, rfl, ?_⟩
    simp only [IntKind.has, IntKind.min, IntKind.max, IntKind.signed, IntKind.bits] at k0 k1 k2 k3 k4 k5 k6 k7 k8 k9 k10
    unfold Ck.ok
    simp at k0 k1 k2 k3 k4 k5 k6 k7 k8 k9 k10 ⊢
    omega
open Go.ChangeShapes Go.WideShapes Go.ChangeAt Go.RowKit
theorem ck_open_bytes {T : TypeId} (hT : Try.prog.underlying T = some (.slice 5)) {H : Type} {enc : TypeId × Value → H} {W : World} {v : Value} {d : DataW H} {ps : List MemPlace} (hok : ∃ a len cap, v = .slice a len cap)
    (h : DataW.Trod enc Try.prog W 0 (fun _ => true) true T v d ps) (hfz : ∀ b off, MemPlace.cell b off ∈ ps → W.frozen? ⟨b, off, none⟩ = false) :
    ∃ o l c bs, v = .slice o l c ∧ BytesAt (oldF W) o l bs ∧ Octets bs ∧ l ≤ c := by
  rcases open_nums hT Try.underlying5 (by kernel_rfl) hok h hfz with ⟨o, cap, rfl⟩ | ⟨a, len, cap, zs, rfl, g1, g2, g3, g4, g5, o, t, g6, g7⟩
  · exact ⟨o, 0, cap, [], rfl, ⟨rfl, fun h => absurd h (by omega)⟩, fun x hx => by simp at hx, Nat.zero_le _⟩
  · refine ⟨_, len, cap, zs.take len, rfl, ⟨by simp; omega, fun _ => ⟨_, _, rfl, fun i hi => ?_⟩⟩, fun x hx => wf_u8 (g5 x (List.mem_of_mem_take hx)), g2⟩
    have e : (zs.take len).getD i 0 = zs.getD i 0 := by rw [List.getD_eq_getElem?_getD, List.getD_eq_getElem?_getD, List.getElem?_take_of_lt hi]
    rw [e]
    exact ints_at g6 (g7 []) (by omega)
end Go.Proofs.Ytpjikjhaljennaa
