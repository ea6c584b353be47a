/- SchedNumbers: the run. -/
import Derived.Test.YthkcfocoekonjaaScL
import Derived.Test.YthkcfocoekonjaaScN
set_option maxRecDepth 100000
set_option linter.unusedVariables false
set_option linter.unusedSimpArgs false
namespace Go.Proofs.Ythkcfocoekonjaa
open Go Go.Sx
attribute [local irreducible] Go.Sx.xrun

structure NuX where
  b : Nat
  i : Nat
  zs : List Int
  L : Blks
noncomputable def Ann.nmb (n : Nat) (P1 : Nat → Nat → List Int → Blks → Prop) (P3 : Nat → List Int → Blks → Prop) : FnAnn := ⟨[],
  [(8, ⟨NuX, [(fun σ y => ⟨σ.n, (26, .val (.int .i64 y.i)) :: (5, .val (.pointer (some ⟨y.b, 0, none⟩))) :: keepE σ.env [0, 6, 7, 8, 25], Ann.setZ (Ann.setE σ.heap 1 (.chunk y.L)) 2 y.zs⟩, fun _ y => P1 y.b y.i y.zs y.L)], fun y => n - y.i⟩),
   (1000013, ⟨NuX, [(fun σ y => ⟨σ.n, (9, .val (.int .i64 y.i)) :: (5, .val (.pointer (some ⟨y.b, 0, none⟩))) :: keepE σ.env [0, 6, 7, 8, 25, 26], Ann.setZ (Ann.setE σ.heap 1 (.chunk y.L)) 2 y.zs⟩, fun x0 y => y.i = x0.i ∧ P3 y.b y.zs y.L)], fun y => 0⟩)]⟩
noncomputable def nuRun (args : List SV) (h : List Ent) (n : Nat) (P1 : Nat → Nat → List Int → Blks → Prop) (P3 : Nat → List Int → Blks → Prop) (R : Prop → Prop) : Prop :=
  xrun Go.Proofs.Try.prog [(14, firstT), (15, newnT), (16, pushnT), (17, nextnT), (18, allnT), (25, resnT), (26, bytnT)] [(5, Ann.nmb n P1 P3)] [([], (16, false)), ([], (47, false)), ([], (61, false)), ([], (66, false)), ([], (74, false)), ([], (83, false)), ([], (88, false)), ([], (92, false)), ([], (102, true))] 9 [] 5 args h fun s _ => bOf s R
noncomputable def nuGoal (b off len cap n : Nat) (ob : Obj) (anew : Int) (P1 : Nat → Nat → List Int → Blks → Prop) (P3 : Nat → List Int → Blks → Prop) (R : Prop → Prop) : Prop :=
  nuRun [.slc 0 off len cap, .val (.int .i64 anew)] [.ro b (.obj ob), .chunk []] n P1 P3 R
noncomputable def nuNilGoal (o : Option Addr) (cap n : Nat) (anew : Int) (P1 : Nat → Nat → List Int → Blks → Prop) (P3 : Nat → List Int → Blks → Prop) (R : Prop → Prop) : Prop :=
  nuRun [.val (.slice o 0 cap), .val (.int .i64 anew)] [.gone (0, 0, 0), .chunk []] n P1 P3 R

def nuQ (q : SQ) : Prop := q.inter = true ∧ q.lines = [] ∧ q.all = 0
def nuP3 (b : Nat) (zs : List Int) (L : Blks) : Prop := ∃ q, SQAt q b L ∧ nuQ q ∧ zs = [(q.nums (7, false)).getD 0, (q.nums (7, true)).getD 0]
def nuP1 (n b i : Nat) (zs : List Int) (L : Blks) : Prop := i ≤ n ∧ nuP3 b zs L
def nuM (i : Int) (bl : Bool) : Msg := ⟨i, 0, 0, 7, bl, 0, 0⟩
def nuQ1 (q : SQ) (i : Int) (bl : Bool) : SQ := { q with lines := q.lines ++ [(7, [(nuM i bl).item [120]])], all := q.all + 1 }
theorem nu_step {q : SQ} (hq : nuQ q) (i : Int) (bl : Bool) :
    nextF (nuQ1 q i bl) 5 = (⟨64, true, true, bl, 7, (q.nums (7, bl)).getD 0, 0, 0, [120], i, 0, 0, true⟩, { q with lines := [], nums := updN q.nums (7, bl) (IntKind.wrap .u32 ((q.nums (7, bl)).getD 0 + 1)), held := false, all := 0 }) := by
  obtain ⟨inter, held, lines, nums, all⟩ := q
  obtain ⟨h1, h2, h3⟩ := hq
  simp only at h1 h2 h3
  subst h1 h2 h3
  simp [nextF, nuQ1, nuM, Msg.item, SQ.room, numF]
theorem nu_small {q : SQ} (hq : nuQ q) : q.small ∧ (0 ≤ q.all ∧ q.all ≤ 1000000) := by
  obtain ⟨h1, h2, h3⟩ := hq
  unfold SQ.small
  rw [h2, h3]
  exact ⟨⟨by simp, by simp⟩, by omega⟩
theorem nu_small1 {q : SQ} (hq : nuQ q) (i : Int) (bl : Bool) : (nuQ1 q i bl).small ∧ (0 ≤ (nuQ1 q i bl).all ∧ (nuQ1 q i bl).all ≤ 1000000) := by
  obtain ⟨h1, h2, h3⟩ := hq
  unfold SQ.small nuQ1
  simp only [h2, h3]
  exact ⟨⟨by simp, by simp⟩, by omega⟩
theorem nu_push {q q' : SQ} (hq : nuQ q) {i : Int} {bl : Bool} {code : Int} (h : PushP q (nuM i bl) [120] code q') : code = 0 ∧ q' = nuQ1 q i bl := by
  obtain ⟨h1, h2, h3⟩ := hq
  obtain ⟨e1, e2⟩ := pushP_new h ⟨by simp, by simp, by rw [h3]; decide⟩ (by rw [h2]; simp)
  exact ⟨e1, by rw [e2]; rfl⟩
theorem nu_goal (b off len cap n : Nat) (ob : Obj) (anew : Int) (Z : Nat → Bool) (hZ : ∀ i, i < len → objCell ob (off + i) = some (.bool (Z i))) (hn : n = min len 60) (P1 : Nat → Nat → List Int → Blks → Prop) (P3 : Nat → List Int → Blks → Prop) (R : Prop → Prop)
    (e1 : P1 = nuP1 n) (e3 : P3 = nuP3) (hR : ∀ p : Prop, p → R p) : nuGoal b off len cap n ob anew P1 P3 R :=
  Eq.mpr (by kernel_rfl) (show
  ∃ (x : Unit), ∃ (L : List (Nat × Blk)), ∃ (G : List (Nat × Blk)), List.Perm [] (L ++ G) ∧ FiPre x [] L ∧ ∀ (a : Unit) (L' : List (Nat × Blk)), FiPost x a L' → ∃ (x : Bool), ∃ (L : List (Nat × Blk)), ∃ (G_1 : List (Nat × Blk)), List.Perm (L' ++ G) (L ++ G_1) ∧ NewPre x [Value.bool Bool.true] L ∧ ∀ (a : Nat) (L' : List (Nat × Blk)), NewPost x a L' → (60 : Int) ≠ (0 : Int) ∧ ∀ (b_1 : Nat), ∃ (x0 : NuX), ((((0 : Int) = (↑x0.2 : Int) ∧ Value.pointer (Option.some { block := a, off := (0 : Nat) }) = Value.pointer (Option.some { block := x0.1, off := (0 : Nat) }) ∧
  (off = off ∧ len = len ∧ cap = cap) ∧ Min.min (↑len : Int) (60 : Int) = Min.min (↑len : Int) (60 : Int) ∧ IntKind.wrap IntKind.i64 (Int.tmod (IntKind.wrap IntKind.u64 anew) (60 : Int)) = IntKind.wrap IntKind.i64 (Int.tmod (IntKind.wrap IntKind.u64 anew) (60 : Int)) ∧ ((0 : Nat) = (0 : Nat) ∧ (0 : Nat) = (0 : Nat)) ∧ Min.min (↑len : Int) (60 : Int) = Min.min (↑len : Int) (60 : Int) ∧ True) ∧ (b = b ∧ ob = ob) ∧ L' ++ G_1 = x0.4 ∧ (b_1 = b_1 ∧ (0 : Nat) = (0 : Nat) ∧ (2 : Nat) = (2 : Nat) ∧ List.replicate (2 : Nat) (0 : Int) = x0.3 ∧ True) ∧ True) ∧ P1 x0.1 x0.2 x0.3 x0.4) ∧ ∀ (x : NuX),
  P1 x.1 x.2 x.3 x.4 → ((↑x.2 : Int) < Min.min (↑len : Int) (60 : Int) → ∃ (x0 : NuX), (((↑x.2 : Int) = IntKind.wrap IntKind.i64 (Int.tmod (IntKind.wrap IntKind.u64 anew) (60 : Int)) → ∀ (b_2 : Nat), ∃ (x_1 : RsX), ∃ (L : List (Nat × Blk)), ∃ (G : List (Nat × Blk)), List.Perm (x.4 ++ [(b_2, Blk.cells [Value.int IntKind.u16 (7 : Int)] (27 : Nat))]) (L ++ G) ∧ RsPre x_1 [Value.pointer (Option.some { block := x.1, off := (0 : Nat) }), Value.slice (Option.some { block := b_2, off := (0 : Nat) * (1 : Nat) }) (1 : Nat) (1 : Nat)] L ∧ ∀ (a : Unit) (L' : List (Nat × Blk)), RsPost x_1 a L' →
  (0 : Nat) < (2 : Nat) ∧ (1 : Nat) < (2 : Nat) ∧ ∃ (y : NuX), (((↑x.2 : Int) = (↑y.2 : Int) ∧ Value.pointer (Option.some { block := x.1, off := (0 : Nat) }) = Value.pointer (Option.some { block := y.1, off := (0 : Nat) }) ∧ (off = off ∧ len = len ∧ cap = cap) ∧ Min.min (↑len : Int) (60 : Int) = Min.min (↑len : Int) (60 : Int) ∧ IntKind.wrap IntKind.i64 (Int.tmod (IntKind.wrap IntKind.u64 anew) (60 : Int)) = IntKind.wrap IntKind.i64 (Int.tmod (IntKind.wrap IntKind.u64 anew) (60 : Int)) ∧ ((0 : Nat) = (0 : Nat) ∧ (0 : Nat) = (0 : Nat)) ∧
  Min.min (↑len : Int) (60 : Int) = Min.min (↑len : Int) (60 : Int) ∧ (↑x.2 : Int) = (↑x.2 : Int) ∧ True) ∧ (b = b ∧ ob = ob) ∧ L' ++ G = y.4 ∧ (b_1 = b_1 ∧ (0 : Nat) = (0 : Nat) ∧ (2 : Nat) = (2 : Nat) ∧ List.set (List.set x.3 (0 : Nat) (0 : Int)) (1 : Nat) (0 : Int) = y.3 ∧ True) ∧ True) ∧ y.2 = x0.2 ∧ P3 y.1 y.3 y.4) ∧ (¬(↑x.2 : Int) = IntKind.wrap IntKind.i64 (Int.tmod (IntKind.wrap IntKind.u64 anew) (60 : Int)) → ∃ (y : NuX), (((↑x.2 : Int) = (↑y.2 : Int) ∧ Value.pointer (Option.some { block := x.1, off := (0 : Nat) }) = Value.pointer (Option.some { block := y.1, off := (0 : Nat) }) ∧
  (off = off ∧ len = len ∧ cap = cap) ∧ Min.min (↑len : Int) (60 : Int) = Min.min (↑len : Int) (60 : Int) ∧ IntKind.wrap IntKind.i64 (Int.tmod (IntKind.wrap IntKind.u64 anew) (60 : Int)) = IntKind.wrap IntKind.i64 (Int.tmod (IntKind.wrap IntKind.u64 anew) (60 : Int)) ∧ ((0 : Nat) = (0 : Nat) ∧ (0 : Nat) = (0 : Nat)) ∧ Min.min (↑len : Int) (60 : Int) = Min.min (↑len : Int) (60 : Int) ∧ (↑x.2 : Int) = (↑x.2 : Int) ∧ True) ∧ (b = b ∧ ob = ob) ∧ x.4 = y.4 ∧ (b_1 = b_1 ∧ (0 : Nat) = (0 : Nat) ∧ (2 : Nat) = (2 : Nat) ∧ x.3 = y.3 ∧ True) ∧ True) ∧ y.2 = x0.2 ∧ P3 y.1 y.3 y.4)) ∧ ∀ (x_1 : NuX),
  x_1.2 = x0.2 ∧ P3 x_1.1 x_1.3 x_1.4 → ((0 : Int) ≤ (↑x_1.2 : Int) ∧ (↑x_1.2 : Int) < (↑len : Int)) ∧ ∃ (b_2 : Bool), objCell ob (off + x_1.2) = Option.some (Value.bool b_2) ∧ ∀ (b_3 : Nat), Value.oneCell' (Value.int IntKind.u8 (120 : Int)) = Bool.true ∧ ∃ (x_2 : PuX), ∃ (L : List (Nat × Blk)), ∃ (G : List (Nat × Blk)), List.Perm (x_1.4 ++ [(b_3, Blk.tab (5 : Nat) (0 : Nat) (1 : Nat) [Col.ints IntKind.u8 [(120 : Int)]])]) (L ++ G) ∧ PuPre x_2 [Value.pointer (Option.some { block := x_1.1, off := (0 : Nat) }), Value.int IntKind.i64 (↑x_1.2 : Int),
  Value.agg #[Value.int IntKind.i64 (0 : Int), Value.int IntKind.u32 (0 : Int)], Value.agg #[Value.int IntKind.u16 (7 : Int), Value.bool b_2, Value.int IntKind.u32 (0 : Int), Value.int IntKind.u32 (0 : Int), Value.slice (Option.some { block := b_3, off := (0 : Nat) * (1 : Nat) }) (1 : Nat) (1 : Nat)]] L ∧ ∀ (a : Int × SQ) (L' : List (Nat × Blk)), PuPost x_2 a L' → ¬a.1 ≠ (0 : Int) ∧ ∃ (x_3 : NxX), ∃ (L : List (Nat × Blk)), ∃ (G_2 : List (Nat × Blk)), List.Perm (L' ++ G) (L ++ G_2) ∧ NxPre x_3 [Value.pointer (Option.some { block := x_1.1, off := (0 : Nat) }), Value.int IntKind.i64 (5 : Int)]
  L ∧ ∀ (a : Ch × Sl × SQ) (L' : List (Nat × Blk)), NxPost x_3 a L' → ∀ (b_4 b_5 : Nat), Value.oneCell' (Value.int IntKind.u8 a.1.1) = Bool.true ∧ Value.oneCell' (Value.bool a.1.2) = Bool.true ∧ Value.oneCell' (Value.bool a.1.3) = Bool.true ∧ Value.oneCell' (Value.bool a.1.4) = Bool.true ∧ Value.oneCell' (Value.bool Bool.false) = Bool.true ∧ Value.oneCell' (Value.int IntKind.u32 (0 : Int)) = Bool.true ∧ Value.oneCell' (Value.int IntKind.u16 a.1.5) = Bool.true ∧ Value.oneCell' (Value.int IntKind.u32 a.1.6) = Bool.true ∧ Value.oneCell' (Value.int IntKind.u32 a.1.7) = Bool.true ∧
  Value.oneCell' (Value.int IntKind.u32 a.1.8) = Bool.true ∧ Value.oneCell' (Value.int IntKind.u32 (0 : Int)) = Bool.true ∧ Value.oneCell' (Value.int IntKind.u32 (0 : Int)) = Bool.true ∧ Value.oneCell' (Value.int IntKind.u16 (0 : Int)) = Bool.true ∧ Value.oneCell' (Value.int IntKind.u16 (0 : Int)) = Bool.true ∧ Value.oneCell' (Value.slice Option.none (0 : Nat) (0 : Nat)) = Bool.true ∧ Value.oneCell' (Value.slice Option.none (0 : Nat) (0 : Nat)) = Bool.true ∧ Value.oneCell' (Value.slice Option.none (0 : Nat) (0 : Nat)) = Bool.true ∧ Value.oneCell' (Value.slice Option.none (0 : Nat) (0 : Nat)) =
  Bool.true ∧ Value.oneCell' (Value.slice a.2.1.1 a.2.1.2 a.2.1.3) = Bool.true ∧ Value.oneCell' (Value.int IntKind.i64 a.1.11) = Bool.true ∧ Value.oneCell' (Value.int IntKind.u32 a.1.12) = Bool.true ∧ ((0 : Int) ≤ (↑x_1.2 : Int) ∧ (↑x_1.2 : Int) < (↑len : Int)) ∧ ∃ (b_6 : Bool), objCell ob (off + x_1.2) = Option.some (Value.bool b_6) ∧ (b_6 = Bool.true → ¬a.1.13 = Bool.false ∧ ¬a.1.10 ≠ (↑x_1.2 : Int) ∧ ((0 : Int) ≤ (1 : Int) ∧ (1 : Int) < (↑(2 : Nat) : Int)) ∧ (1 : Nat) < (2 : Nat) ∧ ¬a.1.6 ≠ List.getD x_1.3 (1 : Nat) (0 : Int) ∧ ((0 : Int) ≤ (↑x_1.2 : Int) ∧ (↑x_1.2 : Int) < (↑len : Int)) ∧
  ∃ (b_7 : Bool), objCell ob (off + x_1.2) = Option.some (Value.bool b_7) ∧ ¬¬(a.1.4 = Bool.true ↔ b_7 = Bool.true) ∧ ¬a.1.2 = Bool.false ∧ ¬a.1.3 = Bool.false ∧ ((0 : Int) ≤ (1 : Int) ∧ (1 : Int) < (↑(2 : Nat) : Int)) ∧ (1 : Nat) < (2 : Nat) ∧ ((0 : Int) ≤ (1 : Int) ∧ (1 : Int) < (↑(2 : Nat) : Int)) ∧ (1 : Nat) < (2 : Nat) ∧ ∃ (y : NuX), n - y.2 < n - x.2 ∧ ((IntKind.wrap IntKind.i64 ((↑x.2 : Int) + (1 : Int)) = (↑y.2 : Int) ∧ Value.pointer (Option.some { block := x_1.1, off := (0 : Nat) }) = Value.pointer (Option.some { block := y.1, off := (0 : Nat) }) ∧ (off = off ∧ len = len ∧ cap =
  cap) ∧ Min.min (↑len : Int) (60 : Int) = Min.min (↑len : Int) (60 : Int) ∧ IntKind.wrap IntKind.i64 (Int.tmod (IntKind.wrap IntKind.u64 anew) (60 : Int)) = IntKind.wrap IntKind.i64 (Int.tmod (IntKind.wrap IntKind.u64 anew) (60 : Int)) ∧ ((0 : Nat) = (0 : Nat) ∧ (0 : Nat) = (0 : Nat)) ∧ Min.min (↑len : Int) (60 : Int) = Min.min (↑len : Int) (60 : Int) ∧ True) ∧ (b = b ∧ ob = ob) ∧ L' ++ G_2 = y.4 ∧ (b_1 = b_1 ∧ (0 : Nat) = (0 : Nat) ∧ (2 : Nat) = (2 : Nat) ∧ List.set x_1.3 (1 : Nat) (IntKind.wrap IntKind.u32 (List.getD x_1.3 (1 : Nat) (0 : Int) + (1 : Int))) = y.3 ∧ True) ∧ True) ∧
  P1 y.1 y.2 y.3 y.4) ∧ (¬b_6 = Bool.true → ¬a.1.13 = Bool.false ∧ ¬a.1.10 ≠ (↑x_1.2 : Int) ∧ ((0 : Int) ≤ (0 : Int) ∧ (0 : Int) < (↑(2 : Nat) : Int)) ∧ (0 : Nat) < (2 : Nat) ∧ ¬a.1.6 ≠ List.getD x_1.3 (0 : Nat) (0 : Int) ∧ ((0 : Int) ≤ (↑x_1.2 : Int) ∧ (↑x_1.2 : Int) < (↑len : Int)) ∧ ∃ (b_7 : Bool), objCell ob (off + x_1.2) = Option.some (Value.bool b_7) ∧ ¬¬(a.1.4 = Bool.true ↔ b_7 = Bool.true) ∧ ¬a.1.2 = Bool.false ∧ ¬a.1.3 = Bool.false ∧ ((0 : Int) ≤ (0 : Int) ∧ (0 : Int) < (↑(2 : Nat) : Int)) ∧ (0 : Nat) < (2 : Nat) ∧ ((0 : Int) ≤ (0 : Int) ∧ (0 : Int) < (↑(2 : Nat) : Int)) ∧
  (0 : Nat) < (2 : Nat) ∧ ∃ (y : NuX), n - y.2 < n - x.2 ∧ ((IntKind.wrap IntKind.i64 ((↑x.2 : Int) + (1 : Int)) = (↑y.2 : Int) ∧ Value.pointer (Option.some { block := x_1.1, off := (0 : Nat) }) = Value.pointer (Option.some { block := y.1, off := (0 : Nat) }) ∧ (off = off ∧ len = len ∧ cap = cap) ∧ Min.min (↑len : Int) (60 : Int) = Min.min (↑len : Int) (60 : Int) ∧ IntKind.wrap IntKind.i64 (Int.tmod (IntKind.wrap IntKind.u64 anew) (60 : Int)) = IntKind.wrap IntKind.i64 (Int.tmod (IntKind.wrap IntKind.u64 anew) (60 : Int)) ∧ ((0 : Nat) = (0 : Nat) ∧ (0 : Nat) = (0 : Nat)) ∧ Min.min (↑len : Int)
  (60 : Int) = Min.min (↑len : Int) (60 : Int) ∧ True) ∧ (b = b ∧ ob = ob) ∧ L' ++ G_2 = y.4 ∧ (b_1 = b_1 ∧ (0 : Nat) = (0 : Nat) ∧ (2 : Nat) = (2 : Nat) ∧ List.set x_1.3 (0 : Nat) (IntKind.wrap IntKind.u32 (List.getD x_1.3 (0 : Nat) (0 : Int) + (1 : Int))) = y.3 ∧ True) ∧ True) ∧ P1 y.1 y.2 y.3 y.4)) ∧ (¬(↑x.2 : Int) < Min.min (↑len : Int) (60 : Int) → ∃ (x_1 : SQ × Nat), ∃ (L : List (Nat × Blk)), ∃ (G : List (Nat × Blk)), List.Perm x.4 (L ++ G) ∧ AlPre x_1 [Value.pointer (Option.some { block := x.1, off := (0 : Nat) })] L ∧ ∀ (a : Int) (L' : List (Nat × Blk)), AlPost x_1 a L' →
  a = (0 : Int) ∧ ∃ (x_2 : ByY), ∃ (L : List (Nat × Blk)), ∃ (G_2 : List (Nat × Blk)), List.Perm (L' ++ G) (L ++ G_2) ∧ ByPre x_2 [Value.pointer (Option.some { block := x.1, off := (0 : Nat) }), Value.int IntKind.u16 (7 : Int)] L ∧ ∀ (a : Int) (L' : List (Nat × Blk)), ByPost x_2 a L' → R (a = (0 : Int))) from by
  subst e1 e3
  simp only [eq_self, true_and, and_true, false_and, and_false, or_false, false_or, and_self, Nat.zero_add, Nat.add_zero, Nat.sub_zero, Nat.zero_mul, Nat.mul_one, Int.toNat_natCast, cond_true, cond_false, forall_const, implies_true, Nat.beq_refl, ne_eq, not_false_eq_true, not_true_eq_false, Classical.not_not, List.cons.injEq, List.append_nil, List.nil_append, Go.Value.int.injEq, Go.Value.bool.injEq, Go.Value.slice.injEq, Nat.le_refl, Nat.zero_le, Go.Sx.one_int, Go.Sx.one_bool, Go.Sx.one_slice, Go.Sx.one_ptr, Go.Sx.one_map, Int.cast_ofNat_Int, reduceCtorEq, Nat.reduceLeDiff, Nat.reduceMul, Nat.reduceAdd, Nat.reduceSub, Nat.reduceEqDiff, Int.reduceLE, Int.reduceLT, Int.reduceEq, Int.reduceAdd, Int.reduceSub, Int.reduceNeg, Int.reduceMul, Nat.reduceBEq]
  refine ⟨(), [], [], List.Perm.refl [], ⟨rfl, rfl⟩, fun _ L0 _ => ⟨true, [], L0, by simp, ⟨rfl, rfl⟩, fun bq L1 hnew => ⟨⟨bq, 0, [0, 0], L1 ++ L0⟩, ⟨⟨⟨rfl, rfl⟩, rfl, rfl⟩, Nat.zero_le _, _, SQAt.more hnew L0, ⟨rfl, rfl, rfl⟩, rfl⟩, fun x hx => ⟨fun hlt => ?_, fun hge => ?_⟩⟩⟩⟩
  · obtain ⟨hin, q, hq, hqq, hz⟩ := hx
    have hi : x.i < len ∧ x.i < 60 := by omega
    refine ⟨⟨0, x.i, [], []⟩, ⟨fun hk b1 => ⟨⟨q, x.b, [7], .slice (some ⟨b1, 0, none⟩) 1 1⟩, x.L ++ [(b1, .cells [.int .u16 7] 27)], [], by simp, ⟨rfl, by simp, .inr ⟨by simp, x.L, [(b1, .cells [.int .u16 7] 27)], List.Perm.refl _, hq, _, sees_ints b1 27 .u16 [7], ⟨b1, 0, 0, 1, 1, [7], []⟩, ⟨Nat.le_refl _, by simp, rfl, rfl⟩, rfl, List.Perm.refl _⟩⟩, fun _ L2 hp => ⟨by omega, by omega, ⟨x.b, x.i, [0, 0], L2⟩, ⟨⟨rfl, rfl⟩, by simp, ?_⟩, rfl, _, hp, hqq, ?_⟩⟩, fun hk => ⟨⟨x.b, x.i, x.zs, x.L⟩, ⟨⟨rfl, rfl⟩, rfl, rfl⟩, rfl, q, hq, hqq, hz⟩⟩, fun y hy => ?_⟩
    · rw [hz]; rfl
    · simp [rsF]
    · obtain ⟨hyi, hy⟩ := hy
      simp only at hyi
      clear hq hqq hz q
      obtain ⟨q, hq, hqq, hz⟩ := hy
      have hZi := hZ x.i hi.1
      obtain ⟨yb, yi, yz, yL⟩ := y
      simp only at hyi hq hz
      subst hyi
      dsimp only
      refine ⟨⟨by omega, by omega⟩, Z x.i, hZi, fun b1 => ⟨⟨q, yb, nuM x.i (Z x.i), [120], .slice (some ⟨b1, 0, none⟩) 1 1⟩, yL ++ [(b1, .tab 5 0 1 [.ints .u8 [120]])], [], by simp, ⟨rfl, (nu_small hqq).1, (nu_small hqq).2, yL, [(b1, .tab 5 0 1 [.ints .u8 [120]])], List.Perm.refl _, hq, win_lit (l := [120]) rfl b1⟩, fun a1 L3 p1 => ?_⟩⟩
      obtain ⟨p1, A1, B1, p2, p3, -⟩ := p1
      obtain ⟨e1, e2⟩ := nu_push hqq p1
      simp only at p3
      rw [e2] at p3
      have s1 : SQAt (nuQ1 q x.i (Z x.i)) yb L3 := (p3.more B1).permL p2
      have sm := nu_small1 hqq x.i (Z x.i)
      have hst := nu_step hqq x.i (Z x.i)
      refine ⟨e1, ⟨nuQ1 q x.i (Z x.i), yb, 5⟩, L3, [], by simp, ⟨rfl, sm.1, sm.2, s1⟩, fun a2 L4 r => ?_⟩
      obtain ⟨r1, A2, B2, r2, r3⟩ := nx_post0 r
      rw [hst] at r1 r3
      simp only at r3
      have s2 := (r3.more B2).permL r2
      have fin : ∀ bl, Z x.i = bl → ∃ y : NuX, n - y.i < n - x.i ∧ ((IntKind.wrap .i64 ((x.i : Int) + 1) = (y.i : Int) ∧ Value.pointer (some ⟨yb, 0, none⟩) = Value.pointer (some ⟨y.b, 0, none⟩)) ∧ L4 = y.L ∧ yz.set (if bl then 1 else 0) (IntKind.wrap .u32 (yz.getD (if bl then 1 else 0) 0 + 1)) = y.zs) ∧ nuP1 n y.b y.i y.zs y.L := fun bl hbl => by
        refine ⟨⟨yb, x.i + 1, yz.set (if bl then 1 else 0) (IntKind.wrap .u32 (yz.getD (if bl then 1 else 0) 0 + 1)), L4⟩, by show n - (x.i + 1) < n - x.i; omega, ⟨⟨ix_succ hi.2 (by omega), rfl⟩, rfl, rfl⟩, by show x.i + 1 ≤ n; omega, _, s2, ⟨hqq.1, rfl, rfl⟩, ?_⟩
        rw [hz, hbl]
        cases bl <;> simp [updN]
      refine ⟨⟨by omega, by omega⟩, Z x.i, hZi, fun hb => ?_, fun hb => ?_⟩
      · have hb' : Z x.i = true := hb
        refine ⟨by rw [r1]; simp, by rw [r1], by omega, by rw [r1, hz, hb']; rfl, ⟨by omega, by omega⟩, Z x.i, hZi, by rw [r1], by rw [r1]; simp, by rw [r1]; simp, by omega, by omega, ?_⟩
        simpa using fin true hb'
      · have hb' : Z x.i = false := by simpa using hb
        refine ⟨by rw [r1]; simp, by rw [r1], by omega, by rw [r1, hz, hb']; rfl, ⟨by omega, by omega⟩, Z x.i, hZi, by rw [r1], by rw [r1]; simp, by rw [r1]; simp, by omega, by omega, ?_⟩
        simpa using fin false hb'
  · obtain ⟨hin, q, hq, hqq, hz⟩ := hx
    refine ⟨(q, x.b), x.L, [], by simp, ⟨rfl, hq⟩, fun a L2 ht => ⟨ht.1.trans hqq.2.2, ⟨q, x.b, 7⟩, L2, [], by simp, ⟨rfl, ⟨by rw [hqq.2.1]; simp [lineF, sumB], by rw [hqq.2.1]; simp [lineF, sumB]⟩, ht.2⟩, fun s L3 hs => hR _ ?_⟩⟩
    rw [hs.1, hqq.2.1]; rfl)
theorem nuNil_goal (o : Option Addr) (cap n : Nat) (anew : Int) (hn : n = 0) (P1 : Nat → Nat → List Int → Blks → Prop) (P3 : Nat → List Int → Blks → Prop) (R : Prop → Prop)
    (e1 : P1 = nuP1 n) (hR : ∀ p : Prop, p → R p) : nuNilGoal o cap n anew P1 P3 R :=
  Eq.mpr (by kernel_rfl) (show
  ∃ (x : Unit), ∃ (L : List (Nat × Blk)), ∃ (G : List (Nat × Blk)), List.Perm [] (L ++ G) ∧ FiPre x [] L ∧ ∀ (a : Unit) (L' : List (Nat × Blk)), FiPost x a L' → ∃ (x : Bool), ∃ (L : List (Nat × Blk)), ∃ (G_1 : List (Nat × Blk)), List.Perm (L' ++ G) (L ++ G_1) ∧ NewPre x [Value.bool Bool.true] L ∧ ∀ (a : Nat) (L' : List (Nat × Blk)), NewPost x a L' → (60 : Int) ≠ (0 : Int) ∧ ∀ (b : Nat), ∃ (x0 : NuX), ((((0 : Int) = (↑x0.2 : Int) ∧ Value.pointer (Option.some { block := a, off := (0 : Nat) }) = Value.pointer (Option.some { block := x0.1, off := (0 : Nat) }) ∧
  Value.slice o (0 : Nat) cap = Value.slice o (0 : Nat) cap ∧ Min.min (↑(0 : Nat) : Int) (60 : Int) = Min.min (↑(0 : Nat) : Int) (60 : Int) ∧ IntKind.wrap IntKind.i64 (Int.tmod (IntKind.wrap IntKind.u64 anew) (60 : Int)) = IntKind.wrap IntKind.i64 (Int.tmod (IntKind.wrap IntKind.u64 anew) (60 : Int)) ∧ ((0 : Nat) = (0 : Nat) ∧ (0 : Nat) = (0 : Nat)) ∧ Min.min (↑(0 : Nat) : Int) (60 : Int) = Min.min (↑(0 : Nat) : Int) (60 : Int) ∧ True) ∧ ((0 : Nat), (0 : Nat), (0 : Nat)) = ((0 : Nat), (0 : Nat), (0 : Nat)) ∧
  L' ++ G_1 = x0.4 ∧ (b = b ∧ (0 : Nat) = (0 : Nat) ∧ (2 : Nat) = (2 : Nat) ∧ List.replicate (2 : Nat) (0 : Int) = x0.3 ∧ True) ∧ True) ∧ P1 x0.1 x0.2 x0.3 x0.4) ∧ ∀ (x : NuX), P1 x.1 x.2 x.3 x.4 → ((↑x.2 : Int) < Min.min (↑(0 : Nat) : Int) (60 : Int) → ∃ (x0 : NuX), (((↑x.2 : Int) = IntKind.wrap IntKind.i64 (Int.tmod (IntKind.wrap IntKind.u64 anew) (60 : Int)) → ∀ (b_1 : Nat), ∃ (x_1 : RsX), ∃ (L : List (Nat × Blk)), ∃ (G : List (Nat × Blk)), List.Perm (x.4 ++ [(b_1, Blk.cells [Value.int IntKind.u16 (7 : Int)] (27 : Nat))]) (L ++ G) ∧ RsPre x_1
  [Value.pointer (Option.some { block := x.1, off := (0 : Nat) }), Value.slice (Option.some { block := b_1, off := (0 : Nat) * (1 : Nat) }) (1 : Nat) (1 : Nat)] L ∧ ∀ (a : Unit) (L' : List (Nat × Blk)), RsPost x_1 a L' → (0 : Nat) < (2 : Nat) ∧ (1 : Nat) < (2 : Nat) ∧ ∃ (y : NuX), (((↑x.2 : Int) = (↑y.2 : Int) ∧ Value.pointer (Option.some { block := x.1, off := (0 : Nat) }) = Value.pointer (Option.some { block := y.1, off := (0 : Nat) }) ∧ Value.slice o (0 : Nat) cap = Value.slice o (0 : Nat) cap ∧ Min.min (↑(0 : Nat) : Int) (60 : Int) = Min.min (↑(0 : Nat) : Int) (60 : Int) ∧
  IntKind.wrap IntKind.i64 (Int.tmod (IntKind.wrap IntKind.u64 anew) (60 : Int)) = IntKind.wrap IntKind.i64 (Int.tmod (IntKind.wrap IntKind.u64 anew) (60 : Int)) ∧ ((0 : Nat) = (0 : Nat) ∧ (0 : Nat) = (0 : Nat)) ∧ Min.min (↑(0 : Nat) : Int) (60 : Int) = Min.min (↑(0 : Nat) : Int) (60 : Int) ∧ (↑x.2 : Int) = (↑x.2 : Int) ∧ True) ∧ ((0 : Nat), (0 : Nat), (0 : Nat)) = ((0 : Nat), (0 : Nat), (0 : Nat)) ∧ L' ++ G = y.4 ∧ (b = b ∧ (0 : Nat) = (0 : Nat) ∧ (2 : Nat) = (2 : Nat) ∧ List.set (List.set x.3 (0 : Nat) (0 : Int)) (1 : Nat) (0 : Int) = y.3 ∧ True) ∧ True) ∧ y.2 = x0.2 ∧ P3 y.1 y.3 y.4) ∧
  (¬(↑x.2 : Int) = IntKind.wrap IntKind.i64 (Int.tmod (IntKind.wrap IntKind.u64 anew) (60 : Int)) → ∃ (y : NuX), (((↑x.2 : Int) = (↑y.2 : Int) ∧ Value.pointer (Option.some { block := x.1, off := (0 : Nat) }) = Value.pointer (Option.some { block := y.1, off := (0 : Nat) }) ∧ Value.slice o (0 : Nat) cap = Value.slice o (0 : Nat) cap ∧ Min.min (↑(0 : Nat) : Int) (60 : Int) = Min.min (↑(0 : Nat) : Int) (60 : Int) ∧ IntKind.wrap IntKind.i64 (Int.tmod (IntKind.wrap IntKind.u64 anew) (60 : Int)) = IntKind.wrap IntKind.i64 (Int.tmod (IntKind.wrap IntKind.u64 anew) (60 : Int)) ∧
  ((0 : Nat) = (0 : Nat) ∧ (0 : Nat) = (0 : Nat)) ∧ Min.min (↑(0 : Nat) : Int) (60 : Int) = Min.min (↑(0 : Nat) : Int) (60 : Int) ∧ (↑x.2 : Int) = (↑x.2 : Int) ∧ True) ∧ ((0 : Nat), (0 : Nat), (0 : Nat)) = ((0 : Nat), (0 : Nat), (0 : Nat)) ∧ x.4 = y.4 ∧ (b = b ∧ (0 : Nat) = (0 : Nat) ∧ (2 : Nat) = (2 : Nat) ∧ x.3 = y.3 ∧ True) ∧ True) ∧ y.2 = x0.2 ∧ P3 y.1 y.3 y.4)) ∧ ∀ (x_1 : NuX), x_1.2 = x0.2 ∧ P3 x_1.1 x_1.3 x_1.4 → rawA o fun (b_1 x0 : Nat) => ((0 : Int) ≤ (↑x_1.2 : Int) ∧ (↑x_1.2 : Int) < (↑(0 : Nat) : Int)) ∧ ∃ (x_2 : Bool), rawCell x_1.4 b_1 (x0 + x_1.2 * (1 : Nat)) (Value.bool x_2) ∧
  ∀ (b_2 : Nat), Value.oneCell' (Value.int IntKind.u8 (120 : Int)) = Bool.true ∧ ∃ (x_3 : PuX), ∃ (L : List (Nat × Blk)), ∃ (G : List (Nat × Blk)), List.Perm (x_1.4 ++ [(b_2, Blk.tab (5 : Nat) (0 : Nat) (1 : Nat) [Col.ints IntKind.u8 [(120 : Int)]])]) (L ++ G) ∧ PuPre x_3 [Value.pointer (Option.some { block := x_1.1, off := (0 : Nat) }), Value.int IntKind.i64 (↑x_1.2 : Int), Value.agg #[Value.int IntKind.i64 (0 : Int), Value.int IntKind.u32 (0 : Int)], Value.agg #[Value.int IntKind.u16 (7 : Int), Value.bool x_2, Value.int IntKind.u32 (0 : Int), Value.int IntKind.u32 (0 : Int),
  Value.slice (Option.some { block := b_2, off := (0 : Nat) * (1 : Nat) }) (1 : Nat) (1 : Nat)]] L ∧ ∀ (a : Int × SQ) (L' : List (Nat × Blk)), PuPost x_3 a L' → ¬a.1 ≠ (0 : Int) ∧ ∃ (x_4 : NxX), ∃ (L : List (Nat × Blk)), ∃ (G_2 : List (Nat × Blk)), List.Perm (L' ++ G) (L ++ G_2) ∧ NxPre x_4 [Value.pointer (Option.some { block := x_1.1, off := (0 : Nat) }), Value.int IntKind.i64 (5 : Int)] L ∧ ∀ (a : Ch × Sl × SQ) (L' : List (Nat × Blk)), NxPost x_4 a L' → ∀ (b_3 b_4 : Nat), Value.oneCell' (Value.int IntKind.u8 a.1.1) = Bool.true ∧ Value.oneCell' (Value.bool a.1.2) = Bool.true ∧
  Value.oneCell' (Value.bool a.1.3) = Bool.true ∧ Value.oneCell' (Value.bool a.1.4) = Bool.true ∧ Value.oneCell' (Value.bool Bool.false) = Bool.true ∧ Value.oneCell' (Value.int IntKind.u32 (0 : Int)) = Bool.true ∧ Value.oneCell' (Value.int IntKind.u16 a.1.5) = Bool.true ∧ Value.oneCell' (Value.int IntKind.u32 a.1.6) = Bool.true ∧ Value.oneCell' (Value.int IntKind.u32 a.1.7) = Bool.true ∧ Value.oneCell' (Value.int IntKind.u32 a.1.8) = Bool.true ∧ Value.oneCell' (Value.int IntKind.u32 (0 : Int)) = Bool.true ∧ Value.oneCell' (Value.int IntKind.u32 (0 : Int)) = Bool.true ∧
  Value.oneCell' (Value.int IntKind.u16 (0 : Int)) = Bool.true ∧ Value.oneCell' (Value.int IntKind.u16 (0 : Int)) = Bool.true ∧ Value.oneCell' (Value.slice Option.none (0 : Nat) (0 : Nat)) = Bool.true ∧ Value.oneCell' (Value.slice Option.none (0 : Nat) (0 : Nat)) = Bool.true ∧ Value.oneCell' (Value.slice Option.none (0 : Nat) (0 : Nat)) = Bool.true ∧ Value.oneCell' (Value.slice Option.none (0 : Nat) (0 : Nat)) = Bool.true ∧ Value.oneCell' (Value.slice a.2.1.1 a.2.1.2 a.2.1.3) = Bool.true ∧ Value.oneCell' (Value.int IntKind.i64 a.1.11) = Bool.true ∧
  Value.oneCell' (Value.int IntKind.u32 a.1.12) = Bool.true ∧ rawA o fun (b_5 x0 : Nat) => ((0 : Int) ≤ (↑x_1.2 : Int) ∧ (↑x_1.2 : Int) < (↑(0 : Nat) : Int)) ∧ ∃ (x_5 : Bool), rawCell (L' ++ G_2) b_5 (x0 + x_1.2 * (1 : Nat)) (Value.bool x_5) ∧ (x_5 = Bool.true → ¬a.1.13 = Bool.false ∧ ¬a.1.10 ≠ (↑x_1.2 : Int) ∧ ((0 : Int) ≤ (1 : Int) ∧ (1 : Int) < (↑(2 : Nat) : Int)) ∧ (1 : Nat) < (2 : Nat) ∧ ¬a.1.6 ≠ List.getD x_1.3 (1 : Nat) (0 : Int) ∧ rawA o fun (b_6 x0 : Nat) => ((0 : Int) ≤ (↑x_1.2 : Int) ∧ (↑x_1.2 : Int) < (↑(0 : Nat) : Int)) ∧ ∃ (x_6 : Bool), rawCell (L' ++ G_2) b_6
  (x0 + x_1.2 * (1 : Nat)) (Value.bool x_6) ∧ ¬¬(a.1.4 = Bool.true ↔ x_6 = Bool.true) ∧ ¬a.1.2 = Bool.false ∧ ¬a.1.3 = Bool.false ∧ ((0 : Int) ≤ (1 : Int) ∧ (1 : Int) < (↑(2 : Nat) : Int)) ∧ (1 : Nat) < (2 : Nat) ∧ ((0 : Int) ≤ (1 : Int) ∧ (1 : Int) < (↑(2 : Nat) : Int)) ∧ (1 : Nat) < (2 : Nat) ∧ ∃ (y : NuX), n - y.2 < n - x.2 ∧ ((IntKind.wrap IntKind.i64 ((↑x.2 : Int) + (1 : Int)) = (↑y.2 : Int) ∧ Value.pointer (Option.some { block := x_1.1, off := (0 : Nat) }) = Value.pointer (Option.some { block := y.1, off := (0 : Nat) }) ∧ Value.slice o (0 : Nat) cap = Value.slice o (0 : Nat) cap ∧
  Min.min (↑(0 : Nat) : Int) (60 : Int) = Min.min (↑(0 : Nat) : Int) (60 : Int) ∧ IntKind.wrap IntKind.i64 (Int.tmod (IntKind.wrap IntKind.u64 anew) (60 : Int)) = IntKind.wrap IntKind.i64 (Int.tmod (IntKind.wrap IntKind.u64 anew) (60 : Int)) ∧ ((0 : Nat) = (0 : Nat) ∧ (0 : Nat) = (0 : Nat)) ∧ Min.min (↑(0 : Nat) : Int) (60 : Int) = Min.min (↑(0 : Nat) : Int) (60 : Int) ∧ True) ∧ ((0 : Nat), (0 : Nat), (0 : Nat)) = ((0 : Nat), (0 : Nat), (0 : Nat)) ∧ L' ++ G_2 = y.4 ∧ (b = b ∧ (0 : Nat) = (0 : Nat) ∧ (2 : Nat) = (2 : Nat) ∧ List.set x_1.3 (1 : Nat) (IntKind.wrap IntKind.u32 (List.getD x_1.3
  (1 : Nat) (0 : Int) + (1 : Int))) = y.3 ∧ True) ∧ True) ∧ P1 y.1 y.2 y.3 y.4) ∧ (¬x_5 = Bool.true → ¬a.1.13 = Bool.false ∧ ¬a.1.10 ≠ (↑x_1.2 : Int) ∧ ((0 : Int) ≤ (0 : Int) ∧ (0 : Int) < (↑(2 : Nat) : Int)) ∧ (0 : Nat) < (2 : Nat) ∧ ¬a.1.6 ≠ List.getD x_1.3 (0 : Nat) (0 : Int) ∧ rawA o fun (b_6 x0 : Nat) => ((0 : Int) ≤ (↑x_1.2 : Int) ∧ (↑x_1.2 : Int) < (↑(0 : Nat) : Int)) ∧ ∃ (x_6 : Bool), rawCell (L' ++ G_2) b_6 (x0 + x_1.2 * (1 : Nat)) (Value.bool x_6) ∧ ¬¬(a.1.4 = Bool.true ↔ x_6 = Bool.true) ∧ ¬a.1.2 = Bool.false ∧ ¬a.1.3 = Bool.false ∧ ((0 : Int) ≤ (0 : Int) ∧ (0 : Int) < (↑(2 : Nat) :
  Int)) ∧ (0 : Nat) < (2 : Nat) ∧ ((0 : Int) ≤ (0 : Int) ∧ (0 : Int) < (↑(2 : Nat) : Int)) ∧ (0 : Nat) < (2 : Nat) ∧ ∃ (y : NuX), n - y.2 < n - x.2 ∧ ((IntKind.wrap IntKind.i64 ((↑x.2 : Int) + (1 : Int)) = (↑y.2 : Int) ∧ Value.pointer (Option.some { block := x_1.1, off := (0 : Nat) }) = Value.pointer (Option.some { block := y.1, off := (0 : Nat) }) ∧ Value.slice o (0 : Nat) cap = Value.slice o (0 : Nat) cap ∧ Min.min (↑(0 : Nat) : Int) (60 : Int) = Min.min (↑(0 : Nat) : Int) (60 : Int) ∧ IntKind.wrap IntKind.i64 (Int.tmod (IntKind.wrap IntKind.u64 anew) (60 : Int)) = IntKind.wrap IntKind.i64
  (Int.tmod (IntKind.wrap IntKind.u64 anew) (60 : Int)) ∧ ((0 : Nat) = (0 : Nat) ∧ (0 : Nat) = (0 : Nat)) ∧ Min.min (↑(0 : Nat) : Int) (60 : Int) = Min.min (↑(0 : Nat) : Int) (60 : Int) ∧ True) ∧ ((0 : Nat), (0 : Nat), (0 : Nat)) = ((0 : Nat), (0 : Nat), (0 : Nat)) ∧ L' ++ G_2 = y.4 ∧ (b = b ∧ (0 : Nat) = (0 : Nat) ∧ (2 : Nat) = (2 : Nat) ∧ List.set x_1.3 (0 : Nat) (IntKind.wrap IntKind.u32 (List.getD x_1.3 (0 : Nat) (0 : Int) + (1 : Int))) = y.3 ∧ True) ∧ True) ∧ P1 y.1 y.2 y.3 y.4)) ∧ (¬(↑x.2 : Int) < Min.min (↑(0 : Nat) : Int) (60 : Int) → ∃ (x_1 : SQ × Nat), ∃ (L : List (Nat × Blk)),
  ∃ (G : List (Nat × Blk)), List.Perm x.4 (L ++ G) ∧ AlPre x_1 [Value.pointer (Option.some { block := x.1, off := (0 : Nat) })] L ∧ ∀ (a : Int) (L' : List (Nat × Blk)), AlPost x_1 a L' → a = (0 : Int) ∧ ∃ (x_2 : ByY), ∃ (L : List (Nat × Blk)), ∃ (G_2 : List (Nat × Blk)), List.Perm (L' ++ G) (L ++ G_2) ∧ ByPre x_2 [Value.pointer (Option.some { block := x.1, off := (0 : Nat) }), Value.int IntKind.u16 (7 : Int)] L ∧ ∀ (a : Int) (L' : List (Nat × Blk)), ByPost x_2 a L' → R (a = (0 : Int))) from by
  subst e1 hn
  have hmin : Min.min (0 : Int) 60 = 0 := rfl
  simp only [eq_self, true_and, and_true, false_and, and_false, or_false, false_or, and_self, Nat.zero_add, Nat.add_zero, Nat.sub_zero, Nat.zero_mul, Nat.mul_one, Int.toNat_natCast, cond_true, cond_false, forall_const, implies_true, Nat.beq_refl, ne_eq, not_false_eq_true, not_true_eq_false, Classical.not_not, List.cons.injEq, List.append_nil, List.nil_append, Go.Value.int.injEq, Go.Value.bool.injEq, Go.Value.slice.injEq, Nat.le_refl, Nat.zero_le, Go.Sx.one_int, Go.Sx.one_bool, Go.Sx.one_slice, Go.Sx.one_ptr, Go.Sx.one_map, Int.cast_ofNat_Int, reduceCtorEq, Nat.reduceLeDiff, Nat.reduceMul, Nat.reduceAdd, Nat.reduceSub, Nat.reduceEqDiff, Int.reduceLE, Int.reduceLT, Int.reduceEq, Int.reduceAdd, Int.reduceSub, Int.reduceNeg, Int.reduceMul, Nat.reduceBEq, hmin]
  refine ⟨(), [], [], List.Perm.refl [], ⟨rfl, rfl⟩, fun _ L0 _ => ⟨true, [], L0, by simp, ⟨rfl, rfl⟩, fun bq L1 hnew => ⟨⟨bq, 0, [0, 0], L1 ++ L0⟩, ⟨⟨⟨rfl, rfl⟩, rfl, rfl⟩, Nat.zero_le _, _, SQAt.more hnew L0, ⟨rfl, rfl, rfl⟩, rfl⟩, fun x hx => ⟨fun hlt => absurd hlt (by omega), fun hge => ?_⟩⟩⟩⟩
  obtain ⟨hin, q, hq, hqq, hz⟩ := hx
  refine ⟨(q, x.b), x.L, [], by simp, ⟨rfl, hq⟩, fun a L2 ht => ⟨ht.1.trans hqq.2.2, ⟨q, x.b, 7⟩, L2, [], by simp, ⟨rfl, ⟨by rw [hqq.2.1]; simp [lineF, sumB], by rw [hqq.2.1]; simp [lineF]⟩, ht.2⟩, fun s L3 hs => hR _ ?_⟩⟩
  rw [hs.1, hqq.2.1]; rfl)
theorem seven_sound : ∀ p ∈ [(14, firstT), (15, newnT), (16, pushnT), (17, nextnT), (18, allnT), (25, resnT), (26, bytnT)], SoundT Go.Proofs.Try.prog p.1 p.2 := by
  intro p hp
  simp only [List.mem_cons, List.not_mem_nil, or_false] at hp
  rcases hp with rfl | rfl | rfl | rfl | rfl | rfl | rfl
  · exact firstT_sound
  · exact newnT_sound
  · exact pushnT_sound
  · exact nextnT_sound
  · exact allnT_sound
  · exact resnT_sound
  · exact bytnT_sound
end Go.Proofs.Ythkcfocoekonjaa
