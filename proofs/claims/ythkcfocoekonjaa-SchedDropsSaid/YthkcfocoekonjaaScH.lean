/- Queues: first. -/
import Derived.Test.YthkcfocoekonjaaScI
set_option maxRecDepth 100000
set_option linter.unusedVariables false
set_option linter.unusedSimpArgs false
namespace Go.Proofs.Ythkcfocoekonjaa
open Go Go.Sx
attribute [local irreducible] Go.Sx.xrun

structure RSl where
  b : Nat
  x : Nat
  n : Nat
  c : Nat
def Ann.setL : List SV → Nat → SV → List SV
  | [], _, _ => []
  | _ :: r, 0, e => e :: r
  | x :: r, n + 1, e => x :: Ann.setL r n e
def Ann.setC : List Ent → Nat → Nat → SV → Ent
  | [], _, _, _ => .gone (0, 0, 0)
  | .own b (.cells k l t) :: _, 0, j, v => .own b (.cells k (Ann.setL l j v) t)
  | _ :: _, 0, _, _ => .gone (0, 0, 0)
  | _ :: r, n + 1, j, v => Ann.setC r n j v
structure FtV where
  w1 : Win
  w2 : Win
  w3 : Win
  G : Blks
noncomputable def vwFt : Cast := .view [⟨FtV, fun x h => [(0, .chunk x.G), (3, Ann.setC h 3 18 (.slc 11 x.w1.o 2 x.w1.cap)), (5, Ann.setC h 5 18 (.slc 12 x.w2.o 2 x.w2.cap)), (7, Ann.setC h 7 18 (.slc 13 x.w3.o 2 x.w3.cap))],
  fun x => [.own x.w1.b (.tab 5 x.w1.base x.w1.N [.ints .u8 x.w1.zs]), .own x.w2.b (.tab 5 x.w2.base x.w2.N [.ints .u8 x.w2.zs]), .own x.w3.b (.tab 5 x.w3.base x.w3.N [.ints .u8 x.w3.zs])], fun _ => []⟩]
noncomputable def Ann.ft : FnAnn := ⟨[(1000008, vwFt)], []⟩
noncomputable def ftGoal (R : Value → Prop) : Prop :=
  xrun Go.Proofs.Try.prog [(15, newnT), (16, pushnT), (17, nextnT), (18, allnT)] [(14, Ann.ft)] [([], (21, false)), ([], (30, false)), ([], (38, false)), ([], (71, true)), ([], (75, true)), ([], (78, true)), ([], (84, true)), ([], (88, true)), ([], (94, true)), ([], (98, true)), ([], (102, true)), ([], (107, true))] 9 [] 14
    [] [.chunk []] fun s h => R (den (locs h) s)

def ftQ0 : SQ := ⟨true, false, [], fun _ => none, 0⟩
def ftM1 : Msg := ⟨1, 0, 0, 1, false, 0, 0⟩
def ftM2 : Msg := ⟨2, 0, 0, 2, false, 0, 0⟩
def ftQ1 : SQ := ⟨true, false, [(1, [ftM1.item [97, 98, 99, 100]])], fun _ => none, 4⟩
def ftQ2 : SQ := ⟨true, false, [(1, [ftM1.item [97, 98, 99, 100]]), (2, [ftM2.item [120, 121]])], fun _ => none, 6⟩
def ftQ3 : SQ := (nextF ftQ2 2).2
def ftQ4 : SQ := (nextF ftQ3 2).2
def ftQ5 : SQ := (nextF ftQ4 2).2
def ftQ6 : SQ := (nextF ftQ5 2).2
theorem SQAt.more {q : SQ} {b : Nat} {L : Blks} (h : SQAt q b L) (G : Blks) : SQAt q b (L ++ G) := by
  obtain ⟨mi, mn, tv, fi, fn, Lt, Li, hp, h1, h2, h3⟩ := h
  refine ⟨mi, mn, tv, fi, fn, Lt, Li ++ G, ?_, h1, h2.more G, h3⟩
  have := hp.append_right G
  simpa using this
theorem SQAt.permL {q : SQ} {b : Nat} {L L' : Blks} (h : SQAt q b L) (p : L'.Perm L) : SQAt q b L' := by
  obtain ⟨mi, mn, tv, fi, fn, Lt, Li, hp, h1⟩ := h
  exact ⟨mi, mn, tv, fi, fn, Lt, Li, p.trans hp, h1⟩
theorem pushP_new {q q' : SQ} {m : Msg} {body : List Int} {code : Int} (h : PushP q m body code q') (hb : 0 < body.length ∧ body.length ≤ 65536 ∧ q.all + body.length ≤ 262144) (hs : m.stream ∉ q.lines.map Prod.fst) :
    code = 0 ∧ q' = { q with lines := q.lines ++ [(m.stream, [m.item body])], all := q.all + body.length } := by
  rcases h with ⟨h, -⟩ | ⟨h, -⟩ | ⟨h1, h2, h3, -⟩ | ⟨h1, h2, h3, rfl, ls, rfl, h4⟩
  · omega
  · omega
  · omega
  · rcases h4 with ⟨A, B, its, e, -⟩ | ⟨-, rfl⟩
    · exact absurd (by rw [e]; simp) hs
    · exact ⟨rfl, rfl⟩
theorem nx_post0 {q : SQ} {b : Nat} {most : Int} {a : Ch × Sl × SQ} {L' : Blks} (h : NxPost ⟨q, b, most⟩ a L') : a.1 = (nextF q most).1 ∧ ∃ A B, L'.Perm (A ++ B) ∧ SQAt (nextF q most).2 b A := by
  obtain ⟨h1, h2, A, B, h3, h4, h5⟩ := h
  simp only at h1 h2 h4
  rw [h2] at h4
  exact ⟨h1, A, B, h3, h4⟩
theorem nx_post {q : SQ} {b : Nat} {most : Int} {a : Ch × Sl × SQ} {L' : Blks} (h : NxPost ⟨q, b, most⟩ a L') {l : List Int} (hl : (nextF q most).1.body = l) (hne : l ≠ []) {n : Nat} (hn : l.length = n) :
    ∃ (w : Win) (A : Blks), a = ((nextF q most).1, ⟨some ⟨w.b, (w.base + w.o) * 1, none⟩, n, w.cap⟩, (nextF q most).2) ∧ w.ok l ∧ L'.Perm (A ++ ((w.b, .tab 5 w.base w.N [.ints .u8 w.zs]) :: w.G)) ∧ SQAt (nextF q most).2 b A := by
  subst hn
  obtain ⟨c, sl, q'⟩ := a
  obtain ⟨h1, h2, A, B, h3, h4, h5⟩ := h
  simp only at h1 h2 h4 h5
  subst h1 h2
  rw [hl] at h5
  rcases h5 with ⟨e, -⟩ | ⟨w, w1, w2, w3⟩
  · exact absurd e hne
  · obtain ⟨o, n, c⟩ := sl
    simp only [Win.val, Value.slice.injEq] at w2
    obtain ⟨rfl, rfl, rfl⟩ := w2
    exact ⟨w, A, rfl, w1, h3.trans (w3.append_left A), h4⟩
theorem win_lit {l : List Int} {n : Nat} (hn : n = l.length) (b : Nat) : WinNil 5 .u8 l (.slice (some ⟨b, 0, none⟩) n n) [(b, .tab 5 0 n [.ints .u8 l])] := by
  subst hn
  exact .inr ⟨⟨b, 0, 0, l.length, l.length, l, []⟩, ⟨Nat.le_refl _, by simp, rfl, by simp⟩, rfl, List.Perm.refl _⟩
theorem win_bytes {w : Win} {l : List Int} (h : w.ok l) (h2 : l.length = 2) : w.o + 2 ≤ w.N ∧ (w.zs.drop w.o).take 2 = l := by
  obtain ⟨h1, h3, h4, h5⟩ := h
  rw [h2] at h1 h5
  exact ⟨by omega, h5⟩
theorem sm0 : ftQ0.small ∧ (0 ≤ ftQ0.all ∧ ftQ0.all ≤ 1000000) := ⟨⟨by decide, by decide⟩, by decide⟩
theorem sm1 : ftQ1.small ∧ (0 ≤ ftQ1.all ∧ ftQ1.all ≤ 1000000) := ⟨⟨by decide, by decide⟩, by decide⟩
theorem sm2 : ftQ2.small ∧ (0 ≤ ftQ2.all ∧ ftQ2.all ≤ 1000000) := ⟨⟨by decide, by decide⟩, by decide⟩
theorem sm3 : ftQ3.small ∧ (0 ≤ ftQ3.all ∧ ftQ3.all ≤ 1000000) := ⟨⟨by decide, by decide⟩, by decide⟩
theorem sm4 : ftQ4.small ∧ (0 ≤ ftQ4.all ∧ ftQ4.all ≤ 1000000) := ⟨⟨by decide, by decide⟩, by decide⟩
theorem sm5 : ftQ5.small ∧ (0 ≤ ftQ5.all ∧ ftQ5.all ≤ 1000000) := ⟨⟨by decide, by decide⟩, by decide⟩
theorem sm6 : ftQ6.small ∧ (0 ≤ ftQ6.all ∧ ftQ6.all ≤ 1000000) := ⟨⟨by decide, by decide⟩, by decide⟩
theorem pu1 {code : Int} {q' : SQ} (h : PushP ftQ0 ftM1 [97, 98, 99, 100] code q') : code = 0 ∧ q' = ftQ1 := pushP_new h (by decide) (by decide)
theorem pu2 {code : Int} {q' : SQ} (h : PushP ftQ1 ftM2 [120, 121] code q') : code = 0 ∧ q' = ftQ2 := pushP_new h (by decide) (by decide)
theorem ft_goal (R : Value → Prop) (hR : R (.bool true)) : ftGoal R :=
  Eq.mpr (by kernel_rfl) (show
  ∃ (x : Bool), ∃ (L : List (Nat × Blk)), ∃ (G : List (Nat × Blk)), List.Perm [] (L ++ G) ∧ NewPre x [Value.bool Bool.true] L ∧ ∀ (a : Nat) (L' : List (Nat × Blk)), NewPost x a L' → ∀ (b : Nat), Value.oneCell' (Value.int IntKind.u8 (97 : Int)) = Bool.true ∧ Value.oneCell' (Value.int IntKind.u8 (98 : Int)) = Bool.true ∧ Value.oneCell' (Value.int IntKind.u8 (99 : Int)) = Bool.true ∧ Value.oneCell' (Value.int IntKind.u8 (100 : Int)) = Bool.true ∧ ∃ (x : PuX), ∃ (L : List (Nat × Blk)), ∃ (G_1 : List (Nat × Blk)),
  List.Perm (L' ++ G ++ [(b, Blk.tab (5 : Nat) (0 : Nat) (4 : Nat) [Col.ints IntKind.u8 [(97 : Int), (98 : Int), (99 : Int), (100 : Int)]])]) (L ++ G_1) ∧ PuPre x [Value.pointer (Option.some { block := a, off := (0 : Nat) }), Value.int IntKind.i64 (1 : Int), Value.agg #[Value.int IntKind.i64 (0 : Int), Value.int IntKind.u32 (0 : Int)], Value.agg #[Value.int IntKind.u16 (1 : Int), Value.bool Bool.false, Value.int IntKind.u32 (0 : Int), Value.int IntKind.u32 (0 : Int), Value.slice (Option.some { block := b, off := (0 : Nat) * (1 : Nat) }) (4 : Nat) (4 : Nat)]] L ∧
  ∀ (a_2 : Int × SQ) (L' : List (Nat × Blk)), PuPost x a_2 L' → ¬a_2.1 ≠ (0 : Int) ∧ ∀ (b : Nat), Value.oneCell' (Value.int IntKind.u8 (120 : Int)) = Bool.true ∧ Value.oneCell' (Value.int IntKind.u8 (121 : Int)) = Bool.true ∧ ∃ (x : PuX), ∃ (L : List (Nat × Blk)), ∃ (G : List (Nat × Blk)), List.Perm (L' ++ G_1 ++ [(b, Blk.tab (5 : Nat) (0 : Nat) (2 : Nat) [Col.ints IntKind.u8 [(120 : Int), (121 : Int)]])]) (L ++ G) ∧ PuPre x [Value.pointer (Option.some { block := a, off := (0 : Nat) }), Value.int IntKind.i64 (2 : Int),
  Value.agg #[Value.int IntKind.i64 (0 : Int), Value.int IntKind.u32 (0 : Int)], Value.agg #[Value.int IntKind.u16 (2 : Int), Value.bool Bool.false, Value.int IntKind.u32 (0 : Int), Value.int IntKind.u32 (0 : Int), Value.slice (Option.some { block := b, off := (0 : Nat) * (1 : Nat) }) (2 : Nat) (2 : Nat)]] L ∧ ∀ (a_4 : Int × SQ) (L' : List (Nat × Blk)), PuPost x a_4 L' → ¬a_4.1 ≠ (0 : Int) ∧ ∃ (x : NxX), ∃ (L : List (Nat × Blk)), ∃ (G_2 : List (Nat × Blk)), List.Perm (L' ++ G) (L ++ G_2) ∧ NxPre x
  [Value.pointer (Option.some { block := a, off := (0 : Nat) }), Value.int IntKind.i64 (2 : Int)] L ∧ ∀ (a_6 : Ch × Sl × SQ) (L' : List (Nat × Blk)), NxPost x a_6 L' → ∀ (b b_1 : Nat), Value.oneCell' (Value.int IntKind.u8 a_6.1.1) = Bool.true ∧ Value.oneCell' (Value.bool a_6.1.2) = Bool.true ∧ Value.oneCell' (Value.bool a_6.1.3) = Bool.true ∧ Value.oneCell' (Value.bool a_6.1.4) = Bool.true ∧ Value.oneCell' (Value.bool Bool.false) = Bool.true ∧ Value.oneCell' (Value.int IntKind.u32 (0 : Int)) = Bool.true ∧ Value.oneCell' (Value.int IntKind.u16 a_6.1.5) = Bool.true ∧
  Value.oneCell' (Value.int IntKind.u32 a_6.1.6) = Bool.true ∧ Value.oneCell' (Value.int IntKind.u32 a_6.1.7) = Bool.true ∧ Value.oneCell' (Value.int IntKind.u32 a_6.1.8) = Bool.true ∧ Value.oneCell' (Value.int IntKind.u32 (0 : Int)) = Bool.true ∧ Value.oneCell' (Value.int IntKind.u32 (0 : Int)) = Bool.true ∧ Value.oneCell' (Value.int IntKind.u16 (0 : Int)) = Bool.true ∧ Value.oneCell' (Value.int IntKind.u16 (0 : Int)) = Bool.true ∧ Value.oneCell' (Value.slice Option.none (0 : Nat) (0 : Nat)) = Bool.true ∧ Value.oneCell' (Value.slice Option.none (0 : Nat) (0 : Nat)) = Bool.true ∧
  Value.oneCell' (Value.slice Option.none (0 : Nat) (0 : Nat)) = Bool.true ∧ Value.oneCell' (Value.slice Option.none (0 : Nat) (0 : Nat)) = Bool.true ∧ Value.oneCell' (Value.slice a_6.2.1.1 a_6.2.1.2 a_6.2.1.3) = Bool.true ∧ Value.oneCell' (Value.int IntKind.i64 a_6.1.11) = Bool.true ∧ Value.oneCell' (Value.int IntKind.u32 a_6.1.12) = Bool.true ∧ ∃ (x : NxX), ∃ (L : List (Nat × Blk)), ∃ (G : List (Nat × Blk)), List.Perm (L' ++ G_2) (L ++ G) ∧ NxPre x [Value.pointer (Option.some { block := a, off := (0 : Nat) }), Value.int IntKind.i64 (2 : Int)] L ∧ ∀ (a_8 : Ch × Sl × SQ)
  (L' : List (Nat × Blk)), NxPost x a_8 L' → ∀ (b_2 b_3 : Nat), Value.oneCell' (Value.int IntKind.u8 a_8.1.1) = Bool.true ∧ Value.oneCell' (Value.bool a_8.1.2) = Bool.true ∧ Value.oneCell' (Value.bool a_8.1.3) = Bool.true ∧ Value.oneCell' (Value.bool a_8.1.4) = Bool.true ∧ Value.oneCell' (Value.bool Bool.false) = Bool.true ∧ Value.oneCell' (Value.int IntKind.u32 (0 : Int)) = Bool.true ∧ Value.oneCell' (Value.int IntKind.u16 a_8.1.5) = Bool.true ∧ Value.oneCell' (Value.int IntKind.u32 a_8.1.6) = Bool.true ∧ Value.oneCell' (Value.int IntKind.u32 a_8.1.7) = Bool.true ∧ Value.oneCell'
  (Value.int IntKind.u32 a_8.1.8) = Bool.true ∧ Value.oneCell' (Value.int IntKind.u32 (0 : Int)) = Bool.true ∧ Value.oneCell' (Value.int IntKind.u32 (0 : Int)) = Bool.true ∧ Value.oneCell' (Value.int IntKind.u16 (0 : Int)) = Bool.true ∧ Value.oneCell' (Value.int IntKind.u16 (0 : Int)) = Bool.true ∧ Value.oneCell' (Value.slice Option.none (0 : Nat) (0 : Nat)) = Bool.true ∧ Value.oneCell' (Value.slice Option.none (0 : Nat) (0 : Nat)) = Bool.true ∧ Value.oneCell' (Value.slice Option.none (0 : Nat) (0 : Nat)) = Bool.true ∧ Value.oneCell' (Value.slice Option.none (0 : Nat) (0 : Nat)) = Bool.true ∧
  Value.oneCell' (Value.slice a_8.2.1.1 a_8.2.1.2 a_8.2.1.3) = Bool.true ∧ Value.oneCell' (Value.int IntKind.i64 a_8.1.11) = Bool.true ∧ Value.oneCell' (Value.int IntKind.u32 a_8.1.12) = Bool.true ∧ ∃ (x : NxX), ∃ (L : List (Nat × Blk)), ∃ (G_3 : List (Nat × Blk)), List.Perm (L' ++ G) (L ++ G_3) ∧ NxPre x [Value.pointer (Option.some { block := a, off := (0 : Nat) }), Value.int IntKind.i64 (2 : Int)] L ∧ ∀ (a_10 : Ch × Sl × SQ) (L' : List (Nat × Blk)), NxPost x a_10 L' → ∀ (b_4 b_5 : Nat), Value.oneCell' (Value.int IntKind.u8 a_10.1.1) = Bool.true ∧ Value.oneCell' (Value.bool a_10.1.2) =
  Bool.true ∧ Value.oneCell' (Value.bool a_10.1.3) = Bool.true ∧ Value.oneCell' (Value.bool a_10.1.4) = Bool.true ∧ Value.oneCell' (Value.bool Bool.false) = Bool.true ∧ Value.oneCell' (Value.int IntKind.u32 (0 : Int)) = Bool.true ∧ Value.oneCell' (Value.int IntKind.u16 a_10.1.5) = Bool.true ∧ Value.oneCell' (Value.int IntKind.u32 a_10.1.6) = Bool.true ∧ Value.oneCell' (Value.int IntKind.u32 a_10.1.7) = Bool.true ∧ Value.oneCell' (Value.int IntKind.u32 a_10.1.8) = Bool.true ∧ Value.oneCell' (Value.int IntKind.u32 (0 : Int)) = Bool.true ∧ Value.oneCell' (Value.int IntKind.u32 (0 : Int)) =
  Bool.true ∧ Value.oneCell' (Value.int IntKind.u16 (0 : Int)) = Bool.true ∧ Value.oneCell' (Value.int IntKind.u16 (0 : Int)) = Bool.true ∧ Value.oneCell' (Value.slice Option.none (0 : Nat) (0 : Nat)) = Bool.true ∧ Value.oneCell' (Value.slice Option.none (0 : Nat) (0 : Nat)) = Bool.true ∧ Value.oneCell' (Value.slice Option.none (0 : Nat) (0 : Nat)) = Bool.true ∧ Value.oneCell' (Value.slice Option.none (0 : Nat) (0 : Nat)) = Bool.true ∧ Value.oneCell' (Value.slice a_10.2.1.1 a_10.2.1.2 a_10.2.1.3) = Bool.true ∧ Value.oneCell' (Value.int IntKind.i64 a_10.1.11) = Bool.true ∧ Value.oneCell'
  (Value.int IntKind.u32 a_10.1.12) = Bool.true ∧ ∃ (x : NxX), ∃ (L : List (Nat × Blk)), ∃ (G : List (Nat × Blk)), List.Perm (L' ++ G_3) (L ++ G) ∧ NxPre x [Value.pointer (Option.some { block := a, off := (0 : Nat) }), Value.int IntKind.i64 (2 : Int)] L ∧ ∀ (a_12 : Ch × Sl × SQ) (L' : List (Nat × Blk)), NxPost x a_12 L' → ∀ (b_6 b_7 : Nat), Value.oneCell' (Value.int IntKind.u8 a_12.1.1) = Bool.true ∧ Value.oneCell' (Value.bool a_12.1.2) = Bool.true ∧ Value.oneCell' (Value.bool a_12.1.3) = Bool.true ∧ Value.oneCell' (Value.bool a_12.1.4) = Bool.true ∧ Value.oneCell' (Value.bool Bool.false) =
  Bool.true ∧ Value.oneCell' (Value.int IntKind.u32 (0 : Int)) = Bool.true ∧ Value.oneCell' (Value.int IntKind.u16 a_12.1.5) = Bool.true ∧ Value.oneCell' (Value.int IntKind.u32 a_12.1.6) = Bool.true ∧ Value.oneCell' (Value.int IntKind.u32 a_12.1.7) = Bool.true ∧ Value.oneCell' (Value.int IntKind.u32 a_12.1.8) = Bool.true ∧ Value.oneCell' (Value.int IntKind.u32 (0 : Int)) = Bool.true ∧ Value.oneCell' (Value.int IntKind.u32 (0 : Int)) = Bool.true ∧ Value.oneCell' (Value.int IntKind.u16 (0 : Int)) = Bool.true ∧ Value.oneCell' (Value.int IntKind.u16 (0 : Int)) = Bool.true ∧ Value.oneCell'
  (Value.slice Option.none (0 : Nat) (0 : Nat)) = Bool.true ∧ Value.oneCell' (Value.slice Option.none (0 : Nat) (0 : Nat)) = Bool.true ∧ Value.oneCell' (Value.slice Option.none (0 : Nat) (0 : Nat)) = Bool.true ∧ Value.oneCell' (Value.slice Option.none (0 : Nat) (0 : Nat)) = Bool.true ∧ Value.oneCell' (Value.slice a_12.2.1.1 a_12.2.1.2 a_12.2.1.3) = Bool.true ∧ Value.oneCell' (Value.int IntKind.i64 a_12.1.11) = Bool.true ∧ Value.oneCell' (Value.int IntKind.u32 a_12.1.12) = Bool.true ∧ ∃ (x : FtV), ((0 : Nat), (0 : Nat), (0 : Nat)) = ((0 : Nat), (0 : Nat), (0 : Nat)) ∧ (b, (0 : Nat), (19 :
  Nat)) = (b, (0 : Nat), (19 : Nat)) ∧ (b_2, (0 : Nat), (19 : Nat)) = (b_2, (0 : Nat), (19 : Nat)) ∧ (b_4, (0 : Nat), (19 : Nat)) = (b_4, (0 : Nat), (19 : Nat)) ∧ (∃ (G_4 : List (Nat × Blk)), ∀ (r : List (Nat × Nat × Nat)), List.Perm (L' ++ G ++ [(b, Blk.cells [Value.int IntKind.u8 a_6.1.1, Value.bool a_6.1.2, Value.bool a_6.1.3, Value.bool a_6.1.4, Value.bool Bool.false, Value.int IntKind.u32 (0 : Int), Value.int IntKind.u16 a_6.1.5, Value.int IntKind.u32 a_6.1.6, Value.int IntKind.u32 a_6.1.7, Value.int IntKind.u32 a_6.1.8, Value.int IntKind.u32 (0 : Int), Value.int IntKind.u32 (0 : Int),
  Value.int IntKind.u16 (0 : Int), Value.int IntKind.u16 (0 : Int), Value.slice Option.none (0 : Nat) (0 : Nat), Value.slice Option.none (0 : Nat) (0 : Nat), Value.slice Option.none (0 : Nat) (0 : Nat), Value.slice Option.none (0 : Nat) (0 : Nat), Value.slice a_6.2.1.1 a_6.2.1.2 a_6.2.1.3] (43 : Nat)), (b_2, Blk.cells [Value.int IntKind.u8 a_8.1.1, Value.bool a_8.1.2, Value.bool a_8.1.3, Value.bool a_8.1.4, Value.bool Bool.false, Value.int IntKind.u32 (0 : Int), Value.int IntKind.u16 a_8.1.5, Value.int IntKind.u32 a_8.1.6, Value.int IntKind.u32 a_8.1.7, Value.int IntKind.u32 a_8.1.8, Value.int
  IntKind.u32 (0 : Int), Value.int IntKind.u32 (0 : Int), Value.int IntKind.u16 (0 : Int), Value.int IntKind.u16 (0 : Int), Value.slice Option.none (0 : Nat) (0 : Nat), Value.slice Option.none (0 : Nat) (0 : Nat), Value.slice Option.none (0 : Nat) (0 : Nat), Value.slice Option.none (0 : Nat) (0 : Nat), Value.slice a_8.2.1.1 a_8.2.1.2 a_8.2.1.3] (43 : Nat)), (b_4, Blk.cells [Value.int IntKind.u8 a_10.1.1, Value.bool a_10.1.2, Value.bool a_10.1.3, Value.bool a_10.1.4, Value.bool Bool.false, Value.int IntKind.u32 (0 : Int), Value.int IntKind.u16 a_10.1.5, Value.int IntKind.u32 a_10.1.6, Value.int
  IntKind.u32 a_10.1.7, Value.int IntKind.u32 a_10.1.8, Value.int IntKind.u32 (0 : Int), Value.int IntKind.u32 (0 : Int), Value.int IntKind.u16 (0 : Int), Value.int IntKind.u16 (0 : Int), Value.slice Option.none (0 : Nat) (0 : Nat), Value.slice Option.none (0 : Nat) (0 : Nat), Value.slice Option.none (0 : Nat) (0 : Nat), Value.slice Option.none (0 : Nat) (0 : Nat), Value.slice a_10.2.1.1 a_10.2.1.2 a_10.2.1.3] (43 : Nat))]) (x.4 ++ [(b, Blk.cells [Value.int IntKind.u8 a_6.1.1, Value.bool a_6.1.2, Value.bool a_6.1.3, Value.bool a_6.1.4, Value.bool Bool.false, Value.int IntKind.u32 (0 : Int),
  Value.int IntKind.u16 a_6.1.5, Value.int IntKind.u32 a_6.1.6, Value.int IntKind.u32 a_6.1.7, Value.int IntKind.u32 a_6.1.8, Value.int IntKind.u32 (0 : Int), Value.int IntKind.u32 (0 : Int), Value.int IntKind.u16 (0 : Int), Value.int IntKind.u16 (0 : Int), Value.slice Option.none (0 : Nat) (0 : Nat), Value.slice Option.none (0 : Nat) (0 : Nat), Value.slice Option.none (0 : Nat) (0 : Nat), Value.slice Option.none (0 : Nat) (0 : Nat), Value.slice (Option.some { block := x.1.1, off := (x.1.2 + x.1.3) * (1 : Nat) }) (2 : Nat) x.1.5] (43 : Nat)), (b_2, Blk.cells [Value.int IntKind.u8 a_8.1.1,
  Value.bool a_8.1.2, Value.bool a_8.1.3, Value.bool a_8.1.4, Value.bool Bool.false, Value.int IntKind.u32 (0 : Int), Value.int IntKind.u16 a_8.1.5, Value.int IntKind.u32 a_8.1.6, Value.int IntKind.u32 a_8.1.7, Value.int IntKind.u32 a_8.1.8, Value.int IntKind.u32 (0 : Int), Value.int IntKind.u32 (0 : Int), Value.int IntKind.u16 (0 : Int), Value.int IntKind.u16 (0 : Int), Value.slice Option.none (0 : Nat) (0 : Nat), Value.slice Option.none (0 : Nat) (0 : Nat), Value.slice Option.none (0 : Nat) (0 : Nat), Value.slice Option.none (0 : Nat) (0 : Nat), Value.slice (Option.some { block := x.2.1, off := (x.2.2 + x.2.3) * (1 : Nat) }) (2 : Nat) x.2.5] (43 : Nat)), (b_4, Blk.cells [Value.int IntKind.u8 a_10.1.1, Value.bool a_10.1.2, Value.bool a_10.1.3, Value.bool a_10.1.4, Value.bool Bool.false, Value.int IntKind.u32 (0 : Int), Value.int IntKind.u16 a_10.1.5, Value.int IntKind.u32 a_10.1.6, Value.int IntKind.u32 a_10.1.7, Value.int IntKind.u32 a_10.1.8, Value.int IntKind.u32 (0 : Int), Value.int IntKind.u32 (0 : Int), Value.int IntKind.u16 (0 : Int), Value.int IntKind.u16 (0 : Int), Value.slice Option.none (0 : Nat) (0 : Nat), Value.slice Option.none (0 : Nat) (0 : Nat), Value.slice
  Option.none (0 : Nat) (0 : Nat), Value.slice Option.none (0 : Nat) (0 : Nat), Value.slice (Option.some { block := x.3.1, off := (x.3.2 + x.3.3) * (1 : Nat) }) (2 : Nat) x.3.5] (43 : Nat))] ++ [(x.1.1, Blk.tab (5 : Go.TypeId) x.1.2 x.1.4 [Col.ints IntKind.u8 x.1.6]), (x.2.1, Blk.tab (5 : Go.TypeId) x.2.2 x.2.4 [Col.ints IntKind.u8 x.2.6]), (x.3.1, Blk.tab (5 : Go.TypeId) x.3.2 x.3.4 [Col.ints IntKind.u8 x.3.6])] ++ G_4)) ∧ x.1.3 + (2 : Nat) ≤ x.1.4 ∧ ByteArray.toList { data := List.toArray (List.map (fun (n : Int) => UInt8.ofNat (Int.toNat n)) (List.take (2 : Nat) (List.drop x.1.3 x.1.6))) } = ByteArray.toList { data := #[(97 : UInt8), (98 : UInt8)] } ∧ a_6.1.10 = (1 : Int) ∧ a_6.1.13 = Bool.true ∧ x.2.3 + (2 : Nat) ≤ x.2.4 ∧ ByteArray.toList { data := List.toArray (List.map (fun (n : Int) => UInt8.ofNat (Int.toNat n)) (List.take (2 : Nat) (List.drop x.2.3 x.2.6))) } = ByteArray.toList { data := #[(120 : UInt8), (121 : UInt8)] } ∧ a_8.1.10 = (2 : Int) ∧ x.3.3 + (2 : Nat) ≤ x.3.4 ∧ ByteArray.toList { data := List.toArray (List.map (fun (n : Int) => UInt8.ofNat (Int.toNat n)) (List.take (2 : Nat) (List.drop x.3.3 x.3.6))) } = ByteArray.toList { data := #[(99 : UInt8), (100 : UInt8)] } ∧ a_10.1.3 = Bool.true ∧ a_12.1.13 = Bool.false ∧ ∃ (x_1 : SQ × Nat), ∃ (L : List (Nat × Blk)), ∃ (G : List (Nat × Blk)), List.Perm x.4 (L ++ G) ∧ AlPre x_1 [Value.pointer (Option.some { block := a, off := (0 : Nat) })] L ∧ ∀ (a_14 : Int) (L' : List (Nat × Blk)), AlPost x_1 a_14 L' → a_14 = (0 : Int) ∧ ∃ (x : PuX), ∃ (L : List (Nat × Blk)), ∃ (G_4 : List (Nat × Blk)), List.Perm (L' ++ G) (L ++ G_4) ∧ PuPre x [Value.pointer (Option.some { block := a, off := (0 : Nat) }), Value.int IntKind.i64 (1 : Int), Value.agg #[Value.int IntKind.i64 (0 : Int), Value.int IntKind.u32 (0 :
  Int)], Value.agg #[Value.int IntKind.u16 (0 : Int), Value.bool Bool.false, Value.int IntKind.u32 (0 : Int), Value.int IntKind.u32 (0 : Int), Value.slice Option.none (0 : Nat) (0 : Nat)]] L ∧ ∀ (a : Int × SQ) (L' : List (Nat × Blk)), PuPost x a L' → R (Value.bool (pbool (a.1 = (42 : Int)))) from by
  simp only [eq_self, true_and, and_true, false_and, and_false, or_false, false_or, and_self, Nat.zero_add, Nat.add_zero, Nat.sub_zero, Nat.zero_mul, Nat.mul_one, Int.toNat_natCast, cond_true, cond_false, forall_const, implies_true, Nat.beq_refl, ne_eq, not_false_eq_true, not_true_eq_false, Classical.not_not, List.cons.injEq, List.append_nil, List.nil_append, Go.Value.int.injEq, Go.Value.bool.injEq, Go.Value.slice.injEq, Nat.le_refl, Nat.zero_le, Go.Sx.one_int, Go.Sx.one_bool, Go.Sx.one_slice, Go.Sx.one_ptr, Go.Sx.one_map, Int.cast_ofNat_Int, reduceCtorEq, Nat.reduceLeDiff, Nat.reduceMul, Nat.reduceAdd, Nat.reduceSub, Nat.reduceEqDiff, Int.reduceLE, Int.reduceLT, Int.reduceEq, Int.reduceAdd, Int.reduceSub, Int.reduceNeg, Int.reduceMul, Nat.reduceBEq]
  refine ⟨true, [], [], List.Perm.refl _, ⟨rfl, rfl⟩, fun b L0 h0 b1 => ⟨⟨ftQ0, b, ftM1, [97, 98, 99, 100], .slice (some ⟨b1, 0, none⟩) 4 4⟩, L0 ++ [(b1, .tab 5 0 4 [.ints .u8 [97, 98, 99, 100]])], [], by simp, ⟨rfl, sm0.1, sm0.2, L0, [(b1, .tab 5 0 4 [.ints .u8 [97, 98, 99, 100]])], List.Perm.refl _, h0, win_lit (l := [97, 98, 99, 100]) rfl b1⟩, fun a1 L1 p1 => ?_⟩⟩
  obtain ⟨p1, A1, B1, p2, p3, -⟩ := p1
  obtain ⟨e1, e2⟩ := pu1 p1
  simp only at p3
  rw [e2] at p3
  have s1 : SQAt ftQ1 b L1 := (p3.more B1).permL p2
  refine ⟨e1, fun b2 => ⟨⟨ftQ1, b, ftM2, [120, 121], .slice (some ⟨b2, 0, none⟩) 2 2⟩, L1 ++ [(b2, .tab 5 0 2 [.ints .u8 [120, 121]])], [], by simp, ⟨rfl, sm1.1, sm1.2, L1, [(b2, .tab 5 0 2 [.ints .u8 [120, 121]])], List.Perm.refl _, s1, win_lit (l := [120, 121]) rfl b2⟩, fun a2 L2 q1 => ?_⟩⟩
  obtain ⟨q1, A2, B2, q2, q3, -⟩ := q1
  obtain ⟨e3, e4⟩ := pu2 q1
  simp only at q3
  rw [e4] at q3
  have s2 : SQAt ftQ2 b L2 := (q3.more B2).permL q2
  refine ⟨e3, ⟨ftQ2, b, 2⟩, L2, [], by simp, ⟨rfl, sm2.1, sm2.2, s2⟩, fun a3 L3 r => ?_⟩
  obtain ⟨w1, A3, rfl, k1, r3, s3⟩ := nx_post r (l := [97, 98]) (by decide) (by simp) (n := 2) rfl
  refine fun c1 => ⟨⟨ftQ3, b, 2⟩, A3, (w1.b, .tab 5 w1.base w1.N [.ints .u8 w1.zs]) :: w1.G, by simpa using r3, ⟨rfl, sm3.1, sm3.2, s3⟩, fun a4 L4 r => ?_⟩
  obtain ⟨w2, A4, rfl, k2, r4, s4⟩ := nx_post r (l := [120, 121]) (by decide) (by simp) (n := 2) rfl
  refine fun c2 => ⟨⟨ftQ4, b, 2⟩, A4, ((w2.b, .tab 5 w2.base w2.N [.ints .u8 w2.zs]) :: w2.G) ++ ((w1.b, .tab 5 w1.base w1.N [.ints .u8 w1.zs]) :: w1.G), by simpa using r4.append_right ((w1.b, .tab 5 w1.base w1.N [.ints .u8 w1.zs]) :: w1.G), ⟨rfl, sm4.1, sm4.2, s4⟩, fun a5 L5 r => ?_⟩
  obtain ⟨w3, A5, rfl, k3, r5, s5⟩ := nx_post r (l := [99, 100]) (by decide) (by simp) (n := 2) rfl
  refine fun c3 => ⟨⟨ftQ5, b, 2⟩, A5, ((w3.b, .tab 5 w3.base w3.N [.ints .u8 w3.zs]) :: w3.G) ++ (((w2.b, .tab 5 w2.base w2.N [.ints .u8 w2.zs]) :: w2.G) ++ ((w1.b, .tab 5 w1.base w1.N [.ints .u8 w1.zs]) :: w1.G)),
    by simpa using r5.append_right (((w2.b, .tab 5 w2.base w2.N [.ints .u8 w2.zs]) :: w2.G) ++ ((w1.b, .tab 5 w1.base w1.N [.ints .u8 w1.zs]) :: w1.G)), ⟨rfl, sm5.1, sm5.2, s5⟩, fun a6 L6 r => ?_⟩
  obtain ⟨e6, A6, B6, r6, s6⟩ := nx_post0 r
  obtain ⟨o1, y1⟩ := win_bytes k1 rfl
  obtain ⟨o2, y2⟩ := win_bytes k2 rfl
  obtain ⟨o3, y3⟩ := win_bytes k3 rfl
  refine ⟨⟨w1, w2, w3, A6 ++ (B6 ++ (w3.G ++ (w2.G ++ w1.G)))⟩, ⟨[], ?_⟩, o1, by rw [y1]; rfl, (show (nextF ftQ2 2).1.id = 1 by decide), (show (nextF ftQ2 2).1.ok = true by decide), o2, by rw [y2]; rfl, (show (nextF ftQ3 2).1.id = 2 by decide), o3, by rw [y3]; rfl, (show (nextF ftQ4 2).1.end_ = true by decide), (by rw [e6]; decide),
    (ftQ6, b), A6, B6 ++ (w3.G ++ (w2.G ++ w1.G)), List.Perm.refl _, ⟨rfl, s6⟩, fun al L7 t => ⟨t.1.trans (show ftQ6.all = 0 by decide), ⟨ftQ6, b, ⟨1, 0, 0, 0, false, 0, 0⟩, [], .slice none 0 0⟩, L7, _, List.Perm.refl _, ⟨rfl, sm6.1, sm6.2, L7, [], by simp, t.2, .inl ⟨rfl, rfl⟩⟩, fun a8 L8 u => ?_⟩⟩
  · refine perm_of_sums fun f => ?_
    have e := perm_sum r6 f
    simp only [Nat.mul_one] at *
    simp only [List.map_append, List.map_cons, List.map_nil, List.sum_append, List.sum_cons, List.sum_nil, List.append_assoc, List.cons_append, List.nil_append] at *
    omega
  · obtain ⟨u, -⟩ := u
    have : a8.1 = 42 := by
      rcases u with ⟨-, h, -⟩ | ⟨h, -⟩ | ⟨h, -⟩ | ⟨h, -⟩
      · exact h
      · simp at h
      · simp at h
      · simp at h
    rw [this]
    simpa [pbool] using hR)
theorem first_triple : Triple Go.Proofs.Try.prog 14 [] [] fun v _ => v = .bool true :=
  triple_of_run (R := fun v _ => v = .bool true) (h := [.chunk []]) (args := []) (vs := []) (L := []) (run_with four_sound _ _ _ _ _) (fun r => by simp [denL]) (fun r => by simp [owned, Ent.blocks]) (by simp) (ft_goal (fun v => v = .bool true) rfl)
end Go.Proofs.Ythkcfocoekonjaa
