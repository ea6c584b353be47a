/- Span: Set. -/
import Derived.Test.YthkcfocoekonjaaTmG


set_option maxRecDepth 100000
set_option linter.unusedVariables false
set_option linter.unusedSimpArgs false
namespace Go.Proofs.Ythkcfocoekonjaa
open Go Go.Sx
attribute [local irreducible] Go.Sx.xrun

def QAt (q : List Row) (v : Value) (L : Blks) : Prop := (q = [] ∧ v = .slice none 0 0) ∨ ∃ b1 base cap xs ys G, v = .slice (some ⟨b1, base * 2, none⟩) q.length cap ∧ q.length ≤ cap ∧ xs.length = cap ∧ ys.length = cap ∧
  xs.take q.length = q.map (·.1) ∧ ys.take q.length = q.map (·.2) ∧ L.Perm ((b1, .tab 150 base cap [.ints .u64 xs, .ints .i64 ys]) :: G)
/-- A table's cell and its queue. -/
def TQ (b : Nat) (R : List Row → Prop) (L : Blks) : Prop := ∃ q v L1, R q ∧ QAt q v L1 ∧ L.Perm ((b, .cells [v] 70) :: L1)
def seR (kind at_ : Int) (rows rows' : List Row) : Prop := Heap rows'.length rows' ∧ ∃ rows1, ((∃ r : Row, r.2 = kind ∧ rows.Perm (r :: rows1)) ∨ (rows1 = rows ∧ ∀ r ∈ rows, r.2 ≠ kind)) ∧ rows'.Perm ((at_, kind) :: rows1)
def SeV (b : Nat) (kind at_ : Int) (rows : List Row) (v : Value) (L : Blks) : Prop := v = .tuple #[] ∧ TQ b (seR kind at_ rows) L
noncomputable def seGoal (b b1 base cap : Nat) (kind at_ : Int) (xs ys : List Int) (rows : List Row) : Prop :=
  xrun Go.Proofs.Try.prog [(31, stT), (82, upT 0)] [] [] 9 [] 28 [.ptr 0 0 0, .val (.int .i64 kind), .val (.int .u64 at_)]
    [.own b (.cells 1 [.slc 1 0 rows.length cap] 70), .own b1 (.tab 150 base cap [.ints .u64 xs, .ints .i64 ys])] fun s h => SeV b kind at_ rows (den (locs h) s) (owned (locs h) h)
noncomputable def seNilGoal (b : Nat) (kind at_ : Int) : Prop :=
  xrun Go.Proofs.Try.prog [(82, upT 0)] [(84, Ann.ix kind [])] [([11, 9, 9], (9, false)), ([9], (10, true))] 9 [] 28 [.ptr 0 0 0, .val (.int .i64 kind), .val (.int .u64 at_)]
    [.own b (.cells 1 [.val (.slice none 0 0)] 70)] fun s h => SeV b kind at_ [] (den (locs h) s) (owned (locs h) h)

theorem zip_snoc {xs ys sp sp1 : List Int} {q : List Row} {a c : Int} (h1 : xs.take q.length = q.map (·.1)) (h2 : ys.take q.length = q.map (·.2)) :
    zipR (q.length + 1) (xs.take q.length ++ [a] ++ sp) (ys.take q.length ++ [c] ++ sp1) = q ++ [(a, c)] := by
  have e1 : (xs.take q.length ++ [a] ++ sp).take (q ++ [(a, c)]).length = (q ++ [(a, c)]).map (·.1) := by
    rw [h1, List.map_append, List.map_cons, List.map_nil]
    have : (q.map (·.1) ++ [a]).length = (q ++ [(a, c)]).length := by simp
    rw [← this, List.take_left]
  have e2 : (ys.take q.length ++ [c] ++ sp1).take (q ++ [(a, c)]).length = (q ++ [(a, c)]).map (·.2) := by
    rw [h2, List.map_append, List.map_cons, List.map_nil]
    have : (q.map (·.2) ++ [c]).length = (q ++ [(a, c)]).length := by simp
    rw [← this, List.take_left]
  have := zipR_of e1 e2
  rw [← this]
  simp
theorem se_vc (b b1 base cap : Nat) (kind at_ : Int) (xs ys : List Int) (rows : List Row) (hlc : rows.length ≤ cap) (hb : rows.length + 1 < 1000000) (hx : xs.length = cap) (hy : ys.length = cap)
    (h1 : xs.take rows.length = rows.map (·.1)) (h2 : ys.take rows.length = rows.map (·.2)) (hh : Heap rows.length rows) :
    (List.length rows ≤ cap ∧
    cap = cap ∧
      List.length rows < (1000000 : Nat) ∧
        (∃ (kind_1 : Int), [Go.Value.int Go.IntKind.i64 kind] = [Go.Value.int Go.IntKind.i64 kind_1]) ∧
          Heap (List.length (zipR (List.length rows) xs ys)) (zipR (List.length rows) xs ys)) ∧
  ∀ (a : Prop) (rows' : List Row) (xs' ys' : List Int),
    (∃ (kind_1 : Int),
        [Go.Value.int Go.IntKind.i64 kind] = [Go.Value.int Go.IntKind.i64 kind_1] ∧ stPost kind_1 (zipR (List.length rows) xs ys) a rows') →
      List.length rows' ≤ cap →
        List.length xs' = cap →
          List.length ys' = cap →
            List.take (List.length rows') xs' = List.map (fun (x : Row) => x.1) rows' →
              List.take (List.length rows') ys' = List.map (fun (x : Row) => x.2) rows' →
                ∀ (b_1 : Nat),
                  Go.Sx.SV.slc (1 : Nat) (0 : Nat) (List.length rows') cap = Go.Sx.SV.slc (1 : Nat) (0 : Nat) (List.length rows') cap ∧
                    Go.Value.oneCell' (Go.Value.int Go.IntKind.u64 at_) = Bool.true ∧
                      Go.Value.oneCell' (Go.Value.int Go.IntKind.i64 kind) = Bool.true ∧
                        (List.length rows' ≤ cap ∧ (0 : Nat) + cap ≤ cap) ∧
                          (0 : Nat) + List.length rows' ≤ cap ∧
                            (List.length rows' + (1 : Nat)) * (16 : Nat) ≤ (140737488355328 : Nat) ∧
                              ∀ (b_2 base cap' : Nat),
                                List.length rows' + (1 : Nat) ≤ cap' →
                                  (List.length rows' + (1 : Nat) ≤ cap → cap' = cap) →
                                    ∀ (sp : List Int),
                                      List.length sp = cap' - (List.length rows' + (1 : Nat)) →
                                        ∀ (sp_1 : List Int),
                                          List.length sp_1 = cap' - (List.length rows' + (1 : Nat)) →
                                            (List.length rows' + (1 : Nat) ≤ cap' ∧
                                                cap' = cap' ∧
                                                  List.length rows' + (1 : Nat) < (1000000 : Nat) ∧
                                                    ∃ (j : Nat),
                                                      [Go.Value.int Go.IntKind.i64 (Go.IntKind.wrap Go.IntKind.i64 ((↑(List.length rows' + (1 : Nat)) : Int) - (1 : Int)))] =
                                                          [Go.Value.int Go.IntKind.i64 (↑j : Int)] ∧
                                                        UpInv
                                                          (List.length
                                                              (zipR (List.length rows' + (1 : Nat)) (List.take (List.length rows') xs' ++ [at_] ++ sp)
                                                                (List.take (List.length rows') ys' ++ [kind] ++ sp_1)) -
                                                            (0 : Nat))
                                                          (zipR (List.length rows' + (1 : Nat)) (List.take (List.length rows') xs' ++ [at_] ++ sp)
                                                            (List.take (List.length rows') ys' ++ [kind] ++ sp_1))
                                                          j) ∧
                                              ∀ (a : Unit) (rows'_1 : List Row) (xs'_1 ys'_1 : List Int),
                                                (∃ (j : Nat),
                                                    [Go.Value.int Go.IntKind.i64 (Go.IntKind.wrap Go.IntKind.i64 ((↑(List.length rows' + (1 : Nat)) : Int) - (1 : Int)))] =
                                                        [Go.Value.int Go.IntKind.i64 (↑j : Int)] ∧
                                                      upPost
                                                        (List.length
                                                            (zipR (List.length rows' + (1 : Nat)) (List.take (List.length rows') xs' ++ [at_] ++ sp)
                                                              (List.take (List.length rows') ys' ++ [kind] ++ sp_1)) -
                                                          (0 : Nat))
                                                        j
                                                        (zipR (List.length rows' + (1 : Nat)) (List.take (List.length rows') xs' ++ [at_] ++ sp)
                                                          (List.take (List.length rows') ys' ++ [kind] ++ sp_1))
                                                        rows'_1) →
                                                  List.length rows'_1 ≤ cap' →
                                                    List.length xs'_1 = cap' →
                                                      List.length ys'_1 = cap' →
                                                        List.take (List.length rows'_1) xs'_1 = List.map (fun (x : Row) => x.1) rows'_1 →
                                                          List.take (List.length rows'_1) ys'_1 = List.map (fun (x : Row) => x.2) rows'_1 →
                                                            SeV b kind at_ rows (Go.Value.tuple #[])
                                                              [(b,
                                                                  Go.Sx.Blk.cells [Go.Value.slice (Option.some { block := b_2, off := base * (2 : Nat) }) (List.length rows'_1) cap'] (70 : Go.TypeId)),
                                                                (b_1, Go.Sx.Blk.cells [Go.Value.int Go.IntKind.u64 at_, Go.Value.int Go.IntKind.i64 kind] (150 : Nat)),
                                                                (b_2, Go.Sx.Blk.tab (150 : Go.TypeId) base cap' [Go.Sx.Col.ints Go.IntKind.u64 xs'_1, Go.Sx.Col.ints Go.IntKind.i64 ys'_1])] := by
  have hz := zipR_of h1 h2
  simp only [hz]
  refine ⟨⟨hlc, by trivial, by omega, ⟨kind, rfl⟩, hh⟩, fun p q xs' ys' ⟨kind1, e, s1, s2, s3⟩ k1 k2 k3 k4 k5 b9 => ?_⟩
  simp only [List.cons.injEq, Value.int.injEq, true_and, and_true] at e
  subst e
  have hql : q.length ≤ rows.length := by
    by_cases hp : p
    · obtain ⟨r, -, hr⟩ := s2 hp
      have := hr.length_eq
      simp at this
      omega
    · rw [(s1 hp).1]; exact Nat.le_refl _
  have hw : IntKind.wrap .i64 (((q.length + 1 : Nat) : Int) - 1) = ((q.length : Nat) : Int) := by rw [IntKind.wrap_i64]; omega
  refine ⟨by trivial, rfl, rfl, ⟨k1, by omega⟩, by omega, by omega, fun b2 base2 cap2 hc hcc sp hs sp1 hs1 => ?_⟩
  have hzs := zip_snoc (a := at_) (c := kind) (sp := sp) (sp1 := sp1) k4 k5
  simp only [hzs, hw, List.length_append, List.length_cons, List.length_nil, Nat.zero_add, Nat.sub_zero]
  refine ⟨⟨hc, by trivial, by omega, q.length, rfl, heap_push s3 rfl⟩, fun _ q3 xs3 ys3 ⟨j, e2, u1, u2, u3⟩ m1 m2 m3 m4 m5 => ⟨rfl, q3, _, _, ⟨?_, q, ?_, ?_⟩, .inr ⟨b2, base2, cap2, xs3, ys3, _, rfl, m1, m2, m3, m4, m5, List.Perm.swap _ _ []⟩, List.Perm.refl _⟩⟩
  · have : q3.length = q.length + 1 := by rw [u1.length_eq]; simp
    rw [this]; exact u2
  · by_cases hp : p
    · exact .inl (s2 hp)
    · exact .inr ⟨(s1 hp).1, (s1 hp).2⟩
  · exact u1.trans List.perm_append_comm
theorem seNil_vc (b : Nat) (kind at_ : Int) :
    ∀ (b_1 : Nat),
  ∃ (x0 : Nat),
    ((((0 : Int) = (↑x0 : Int) ∧
            Go.Value.slice Option.none (0 : Nat) (0 : Nat) = Go.Value.slice Option.none (0 : Nat) (0 : Nat) ∧
              (((0 : Nat) = (0 : Nat) ∧ (0 : Nat) = (0 : Nat)) ∧ True) ∧
                Go.Value.slice Option.none (0 : Nat) (0 : Nat) = Go.Value.slice Option.none (0 : Nat) (0 : Nat) ∧ (↑(0 : Nat) : Int) = (↑(0 : Nat) : Int) ∧ True) ∧
          (b = b ∧ Go.Value.slice Option.none (0 : Nat) (0 : Nat) = Go.Value.slice Option.none (0 : Nat) (0 : Nat) ∧ True) ∧ (b_1 = b_1 ∧ kind = kind ∧ True) ∧ True) ∧
        x0 ≤ (0 : Nat) ∧ ∀ (k : Nat) (r : Row), k < x0 → [][k]? = Option.some r → r.2 ≠ kind) ∧
      ∀ (x : Nat),
        (x ≤ (0 : Nat) ∧ ∀ (k : Nat) (r : Row), k < x → [][k]? = Option.some r → r.2 ≠ kind) →
          ¬(↑x : Int) < (↑(0 : Nat) : Int) ∧
            (-1 : Int) < (0 : Int) ∧
              ∀ (b_2 : Nat),
                Go.Sx.SV.val (Go.Value.slice Option.none (0 : Nat) (0 : Nat)) = Go.Sx.SV.val (Go.Value.slice Option.none (0 : Nat) (0 : Nat)) ∧
                  Go.Value.oneCell' (Go.Value.int Go.IntKind.u64 at_) = Bool.true ∧
                    Go.Value.oneCell' (Go.Value.int Go.IntKind.i64 kind) = Bool.true ∧
                      (16 : Nat) ≤ (140737488355328 : Nat) ∧
                        ∀ (b_3 cap' : Nat),
                          (1 : Nat) ≤ cap' →
                            ∀ (sp : List Int),
                              List.length sp = cap' - (1 : Nat) →
                                ∀ (sp_1 : List Int),
                                  List.length sp_1 = cap' - (1 : Nat) →
                                    ((1 : Nat) ≤ cap' ∧
                                        cap' = cap' ∧
                                          (1 : Nat) < (1000000 : Nat) ∧
                                            ∃ (j : Nat),
                                              [Go.Value.int Go.IntKind.i64 (Go.IntKind.wrap Go.IntKind.i64 ((↑(1 : Nat) : Int) - (1 : Int)))] = [Go.Value.int Go.IntKind.i64 (↑j : Int)] ∧
                                                UpInv (List.length (zipR (1 : Nat) (at_ :: sp) (kind :: sp_1)) - (0 : Nat))
                                                  (zipR (1 : Nat) (at_ :: sp) (kind :: sp_1)) j) ∧
                                      ∀ (a : Unit) (rows' : List Row) (xs' ys' : List Int),
                                        (∃ (j : Nat),
                                            [Go.Value.int Go.IntKind.i64 (Go.IntKind.wrap Go.IntKind.i64 ((↑(1 : Nat) : Int) - (1 : Int)))] = [Go.Value.int Go.IntKind.i64 (↑j : Int)] ∧
                                              upPost (List.length (zipR (1 : Nat) (at_ :: sp) (kind :: sp_1)) - (0 : Nat)) j
                                                (zipR (1 : Nat) (at_ :: sp) (kind :: sp_1)) rows') →
                                          List.length rows' ≤ cap' →
                                            List.length xs' = cap' →
                                              List.length ys' = cap' →
                                                List.take (List.length rows') xs' = List.map (fun (x : Row) => x.1) rows' →
                                                  List.take (List.length rows') ys' = List.map (fun (x : Row) => x.2) rows' →
                                                    SeV b kind at_ [] (Go.Value.tuple #[])
                                                      [(b, Go.Sx.Blk.cells [Go.Value.slice (Option.some { block := b_3, off := (0 : Nat) * (2 : Nat) }) (List.length rows') cap'] (70 : Go.TypeId)),
                                                        (b_1, Go.Sx.Blk.cells [Go.Value.int Go.IntKind.i64 kind] (3 : Nat)),
                                                        (b_2, Go.Sx.Blk.cells [Go.Value.int Go.IntKind.u64 at_, Go.Value.int Go.IntKind.i64 kind] (150 : Nat)),
                                                        (b_3, Go.Sx.Blk.tab (150 : Go.TypeId) (0 : Nat) cap' [Go.Sx.Col.ints Go.IntKind.u64 xs', Go.Sx.Col.ints Go.IntKind.i64 ys'])] := by
  have hw : IntKind.wrap .i64 (((1 : Nat) : Int) - 1) = ((0 : Nat) : Int) := by decide
  have hz : ∀ sp sp1 : List Int, zipR 1 (at_ :: sp) (kind :: sp1) = [(at_, kind)] := fun sp sp1 => by simp [zipR]
  simp only [hw, hz]
  refine fun b2 => ⟨0, ⟨by simp, Nat.zero_le _, fun k r hk => by omega⟩, fun i hi => ⟨by omega, by first | trivial | decide, fun b3 => ⟨by trivial, rfl, rfl, by first | trivial | decide, fun b4 cap2 hc sp hs sp1 hs1 => ?_⟩⟩⟩
  refine ⟨⟨hc, by trivial, by first | trivial | decide, 0, rfl, by simp, by simp, fun k k0 kn => by simp at kn; omega, fun k k0 kn => by simp at kn; omega⟩, fun _ q3 xs3 ys3 ⟨j, e2, u1, u2, u3⟩ m1 m2 m3 m4 m5 => ⟨rfl, q3, _, _, ⟨?_, [], .inr ⟨rfl, by simp⟩, u1⟩, .inr ⟨b4, 0, cap2, xs3, ys3, _, by simp, m1, m2, m3, m4, m5, List.perm_append_comm (l₁ := [_, _]) (l₂ := [_])⟩, List.Perm.refl _⟩⟩
  · have : q3.length = 1 := by rw [u1.length_eq]; simp
    rw [this]; exact u2
theorem se_goal (b b1 base cap : Nat) (kind at_ : Int) (xs ys : List Int) (rows : List Row) (hlc : rows.length ≤ cap) (hb : rows.length + 1 < 1000000) (hx : xs.length = cap) (hy : ys.length = cap)
    (h1 : xs.take rows.length = rows.map (·.1)) (h2 : ys.take rows.length = rows.map (·.2)) (hh : Heap rows.length rows) : seGoal b b1 base cap kind at_ xs ys rows := Eq.mpr (by kernel_rfl) (se_vc b b1 base cap kind at_ xs ys rows hlc hb hx hy h1 h2 hh)
theorem seNil_goal (b : Nat) (kind at_ : Int) : seNilGoal b kind at_ := Eq.mpr (by kernel_rfl) (seNil_vc b kind at_)
end Go.Proofs.Ythkcfocoekonjaa
