/- Span: place, and the contracts. -/
import Derived.Test.YthkcfocoekonjaaTmE


set_option maxRecDepth 100000
set_option linter.unusedVariables false
set_option linter.unusedSimpArgs false
namespace Go.Proofs.Ythkcfocoekonjaa
open Go Go.Sx
attribute [local irreducible] Go.Sx.xrun

def plF (kind : Int) (rows : List Row) (a : Int) : Prop := (a = -1 ∧ ∀ r ∈ rows, r.2 ≠ kind) ∨ ∃ (i : Nat) (r : Row), a = (i : Int) ∧ rows[i]? = some r ∧ r.2 = kind
def PlR (kind : Int) (rows : List Row) (v : Value) (rows' : List Row) : Prop := rows' = rows ∧ ∃ a, v = .int .i64 a ∧ plF kind rows a
noncomputable def Ann.ix (kind : Int) (rows : List Row) : FnAnn := ⟨[], [(2, ⟨Nat, [
  (fun σ x => ⟨σ.n, (8, .val (.int .i64 x)) :: keepE σ.env [0, 1, 6, 7], σ.heap⟩, fun _ x => x ≤ rows.length ∧ ∀ k r, k < x → rows[k]? = some r → r.2 ≠ kind)], fun x => rows.length - x⟩)]⟩
noncomputable def plGoal (b b1 base cap : Nat) (kind : Int) (xs ys : List Int) (rows : List Row) : Prop :=
  xrun Go.Proofs.Try.prog [] [(84, Ann.ix kind rows)] [] 9 [] 63 [.ptr 0 0 0, .val (.int .i64 kind)]
    [.own b (.cells 1 [.slc 1 0 rows.length cap] 70), .own b1 (.tab 150 base cap [.ints .u64 xs, .ints .i64 ys])] fun s h => TbR b b1 base cap (PlR kind rows) (den (locs h) s) (owned (locs h) h)

theorem tb_same {b b1 base cap : Nat} {xs ys : List Int} {rows : List Row} {R : Value → List Row → Prop} {v : Value} {G : Blks} (hlc : rows.length ≤ cap) (hx : xs.length = cap) (hy : ys.length = cap)
    (h1 : xs.take rows.length = rows.map (·.1)) (h2 : ys.take rows.length = rows.map (·.2)) (hr : R v rows) :
    TbR b b1 base cap R v ((b, .cells [.slice (some ⟨b1, base * 2, none⟩) rows.length cap] 70) :: (b1, .tab 150 base cap [.ints .u64 xs, .ints .i64 ys]) :: G) :=
  ⟨rows, xs, ys, G, hr, hlc, hx, hy, h1, h2, rfl⟩
theorem col_snd {ys : List Int} {rows : List Row} (h2 : ys.take rows.length = rows.map (·.2)) {i : Nat} (hi : i < rows.length) : ys.getD i 0 = rows[i].2 := by
  have h1 : (ys.take rows.length)[i]? = (rows.map (·.2))[i]? := by rw [h2]
  rw [List.getElem?_take, if_pos hi, List.getElem?_map, List.getElem?_eq_getElem hi] at h1
  simp [List.getD, h1]
theorem col_fst {ys : List Int} {rows : List Row} (h2 : ys.take rows.length = rows.map (·.1)) {i : Nat} (hi : i < rows.length) : ys.getD i 0 = rows[i].1 := by
  have h1 : (ys.take rows.length)[i]? = (rows.map (·.1))[i]? := by rw [h2]
  rw [List.getElem?_take, if_pos hi, List.getElem?_map, List.getElem?_eq_getElem hi] at h1
  simp [List.getD, h1]
theorem ix_succ {i n : Nat} (h : i < n) (hn : n < 1000000) : IntKind.wrap .i64 ((i : Int) + (1 : Int)) = ((i + 1 : Nat) : Int) := by rw [IntKind.wrap_i64]; omega

theorem pl_vc (b b1 base cap : Nat) (kind : Int) (xs ys : List Int) (rows : List Row) (hlc : rows.length ≤ cap) (hb : rows.length < 1000000) (hx : xs.length = cap) (hy : ys.length = cap)
    (h1 : xs.take rows.length = rows.map (·.1)) (h2 : ys.take rows.length = rows.map (·.2)) :
    ∀ (b_1 : Nat),
  ∃ (x0 : Nat),
    ((((0 : Int) = (↑x0 : Int) ∧
            ((0 : Nat) = (0 : Nat) ∧ List.length rows = List.length rows ∧ cap = cap) ∧
              (((0 : Nat) = (0 : Nat) ∧ (0 : Nat) = (0 : Nat)) ∧ True) ∧
                ((0 : Nat) = (0 : Nat) ∧ List.length rows = List.length rows ∧ cap = cap) ∧ (↑(List.length rows) : Int) = (↑(List.length rows) : Int) ∧ True) ∧
          (b = b ∧ ((0 : Nat) = (0 : Nat) ∧ List.length rows = List.length rows ∧ cap = cap) ∧ True) ∧
            (b1 = b1 ∧ base = base ∧ cap = cap ∧ xs = xs ∧ ys = ys ∧ True) ∧ (b_1 = b_1 ∧ kind = kind ∧ True) ∧ True) ∧
        x0 ≤ List.length rows ∧ ∀ (k : Nat) (r : Row), k < x0 → rows[k]? = Option.some r → r.2 ≠ kind) ∧
      ∀ (x : Nat),
        (x ≤ List.length rows ∧ ∀ (k : Nat) (r : Row), k < x → rows[k]? = Option.some r → r.2 ≠ kind) →
          ((↑x : Int) < (↑(List.length rows) : Int) →
              ((0 : Int) ≤ (↑x : Int) ∧ (↑x : Int) < (↑(List.length rows) : Int)) ∧
                (0 : Nat) + x < cap ∧
                  (0 : Nat) + x < cap ∧
                    ∀ (b_2 : Nat),
                      (List.getD ys ((0 : Nat) + x) (0 : Int) = kind →
                          TbR b b1 base cap (PlR kind rows) (Go.Value.int Go.IntKind.i64 (↑x : Int))
                            [(b, Go.Sx.Blk.cells [Go.Value.slice (Option.some { block := b1, off := base * (2 : Nat) }) (List.length rows) cap] (70 : Go.TypeId)),
                              (b1, Go.Sx.Blk.tab (150 : Go.TypeId) base cap [Go.Sx.Col.ints Go.IntKind.u64 xs, Go.Sx.Col.ints Go.IntKind.i64 ys]),
                              (b_1, Go.Sx.Blk.cells [Go.Value.int Go.IntKind.i64 kind] (3 : Nat)),
                              (b_2,
                                Go.Sx.Blk.cells [Go.Value.int Go.IntKind.u64 (List.getD xs ((0 : Nat) + x) (0 : Int)), Go.Value.int Go.IntKind.i64 (List.getD ys ((0 : Nat) + x) (0 : Int))]
                                  (150 : Nat))]) ∧
                        (¬List.getD ys ((0 : Nat) + x) (0 : Int) = kind →
                          ∃ (y : Nat),
                            List.length rows - y < List.length rows - x ∧
                              ((Go.IntKind.wrap Go.IntKind.i64 ((↑x : Int) + (1 : Int)) = (↑y : Int) ∧
                                    ((0 : Nat) = (0 : Nat) ∧ List.length rows = List.length rows ∧ cap = cap) ∧
                                      (((0 : Nat) = (0 : Nat) ∧ (0 : Nat) = (0 : Nat)) ∧ True) ∧
                                        ((0 : Nat) = (0 : Nat) ∧ List.length rows = List.length rows ∧ cap = cap) ∧ (↑(List.length rows) : Int) = (↑(List.length rows) : Int) ∧ True) ∧
                                  (b = b ∧ ((0 : Nat) = (0 : Nat) ∧ List.length rows = List.length rows ∧ cap = cap) ∧ True) ∧
                                    (b1 = b1 ∧ base = base ∧ cap = cap ∧ xs = xs ∧ ys = ys ∧ True) ∧ (b_1 = b_1 ∧ kind = kind ∧ True) ∧ True) ∧
                                y ≤ List.length rows ∧ ∀ (k : Nat) (r : Row), k < y → rows[k]? = Option.some r → r.2 ≠ kind)) ∧
            (¬(↑x : Int) < (↑(List.length rows) : Int) →
              TbR b b1 base cap (PlR kind rows) (Go.Value.int Go.IntKind.i64 (-1 : Int))
                [(b, Go.Sx.Blk.cells [Go.Value.slice (Option.some { block := b1, off := base * (2 : Nat) }) (List.length rows) cap] (70 : Go.TypeId)),
                  (b1, Go.Sx.Blk.tab (150 : Go.TypeId) base cap [Go.Sx.Col.ints Go.IntKind.u64 xs, Go.Sx.Col.ints Go.IntKind.i64 ys]),
                  (b_1, Go.Sx.Blk.cells [Go.Value.int Go.IntKind.i64 kind] (3 : Nat))]) := by
  refine fun b2 => ⟨0, ⟨by simp, Nat.zero_le _, fun k r hk => by omega⟩, fun i ⟨hi, hk⟩ => ⟨fun hlt => ?_, fun hge => ?_⟩⟩
  · have hir : i < rows.length := by omega
    have e := col_snd h2 hir
    simp only [Nat.zero_add, e, ix_succ hir hb]
    refine ⟨⟨by omega, hlt⟩, by omega, by omega, fun b3 => ⟨fun he => tb_same hlc hx hy h1 h2 ⟨rfl, _, rfl, .inr ⟨i, rows[i], rfl, List.getElem?_eq_getElem hir, he⟩⟩, fun he => ⟨i + 1, by omega, by simp, by omega, fun k r hk2 hr => ?_⟩⟩⟩
    by_cases hki : k = i
    · subst hki
      rw [List.getElem?_eq_getElem hir] at hr
      cases hr
      exact he
    · exact hk k r (by omega) hr
  · refine tb_same hlc hx hy h1 h2 ⟨rfl, _, rfl, .inl ⟨rfl, fun r hr => ?_⟩⟩
    obtain ⟨k, hk2⟩ := List.mem_iff_getElem?.1 hr
    exact hk k r (by have := (List.getElem?_eq_some_iff.1 hk2).1; omega) hk2
theorem pl_goal (b b1 base cap : Nat) (kind : Int) (xs ys : List Int) (rows : List Row) (hlc : rows.length ≤ cap) (hb : rows.length < 1000000) (hx : xs.length = cap) (hy : ys.length = cap)
    (h1 : xs.take rows.length = rows.map (·.1)) (h2 : ys.take rows.length = rows.map (·.2)) : plGoal b b1 base cap kind xs ys rows := Eq.mpr (by kernel_rfl) (pl_vc b b1 base cap kind xs ys rows hlc hb hx hy h1 h2)

/-! The contracts. -/
theorem enters82 : Enters Go.Proofs.Try.prog 82 := ⟨Go.Proofs.Try.f82, Go.Proofs.Try.func82, by kernel_rfl, by kernel_rfl⟩
theorem enters83 : Enters Go.Proofs.Try.prog 83 := ⟨Go.Proofs.Try.f83, Go.Proofs.Try.func83, by kernel_rfl, by kernel_rfl⟩
theorem enters63 : Enters Go.Proofs.Try.prog 63 := ⟨Go.Proofs.Try.f63, Go.Proofs.Try.func63, by kernel_rfl, by kernel_rfl⟩
theorem less_sound : ∀ p ∈ [(110, lessT)], SoundT Go.Proofs.Try.prog p.1 p.2 := by
  intro p hp
  rcases List.mem_singleton.1 hp with rfl
  exact lessT_sound

noncomputable def upT (d : Nat) : Trans := tabT (A := Unit) true (fun _ => .tup []) (fun vs rows => ∃ j : Nat, vs = [.int .i64 (j : Int)] ∧ UpInv (rows.length - d) rows j)
  fun vs rows _ rows' => ∃ j : Nat, vs = [.int .i64 (j : Int)] ∧ upPost (rows.length - d) j rows rows'
noncomputable def dnT : Trans := tabT (A := Prop) true (fun p => .prop p) (fun vs rows => ∃ i0 n : Nat, vs = [.int .i64 (i0 : Int), .int .i64 (n : Int)] ∧ n ≤ rows.length ∧ i0 < rows.length ∧ DnInv n rows i0 i0)
  fun vs rows p rows' => ∃ i0 n : Nat, vs = [.int .i64 (i0 : Int), .int .i64 (n : Int)] ∧ dnPost n i0 rows p rows'
noncomputable def plT : Trans := tabT (A := Int) false (fun a => .val (.int .i64 a)) (fun vs rows => ∃ kind, vs = [.int .i64 kind])
  fun vs rows a rows' => ∃ kind, vs = [.int .i64 kind] ∧ rows' = rows ∧ plF kind rows a

theorem TbR.to {b b1 base cap : Nat} {R S : Value → List Row → Prop} {v : Value} {L : Blks} (h : TbR b b1 base cap R v L) (hs : ∀ rows, R v rows → S v rows) : TbR b b1 base cap S v L := by
  obtain ⟨rows, xs, ys, G, h1, h2⟩ := h
  exact ⟨rows, xs, ys, G, hs rows h1, h2⟩
theorem upT_sound (d : Nat) : SoundT Go.Proofs.Try.prog 82 (upT d) := tabT_sound (val := fun _ => .tuple #[]) enters82 (fun a ρ => rfl) (fun a => by simp) fun b b1 base cap vs rows xs ys hlc hb hx hy h1 h2 ⟨j, hv, hu⟩ => by
  subst hv
  have hg := up_goal b b1 base rows.length cap (rows.length - d) j xs ys rows hlc hb hx hy (zipR_of h1 h2) (by omega) hu
  have ht := triple_of_run (R := TbR b b1 base cap fun v rows' => v = .tuple #[] ∧ upPost (rows.length - d) j rows rows') (h := [.own b (.cells 1 [.slc 1 0 rows.length cap] 70), .own b1 (.tab 150 base cap [.ints .u64 xs, .ints .i64 ys])]) (args := [.ifc 148 (.ptr 0 0 0), .val (.int .i64 (j : Int))]) (vs := [tgtV true b, .int .i64 (j : Int)])
    (L := [(b, .cells [.slice (some ⟨b1, base * 2, none⟩) rows.length cap] 70), (b1, .tab 150 base cap [.ints .u64 xs, .ints .i64 ys])]) (run_with less_sound _ _ _ _ _) (fun r => by simp [denL, den, locAt, locs, Ent.loc, SBlk.base, SBlk.wd, tgtV]) (fun r => rfl) (by simp) hg
  exact ht.mono (List.Perm.refl _) fun v L' h => h.to fun rows' hr => ⟨(), hr.1, j, rfl, hr.2⟩
open Classical in
theorem dnT_sound : SoundT Go.Proofs.Try.prog 83 dnT := tabT_sound (val := fun p => .bool (decide p)) enters83 (fun a ρ => rfl) (fun a => by simp) fun b b1 base cap vs rows xs ys hlc hb hx hy h1 h2 ⟨i0, n, hv, hn, hi, hu⟩ => by
  subst hv
  have hg := dn_goal b b1 base rows.length cap n i0 xs ys rows hlc hb hx hy (zipR_of h1 h2) hn hi hu
  refine triple_of_runK (h := [.own b (.cells 1 [.slc 1 0 rows.length cap] 70), .own b1 (.tab 150 base cap [.ints .u64 xs, .ints .i64 ys])]) (args := [.ifc 148 (.ptr 0 0 0), .val (.int .i64 (i0 : Int)), .val (.int .i64 (n : Int))])
    (run_with less_sound _ _ _ _ _) (fun r => by simp [denL, den, locAt, locs, Ent.loc, SBlk.base, SBlk.wd, tgtV]) (fun r => rfl) (by simp) hg fun s h' hk => ?_
  obtain ⟨p, hp, hd⟩ := bOf_spec hk (locs h')
  exact hp.to fun rows' hr => ⟨p, hd, i0, n, rfl, hr⟩
theorem plT_sound : SoundT Go.Proofs.Try.prog 63 plT := tabT_sound (val := fun a => .int .i64 a) enters63 (fun a ρ => rfl) (fun a => by simp) fun b b1 base cap vs rows xs ys hlc hb hx hy h1 h2 ⟨kind, hv⟩ => by
  subst hv
  have hg := pl_goal b b1 base cap kind xs ys rows hlc hb hx hy h1 h2
  have ht := triple_of_run (R := TbR b b1 base cap (PlR kind rows)) (h := [.own b (.cells 1 [.slc 1 0 rows.length cap] 70), .own b1 (.tab 150 base cap [.ints .u64 xs, .ints .i64 ys])]) (args := [.ptr 0 0 0, .val (.int .i64 kind)]) (vs := [tgtV false b, .int .i64 kind])
    (L := [(b, .cells [.slice (some ⟨b1, base * 2, none⟩) rows.length cap] 70), (b1, .tab 150 base cap [.ints .u64 xs, .ints .i64 ys])]) (run_with no_contracts _ _ _ _ _) (fun r => by simp [denL, den, locAt, locs, Ent.loc, SBlk.base, SBlk.wd, tgtV]) (fun r => rfl) (by simp) hg
  exact ht.mono (List.Perm.refl _) fun v L' h => h.to fun rows' ⟨h1, a, h2, h3⟩ => ⟨a, h2, kind, rfl, h1, h3⟩
end Go.Proofs.Ythkcfocoekonjaa
