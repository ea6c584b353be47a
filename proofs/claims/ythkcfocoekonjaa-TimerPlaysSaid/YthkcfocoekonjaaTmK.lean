/- Span: Stop, Due, Len as triples. -/
import Derived.Test.YthkcfocoekonjaaTmJ


set_option maxRecDepth 100000
set_option linter.unusedVariables false
set_option linter.unusedSimpArgs false
namespace Go.Proofs.Ythkcfocoekonjaa
open Go Go.Sx
attribute [local irreducible] Go.Sx.xrun

noncomputable def stNilGoal (b : Nat) (kind : Int) : Prop :=
  xrun Go.Proofs.Try.prog [] [(84, Ann.ix kind [])] [([11, 9], (9, false)), ([], (10, true))] 9 [] 31 [.ptr 0 0 0, .val (.int .i64 kind)]
    [.own b (.cells 1 [.val (.slice none 0 0)] 70)] fun s h => bOf s fun p => (p ↔ False) ∧ ∃ G, owned (locs h) h = (b, .cells [.slice none 0 0] 70) :: G

theorem stNil_vc (b : Nat) (kind : Int) :
    ∀ (b_1 : Nat),
  ∃ (x0 : Nat),
    ((((0 : Int) = (↑x0 : Int) ∧
            Go.Value.slice Option.none (0 : Nat) (0 : Nat) = Go.Value.slice Option.none (0 : Nat) (0 : Nat) ∧
              (((0 : Nat) = (0 : Nat) ∧ (0 : Nat) = (0 : Nat)) ∧ True) ∧
                Go.Value.slice Option.none (0 : Nat) (0 : Nat) = Go.Value.slice Option.none (0 : Nat) (0 : Nat) ∧ (↑(0 : Nat) : Int) = (↑(0 : Nat) : Int) ∧ True) ∧
          (b = b ∧ Go.Value.slice Option.none (0 : Nat) (0 : Nat) = Go.Value.slice Option.none (0 : Nat) (0 : Nat) ∧ True) ∧ (b_1 = b_1 ∧ kind = kind ∧ True) ∧ True) ∧
        x0 ≤ (0 : Nat) ∧ ∀ (k : Nat) (r : Row), k < x0 → [][k]? = Option.some r → r.2 ≠ kind) ∧
      ∀ (x : Nat),
        (x ≤ (0 : Nat) ∧ ∀ (k : Nat) (r : Row), k < x → [][k]? = Option.some r → r.2 ≠ kind) →
          ¬(↑x : Int) < (↑(0 : Nat) : Int) ∧
            (-1 : Int) < (0 : Int) ∧
              (False ↔ False) ∧
                ∃ (G : List (Nat × Go.Sx.Blk)),
                  [(b, Go.Sx.Blk.cells [Go.Value.slice Option.none (0 : Nat) (0 : Nat)] (70 : Go.TypeId)), (b_1, Go.Sx.Blk.cells [Go.Value.int Go.IntKind.i64 kind] (3 : Nat))] =
                    (b, Go.Sx.Blk.cells [Go.Value.slice Option.none (0 : Nat) (0 : Nat)] (70 : Go.TypeId)) :: G := by
  refine fun b2 => ⟨0, ⟨by simp, Nat.zero_le _, fun k r hk => by omega⟩, fun i hi => ⟨by omega, by first | trivial | decide, Iff.rfl, _, rfl⟩⟩
theorem TbL.left {b b1 base cap : Nat} {R : List Row → Prop} {L : Blks} (h : TbL b b1 base cap R L) {Q : Value → Blks → Prop} (hq : ∀ rows v' L1, R rows → QAt rows v' L1 → Q v' L1) : ∃ v' L1, Q v' L1 ∧ L.Perm ((b, .cells [v'] 70) :: L1) := by
  obtain ⟨rows, xs, ys, G, h1, h2, h3, h4, h5, h6, rfl⟩ := h
  exact ⟨_, _, hq rows _ _ h1 (.inr ⟨b1, base, cap, xs, ys, G, rfl, h2, h3, h4, h5, h6, List.Perm.refl _⟩), List.Perm.refl _⟩
open Classical in
theorem stop_triple {b : Nat} {S : List Row} {v : Value} {L : Blks} (kind : Int) (hq : QRep S v L) (hb : S.length < 1000000) :
    Triple Go.Proofs.Try.prog 31 [.pointer (some ⟨b, 0, none⟩), .int .i64 kind] ((b, .cells [v] 70) :: L) (Left b fun r v' L1 => ∃ (p : Prop) (S' : List Row), r = .bool (decide p) ∧ StopP kind S p S' ∧ QRep S' v' L1) := by
  refine q_triple hq (fun r v' L1 G ⟨p, S', h1, h2, q, h3, h4, h5⟩ => ⟨p, S', h1, h2, q, h3, h4, h5.more G⟩) (fun h0 => ?_) fun b1 base cap xs ys q h1 h2 g1 g2 g3 g4 g5 => ?_
  · subst h0
    refine triple_of_runK (h := [.own b (.cells 1 [.val (.slice none 0 0)] 70)]) (args := [.ptr 0 0 0, .val (.int .i64 kind)]) (vs := [.pointer (some ⟨b, 0, none⟩), .int .i64 kind]) (L := [(b, .cells [.slice none 0 0] 70)])
      (run_with no_contracts _ _ _ _ _) (fun r => rfl) (fun r => rfl) (by simp) (Eq.mpr (by kernel_rfl) (stNil_vc b kind) : stNilGoal b kind) fun s h' hk => ?_
    obtain ⟨p, ⟨hp, G, hG⟩, hd⟩ := bOf_spec hk (locs h')
    exact ⟨.slice none 0 0, G, ⟨p, [], hd, ⟨fun _ => ⟨rfl, by simp⟩, fun h => (hp.1 h).elim⟩, [], List.Perm.refl _, fun k k0 kn => by simp at kn, .inl ⟨rfl, rfl⟩⟩, by rw [hG]⟩
  · have hl := h1.length_eq
    refine triple_of_runK (h := [.own b (.cells 1 [.slc 1 0 q.length cap] 70), .own b1 (.tab 150 base cap [.ints .u64 xs, .ints .i64 ys])]) (args := [.ptr 0 0 0, .val (.int .i64 kind)]) (vs := [.pointer (some ⟨b, 0, none⟩), .int .i64 kind])
      (L := [(b, .cells [.slice (some ⟨b1, base * 2, none⟩) q.length cap] 70), (b1, .tab 150 base cap [.ints .u64 xs, .ints .i64 ys])])
      (run_with stops_sound _ _ _ _ _) (fun r => by simp [denL, den, locAt, locs, Ent.loc, SBlk.base, SBlk.wd]) (fun r => rfl) (by simp) (st_goal b b1 base cap kind xs ys q g1 (by omega) g2 g3 g4 g5 h2) fun s h' hk => ?_
    obtain ⟨p, hp, hd⟩ := bOf_spec hk (locs h')
    refine hp.left fun rows v' L1 ⟨s1, s2, s3⟩ hQ => ?_
    by_cases h : p
    · obtain ⟨r, e1, e2⟩ := s2 h
      exact ⟨p, rows, hd, ⟨fun hn => absurd h hn, fun _ => ⟨r, e1, h1.symm.trans e2⟩⟩, rows, List.Perm.refl _, s3, hQ⟩
    · obtain ⟨rfl, e2⟩ := s1 h
      exact ⟨p, S, hd, ⟨fun _ => ⟨rfl, fun r hr => e2 r (h1.mem_iff.2 hr)⟩, fun hp => absurd hp h⟩, rows, h1, s3, hQ⟩
theorem due_triple {b : Nat} {S : List Row} {v : Value} {L : Blks} (now : Int) (hq : QRep S v L) (hb : S.length < 1000000) :
    Triple Go.Proofs.Try.prog 29 [.pointer (some ⟨b, 0, none⟩), .int .u64 now] ((b, .cells [v] 70) :: L) (Left b fun r v' L1 => ∃ (out S' : List Row) (L2 L3 : Blks), DueP now S out S' ∧ QRep S' v' L2 ∧ KAt (out.map (·.2)) r L3 ∧ L1.Perm (L2 ++ L3)) := by
  have conv : ∀ {q : List Row} {r : Value} {L' : Blks}, q.Perm S → DuV b now q r L' → Left b (fun r v' L1 => ∃ (out S' : List Row) (L2 L3 : Blks), DueP now S out S' ∧ QRep S' v' L2 ∧ KAt (out.map (·.2)) r L3 ∧ L1.Perm (L2 ++ L3)) r L' := by
    intro q r L' hp ⟨out, q', vq, L1, L2, ⟨d1, d2, d3, d4⟩, d5, d6, d7, d8, d9⟩
    exact ⟨vq, L1 ++ L2, ⟨out, q', L1, L2, ⟨hp.symm.trans d1, d2, d3, d5⟩, ⟨q', List.Perm.refl _, d6, d7⟩, d8, List.Perm.refl _⟩, d9⟩
  refine q_triple hq (fun r v' L1 G ⟨out, S', L2, L3, h1, ⟨q, e1, e2, e3⟩, h3, h4⟩ => ⟨out, S', L2 ++ G, L3, h1, ⟨q, e1, e2, e3.more G⟩, h3, (h4.append_right G).trans (by simp only [List.append_assoc]; exact List.perm_append_comm.append_left _)⟩) (fun h0 => ?_) fun b1 base cap xs ys q h1 h2 g1 g2 g3 g4 g5 => ?_
  · subst h0
    have := triple_of_run (R := DuV b now []) (h := [.own b (.cells 1 [.val (.slice none 0 0)] 70)]) (args := [.ptr 0 0 0, .val (.int .u64 now)]) (vs := [.pointer (some ⟨b, 0, none⟩), .int .u64 now]) (L := [(b, .cells [.slice none 0 0] 70)])
      (run_with dns_sound _ _ _ _ _) (fun r => rfl) (fun r => rfl) (by simp) (Eq.mpr (by kernel_rfl) (duNil_vc b now) : duNilGoal b now)
    exact this.mono (List.Perm.refl _) fun r L' h => conv (List.Perm.refl _) h
  · have hl := h1.length_eq
    have := triple_of_run (R := DuV b now q) (h := [.own b (.cells 1 [.slc 1 0 q.length cap] 70), .own b1 (.tab 150 base cap [.ints .u64 xs, .ints .i64 ys])]) (args := [.ptr 0 0 0, .val (.int .u64 now)]) (vs := [.pointer (some ⟨b, 0, none⟩), .int .u64 now])
      (L := [(b, .cells [.slice (some ⟨b1, base * 2, none⟩) q.length cap] 70), (b1, .tab 150 base cap [.ints .u64 xs, .ints .i64 ys])])
      (run_with dns_sound _ _ _ _ _) (fun r => by simp [denL, den, locAt, locs, Ent.loc, SBlk.base, SBlk.wd]) (fun r => rfl) (by simp) (Eq.mpr (by kernel_rfl) (du_vc b b1 base cap now xs ys q g1 (by omega) g2 g3 g4 g5 h2) : duGoal b b1 base cap now xs ys q)
    exact this.mono (List.Perm.refl _) fun r L' h => conv h1 h
theorem len_triple {b : Nat} {S : List Row} {v : Value} {L : Blks} (hq : QRep S v L) :
    Triple Go.Proofs.Try.prog 30 [.pointer (some ⟨b, 0, none⟩)] ((b, .cells [v] 70) :: L) (Left b fun r v' L1 => r = .int .i64 S.length ∧ QRep S v' L1) := by
  refine q_triple hq (fun r v' L1 G ⟨h1, q, h3, h4, h5⟩ => ⟨h1, q, h3, h4, h5.more G⟩) (fun h0 => ?_) fun b1 base cap xs ys q h1 h2 g1 g2 g3 g4 g5 => ?_
  · subst h0
    refine triple_of_runK (h := [.own b (.cells 1 [.val (.slice none 0 0)] 70)]) (args := [.ptr 0 0 0]) (vs := [.pointer (some ⟨b, 0, none⟩)]) (L := [(b, .cells [.slice none 0 0] 70)])
      (run_with no_contracts _ _ _ _ _) (fun r => rfl) (fun r => rfl) (by simp) (Eq.mpr (by kernel_rfl) (lnNil_vc b) : lnNilGoal b) fun s h' hk => ?_
    exact ⟨.slice none 0 0, [], ⟨hk.1, QRep.nil⟩, by rw [hk.2]⟩
  · have hl := h1.length_eq
    refine triple_of_runK (h := [.own b (.cells 1 [.slc 1 0 q.length cap] 70), .own b1 (.tab 150 base cap [.ints .u64 xs, .ints .i64 ys])]) (args := [.ptr 0 0 0]) (vs := [.pointer (some ⟨b, 0, none⟩)])
      (L := [(b, .cells [.slice (some ⟨b1, base * 2, none⟩) q.length cap] 70), (b1, .tab 150 base cap [.ints .u64 xs, .ints .i64 ys])])
      (run_with no_contracts _ _ _ _ _) (fun r => by simp [denL, den, locAt, locs, Ent.loc, SBlk.base, SBlk.wd]) (fun r => rfl) (by simp) (Eq.mpr (by kernel_rfl) (ln_vc b b1 base cap xs ys q g1 g2 g3 g4 g5) : lnGoal b b1 base cap xs ys q) fun s h' hk => ?_
    obtain ⟨rows, xs', ys', G, ⟨e1, e2⟩, f1, f2, f3, f4, f5, f6⟩ := hk
    subst e2
    exact ⟨_, _, ⟨by rw [e1, hl], rows, h1, h2, .inr ⟨b1, base, cap, xs', ys', G, rfl, f1, f2, f3, f4, f5, List.Perm.refl _⟩⟩, by rw [f6]⟩
end Go.Proofs.Ythkcfocoekonjaa
