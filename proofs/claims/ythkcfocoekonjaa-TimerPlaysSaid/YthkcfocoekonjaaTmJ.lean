/- Timers: the methods as triples over a table, and as contracts over a table's cell and a chunk. -/
import Derived.Test.YthkcfocoekonjaaTmI
set_option maxRecDepth 100000
set_option linter.unusedVariables false
set_option linter.unusedSimpArgs false
namespace Go.Proofs.Ythkcfocoekonjaa
open Go Go.Sx
attribute [local irreducible] Go.Sx.xrun

/-- A queue that holds these rows, in whatever order. -/
def QRep (S : List Row) (v : Value) (L : Blks) : Prop := ∃ q, q.Perm S ∧ Heap q.length q ∧ QAt q v L
theorem QAt.more {q : List Row} {v : Value} {L : Blks} (h : QAt q v L) (G : Blks) : QAt q v (L ++ G) := by
  rcases h with h | ⟨b1, base, cap, xs, ys, G0, h1, h2, h3, h4, h5, h6, h7⟩
  · exact .inl h
  · exact .inr ⟨b1, base, cap, xs, ys, G0 ++ G, h1, h2, h3, h4, h5, h6, by simpa using h7.append_right G⟩
theorem QRep.nil : QRep [] (.slice none 0 0) [] := ⟨[], List.Perm.refl _, fun k k0 kn => by simp at kn, .inl ⟨rfl, rfl⟩⟩
theorem QRep.congr {S S' : List Row} {v : Value} {L : Blks} (h : QRep S v L) (p : S.Perm S') : QRep S' v L := by
  obtain ⟨q, h1, h2⟩ := h
  exact ⟨q, h1.trans p, h2⟩
/-- What a call leaves: a new value in the table's cell, and blocks. -/
def Left (b : Nat) (R : Value → Value → Blks → Prop) (r : Value) (L' : Blks) : Prop := ∃ v' L1, R r v' L1 ∧ L'.Perm ((b, .cells [v'] 70) :: L1)

theorem q_triple {f : FuncId} {vs : List Value} {b : Nat} {S : List Row} {v : Value} {L : Blks} {R : Value → Value → Blks → Prop} (hq : QRep S v L) (hm : ∀ r v' L1 G, R r v' L1 → R r v' (L1 ++ G))
    (hnil : S = [] → Triple Go.Proofs.Try.prog f vs [(b, .cells [.slice none 0 0] 70)] (Left b R))
    (htab : ∀ b1 base cap xs ys (q : List Row), q.Perm S → Heap q.length q → q.length ≤ cap → xs.length = cap → ys.length = cap → xs.take q.length = q.map (·.1) → ys.take q.length = q.map (·.2) →
      Triple Go.Proofs.Try.prog f vs [(b, .cells [.slice (some ⟨b1, base * 2, none⟩) q.length cap] 70), (b1, .tab 150 base cap [.ints .u64 xs, .ints .i64 ys])] (Left b R)) :
    Triple Go.Proofs.Try.prog f vs ((b, .cells [v] 70) :: L) (Left b R) := by
  have fin : ∀ {r : Value} {L0 G : Blks}, Left b R r L0 → Left b R r (L0 ++ G) := fun {r L0 G} ⟨v', L1, h1, h2⟩ => ⟨v', L1 ++ G, hm r v' L1 G h1, by simpa using h2.append_right G⟩
  obtain ⟨q, h1, h2, h3⟩ := hq
  rcases h3 with ⟨rfl, rfl⟩ | ⟨b1, base, cap, xs, ys, G, rfl, g1, g2, g3, g4, g5, g6⟩
  · have := (hnil (by have := h1.length_eq; simp at this; exact List.eq_nil_of_length_eq_zero this.symm)).frame (G := L)
    exact this.mono (List.Perm.refl _) fun r L' ⟨L0, k1, k2⟩ => k2 ▸ fin k1
  · have := (htab b1 base cap xs ys q h1 h2 g1 g2 g3 g4 g5).frame (G := G)
    exact this.mono (g6.cons _) fun r L' ⟨L0, k1, k2⟩ => k2 ▸ fin k1

def SetP (kind at_ : Int) (S S' : List Row) : Prop := ∃ S1, ((∃ r : Row, r.2 = kind ∧ S.Perm (r :: S1)) ∨ (S1 = S ∧ ∀ r ∈ S, r.2 ≠ kind)) ∧ S' = (at_, kind) :: S1
def StopP (kind : Int) (S : List Row) (p : Prop) (S' : List Row) : Prop := (¬ p → S' = S ∧ ∀ r ∈ S, r.2 ≠ kind) ∧ (p → ∃ r : Row, r.2 = kind ∧ S.Perm (r :: S'))
def DueP (now : Int) (S out S' : List Row) : Prop := S.Perm (out ++ S') ∧ out.Pairwise rle ∧ (∀ a ∈ out, a.1 ≤ now) ∧ ∀ c ∈ S', now < c.1

theorem sets_sound : ∀ p ∈ [(31, stT), (82, upT 0)], SoundT Go.Proofs.Try.prog p.1 p.2 := by
  intro p hp
  simp only [List.mem_cons, List.not_mem_nil, or_false] at hp
  rcases hp with rfl | rfl
  · exact stT_sound
  · exact upT_sound 0
theorem ups_sound : ∀ p ∈ [(82, upT 0)], SoundT Go.Proofs.Try.prog p.1 p.2 := by
  intro p hp
  rcases List.mem_singleton.1 hp with rfl
  exact upT_sound 0
theorem dns_sound : ∀ p ∈ [(83, dnT)], SoundT Go.Proofs.Try.prog p.1 p.2 := by
  intro p hp
  rcases List.mem_singleton.1 hp with rfl
  exact dnT_sound

theorem SeV.left {b : Nat} {kind at_ : Int} {rows S : List Row} {v : Value} {L : Blks} (h : SeV b kind at_ rows v L) (hp : rows.Perm S) : Left b (fun r v' L1 => r = .tuple #[] ∧ ∃ S', SetP kind at_ S S' ∧ QRep S' v' L1) v L := by
  obtain ⟨rfl, q, v', L1, ⟨h1, rows1, h2, h3⟩, h4, h5⟩ := h
  refine ⟨v', L1, ⟨rfl, ?_⟩, h5⟩
  rcases h2 with ⟨r, e1, e2⟩ | ⟨rfl, e2⟩
  · exact ⟨_, ⟨rows1, .inl ⟨r, e1, hp.symm.trans e2⟩, rfl⟩, q, h3, h1, h4⟩
  · exact ⟨_, ⟨S, .inr ⟨rfl, fun r hr => e2 r (hp.mem_iff.2 hr)⟩, rfl⟩, q, h3.trans (hp.cons _), h1, h4⟩
theorem set_triple {b : Nat} {S : List Row} {v : Value} {L : Blks} (kind at_ : Int) (hq : QRep S v L) (hb : S.length + 1 < 1000000) :
    Triple Go.Proofs.Try.prog 28 [.pointer (some ⟨b, 0, none⟩), .int .i64 kind, .int .u64 at_] ((b, .cells [v] 70) :: L) (Left b fun r v' L1 => r = .tuple #[] ∧ ∃ S', SetP kind at_ S S' ∧ QRep S' v' L1) := by
  refine q_triple hq (fun r v' L1 G ⟨h1, S', h2, q, h3, h4, h5⟩ => ⟨h1, S', h2, q, h3, h4, h5.more G⟩) (fun h0 => ?_) fun b1 base cap xs ys q h1 h2 g1 g2 g3 g4 g5 => ?_
  · subst h0
    have := triple_of_run (R := SeV b kind at_ []) (h := [.own b (.cells 1 [.val (.slice none 0 0)] 70)]) (args := [.ptr 0 0 0, .val (.int .i64 kind), .val (.int .u64 at_)]) (vs := [.pointer (some ⟨b, 0, none⟩), .int .i64 kind, .int .u64 at_]) (L := [(b, .cells [.slice none 0 0] 70)])
      (run_with ups_sound _ _ _ _ _) (fun r => rfl) (fun r => rfl) (by simp) (seNil_goal b kind at_)
    exact this.mono (List.Perm.refl _) fun r L' h => h.left (List.Perm.refl _)
  · have hl := h1.length_eq
    have := triple_of_run (R := SeV b kind at_ q) (h := [.own b (.cells 1 [.slc 1 0 q.length cap] 70), .own b1 (.tab 150 base cap [.ints .u64 xs, .ints .i64 ys])]) (args := [.ptr 0 0 0, .val (.int .i64 kind), .val (.int .u64 at_)]) (vs := [.pointer (some ⟨b, 0, none⟩), .int .i64 kind, .int .u64 at_])
      (L := [(b, .cells [.slice (some ⟨b1, base * 2, none⟩) q.length cap] 70), (b1, .tab 150 base cap [.ints .u64 xs, .ints .i64 ys])])
      (run_with sets_sound _ _ _ _ _) (fun r => by simp [denL, den, locAt, locs, Ent.loc, SBlk.base, SBlk.wd]) (fun r => rfl) (by simp) (se_goal b b1 base cap kind at_ xs ys q g1 (by omega) g2 g3 g4 g5 h2)
    exact this.mono (List.Perm.refl _) fun r L' h => h.left h1
end Go.Proofs.Ythkcfocoekonjaa
