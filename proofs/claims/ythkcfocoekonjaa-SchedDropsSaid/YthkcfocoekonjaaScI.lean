/- Queues: the contracts by name. -/
import Derived.Test.YthkcfocoekonjaaScG
set_option maxRecDepth 100000
set_option linter.unusedVariables false
set_option linter.unusedSimpArgs false
namespace Go.Proofs.Ythkcfocoekonjaa
open Go Go.Sx
attribute [local irreducible] Go.Sx.xrun

/-! The contracts by name. -/
def NewPre (x : Bool) (vs : List Value) (L : Blks) : Prop := vs = [.bool x] ∧ L = []
def NewPost (x : Bool) (b : Nat) (L' : Blks) : Prop := SQAt ⟨x, false, [], fun _ => none, 0⟩ b L'
noncomputable def newnT : Trans := chunkR (X := Bool) (A := Nat) (fun b => .val (.pointer (some ⟨b, 0, none⟩))) NewPre NewPost
def PuPre (x : PuX) (vs : List Value) (L : Blks) : Prop := vs = x.m.args x.b x.v ∧ x.q.small ∧ (0 ≤ x.q.all ∧ x.q.all ≤ 1000000) ∧ ∃ Lq Lb, L.Perm (Lq ++ Lb) ∧ SQAt x.q x.b Lq ∧ WinNil 5 .u8 x.body x.v Lb
def PuPost (x : PuX) (a : Int × SQ) (L' : Blks) : Prop := PushP x.q x.m x.body a.1 a.2 ∧ ∃ La Lb, L'.Perm (La ++ Lb) ∧ SQAt a.2 x.b La ∧ WinNil 5 .u8 x.body x.v Lb
noncomputable def pushnT : Trans := absT (chunkR (X := PuX) (A := Int × SQ) (fun a => .val (.int .i64 a.1)) PuPre PuPost)
def NxPre (x : NxX) (vs : List Value) (L : Blks) : Prop := vs = [.pointer (some ⟨x.b, 0, none⟩), .int .i64 x.most] ∧ x.q.small ∧ (0 ≤ x.q.all ∧ x.q.all ≤ 1000000) ∧ SQAt x.q x.b L
def NxPost (x : NxX) (a : Ch × Sl × SQ) (L' : Blks) : Prop := a.1 = (nextF x.q x.most).1 ∧ a.2.2 = (nextF x.q x.most).2 ∧ ∃ La Lb, L'.Perm (La ++ Lb) ∧ SQAt a.2.2 x.b La ∧ WinNil 5 .u8 a.1.body (.slice a.2.1.o a.2.1.l a.2.1.c) Lb
noncomputable def nextnT : Trans := chunkR (X := NxX) (A := Ch × Sl × SQ) (fun a => a.1.sv a.2.1) NxPre NxPost
def AlPre (x : SQ × Nat) (vs : List Value) (L : Blks) : Prop := vs = [.pointer (some ⟨x.2, 0, none⟩)] ∧ SQAt x.1 x.2 L
def AlPost (x : SQ × Nat) (a : Int) (L' : Blks) : Prop := a = x.1.all ∧ SQAt x.1 x.2 L'
noncomputable def allnT : Trans := chunkR (X := SQ × Nat) (A := Int) (fun a => .val (.int .i64 a)) AlPre AlPost
theorem newnT_sound : SoundT Go.Proofs.Try.prog 15 newnT := newT_sound
theorem pushnT_sound : SoundT Go.Proofs.Try.prog 16 pushnT := pushT_sound
theorem nextnT_sound : SoundT Go.Proofs.Try.prog 17 nextnT := nextT_sound
theorem allnT_sound : SoundT Go.Proofs.Try.prog 18 allnT := allT_sound
theorem four_sound : ∀ p ∈ [(15, newnT), (16, pushnT), (17, nextnT), (18, allnT)], SoundT Go.Proofs.Try.prog p.1 p.2 := by
  intro p hp
  simp only [List.mem_cons, List.not_mem_nil, or_false] at hp
  rcases hp with rfl | rfl | rfl | rfl
  · exact newnT_sound
  · exact pushnT_sound
  · exact nextnT_sound
  · exact allnT_sound
end Go.Proofs.Ythkcfocoekonjaa
