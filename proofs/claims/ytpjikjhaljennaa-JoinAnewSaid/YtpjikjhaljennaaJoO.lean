/- Joiners: what must be answered first (the plain part). -/
import Derived.Test.YtpjikjhaljennaaJoN
set_option maxRecDepth 100000
set_option linter.unusedVariables false
set_option linter.unusedSimpArgs false
namespace Go.Proofs.Ytpjikjhaljennaa
open Go Go.Sx
attribute [local irreducible] Go.Sx.xrun

noncomputable def jfGoal : Prop :=
  xrun Go.Proofs.Try.prog [(18, jnewT), (19, absT jputT), (20, jtakeT), (22, jheldT)] [] [] 9 [] 17 [] [.chunk []] fun s h => bOf s (fun p => p)
open Classical
theorem jq_eq {q : JQ} {r : List Mg} (h1 : q.parts = []) (h2 : q.pieces = []) : ({ inter := q.inter, parts := [], pieces := [], wait := r, next := q.next, ready := q.ready } : JQ) = { q with wait := r } := by
  cases q
  simp_all
/-- A message that is one piece, ordered. -/
theorem put_whole {q : JQ} {c : Pc} {q' : JQ} (h1 : q.parts = []) (h2 : q.pieces = []) (hb : c.bg = true) (he : c.en = true) (hf : c.fr = 0) (hk : c.kd = kindF q.inter) (hs : ¬ q.stale (c.key q.inter)) (hl : c.lo = false)
    (hw : ∀ m ∈ q.wait, m.key ≠ c.key q.inter) (ho : OnIs { q with wait := q.wait ++ [msgOf q.inter c [c]] } c.st q') : PutIs q c true q' := by
  have hkey : (msgOf q.inter c [c]).key = c.key q.inter := rfl
  refine ⟨hk, .inr ⟨hs, rfl, ?_⟩⟩
  cases hi : q.inter with
  | false =>
    refine .inl ⟨rfl, by rw [h2]; simp, some [c], ⟨0, some c.tsn, .bg (by simp) rfl hb, .inr ⟨c.tsn, c, 0, rfl, by simp, rfl, by decide, .en he⟩⟩, .inr ⟨c, [], rfl, .inr ⟨hl, fun m hm => by rw [← hi]; exact hw m hm, ?_⟩⟩⟩
    rw [hi] at ho
    have e : (List.filter (fun p => decide (p.tsn ∉ List.map (fun x => x.tsn) [c])) (q.pieces ++ [c])) = [] := by rw [h2]; simp
    simp only [e, h1, List.filter_nil]
    have := jq_eq (r := q.wait ++ [msgOf false c [c]]) h1 h2
    rw [hi] at this
    rw [this]
    have e2 : ({ q with inter := false, wait := q.wait ++ [msgOf false c [c]] } : JQ) = { q with wait := q.wait ++ [msgOf false c [c]] } := by cases q; simp_all
    first | exact ho | (rw [e2] at ho; exact ho) | (simp only [e2] at ho ⊢; exact ho)
  | true =>
    refine .inr ⟨rfl, ⟨fun _ => hf, fun _ => hb⟩, by rw [hf]; decide, .inr ⟨by rw [h1]; simp, 0, some [c], by decide, .en (by simp) hf he, .inr ⟨c, [], rfl, .inr ⟨hl, fun m hm => by rw [← hi]; exact hw m hm, ?_⟩⟩⟩⟩
    rw [hi] at ho hkey
    have e : (List.filter (fun a : Ky × List Pc => decide (kK a.1 ≠ kK (msgOf true c [c]).key)) (q.parts ++ [(Pc.key true c, [c])])) = [] := by rw [h1, hkey]; simp
    simp only [e, h2, List.filter_nil]
    have := jq_eq (r := q.wait ++ [msgOf true c [c]]) h1 h2
    rw [hi] at this
    rw [this]
    first | exact ho
theorem lessF_self (n : Int) : ¬ lessF n n := by
  unfold lessF
  rw [Int.sub_self]
  decide
theorem lessS_self (n : Int) : ¬ lessS n n := by
  unfold lessS
  rw [Int.sub_self]
  decide
theorem behindF_self (i : Bool) (n : Int) : ¬ behindF i n n := by
  unfold behindF
  split
  · exact lessF_self n
  · exact lessS_self n
/-! The joiner of the first things. -/
def jc1 : Pc := ⟨64, true, true, false, 0, 1, 1, 0, 0, [120]⟩
def jc2 : Pc := ⟨64, true, false, false, 0, 1, 0, 0, 0, [97]⟩
def jc3 : Pc := ⟨64, false, true, false, 0, 1, 0, 0, 1, [98]⟩
def jm1 : Mg := ⟨1, false, 1, 0, [120]⟩
def jm2 : Mg := ⟨1, false, 0, 0, [97, 98]⟩
def jq0 : JQ := ⟨true, [], [], [], fun _ => 0, []⟩
def jq1 : JQ := ⟨true, [], [], [jm1], updN (fun _ => 0) 1 0, []⟩
def jq2 : JQ := ⟨true, [((1, false, 0), [jc2])], [], [jm1], updN (fun _ => 0) 1 0, []⟩
theorem jnext1 : updN (fun _ => 0) 1 0 1 = 0 := updN_self _ _ _
theorem jp1 : PutIs jq0 jc1 true jq1 := put_whole rfl rfl rfl rfl rfl rfl (fun h => by
    rcases h.2 with ⟨m, hm, -⟩ | h
    · cases hm
    · revert h
      show ¬ lessF 1 0
      unfold lessF
      decide) rfl (fun m hm => by cases hm) ⟨0, _, _, _, .stop (fun m hm => by
    have hm : m ∈ [jm1] := hm
    rw [List.mem_singleton] at hm
    subst hm
    decide), rfl⟩
theorem jnot2 (n : Int) (hn : n ≠ 1) (c : Pc) (hk : c.key true = (1, false, 0)) (q : JQ) (hi : q.inter = true) (hw : q.wait = [jm1]) (hx : q.next 1 = 0) : ¬ q.stale (c.key q.inter) := fun h => by
  rw [hi, hk] at h
  rcases h.2 with ⟨m, hm, e⟩ | h
  · rw [hw, List.mem_singleton] at hm
    subst hm
    revert e
    decide
  · rw [hi] at h
    have h : lessF 0 (q.next 1) := h
    rw [hx] at h
    exact lessF_self 0 h
theorem jp2 : PutIs jq1 jc2 true jq2 := by
  refine ⟨rfl, .inr ⟨jnot2 0 (by decide) jc2 rfl jq1 rfl rfl jnext1, rfl, .inr ⟨rfl, ⟨fun _ => rfl, fun _ => rfl⟩, by decide, .inr ⟨fun a ha => (by cases ha), 1, none, by decide, .st (c := jc2) (by simp) rfl rfl (.no fun c hc => ?_), .inl ⟨rfl, rfl⟩⟩⟩⟩⟩
  rw [List.mem_singleton] at hc
  subst hc
  decide
theorem jp3 : ∃ q3, PutIs jq2 jc3 true q3 ∧ q3.ready = [jm2, jm1] ∧ q3.parts = [] ∧ q3.pieces = [] ∧ q3.wait = [] ∧ q3.inter = true := by
  refine ⟨_, ⟨rfl, .inr ⟨jnot2 0 (by decide) jc3 rfl jq2 rfl rfl jnext1, rfl, .inr ⟨rfl, ⟨fun h => (by cases h), fun h => absurd h (by decide)⟩, by decide, .inl ⟨[jc2], by simp [jq2, Pc.key, jc3, midF], fun p hp => ?_, 1, some [jc2, jc3], by decide, .st (c := jc2) (by simp) rfl rfl (.en (c := jc3) (by simp) (by decide) rfl), .inr ⟨jc2, [jc3], rfl, .inr ⟨rfl, fun m hm => ?_, ⟨2, _, _, _, .step (m := jm2) (by simp [jq2, msgOf, jm2, jc2, jc3, midF]) rfl (.step (m := jm1) ?_ ?_ (.stop ?_)), rfl⟩⟩⟩⟩⟩⟩⟩, rfl, ?_, rfl, ?_, rfl⟩
  · rw [List.mem_singleton] at hp
    subst hp
    decide
  · have hm : m ∈ [jm1] := hm
    rw [List.mem_singleton] at hm
    subst hm
    decide
  · have e0 : (jq2.next jc2.st) = 0 := jnext1
    rw [e0]
    simp [jq2, jm1, jm2, Mg.key, kK]
  · show (1, false, 1) = (1, false, midF true (IntKind.wrap .u32 (updN (fun _ => 0) 1 0 1 + 1)))
    rw [jnext1]
    decide
  · intro m hm
    have hw : m ∈ [jm1] ++ [jm2] := (List.mem_filter.1 (List.mem_filter.1 hm).1).1
    have h2 : kK m.key ≠ kK (1, false, midF true (IntKind.wrap .u32 (updN (fun _ => 0) 1 0 1 + 1))) := of_decide_eq_true (List.mem_filter.1 hm).2
    have h1 : kK m.key ≠ kK (1, false, updN (fun _ => 0) 1 0 1) := of_decide_eq_true (List.mem_filter.1 (List.mem_filter.1 hm).1).2
    rw [jnext1] at h1 h2
    simp at hw
    rcases hw with rfl | rfl
    · exact absurd rfl h2
    · exact absurd rfl h1
  · simp [jq2, msgOf, Mg.key, jc2, midF]
    rfl
  · apply List.eq_nil_iff_forall_not_mem.2
    intro m hm
    have hw : m ∈ [jm1] ++ [jm2] := (List.mem_filter.1 (List.mem_filter.1 hm).1).1
    have h2 : kK m.key ≠ kK (1, false, midF true (IntKind.wrap .u32 (updN (fun _ => 0) 1 0 1 + 1))) := of_decide_eq_true (List.mem_filter.1 hm).2
    have h1 : kK m.key ≠ kK (1, false, updN (fun _ => 0) 1 0 1) := of_decide_eq_true (List.mem_filter.1 (List.mem_filter.1 hm).1).2
    rw [jnext1] at h1 h2
    simp at hw
    rcases hw with rfl | rfl
    · exact absurd rfl h2
    · exact absurd rfl h1
theorem JAt.pool {q : JQ} {b : Nat} {G L : Blks} (h : JAt q b G L) : SeenIn G L := by
  obtain ⟨mp, mq, mw, mn, rv, fp, fq, fw, fn, Lr, Li, hL, -⟩ := h
  exact seen_sub fun p hp => hL.mem_iff.2 (by simp [hp])
end Go.Proofs.Ytpjikjhaljennaa
