/- One state is as another wants it. -/
import Derived.Test.YtpjikjhaljennaaSxS
set_option linter.unusedVariables false
set_option linter.unusedSimpArgs false
namespace Go.Sx
open Classical

/-- Where the other's position n' stands here: is it n? -/
def thIs : List Nat → Nat → Nat → Bool
  | [], _, _ => false
  | x :: _, 0, n => Nat.beq x n
  | _ :: r, k + 1, n => thIs r k n

mutual
/-- The value `s` (in `h`) is what the other state calls `s'`; `θ` says where the other's positions stand in `h`. -/
noncomputable def leSV (h : List Ent) (θ : List Nat) : SV → SV → Prop
  | .top, _ => False
  | .val v', s => (match s, v' with
    | .val (.int k a), .int k' b => kSame k k' (a = b)
    | .val v, v' => v = v'
    | s, v' => bif svlt (lenE h) s then den (locs h) s = v' else False)
  | .tt, s => (match s with | .tt => True | .prop p => p | .val (.bool b) => b = true | _ => False)
  | .ff, s => (match s with | .ff => True | .prop p => ¬ p | .val (.bool b) => b = false | _ => False)
  | .prop q, s => (match s with | .tt => q | .ff => ¬ q | .prop p => (p ↔ q) | .val (.bool b) => (b = true ↔ q) | _ => False)
  | .ptr n' i' j', s => (match s with | .ptr n i j => bif thIs θ n' n then i = i' ∧ j = j' else False | _ => False)
  | .slc n' o' l' c', s => (match s with | .slc n o l c => bif thIs θ n' n then o = o' ∧ l = l' ∧ c = c' else False | _ => False)
  | .mp n', s => (match s with | .mp n => bif thIs θ n' n then True else False | _ => False)
  | .agg l', s => (match s with | .agg l => leSVL h θ l' l | _ => False)
  | .tup l', s => (match s with | .tup l => leSVL h θ l' l | _ => False)
  | .ifc t' s', s => (match s with | .ifc t s => bif Nat.beq t t' then leSV h θ s' s else False | _ => False)
  | .fn f' l', s => (match s with | .fn f l => bif Nat.beq f f' then leSVL h θ l' l else False | _ => False)
  | .bfn f' l', s => (match s with | .bfn f l => bif Nat.beq f f' then leSVL h θ l' l else False | _ => False)
  | .arr k' l', s => (match s with | .arr k l => kSame k k' (l = l') | _ => False)
  | .sl o' l' c', s => (match s with
    | .sl o l c => o = o' ∧ l = l' ∧ c = c'
    | .val (.slice o l c) => o = o' ∧ l = l' ∧ c = c'
    | .slc n o l c => bif svlt (lenE h) (.slc n o l c) then den (locs h) (.slc n o l c) = .slice o' l' c' else False
    | _ => False)
noncomputable def leSVL (h : List Ent) (θ : List Nat) : List SV → List SV → Prop
  | [], l => (match l with | [] => True | _ => False)
  | s' :: r', l => (match l with | s :: r => leSV h θ s' s ∧ leSVL h θ r' r | _ => False)
end
def leCol (c' c : Col) (A : Prop) : Prop :=
  match c', c with
  | .ints k xs, .ints k' ys => kSame k k' (ys = xs ∧ A)
  | .bools xs, .bools ys => ys = xs ∧ A
  | .raws xs, .raws ys => ys = xs ∧ A
  | _, _ => False
def leCols : List Col → List Col → Prop
  | [], [] => True
  | c' :: r', c :: r => leCol c' c (leCols r' r)
  | _, _ => False
noncomputable def leBlk (h : List Ent) (θ : List Nat) (k' k : SBlk) : Prop :=
  match k', k with
  | .cells wd' l' t', .cells wd l t => bif Nat.beq wd wd' && Nat.beq t t' then leSVL h θ l' l else False
  | .tab t' base' len' cols', .tab t base len cols => bif Nat.beq t t' then (base = base' ∧ len = len' ∧ leCols cols' cols) else False
  | .map ks' m' st', .map ks m _ => ks = ks' ∧ m = m' ∧ st' = none
  | .obj o', .obj o => o = o'
  | .map ks' m' st', .obj (.map es clock) => GoodMap ks' es clock ∧ m' = getM es.toList ∧ st' = none
  | _, _ => False
noncomputable def leEnt (h : List Ent) (θ : List Nat) (e' e : Ent) : Prop :=
  match e' with
  | .gone l => e.loc = l
  | .own b' k' => (match e with | .own b k => b = b' ∧ leBlk h θ k' k | _ => False)
  | .ro b' k' => (match e with | .ro b k => b = b' ∧ leBlk h θ k' k | _ => False)
  | .chunk L' => (match e with | .chunk L => L = L' | _ => False)
noncomputable def leHeap (h : List Ent) (θ : List Nat) : List Nat → List Ent → Prop
  | [], [] => True
  | k :: ks, e' :: r => (match entAt h k with | none => False | some e => leEnt h θ e' e) ∧ leHeap h θ ks r
  | _, _ => False
def picks : List Nat → List Ent → List Nat
  | k :: ks, e' :: r => (match e' with | .own _ _ => k :: picks ks r | .chunk _ => k :: picks ks r | _ => picks ks r)
  | _, _ => []
def memB (k : Nat) : List Nat → Bool
  | [] => false
  | x :: r => Nat.beq x k || memB k r
def nodupB : List Nat → Bool
  | [] => true
  | x :: r => !memB x r && nodupB r
def idB : Nat → Nat → List Nat → Bool
  | 0, _, _ => true
  | n + 1, i, x :: r => Nat.beq x i && idB n (i + 1) r
  | _ + 1, _, [] => false
noncomputable def leEnv (h : List Ent) (θ : List Nat) (env : List (Nat × SV)) : List Nat → List (Nat × SV) → Prop
  | _, [] => True
  | seen, (t, s') :: r => bif memB t seen then leEnv h θ env seen r else (match s' with
    | .top => leEnv h θ env (t :: seen) r
    | s' => leSV h θ s' (look env t) ∧ leEnv h θ env (t :: seen) r)

/-- Where the other's positions stand here: read off the two states. -/
def pairsL : List SV → List SV → List (Nat × Nat) → List (Nat × Nat)
  | s' :: r', s :: r, acc => (match s', s with
    | .ptr n' _ _, .ptr n _ _ => pairsL r' r ((n', n) :: acc)
    | .slc n' _ _ _, .slc n _ _ _ => pairsL r' r ((n', n) :: acc)
    | .mp n', .mp n => pairsL r' r ((n', n) :: acc)
    | .fn _ [c'], .fn _ [c] => (match c', c with | .ptr n' _ _, .ptr n _ _ => pairsL r' r ((n', n) :: acc) | _, _ => pairsL r' r acc)
    | .bfn _ [c'], .bfn _ [c] => (match c', c with | .ptr n' _ _, .ptr n _ _ => pairsL r' r ((n', n) :: acc) | _, _ => pairsL r' r acc)
    | .ifc _ c', .ifc _ c => (match c', c with | .ptr n' _ _, .ptr n _ _ => pairsL r' r ((n', n) :: acc) | _, _ => pairsL r' r acc)
    | _, _ => pairsL r' r acc)
  | _, _, acc => acc
def pairsEnt (e' e : Option Ent) (acc : List (Nat × Nat)) : List (Nat × Nat) :=
  match e', e with
  | some (.own _ (.cells _ l' _)), some (.own _ (.cells _ l _)) => pairsL l' l acc
  | some (.ro _ (.cells _ l' _)), some (.ro _ (.cells _ l _)) => pairsL l' l acc
  | _, _ => acc
def findN : List (Nat × Nat) → Nat → Option Nat
  | [], _ => none
  | (u, s) :: r, t => bif Nat.beq u t then some s else findN r t
def inferGo (h h' : List Ent) : Nat → List (Nat × Nat) → List (Nat × Nat) → List (Nat × Nat)
  | 0, _, found => found
  | _ + 1, [], found => found
  | fuel + 1, (n', n) :: todo, found => match findN found n' with
    | some _ => inferGo h h' fuel todo found
    | none => inferGo h h' fuel (pairsEnt (entAt h' n') (entAt h n) todo) ((n', n) :: found)
def idPairs : Nat → List (Nat × Nat)
  | 0 => []
  | n + 1 => (n, n) :: idPairs n
def pairsEnv (env : List (Nat × SV)) : List Nat → List (Nat × SV) → List (Nat × Nat) → List (Nat × Nat)
  | _, [], acc => acc
  | seen, (t, s') :: r, acc => bif memB t seen then pairsEnv env seen r acc else pairsEnv env (t :: seen) r (pairsL [s'] [look env t] acc)
def thOf (found : List (Nat × Nat)) : Nat → Nat → List Nat
  | 0, _ => []
  | n + 1, i => (match findN found i with | some k => k | none => i) :: thOf found n (i + 1)
def inferTh (n0 : Nat) (σ σ' : St) : List Nat :=
  thOf (inferGo σ.heap σ'.heap 300 (idPairs n0 ++ pairsEnv σ.env [] σ'.env []) []) (lenE σ'.heap) 0

noncomputable def leStTh (n0 : Nat) (θ : List Nat) (σ σ' : St) : Prop :=
  bif Nat.beq σ.n σ'.n && idB n0 0 θ && nodupB (picks θ σ'.heap) then leEnv σ.heap θ σ.env [] σ'.env ∧ leHeap σ.heap θ θ σ'.heap else False
noncomputable def leSt (n0 : Nat) (σ σ' : St) : Prop := leStTh n0 (inferTh n0 σ σ') σ σ'

/-! Soundness. -/
def LocOK (h h' : List Ent) (θ : List Nat) : Prop := ∀ n' n, thIs θ n' n = true → ∀ r r', locAt (locs h' ++ r') n' = locAt (locs h ++ r) n

section
variable {h h' : List Ent} {θ : List Nat}

theorem svlt_den {h : List Ent} {s : SV} (hl : svlt (lenE h) s = true) (r : List Loc) : den (locs h ++ r) s = den (locs h) s :=
  (svlt_std (h := h) (s := .val (den (locs h) s)) hl rfl (fun _ => rfl)) r

theorem leSVL_nil (h : List Ent) (θ : List Nat) (l : List SV) (hx : leSVL h θ [] l) : l = [] := by
  cases l with
  | nil => rfl
  | cons => exact hx.elim

mutual
theorem leSV_den (ok : LocOK h h' θ) : ∀ (s' s : SV), leSV h θ s' s → ∀ r r', den (locs h' ++ r') s' = den (locs h ++ r) s
  | .top, _, hx => hx.elim
  | .val v', s, hx => by
    intro r r'
    simp only [leSV] at hx
    split at hx
    · obtain ⟨rfl, rfl⟩ := kSame_iff hx; rfl
    · rw [hx]; rfl
    · obtain ⟨h1, h2⟩ := bif_false hx
      rw [svlt_den h1, h2]; rfl
  | .tt, s, hx => by
    intro r r'
    simp only [leSV] at hx
    split at hx
    · rfl
    · simp [den, hx]
    · rw [hx]; rfl
    · exact hx.elim
  | .ff, s, hx => by
    intro r r'
    simp only [leSV] at hx
    split at hx
    · rfl
    · simp [den, hx]
    · rw [hx]; rfl
    · exact hx.elim
  | .prop q, s, hx => by
    intro r r'
    simp only [leSV] at hx
    split at hx
    · simp [den, hx]
    · simp [den, hx]
    · simp only [den]; rw [decide_eq_decide.2 hx]
    · rename_i b
      simp only [den]
      congr 1
      cases b
      · simp at hx; simp [hx]
      · simp at hx; simp [hx]
    · exact hx.elim
  | .ptr n' i' j', s, hx => by
    intro r r'
    simp only [leSV] at hx
    split at hx
    · obtain ⟨h1, rfl, rfl⟩ := bif_false hx
      simp only [den, ok _ _ h1 r r']
    · exact hx.elim
  | .slc n' o' l' c', s, hx => by
    intro r r'
    simp only [leSV] at hx
    split at hx
    · obtain ⟨h1, rfl, rfl, rfl⟩ := bif_false hx
      simp only [den, ok _ _ h1 r r']
    · exact hx.elim
  | .mp n', s, hx => by
    intro r r'
    simp only [leSV] at hx
    split at hx
    · obtain ⟨h1, _⟩ := bif_false hx
      simp only [den, ok _ _ h1 r r']
    · exact hx.elim
  | .agg l', s, hx => by
    intro r r'
    simp only [leSV] at hx
    split at hx
    · simp only [den, leSVL_den ok l' _ hx r r']
    · exact hx.elim
  | .tup l', s, hx => by
    intro r r'
    simp only [leSV] at hx
    split at hx
    · simp only [den, leSVL_den ok l' _ hx r r']
    · exact hx.elim
  | .ifc t' s', s, hx => by
    intro r r'
    simp only [leSV] at hx
    split at hx
    · obtain ⟨h1, h2⟩ := bif_false hx
      have := Nat.eq_of_beq_eq_true h1
      subst this
      simp only [den, leSV_den ok s' _ h2 r r']
    · exact hx.elim
  | .arr k' l', s, hx => by
    unfold leSV at hx
    split at hx
    · obtain ⟨rfl, rfl⟩ := kSame_iff hx
      exact fun r r' => by simp only [den]
    · exact hx.elim
  | .sl o' l' c', s, hx => by
    unfold leSV at hx
    split at hx
    · obtain ⟨rfl, rfl, rfl⟩ := hx
      exact fun r r' => by simp only [den]
    · obtain ⟨rfl, rfl, rfl⟩ := hx
      exact fun r r' => by simp only [den]
    · obtain ⟨h1, h2⟩ := bif_false hx
      intro r r'
      rw [svlt_den h1, h2]
      simp only [den]
    · exact hx.elim
  | .bfn f' l', s, hx => by
    intro r r'
    simp only [leSV] at hx
    split at hx
    · obtain ⟨h1, h2⟩ := bif_false hx
      have := Nat.eq_of_beq_eq_true h1
      subst this
      simp only [den, leSVL_den ok l' _ h2 r r']
    · exact hx.elim
  | .fn f' l', s, hx => by
    intro r r'
    simp only [leSV] at hx
    split at hx
    · obtain ⟨h1, h2⟩ := bif_false hx
      have := Nat.eq_of_beq_eq_true h1
      subst this
      simp only [den, leSVL_den ok l' _ h2 r r']
    · exact hx.elim
theorem leSVL_den (ok : LocOK h h' θ) : ∀ (l' l : List SV), leSVL h θ l' l → ∀ r r', denL (locs h' ++ r') l' = denL (locs h ++ r) l
  | [], l, hx => by
    intro r r'
    rw [leSVL_nil h θ l hx]; rfl
  | s' :: q', l, hx => by
    intro r r'
    simp only [leSVL] at hx
    split at hx
    · simp only [denL, leSV_den ok s' _ hx.1 r r', leSVL_den ok q' _ hx.2 r r']
    · exact hx.elim
end

theorem leSVL_len : ∀ (l' l : List SV), leSVL h θ l' l → l'.length = l.length
  | [], l, hx => by rw [leSVL_nil h θ l hx]
  | s' :: q', l, hx => by
    simp only [leSVL] at hx
    split at hx
    · simp [leSVL_len q' _ hx.2]
    · exact hx.elim

theorem leCol_eq {c' c : Col} {A : Prop} (hx : leCol c' c A) : c' = c ∧ A := by
  unfold leCol at hx
  split at hx
  · obtain ⟨rfl, rfl, h⟩ := kSame_iff hx; exact ⟨rfl, h⟩
  · obtain ⟨rfl, h⟩ := hx; exact ⟨rfl, h⟩
  · obtain ⟨rfl, h⟩ := hx; exact ⟨rfl, h⟩
  · exact hx.elim
theorem leCols_eq : ∀ {c' c : List Col}, leCols c' c → c' = c
  | [], [], _ => rfl
  | [], _ :: _, hx => hx.elim
  | _ :: _, [], hx => hx.elim
  | a :: r, b :: q, hx => by
    obtain ⟨rfl, h⟩ := leCol_eq hx
    rw [leCols_eq h]

theorem leBlk_loc {k' k : SBlk} (hx : leBlk h θ k' k) : k'.base = k.base ∧ k'.wd = k.wd := by
  unfold leBlk at hx
  split at hx
  · obtain ⟨h1, h2⟩ := bif_false hx
    simp only [Bool.and_eq_true] at h1
    exact ⟨rfl, (Nat.eq_of_beq_eq_true h1.1).symm⟩
  · obtain ⟨h1, h2, h3, h4⟩ := bif_false hx
    exact ⟨h2.symm, by rw [leCols_eq h4]; rfl⟩
  · exact ⟨rfl, rfl⟩
  · exact ⟨rfl, rfl⟩
  · exact ⟨rfl, rfl⟩
  · exact hx.elim

theorem leBlk_holds (ok : LocOK h h' θ) {k' k : SBlk} (hx : leBlk h θ k' k) (r r' : List Loc) {o : Obj} (ho : (k.den (locs h ++ r)).holds o) : (k'.den (locs h' ++ r')).holds o := by
  unfold leBlk at hx
  split at hx
  · obtain ⟨h1, h2⟩ := bif_false hx
    simp only [Bool.and_eq_true] at h1
    have := Nat.eq_of_beq_eq_true h1.2
    subst this
    simp only [SBlk.den] at ho ⊢
    rw [leSVL_den ok _ _ h2 r r']
    exact ho
  · obtain ⟨h1, h2, h3, h4⟩ := bif_false hx
    have := Nat.eq_of_beq_eq_true h1
    subst this
    subst h2 h3
    rw [leCols_eq h4]
    exact ho
  · obtain ⟨rfl, rfl, rfl⟩ := hx
    obtain ⟨es, cl, h1, h2, h3, h4⟩ := ho
    exact ⟨es, cl, h1, h2, h3, fun k s hs => by cases hs⟩
  · rw [← hx]; exact ho
  · obtain ⟨h1, rfl, rfl⟩ := hx
    simp only [SBlk.den, Blk.holds] at ho
    subst ho
    exact ⟨_, _, rfl, h1, fun k => rfl, fun k s hs => by cases hs⟩
  · exact hx.elim

theorem leEnt_loc {e' e : Ent} (hx : leEnt h θ e' e) : e'.loc = e.loc := by
  unfold leEnt at hx
  split at hx
  · exact hx.symm
  · split at hx
    · obtain ⟨rfl, h2⟩ := hx
      obtain ⟨h3, h4⟩ := leBlk_loc h2
      simp [Ent.loc, h3, h4]
    · exact hx.elim
  · split at hx
    · obtain ⟨rfl, h2⟩ := hx
      obtain ⟨h3, h4⟩ := leBlk_loc h2
      simp [Ent.loc, h3, h4]
    · exact hx.elim
  · split at hx
    · rfl
    · exact hx.elim

theorem leHeap_at : ∀ {ks : List Nat} {es' : List Ent}, leHeap h θ ks es' → ks.length = es'.length ∧ ∀ (n' k : Nat) (e' : Ent), ks[n']? = some k → es'[n']? = some e' → ∃ e, entAt h k = some e ∧ leEnt h θ e' e
  | [], [], _ => ⟨rfl, fun n' k e' h1 _ => by simp at h1⟩
  | [], _ :: _, hx => hx.elim
  | _ :: _, [], hx => hx.elim
  | k :: ks, e' :: r, hx => by
    obtain ⟨h1, h2⟩ := hx
    obtain ⟨h3, h4⟩ := leHeap_at h2
    refine ⟨by simp [h3], fun n' k' e'' a b => ?_⟩
    cases n' with
    | zero =>
      simp at a b
      subst a b
      split at h1
      · exact h1.elim
      · exact ⟨_, by assumption, h1⟩
    | succ n' => exact h4 n' k' e'' (by simpa using a) (by simpa using b)

theorem thIs_spec : ∀ {θ : List Nat} {n' n : Nat}, thIs θ n' n = true → θ[n']? = some n
  | [], _, _, h => by cases h
  | x :: _, 0, n, h => by have := Nat.eq_of_beq_eq_true h; simp [this]
  | _ :: r, k + 1, n, h => by have := thIs_spec (θ := r) (n' := k) h; simpa using this

theorem leHeap_ok (hx : leHeap h θ θ h') : LocOK h h' θ := by
  intro n' n ht r r'
  have ht := thIs_spec ht
  obtain ⟨h1, h2⟩ := leHeap_at hx
  have hlt := (List.getElem?_eq_some_iff.1 ht).1
  obtain ⟨e, h3, h4⟩ := h2 n' n (h'[n']'(by omega)) ht (by simp [List.getElem?_eq_getElem (show n' < h'.length by omega)])
  rw [entAt_loc h3 r]
  have hl := leEnt_loc h4
  rw [locAt_get, List.getElem?_append_left (by rw [locs_eq]; simp; omega), locs_eq, List.getElem?_map, List.getElem?_eq_getElem (by omega)]
  simpa using hl

theorem memB_spec {k : Nat} : ∀ {l : List Nat}, memB k l = false → k ∉ l
  | [], _ => by simp
  | x :: r, hm => by
    simp only [memB, Bool.or_eq_false_iff] at hm
    intro hk
    rcases List.mem_cons.1 hk with rfl | hk
    · simp at hm
    · exact memB_spec hm.2 hk
theorem nodupB_spec : ∀ {l : List Nat}, nodupB l = true → l.Nodup
  | [], _ => by simp
  | x :: r, hm => by
    simp only [nodupB, Bool.and_eq_true, Bool.not_eq_true'] at hm
    exact List.nodup_cons.2 ⟨memB_spec hm.1, nodupB_spec hm.2⟩

/-- The blocks' numbers at position k. -/
noncomputable def fstsAt (h : List Ent) (k : Nat) : List Nat := match entAt h k with | some e => (e.blocks (locs h)).map Prod.fst | none => []

theorem blocks_fst (e : Ent) (ρ ρ' : List Loc) : (e.blocks ρ).map Prod.fst = (e.blocks ρ').map Prod.fst := by cases e <;> rfl

theorem picks_fst {ρ : List Loc} : ∀ {ks : List Nat} {es' : List Ent}, leHeap h θ ks es' → (owned ρ es').map Prod.fst = (picks ks es').flatMap (fstsAt h)
  | [], [], _ => rfl
  | [], _ :: _, hx => hx.elim
  | _ :: _, [], hx => hx.elim
  | k :: ks, e' :: r, hx => by
    obtain ⟨h1, h2⟩ := hx
    have ih := picks_fst (ρ := ρ) h2
    simp only [owned, List.map_append, ih]
    cases he : entAt h k with
    | none => rw [he] at h1; exact h1.elim
    | some e =>
      rw [he] at h1
      simp only at h1
      unfold leEnt at h1
      cases e' with
      | own b' k' =>
        cases e <;> simp only at h1
        obtain ⟨rfl, _⟩ := h1
        simp [picks, fstsAt, he, Ent.blocks]
      | chunk L' =>
        cases e <;> simp only at h1
        subst h1
        simp [picks, fstsAt, he, Ent.blocks]
      | ro b' k' => simp [picks, Ent.blocks]
      | gone l => simp [picks, Ent.blocks]

theorem owned_fst (ρ : List Loc) : ∀ h : List Ent, (owned ρ h).map Prod.fst = (h.map fun e => (e.blocks ρ).map Prod.fst).flatten
  | [] => rfl
  | e :: r => by simp [owned, owned_fst ρ r]

theorem entAt_eq : ∀ (h : List Ent) (k : Nat), entAt h k = h[k]?
  | [], _ => rfl
  | _ :: _, 0 => rfl
  | _ :: r, n + 1 => by simp [entAt, entAt_eq r n]

theorem nodup_picks {Ff : List Nat} (hn : ((h.map fun e => (e.blocks (locs h)).map Prod.fst).flatten ++ Ff).Nodup) : ∀ {I : List Nat}, I.Nodup → (I.flatMap (fstsAt h) ++ Ff).Nodup := by
  have hmem : ∀ k x, x ∈ fstsAt h k → x ∈ (h.map fun e => (e.blocks (locs h)).map Prod.fst).flatten := by
    intro k x hx
    unfold fstsAt at hx
    split at hx
    · rename_i e he
      exact List.mem_flatten.2 ⟨_, List.mem_map.2 ⟨e, List.mem_of_getElem? (entAt_get he), rfl⟩, hx⟩
    · cases hx
  rw [List.nodup_append] at hn
  obtain ⟨h1, h2, h3⟩ := hn
  intro I hI
  rw [List.nodup_append]
  refine ⟨?_, h2, fun x hx y hy => ?_⟩
  · rw [List.flatMap_def]
    unfold List.Nodup at *
    rw [List.pairwise_flatten] at h1 ⊢
    obtain ⟨h4, h5⟩ := h1
    refine ⟨fun l hl => ?_, ?_⟩
    · obtain ⟨k, _, rfl⟩ := List.mem_map.1 hl
      unfold fstsAt
      split
      · rename_i e he
        exact h4 _ (List.mem_map.2 ⟨e, List.mem_of_getElem? (entAt_get he), rfl⟩)
      · exact List.Pairwise.nil
    · rw [List.pairwise_map]
      refine hI.imp fun {i j} hij x hx y hy => ?_
      unfold fstsAt at hx hy
      cases hi : entAt h i with
      | none => rw [hi] at hx; cases hx
      | some ei =>
        cases hj : entAt h j with
        | none => rw [hj] at hy; cases hy
        | some ej =>
          rw [hi] at hx
          rw [hj] at hy
          simp only at hx hy
          rw [entAt_eq] at hi hj
          rw [List.pairwise_iff_getElem] at h5
          obtain ⟨li, hi⟩ := List.getElem?_eq_some_iff.1 hi
          obtain ⟨lj, hj⟩ := List.getElem?_eq_some_iff.1 hj
          rcases Nat.lt_or_ge i j with hlt | hge
          · have := h5 i j (by simpa using li) (by simpa using lj) hlt
            simp only [List.getElem_map, hi, hj] at this
            exact this x hx y hy
          · have := h5 j i (by simpa using lj) (by simpa using li) (by omega)
            simp only [List.getElem_map, hi, hj] at this
            exact (this y hy x hx).symm
  · obtain ⟨k, _, hk⟩ := List.mem_flatMap.1 hx
    exact h3 x (hmem k x hk) y hy

theorem idB_spec : ∀ {n i : Nat} {θ : List Nat}, idB n i θ = true → ∀ j, j < n → θ[j]? = some (i + j)
  | 0, _, _, _ => by intro j hj; omega
  | n + 1, i, [], hb => by cases hb
  | n + 1, i, x :: r, hb => by
    simp only [idB, Bool.and_eq_true] at hb
    intro j hj
    cases j with
    | zero => simp [Nat.eq_of_beq_eq_true hb.1]
    | succ j => have := idB_spec hb.2 j (by omega); simp [this]; omega

theorem memB_true {k : Nat} : ∀ {l : List Nat}, memB k l = true → k ∈ l
  | [], h => by cases h
  | x :: r, h => by
    simp only [memB, Bool.or_eq_true] at h
    rcases h with h | h
    · simp [Nat.eq_of_beq_eq_true h]
    · exact List.mem_cons_of_mem _ (memB_true h)

theorem leEnv_look {env : List (Nat × SV)} : ∀ {seen : List Nat} {env' : List (Nat × SV)}, leEnv h θ env seen env' → ∀ t, t ∉ seen → look env' t ≠ .top → leSV h θ (look env' t) (look env t)
  | _, [], _, t, _, hn => absurd rfl hn
  | seen, (u, s') :: r, hx, t, ht, hn => by
    unfold leEnv at hx
    cases hm : memB u seen with
    | true =>
      rw [hm] at hx
      have hu := memB_true hm
      have hne : u ≠ t := by rintro rfl; exact ht hu
      rw [look_cons, if_neg hne] at hn ⊢
      exact leEnv_look (by simpa using hx) t ht hn
    | false =>
      rw [hm] at hx
      simp only [cond_false] at hx
      rw [look_cons] at hn ⊢
      split
      · rename_i hu
        subst hu
        rw [if_pos rfl] at hn
        cases s' <;> first | exact absurd rfl hn | exact hx.1
      · rename_i hu
        rw [if_neg hu] at hn
        have hx2 : leEnv h θ env (u :: seen) r := by cases s' <;> first | exact hx.2 | exact hx
        exact leEnv_look hx2 t (by simp [ht, Ne.symm hu]) hn

theorem leSt_sound {D : List Deferred} {F : List (Nat × Blk)} {h0 : List Ent} {w0 : World} {σ σ' : St} {a : Act} {w : World} (m : Mod D F h0 w0 σ a w) (hx : leStTh (lenE h0) θ σ σ') : Mod D F h0 w0 σ' a w := by
  obtain ⟨h1, h2, h3⟩ := bif_false hx
  simp only [Bool.and_eq_true] at h1
  obtain ⟨⟨hn, hid⟩, hnd⟩ := h1
  have hn := Nat.eq_of_beq_eq_true hn
  have ok := leHeap_ok h3
  obtain ⟨hlen, hat⟩ := leHeap_at h3
  refine ⟨by rw [m.size, hn], m.defers, fun t ht r' => ?_, ⟨fun r' => ?_, fun b k' hm => ?_⟩, m.rest, ?_⟩
  · have h4 := leEnv_look h2 t (by simp) ht
    have hnt : look σ.env t ≠ .top := by
      intro h0
      rw [h0] at h4
      revert h4
      cases look σ'.env t with
      | val v => intro h4; simp [leSV, svlt] at h4
      | _ => intro h4; simp [leSV] at h4
    rw [leSV_den ok _ _ h4 [] r']
    exact m.env t hnt []
  · have hown := m.ctx.owns []
    refine ⟨fun p hp => ?_, ?_⟩
    · rcases List.mem_append.1 hp with hp | hp
      · obtain ⟨e', n', hn', hpe⟩ : ∃ (e' : Ent) (n' : Nat), σ'.heap[n']? = some e' ∧ p ∈ e'.blocks (locs σ'.heap ++ r') := by
          have : ∀ (es : List Ent) (ρ : List Loc), p ∈ owned ρ es → ∃ (e' : Ent) (n' : Nat), es[n']? = some e' ∧ p ∈ e'.blocks ρ := by
            intro es ρ
            induction es with
            | nil => intro h; cases h
            | cons x r ih =>
              intro hh
              rcases List.mem_append.1 hh with hh | hh
              · exact ⟨x, 0, rfl, hh⟩
              · obtain ⟨e', n', a, b⟩ := ih hh
                exact ⟨e', n' + 1, by simpa using a, b⟩
          exact this _ _ hp
        have hlt := (List.getElem?_eq_some_iff.1 hn').1
        obtain ⟨e, he, hle⟩ := hat n' (θ[n']'(by omega)) e' (by simp [List.getElem?_eq_getElem (show n' < θ.length by omega)]) hn'
        have hmem := List.mem_of_getElem? (entAt_get he)
        unfold leEnt at hle
        cases e' with
        | gone l => cases hpe
        | ro b' k' => cases hpe
        | own b' k' =>
          cases e <;> simp only at hle
          rename_i b k
          obtain ⟨rfl, hle⟩ := hle
          obtain ⟨o, ho, hk⟩ := hown.get (List.mem_append_left F (owned_mem (ρ := locs σ.heap ++ []) hmem))
          simp only [Ent.blocks, List.mem_singleton] at hpe
          subst hpe
          exact ⟨o, ho, leBlk_holds ok hle [] r' hk⟩
        | chunk L' =>
          cases e <;> simp only at hle
          subst hle
          have : p ∈ owned (locs σ.heap ++ []) σ.heap := by
            have : ∀ (L : List (Nat × Blk)) (es : List Ent) (ρ : List Loc), p ∈ L → Ent.chunk L ∈ es → p ∈ owned ρ es := by
              intro L es ρ hpe
              induction es with
              | nil => intro h; cases h
              | cons x r ih =>
                intro hh
                rcases List.mem_cons.1 hh with rfl | hh
                · exact List.mem_append_left _ hpe
                · exact List.mem_append_right _ (ih hh)
            exact this _ _ _ hpe hmem
          exact hown.1 p (List.mem_append_left F this)
      · exact hown.1 p (List.mem_append_right _ hp)
    · have hnod := hown.2
      rw [List.map_append] at hnod ⊢
      rw [List.append_nil, owned_fst] at hnod
      rw [picks_fst h3]
      exact nodup_picks hnod (nodupB_spec hnd)
  · obtain ⟨n', hn'⟩ := List.getElem?_of_mem hm
    have hlt := (List.getElem?_eq_some_iff.1 hn').1
    obtain ⟨e, he, hle⟩ := hat n' (θ[n']'(by omega)) _ (by simp [List.getElem?_eq_getElem (show n' < θ.length by omega)]) hn'
    unfold leEnt at hle
    cases e <;> simp only at hle
    rename_i b1 k
    obtain ⟨rfl, hle⟩ := hle
    obtain ⟨o, h4, h5⟩ := m.ctx.ro _ _ (List.mem_of_getElem? (entAt_get he))
    exact ⟨o, h4, fun r => leBlk_holds ok hle [] r (h5 [])⟩
  · obtain ⟨q, hq⟩ := m.ext
    have hl0 : (locs h0).length = lenE h0 := by rw [locs_eq, lenE_eq]; simp
    have hge : lenE h0 ≤ θ.length := by
      rcases Nat.lt_or_ge θ.length (lenE h0) with hlt | hge
      · have := idB_spec hid θ.length hlt
        simp at this
      · exact hge
    refine ⟨(locs σ'.heap).drop (lenE h0), ?_⟩
    have : locs h0 = (locs σ'.heap).take (lenE h0) := by
      apply List.ext_getElem?
      intro i
      rw [List.getElem?_take]
      split
      · rename_i hi
        have ht := idB_spec hid i hi
        rw [Nat.zero_add] at ht
        obtain ⟨e, he, hle⟩ := hat i i (σ'.heap[i]'(by omega)) ht (by simp [List.getElem?_eq_getElem (show i < σ'.heap.length by omega)])
        have hloc := leEnt_loc hle
        have e1 : (locs σ.heap)[i]? = some e.loc := by
          rw [locs_eq, List.getElem?_map, ← entAt_eq, he]; rfl
        have e2 : (locs σ'.heap)[i]? = some e.loc := by
          rw [locs_eq, List.getElem?_map, List.getElem?_eq_getElem (by omega)]
          simpa using hloc
        rw [e2, ← e1, hq, List.getElem?_append_left (by omega)]
      · rename_i hi
        exact List.getElem?_eq_none (by omega)
    rw [this, List.take_append_drop]
end
end Go.Sx

/- The same state, seen otherwise: blocks of a chunk get positions of their own, and back. -/
set_option linter.unusedVariables false
set_option linter.unusedSimpArgs false
namespace Go.Sx
open Classical

abbrev Blks := List (Nat × Blk)

/-! What a heap owns does not hang on places that it does not have. -/
theorem blocks_indep {h : List Ent} {w : World} {F : Blks} (c : Ctx F h w) {e : Ent} (he : e ∈ h) (r : List Loc) : e.blocks (locs h ++ r) = e.blocks (locs h) := by
  cases e with
  | own b k =>
    have h1 := (c.owns r).get (List.mem_append_left F (owned_mem (ρ := locs h ++ r) he))
    have h2 := (c.owns []).get (List.mem_append_left F (owned_mem (ρ := locs h ++ []) he))
    obtain ⟨o, ho, hk⟩ := h1
    obtain ⟨o', ho', hk'⟩ := h2
    rw [ho] at ho'
    cases ho'
    rw [List.append_nil] at hk'
    simp only [Ent.blocks, List.cons.injEq, Prod.mk.injEq, true_and, and_true]
    cases k with
    | cells wd l t =>
      simp only [SBlk.den, Blk.holds] at hk hk' ⊢
      rw [hk] at hk'
      simp only [Obj.cells.injEq] at hk'
      rw [List.toArray_inj hk'.1]
    | _ => rfl
  | _ => rfl

theorem owned_indep {h : List Ent} {w : World} {F : Blks} (c : Ctx F h w) (r : List Loc) : ∀ es : List Ent, (∀ e ∈ es, e ∈ h ∨ ∃ l, e = .gone l) → owned (locs h ++ r) es = owned (locs h) es
  | [], _ => rfl
  | e :: es, hm => by
    rw [owned, owned, owned_indep c r es fun x hx => hm x (by simp [hx])]
    congr 1
    rcases hm e (by simp) with he | ⟨l, rfl⟩
    · exact blocks_indep c he r
    · rfl

theorem owned_out {ρ : List Loc} : ∀ {h : List Ent} {n : Nat} {e : Ent} (e' : Ent), entAt h n = some e → (owned ρ (h.set n e')).Perm (e'.blocks ρ ++ owned ρ (h.set n (.gone e.loc)))
  | [], _, _, _, he => by cases he
  | x :: r, 0, e, e', he => by
    cases he
    simp only [List.set, owned, Ent.blocks, List.nil_append]
    exact List.Perm.refl _
  | x :: r, n + 1, e, e', he => by
    have ih := owned_out (ρ := ρ) (h := r) (n := n) e' he
    simp only [List.set, owned]
    refine (ih.append_left _).trans ?_
    rw [← List.append_assoc, ← List.append_assoc]
    exact List.perm_append_comm.append_right _

theorem set_self {h : List Ent} {n : Nat} {e : Ent} (he : entAt h n = some e) : h.set n e = h := by
  have := entAt_get he
  obtain ⟨hlt, hg⟩ := List.getElem?_eq_some_iff.1 this
  rw [← hg, List.set_getElem_self]

def putAt (h : List Ent) : List (Nat × Ent) → List Ent
  | [] => h
  | (n, e) :: r => putAt (h.set n e) r

/-- These positions are given away. -/
def goneAt (h : List Ent) : List Nat → List Ent
  | [] => h
  | n :: r => goneAt (match entAt h n with | some e => h.set n (.gone e.loc) | none => h) r

noncomputable def blksOf (ρ : List Loc) : List (Nat × Ent) → Blks
  | [] => []
  | (_, e) :: r => e.blocks ρ ++ blksOf ρ r

theorem entAt_set_ne {h : List Ent} {n m : Nat} (e : Ent) (hne : n ≠ m) : entAt (h.set n e) m = entAt h m := by
  rw [entAt_eq, entAt_eq, List.getElem?_set_ne hne]

theorem owned_put (ρ : List Loc) : ∀ (J : List (Nat × Ent)) (h : List Ent), (J.map Prod.fst).Nodup → (∀ p ∈ J, ∃ e, entAt h p.1 = some e ∧ e.loc = p.2.loc) →
    (owned ρ (putAt h J)).Perm (blksOf ρ J ++ owned ρ (goneAt h (J.map Prod.fst)))
  | [], h, _, _ => List.Perm.refl _
  | (n, e') :: r, h, hn, hp => by
    simp only [List.map_cons, List.nodup_cons] at hn
    obtain ⟨e, he, hl⟩ := hp (n, e') (by simp)
    have hr : ∀ e'' : Ent, e''.loc = e.loc → ∀ p ∈ r, ∃ x, entAt (h.set n e'') p.1 = some x ∧ x.loc = p.2.loc := fun e'' _ p hm => by
      obtain ⟨x, h1, h2⟩ := hp p (by simp [hm])
      exact ⟨x, by rw [entAt_set_ne _ (fun hh => hn.1 (by rw [hh]; exact List.mem_map_of_mem hm))]; exact h1, h2⟩
    have h1 := owned_put ρ r (h.set n e') hn.2 (hr e' hl.symm)
    have key : ∀ (I : List Nat) (h : List Ent), n ∉ I → entAt h n = some e → (owned ρ (goneAt (h.set n e') I)).Perm (e'.blocks ρ ++ owned ρ (goneAt (h.set n (.gone e.loc)) I)) := by
      intro I
      induction I with
      | nil => intro h _ he; exact owned_out e' he
      | cons i I ih =>
        intro h hi he
        simp only [List.mem_cons, not_or] at hi
        simp only [goneAt]
        rw [entAt_set_ne _ hi.1, entAt_set_ne _ hi.1]
        cases hx : entAt h i with
        | none => exact ih h hi.2 he
        | some x =>
          simp only
          rw [List.set_comm _ _ hi.1, List.set_comm _ _ hi.1]
          exact ih (h.set i (.gone x.loc)) hi.2 (by rw [entAt_set_ne _ (Ne.symm hi.1)]; exact he)
    have h2 := key (r.map Prod.fst) h hn.1 he
    simp only [putAt, blksOf, List.map_cons, goneAt, he]
    refine h1.trans ((h2.append_left _).trans ?_)
    rw [← List.append_assoc]
    refine (List.perm_append_comm.append_right _).trans ?_
    rw [List.append_assoc]

theorem put_self : ∀ (J : List (Nat × Ent)) (h : List Ent), (∀ p ∈ J, entAt h p.1 = some p.2) → putAt h J = h
  | [], _, _ => rfl
  | (n, e) :: r, h, hp => by
    have he := hp (n, e) (by simp)
    simp only [putAt]
    rw [set_self he]
    exact put_self r h fun p hm => hp p (by simp [hm])

theorem locs_put : ∀ (J : List (Nat × Ent)) (h : List Ent), (∀ p ∈ J, ∃ e, entAt h p.1 = some e ∧ e.loc = p.2.loc) → (J.map Prod.fst).Nodup → locs (putAt h J) = locs h
  | [], _, _, _ => rfl
  | (n, e') :: r, h, hp, hn => by
    simp only [List.map_cons, List.nodup_cons] at hn
    obtain ⟨e, he, hl⟩ := hp (n, e') (by simp)
    simp only [putAt]
    rw [locs_put r (h.set n e') (fun p hm => by
      obtain ⟨x, h1, h2⟩ := hp p (by simp [hm])
      exact ⟨x, by rw [entAt_set_ne _ (fun hh => hn.1 (by rw [hh]; exact List.mem_map_of_mem hm))]; exact h1, h2⟩) hn.2]
    exact locs_set he hl.symm

theorem mem_put : ∀ (J : List (Nat × Ent)) (h : List Ent) (x : Ent), x ∈ putAt h J → x ∈ h ∨ ∃ p ∈ J, x = p.2
  | [], _, x, hx => .inl hx
  | (n, e) :: r, h, x, hx => by
    rcases mem_put r _ x hx with h1 | ⟨p, h1, h2⟩
    · rcases List.mem_or_eq_of_mem_set h1 with h1 | h1
      · exact .inl h1
      · exact .inr ⟨(n, e), by simp, h1⟩
    · exact .inr ⟨p, by simp [h1], h2⟩

theorem mem_gone : ∀ (I : List Nat) (h : List Ent) (x : Ent), x ∈ goneAt h I → x ∈ h ∨ ∃ l, x = .gone l
  | [], _, x, hx => .inl hx
  | n :: r, h, x, hx => by
    rcases mem_gone r _ x hx with h1 | h1
    · split at h1
      · rcases List.mem_or_eq_of_mem_set h1 with h1 | h1
        · exact .inl h1
        · exact .inr ⟨_, h1⟩
      · exact .inl h1
    · exact .inr h1

def Ann.app' : List Ent → List Ent → List Ent
  | [], l => l
  | e :: r, l => e :: Ann.app' r l
def appE : List (Nat × SV) → List (Nat × SV) → List (Nat × SV)
  | [], l => l
  | e :: r, l => e :: appE r l
/-- These entries, as they stand now. -/
def oldAt (h : List Ent) : List (Nat × Ent) → List (Nat × Ent)
  | [] => []
  | (n, _) :: r => (match entAt h n with | some e => [(n, e)] | none => []) ++ oldAt h r
def isRo : Ent → Bool
  | .ro _ _ => true
  | _ => false
def chgOk (h : List Ent) : List (Nat × Ent) → Prop → Prop
  | [], A => A
  | (n, e') :: r, A => (match entAt h n with | none => False | some e => bif isRo e || isRo e' then False else e.loc = e'.loc ∧ chgOk h r A)
def roFree : List Ent → Bool
  | [] => true
  | e :: r => !isRo e && roFree r
def fstsJ : List (Nat × Ent) → List Nat
  | [] => []
  | (n, _) :: r => n :: fstsJ r
noncomputable def envOk (h h' : List Ent) (env : List (Nat × SV)) : List (Nat × SV) → Prop → Prop
  | [], A => A
  | (t, s') :: r, A => nt (look env t) fun s => (∀ q, den (locs h' ++ q) s' = den (locs h) s) ∧ envOk h h' env r A
noncomputable def viewAs (σ : St) (J : List (Nat × Ent)) (es : List Ent) (en : List (Nat × SV)) (K : St → Prop) : Prop :=
  bif nodupB (fstsJ J) && roFree es then chgOk σ.heap J ((∃ G, ∀ r, (blksOf (locs σ.heap) (oldAt σ.heap J)).Perm (blksOf (locs σ.heap ++ (locs es ++ r)) J ++ owned (locs σ.heap ++ (locs es ++ r)) es ++ G)) ∧
    envOk σ.heap (Ann.app' (putAt σ.heap J) es) σ.env en (K ⟨σ.n, appE en σ.env, Ann.app' (putAt σ.heap J) es⟩)) else False
noncomputable def orV (σ : St) (K : St → Prop) : List View → Prop
  | [] => False
  | [v] => ∃ x : v.X, viewAs σ (v.chg x σ.heap) (v.add x) (v.env x) K
  | v :: r => (∃ x : v.X, viewAs σ (v.chg x σ.heap) (v.add x) (v.env x) K) ∨ orV σ K r
noncomputable def xview (ca : List (Nat × Cast)) (id : Nat) (σ : St) (K : St → Prop) : Prop :=
  match findC ca (1000000 + id) with
  | some (.view l) => orV σ K l
  | _ => K σ

theorem fstsJ_eq : ∀ J : List (Nat × Ent), fstsJ J = J.map Prod.fst
  | [] => rfl
  | (n, e) :: r => by simp [fstsJ, fstsJ_eq r]
theorem roFree_spec : ∀ {es : List Ent}, roFree es = true → ∀ b k, Ent.ro b k ∉ es
  | [], _, b, k, hm => by simp at hm
  | e :: r, h, b, k, hm => by
    simp only [roFree, Bool.and_eq_true] at h
    rcases List.mem_cons.1 hm with rfl | hm
    · simp [isRo] at h
    · exact roFree_spec h.2 b k hm
theorem chgOk_spec {h : List Ent} {A : Prop} : ∀ {J : List (Nat × Ent)}, chgOk h J A → A ∧ (∀ p ∈ J, ∃ e, entAt h p.1 = some e ∧ e.loc = p.2.loc ∧ isRo e = false) ∧ (∀ p ∈ J, isRo p.2 = false) ∧ (oldAt h J).map Prod.fst = J.map Prod.fst ∧ ∀ p ∈ oldAt h J, entAt h p.1 = some p.2
  | [], hx => ⟨hx, by simp, by simp, rfl, by simp [oldAt]⟩
  | (n, e') :: r, hx => by
    unfold chgOk at hx
    split at hx
    · exact hx.elim
    · rename_i e he
      cases hb : (isRo e || isRo e') with
      | true => rw [hb] at hx; exact hx.elim
      | false =>
        rw [hb] at hx
        obtain ⟨h1, h2⟩ := hx
        obtain ⟨k1, k2, k3, k4, k5⟩ := chgOk_spec h2
        simp only [Bool.or_eq_false_iff] at hb
        refine ⟨k1, fun p hp => ?_, fun p hp => ?_, ?_, fun p hp => ?_⟩
        · rcases List.mem_cons.1 hp with rfl | hp
          · exact ⟨e, he, h1, hb.1⟩
          · exact k2 p hp
        · rcases List.mem_cons.1 hp with rfl | hp
          · exact hb.2
          · exact k3 p hp
        · simp [oldAt, he, k4]
        · simp only [oldAt, he, List.cons_append, List.nil_append] at hp
          rcases List.mem_cons.1 hp with rfl | hp
          · exact he
          · exact k5 p hp

theorem app'_eq : ∀ a b : List Ent, Ann.app' a b = a ++ b
  | [], _ => rfl
  | e :: r, b => by simp [Ann.app', app'_eq r b]
theorem look_app {t : Nat} {env : List (Nat × SV)} : ∀ {en : List (Nat × SV)}, look (appE en env) t = look env t ∨ ∃ s, (t, s) ∈ en ∧ look (appE en env) t = s
  | [] => .inl rfl
  | (u, s) :: r => by
    show look ((u, s) :: appE r env) t = _ ∨ _
    rw [look_cons]
    split
    · rename_i hu
      subst hu
      exact .inr ⟨s, by simp, by rw [appE, look_cons, if_pos rfl]⟩
    · rename_i hu
      rcases look_app (t := t) (env := env) (en := r) with h | ⟨s', h1, h2⟩
      · exact .inl h
      · exact .inr ⟨s', by simp [h1], by rw [appE, look_cons, if_neg hu]; exact h2⟩
theorem envOk_spec {h h' : List Ent} {env : List (Nat × SV)} {A : Prop} : ∀ {en : List (Nat × SV)}, envOk h h' env en A → A ∧ ∀ t s', (t, s') ∈ en → look env t ≠ .top ∧ ∀ q, den (locs h' ++ q) s' = den (locs h) (look env t)
  | [], hx => ⟨hx, by simp⟩
  | (u, s) :: r, hx => by
    obtain ⟨h1, h2, h3⟩ := nt_spec hx
    obtain ⟨k1, k2⟩ := envOk_spec h3
    refine ⟨k1, fun t s' hm => ?_⟩
    rcases List.mem_cons.1 hm with hm | hm
    · cases hm; exact ⟨h1, h2⟩
    · exact k2 t s' hm

theorem Ctx.view {F : Blks} {h : List Ent} {w : World} (c : Ctx F h w) {J : List (Nat × Ent)} {es : List Ent} {G : Blks} {A : Prop} (hx : chgOk h J A) (hn : (J.map Prod.fst).Nodup) (hro : ∀ b k, Ent.ro b k ∉ es)
    (hp : ∀ r, (blksOf (locs h) (oldAt h J)).Perm (blksOf (locs h ++ (locs es ++ r)) J ++ owned (locs h ++ (locs es ++ r)) es ++ G)) : Ctx F (putAt h J ++ es) w ∧ locs (putAt h J ++ es) = locs h ++ locs es := by
  obtain ⟨-, k2, k3, k4, k5⟩ := chgOk_spec hx
  have k2' : ∀ p ∈ J, ∃ e, entAt h p.1 = some e ∧ e.loc = p.2.loc := fun p hm => by
    obtain ⟨e, h1, h2, -⟩ := k2 p hm
    exact ⟨e, h1, h2⟩
  have hlocs : locs (putAt h J ++ es) = locs h ++ locs es := by
    have := locs_put J h k2' hn
    rw [locs_eq] at this ⊢
    rw [List.map_append, this, locs_eq es]
  have hno : ((oldAt h J).map Prod.fst).Nodup := by rw [k4]; exact hn
  have h0 := c.owns []
  rw [List.append_nil] at h0
  let O := owned (locs h) (goneAt h (J.map Prod.fst))
  have hsplit : (owned (locs h) h).Perm (blksOf (locs h) (oldAt h J) ++ O) := by
    have := owned_put (locs h) (oldAt h J) h hno fun p hm => ⟨p.2, k5 p hm, rfl⟩
    rw [put_self (oldAt h J) h k5, k4] at this
    exact this
  have h1 : Owns w (blksOf (locs h) (oldAt h J) ++ (O ++ F)) := h0.perm (by rw [← List.append_assoc]; exact hsplit.append_right F)
  refine ⟨⟨fun r => ?_, fun b k hm => ?_⟩, hlocs⟩
  · rw [hlocs, owned_append, List.append_assoc (locs h)]
    have hg : owned (locs h ++ (locs es ++ r)) (goneAt h (J.map Prod.fst)) = O := owned_indep c _ _ fun x hx => mem_gone _ _ _ hx
    have p1 := owned_put (locs h ++ (locs es ++ r)) J h hn k2'
    rw [hg] at p1
    have p5 : (blksOf (locs h) (oldAt h J) ++ (O ++ F)).Perm ((owned (locs h ++ (locs es ++ r)) (putAt h J) ++ owned (locs h ++ (locs es ++ r)) es ++ F) ++ G) := by
      refine ((hp r).append_right _).trans ?_
      have q2 := ((p1.append_right (owned (locs h ++ (locs es ++ r)) es)).append_right F).append_right G
      refine List.Perm.trans ?_ q2.symm
      simp only [List.append_assoc]
      refine List.Perm.append_left _ ?_
      have q3 : (owned (locs h ++ (locs es ++ r)) es ++ (G ++ (O ++ F))).Perm ((O ++ F) ++ (owned (locs h ++ (locs es ++ r)) es ++ G)) := by
        rw [← List.append_assoc]
        exact List.perm_append_comm
      refine q3.trans ?_
      rw [List.append_assoc]
      refine List.Perm.append_left _ ?_
      have q4 : (F ++ (owned (locs h ++ (locs es ++ r)) es ++ G)).Perm (owned (locs h ++ (locs es ++ r)) es ++ (F ++ G)) := by
        have := (List.perm_append_comm (l₁ := F) (l₂ := owned (locs h ++ (locs es ++ r)) es)).append_right G
        simp only [List.append_assoc] at this ⊢
        exact this
      exact q4
    exact (h1.perm p5).sub (List.sublist_append_left _ _)
  · have hold : Ent.ro b k ∈ h := by
      rcases List.mem_append.1 hm with hm | hm
      · rcases mem_put _ _ _ hm with hm | ⟨p, hm, h2⟩
        · exact hm
        · have := k3 p hm
          rw [← h2] at this
          cases this
      · exact absurd hm (hro b k)
    obtain ⟨o, h2, h3⟩ := c.ro b k hold
    exact ⟨o, h2, fun r => by rw [hlocs, List.append_assoc]; exact h3 _⟩

section
variable {D : List Deferred} {F : Blks} {h0 : List Ent} {w0 : World} {σ : St} {a : Act} {w : World}
theorem viewAs_sound (m : Mod D F h0 w0 σ a w) {J : List (Nat × Ent)} {es : List Ent} {en : List (Nat × SV)} {K : St → Prop} (hx : viewAs σ J es en K) : ∃ σ', K σ' ∧ Mod D F h0 w0 σ' a w := by
  obtain ⟨h1, h2⟩ := bif_false hx
  simp only [Bool.and_eq_true] at h1
  obtain ⟨hnd, hro⟩ := h1
  obtain ⟨⟨⟨G, hp⟩, he⟩, -⟩ := chgOk_spec h2
  have hnd : (J.map Prod.fst).Nodup := by rw [← fstsJ_eq]; exact nodupB_spec hnd
  obtain ⟨c, hl⟩ := m.ctx.view h2 hnd (roFree_spec hro) hp
  obtain ⟨hk, hen⟩ := envOk_spec he
  rw [app'_eq] at hk hen
  have hext : Ext σ.heap (putAt σ.heap J ++ es) := ⟨locs es, hl⟩
  refine ⟨_, hk, m.size, m.defers, fun t ht r => ?_, c, m.rest, m.ext.trans hext⟩
  rcases look_app (t := t) (env := σ.env) (en := en) with h3 | ⟨s, h3, h4⟩
  · simp only [h3] at ht ⊢
    exact (m.env t ht).ext hext r
  · simp only [h4]
    obtain ⟨h5, h6⟩ := hen t s h3
    rw [h6 r]
    have := m.env t h5 []
    rwa [List.append_nil] at this
theorem orV_sound (m : Mod D F h0 w0 σ a w) {K : St → Prop} : ∀ {l : List View}, orV σ K l → ∃ σ', K σ' ∧ Mod D F h0 w0 σ' a w
  | [], hx => hx.elim
  | [v], hx => by
    obtain ⟨x, hx⟩ := hx
    exact viewAs_sound m hx
  | v :: u :: r, hx => by
    rcases hx with ⟨x, hx⟩ | hx
    · exact viewAs_sound m hx
    · exact orV_sound m hx
theorem xview_sound (m : Mod D F h0 w0 σ a w) {ca : List (Nat × Cast)} {id : Nat} {K : St → Prop} (hx : xview ca id σ K) : ∃ σ', K σ' ∧ Mod D F h0 w0 σ' a w := by
  unfold xview at hx
  split at hx
  · exact orV_sound m hx
  · exact ⟨σ, hx, m⟩
end
end Go.Sx
