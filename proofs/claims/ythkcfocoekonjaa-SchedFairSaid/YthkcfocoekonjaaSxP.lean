/- The loud operations, sixth part: append, symbolically. -/
import Derived.Test.YthkcfocoekonjaaSxO
set_option linter.unusedVariables false
set_option linter.unusedSimpArgs false
namespace Go.Sx
open Classical

def SBlk.isCells : SBlk → Bool
  | .cells _ _ _ => true
  | _ => false
def SBlk.ty : SBlk → TypeId
  | .cells _ _ t => t
  | .tab t _ _ _ => t
  | _ => 0
noncomputable def xsrc (h : List Ent) (x : SV) (K : Bool → Nat → List Col → Prop) : Prop :=
  match x with
  | .slc m o len _ => (match entAt h m with
    | none => False
    | some e => match e.blk with
      | none => False
      | some (_, k) => srcCols (locs h) k o len (K k.isCells len))
  | .val (.string s) => K false s.size [.ints .u8 (s.data.toList.map fun b => (b.toNat : Int))]
  | _ => False

def lenC : List Col → Nat
  | [] => 0
  | _ :: r => lenC r + 1
def zKinds : List Value → List Col → Bool
  | [], [] => true
  | .int k _ :: vs, .ints k' _ :: cs => kEqB k' k && zKinds vs cs
  | .bool _ :: vs, .bools _ :: cs => zKinds vs cs
  | v :: vs, .raws _ :: cs => v.oneCell' && zKinds vs cs
  | _, _ => false

def capOk (k : SBlk) (o len cap : Nat) (A : Prop) : Prop :=
  match k with
  | .tab _ _ N _ => (len ≤ cap ∧ o + cap ≤ N) ∧ A
  | .cells _ _ _ => bif Nat.beq len cap then A else False
  | _ => False

noncomputable def xgrow (h : List Ent) (e : TypeId) (bytes n : Nat) (cs : List Col) (K : SV → List Ent → Prop) : Prop :=
  n * bytes ≤ 140737488355328 ∧ ∀ b cap', n ≤ cap' → spareK (cap' - n) cs fun cs' => appK h (.own b (.tab e 0 cap' cs')) fun h' => K (.slc (lenE h) 0 n cap') h'

noncomputable def xapp (h : List Ent) (e : TypeId) (bytes : Nat) (z : List Value) (s : SV) (lit : Bool) (n : Nat) (cs : List Col) (K : SV → List Ent → Prop) : Prop :=
  match s with
  | .slc m o len cap => (match entAt h m with
    | some (.own b0 k) => bif Nat.beq k.ty e then capOk k o len cap (srcCols (locs h) k o len fun oc => catCols oc cs fun ec => bif zKinds z ec then
        (len + n) * bytes ≤ 140737488355328 ∧ ∀ b base cap', len + n ≤ cap' → (len + n ≤ cap → cap' = cap) → spareK (cap' - (len + n)) ec fun ec' => setK h m (.gone (b0, k.base, k.wd)) fun h1 => appK h1 (.own b (.tab e base cap' ec')) fun h2 => K (.slc (lenE h) 0 (len + n) cap') h2
        else False) else False
    | _ => False)
  | .val (.slice none 0 0) => bif zKinds z cs then (bif lit then (match n with | 0 => K (.val (.slice none 0 0)) h | n + 1 => xgrow h e bytes (n + 1) cs K) else (n = 0 → K (.val (.slice none 0 0)) h) ∧ (0 < n → xgrow h e bytes n cs K)) else False
  | _ => False

def notInt (P : Program) : List TypeId → Bool
  | [] => true
  | t :: _ => match P.underlying t with
    | none => false
    | some (.int _) => false
    | some _ => true

/-- Nothing is appended. -/
noncomputable def xapp00 (h : List Ent) (s : SV) (K : SV → List Ent → Prop) : Prop :=
  match s with
  | .slc m o len cap => len ≤ cap ∧ K (.slc m o len cap) h
  | .val (.slice none 0 0) => K (.val (.slice none 0 0)) h
  | .val (.slice (some a) len cap) => (match a.spot with | none => len ≤ cap ∧ K (.val (.slice (some a) len cap)) h | some _ => False)
  | _ => False

noncomputable def xappend (P : Program) (h : List Ent) (ts : List TypeId) (s x : SV) (K : SV → List Ent → Prop) : Prop :=
  match ts with
  | [] => False
  | t :: tr => bif notInt P tr then (match P.underlying t with
    | some (.slice e) => (match P.info? e with
      | none => False
      | some inf => match inf.zero with
        | none => False
        | some z => bif Nat.ble inf.bytes 1048576 && (Nat.ble 1 inf.bytes && (Nat.beq (lenV z.cells.toList) inf.size && (Nat.ble 1 inf.size && allOne z.cells.toList))) then
            (match x with
              | .val (.slice none 0 0) => xapp00 h s K
              | x => xsrc h x fun lit n cs => bif Nat.beq (lenC cs) inf.size then xapp h e inf.bytes z.cells.toList s lit n cs K else False)
          else False)
    | _ => False) else False

section
variable {P : Program} {F : List (Nat × Blk)} {h : List Ent} {w : World} {K : SV → List Ent → Prop}

theorem lenC_eq : ∀ l : List Col, lenC l = l.length
  | [] => rfl
  | _ :: r => by simp [lenC, lenC_eq r]

theorem Ctx.drew (c : Ctx F h w) (d : Nat) : Ctx F h { w with drawn := d } := ⟨c.owns, c.ro⟩

theorem xsrc_spec (c : Ctx F h w) {x : SV} {v : Value} {K : Bool → Nat → List Col → Prop} (hv : x ≠ .top → Std h x v) (hx : xsrc h x K) :
    ∃ lit n cs f, K lit n cs ∧ ColsAre cs n f ∧ (Builtin.lenOf v).run P w = .ok n w ∧ ∀ wd, 0 < wd → cs.length = wd → ∀ d, (Builtin.firstCells wd n v).run P { w with drawn := d } = .ok (flatV f wd n).toArray { w with drawn := d } := by
  unfold xsrc at hx
  split at hx
  · rename_i m o len cap
    split at hx
    · exact hx.elim
    · rename_i e he
      split at hx
      · exact hx.elim
      · rename_i b k hb
        obtain ⟨⟨ob, hob, hk⟩, hloc⟩ := c.blk he hb
        obtain ⟨cs, f, h1, h2, h3, h4⟩ := srcCols_spec hk hx
        have hv' : v = .slice (some ⟨b, (k.base + o) * k.wd, none⟩) len cap := by
          have := hv (by simp) []
          simp only [den, hloc []] at this
          exact this.symm
        subst hv'
        refine ⟨_, len, cs, f, h1, h3, rfl, fun wd hw hcs d => ?_⟩
        have hwd : k.wd = wd := by rw [← h2, hcs]
        subst hwd
        refine run_firstCells_slice (o := ob) hob (fun i j hi hj => ?_) hw
        rw [← h4 i j hi hj, Nat.add_mul (k.base + o)]
  · rename_i s
    have hv' : v = .string s := (hv (by simp) []).symm
    subst hv'
    refine ⟨_, _, _, fun i _ => .int .u8 ((s.data.toList.map fun b => (b.toNat : Int)).getD i 0), hx, ⟨?_, ?_, ?_⟩, rfl, ?_⟩
    · intro c hc
      simp at hc
      subst hc
      simp [Col.len]
    · intro i j c hi hj
      cases j with
      | zero => simp at hj; subst hj; rfl
      | succ j => simp at hj
    · intro i j _ _; rfl
    · intro wd hw hcs d
      simp at hcs
      subst hcs
      simp only [Builtin.firstCells, Sem.run_pure]
      congr 1
      rw [ByteArray.extract_zero_size]
      apply Array.ext_getElem?
      intro y
      have hsz : s.size = s.data.size := rfl
      simp only [List.getElem?_toArray, Array.getElem?_map]
      by_cases hy : y < s.size
      · have := flatV_get (fun i _ => Value.int .u8 ((s.data.toList.map fun b => (b.toNat : Int)).getD i 0)) 1 (n := s.size) (i := y) (j := 0) hy (by omega)
        simp only [Nat.mul_one, Nat.add_zero] at this
        rw [this]
        have hy' : y < s.data.size := hy
        have e1 : s.data[y]? = some s.data[y] := Array.getElem?_eq_getElem hy'
        simp [List.getD, e1]
      · rw [List.getElem?_eq_none (by rw [flatV_len]; omega), Array.getElem?_eq_none (by omega)]
        rfl
  · exact hx.elim

theorem zKinds_spec : ∀ {z : List Value} {cs : List Col}, zKinds z cs = true → z.length = cs.length ∧ ∀ (j : Nat) (c : Col), cs[j]? = some c → ∃ v, z[j]? = some v ∧ fitsC c v
  | [], [], _ => ⟨rfl, by simp⟩
  | [], _ :: _, h => by simp [zKinds] at h
  | v :: vs, [], h => by cases v <;> simp [zKinds] at h
  | v :: vs, c :: cs, h => by
    have key : zKinds vs cs = true → fitsC c v →
        (v :: vs).length = (c :: cs).length ∧ ∀ (j : Nat) (d : Col), (c :: cs)[j]? = some d → ∃ u, (v :: vs)[j]? = some u ∧ fitsC d u := by
      intro h1 h2
      obtain ⟨h3, h4⟩ := zKinds_spec h1
      refine ⟨by simp [h3], fun j d hj => ?_⟩
      cases j with
      | zero => simp at hj; subst hj; exact ⟨v, rfl, h2⟩
      | succ j => simpa using h4 j d (by simpa using hj)
    cases c with
    | ints k xs =>
      cases v <;> simp [zKinds] at h
      have := kEqB_eq h.1
      subst this
      exact key h.2 ⟨_, rfl⟩
    | bools xs =>
      cases v <;> simp [zKinds] at h
      exact key h ⟨_, rfl⟩
    | raws xs =>
      have : zKinds vs cs = true := by
        cases v <;> simp [zKinds] at h <;> first | exact h.2 | exact h
      exact key this trivial

theorem notInt_spec {tr : List TypeId} {t1 : TypeId} (hn : notInt P tr = true) (h1 : tr[0]? = some t1) : ∃ d, P.underlying t1 = some d ∧ ∀ k, d ≠ .int k := by
  cases tr with
  | nil => cases h1
  | cons t r =>
    simp at h1
    subst h1
    simp only [notInt] at hn
    split at hn
    · cases hn
    · cases hn
    · rename_i d hd hu
      exact ⟨d, hu, fun k hk => hd k hk⟩

/-- The block that a growing append makes. -/
theorem grown_holds {e : TypeId} {wd n cap' : Nat} {cs cs' : List Col} {f g : Nat → Nat → Value} {z : Array Value} (hw : 0 < wd) (hz : z.size = wd) (hcs' : cs'.length = wd) (hle : n ≤ cap')
    (hc : ColsAre cs' (n + (cap' - n)) (fun i j => if i < n then f i j else g (i - n) j)) (hg : ∀ i j, j < wd → g i j = z[j]!) (ρ : List Loc) :
    ((SBlk.tab e 0 cap' cs').den ρ).holds (.cells ((flatV f wd n).toArray ++ Builtin.zeroCells z (cap' - n)) e (0, 0)) := by
  rw [show n + (cap' - n) = cap' by omega] at hc
  refine ⟨_, 0, 0, rfl, fun c hm => ⟨hc.len c hm, fun i hi => ?_⟩, fun i j c hi hj => ?_, fun x _ hx => by omega⟩
  · obtain ⟨j, hj⟩ := List.getElem?_of_mem hm
    rw [hc.get i j c hi hj]
    exact hc.one i j hi (List.getElem?_eq_some_iff.1 hj).1
  · have hjl : j < wd := by rw [← hcs']; exact (List.getElem?_eq_some_iff.1 hj).1
    rw [hc.get i j c hi hj, hcs', Nat.zero_add]
    by_cases hin : i < n
    · simp only [hin, if_true]
      rw [Array.getElem?_append_left (by simp [flatV_len]; exact (form_lt hjl).2 hin)]
      simpa using flatV_get f wd hin hjl
    · simp only [hin, if_false]
      have hsz : (flatV f wd n).toArray.size = n * wd := by simp [flatV_len]
      rw [Array.getElem?_append_right (by rw [hsz]; have := (form_lt (n := n) (i := i) hjl).1; omega), hsz]
      have hd : i * wd + j - n * wd = (i - n) * wd + j := by
        obtain ⟨d, rfl⟩ : ∃ d, i = n + d := ⟨i - n, by omega⟩
        rw [Nat.add_mul, show n + d - n = d by omega]; omega
      rw [hd]
      have hlt : (i - n) * wd + j < (cap' - n) * z.size := by rw [hz]; exact (form_lt hjl).2 (by omega)
      simp only [Builtin.zeroCells, Array.getElem?_map, Array.getElem?_range, hlt, if_true, Option.map_some]
      rw [hg _ j hjl, hz, Nat.mul_comm, Nat.mul_add_mod, Nat.mod_eq_of_lt hjl]


theorem swap_locs {n b b' : Nat} {k k' : SBlk} (he : entAt h n = some (.own b k)) (r : List Loc) :
    locs (h.set n (.gone (b, k.base, k.wd)) ++ [.own b' k']) ++ r = locs h ++ ((b', k'.base, k'.wd) :: r) := by
  have : locs (h.set n (.gone (b, k.base, k.wd))) = locs h := locs_set he rfl
  rw [locs_eq] at this
  simp [locs_eq, Ent.loc, this]
theorem swap_ro (c : Ctx F h w) {n b b' : Nat} {k k' : SBlk} (he : entAt h n = some (.own b k)) (b2 : Nat) (k2 : SBlk) (hm : Ent.ro b2 k2 ∈ h.set n (.gone (b, k.base, k.wd)) ++ [.own b' k']) :
    ∃ o, (b2, Blk.obj o) ∈ F ∧ ∀ r, (k2.den (locs (h.set n (.gone (b, k.base, k.wd)) ++ [.own b' k']) ++ r)).holds o := by
  rcases List.mem_append.1 hm with hm | hm
  · have : Ent.ro b2 k2 ∈ h := by
      rcases List.mem_or_eq_of_mem_set hm with hm | hm
      · exact hm
      · cases hm
    obtain ⟨o', h1, h2⟩ := c.ro b2 k2 this
    exact ⟨o', h1, fun r => by rw [swap_locs he]; exact h2 _⟩
  · simp at hm

/-- One position goes, its block stands at a new one. -/
theorem Ctx.swapIn (c : Ctx F h w) {n b : Nat} {k k' : SBlk} {o : Obj} {w' : World} (he : entAt h n = some (.own b k)) (ho : w'.heap[b]? = some o)
    (hk : ∀ r, (k'.den (locs h ++ r)).holds o) (hs : ∀ x, x ≠ b → w'.heap[x]? = w.heap[x]?) : Ctx F (h.set n (.gone (b, k.base, k.wd)) ++ [.own b k']) w' := by
  refine ⟨fun r => ?_, swap_ro c he⟩
  rw [swap_locs he, owned_append]
  obtain ⟨A, B, e1, e2⟩ := owned_split (ρ := locs h ++ ((b, k'.base, k'.wd) :: r)) he
  rw [e2]
  have h0 := c.owns ((b, k'.base, k'.wd) :: r)
  rw [e1, List.append_assoc, List.cons_append] at h0
  have h1 := Owns.write h0 ⟨o, ho, hk ((b, k'.base, k'.wd) :: r)⟩ hs
  refine h1.perm ?_
  simp only [Ent.blocks, owned, List.append_nil, List.append_assoc, List.nil_append, List.singleton_append]
  exact List.Perm.append_left A List.perm_middle.symm

/-- One position goes, a new block stands at a new one. -/
theorem Ctx.swapNew (c : Ctx F h w) {n b : Nat} {k k' : SBlk} {o : Obj} {d : Nat} (he : entAt h n = some (.own b k)) (hk : ∀ r, (k'.den (locs h ++ r)).holds o) :
    Ctx F (h.set n (.gone (b, k.base, k.wd)) ++ [.own w.heap.size k']) { w with drawn := d, heap := w.heap.push o } := by
  refine ⟨fun r => ?_, swap_ro c he⟩
  rw [swap_locs he, owned_append]
  obtain ⟨A, B, e1, e2⟩ := owned_split (ρ := locs h ++ ((w.heap.size, k'.base, k'.wd) :: r)) he
  rw [e2]
  have h0 := c.owns ((w.heap.size, k'.base, k'.wd) :: r)
  rw [e1, List.append_assoc, List.cons_append] at h0
  have h1 : Owns w ((A ++ B) ++ F) := h0.sub (by rw [List.append_assoc]; exact List.Sublist.append_left (List.sublist_cons_self _ _) A)
  have h2 := Owns.alloc h1 (hk ((w.heap.size, k'.base, k'.wd) :: r))
  have h3 : Owns { w with drawn := d, heap := w.heap.push o } ((A ++ B) ++ (w.heap.size, k'.den (locs h ++ ((w.heap.size, k'.base, k'.wd) :: r))) :: F) := h2
  simpa [Ent.blocks, owned] using h3

theorem get_bang {z : Array Value} {j : Nat} {v : Value} (hv : z.toList[j]? = some v) : z[j]! = v := by
  rw [Array.getElem?_toList] at hv
  rw [Array.getElem!_eq_getD, Array.getD_eq_getD_getElem?, hv]
  rfl

theorem capOk_spec {k : SBlk} {o len cap : Nat} {A : Prop} (hx : capOk k o len cap A) : A ∧ len ≤ cap := by
  cases k with
  | tab t base N cols => exact ⟨hx.2, hx.1.1⟩
  | cells wd l t => obtain ⟨h1, h2⟩ := bif_false hx; exact ⟨h2, by have := Nat.eq_of_beq_eq_true h1; omega⟩
  | map _ _ _ => exact hx.elim
  | obj _ => exact hx.elim

theorem flatV_app (f g : Nat → Nat → Value) (wd n : Nat) : ∀ m : Nat, flatV f wd n ++ flatV g wd m = flatV (fun i j => if i < n then f i j else g (i - n) j) wd (n + m)
  | 0 => by
    simp only [flatV, List.append_nil, Nat.add_zero]
    have : ∀ k, k ≤ n → flatV f wd k = flatV (fun i j => if i < n then f i j else g (i - n) j) wd k := by
      intro k
      induction k with
      | zero => intro _; rfl
      | succ k ih =>
        intro hk
        rw [flatV, flatV, ih (by omega)]
        congr 1
        apply List.map_congr_left
        intro j _
        simp [show k < n by omega]
    exact this n (Nat.le_refl _)
  | m + 1 => by
    rw [flatV, ← List.append_assoc, flatV_app f g wd n m, ← Nat.add_assoc, flatV]
    congr 1
    apply List.map_congr_left
    intro j _
    simp [show ¬ n + m < n by omega, show n + m - n = m by omega]

theorem srcCols_spec' {k : SBlk} {o len : Nat} {K : List Col → Prop} {ob : Obj} (ho : ∀ r, (k.den (locs h ++ r)).holds ob) (hx : srcCols (locs h) k o len K) :
    ∃ cs f, K cs ∧ cs.length = k.wd ∧ ColsAre cs len f ∧ (∀ i j, i < len → j < k.wd → objCell ob ((k.base + o + i) * k.wd + j) = some (f i j)) ∧
      ∀ t base N cols, k = .tab t base N cols → cs = winCols o len cols := by
  cases k with
  | cells wd l t =>
    obtain ⟨cs, f, h1, h2, h3, h4⟩ := srcCols_spec ho hx
    exact ⟨cs, f, h1, h2, h3, h4, fun _ _ _ _ h => by cases h⟩
  | tab t base N cols =>
    obtain ⟨cs, f, ⟨h0, h1⟩, h2, h3, h4⟩ := srcCols_spec (K := fun cs => cs = winCols o len cols ∧ K cs) ho ⟨hx.1, rfl, hx.2⟩
    exact ⟨cs, f, h1, h2, h3, h4, fun _ _ _ _ h => by cases h; exact h0⟩
  | map ks m st => exact hx.elim
  | obj o' => exact hx.elim

/-- The cells of a slice's block, those behind its length too. -/
theorem spare_cells {k : SBlk} {o len cap : Nat} {A : Prop} {ob : Obj} {e : TypeId} {oc ec : List Col} {fo : Nat → Nat → Value} (hk : ∀ r, (k.den (locs h ++ r)).holds ob) (hx : capOk k o len cap A) (hty : k.ty = e)
    (hocell : ∀ i j, i < len → j < k.wd → objCell ob ((k.base + o + i) * k.wd + j) = some (fo i j)) (hock : ∀ t base N cols, k = .tab t base N cols → oc = winCols o len cols)
    (heck : ∀ (j : Nat) (c e : Col), oc[j]? = some c → ec[j]? = some e → ∀ v, fitsC c v → fitsC e v) (hec : ec.length = oc.length) :
    ∃ arr lo hi, ob = .cells arr e (lo, hi) ∧ (∀ i j, i < len → j < k.wd → arr[(k.base + o + i) * k.wd + j]? = some (fo i j)) ∧
      (∀ i j, len ≤ i → i < cap → j < k.wd → ∃ v, arr[(k.base + o + i) * k.wd + j]? = some v ∧ v.oneCell' = true ∧ ∀ cc : Col, ec[j]? = some cc → fitsC cc v) ∧
      (∀ y, (k.base + o) * k.wd ≤ y → y < (k.base + o + cap) * k.wd → ¬ (lo ≤ y ∧ y < hi)) := by
  cases k with
  | cells wd l t =>
    obtain ⟨h1, -⟩ := bif_false hx
    have h1 := Nat.eq_of_beq_eq_true h1
    have := hk []
    simp only [SBlk.den, Blk.holds] at this
    subst this
    simp only [SBlk.ty] at hty
    subst hty
    exact ⟨_, 0, 0, rfl, hocell, fun i j h2 h3 => by omega, fun y _ _ => by omega⟩
  | tab t base N cols =>
    obtain ⟨⟨h1, h2⟩, -⟩ := hx
    obtain ⟨arr, lo, hi, rfl, h3, h4, h5⟩ := hk []
    simp only [SBlk.ty] at hty
    subst hty
    refine ⟨arr, lo, hi, rfl, hocell, fun i j h6 h7 hj => ?_, fun y h6 h7 => h5 y ?_ ?_⟩
    · simp only [SBlk.wd] at hj
      have hcj := List.getElem?_eq_getElem hj
      have := h4 (o + i) j cols[j] (by omega) hcj
      simp only [SBlk.base, SBlk.wd]
      rw [Nat.add_assoc]
      refine ⟨_, this, (h3 _ (List.getElem_mem hj)).2 _ (by omega), fun cc hcc => ?_⟩
      have hoc := hock t base N cols rfl
      rw [winCols_eq] at hoc
      exact heck j (winCol o len cols[j]) cc (by rw [hoc, List.getElem?_map, hcj]; rfl) hcc _ (fitsC_win (fitsC_get _ _))
    · simp only [SBlk.base, SBlk.wd] at h6
      have : base * cols.length ≤ (base + o) * cols.length := Nat.mul_le_mul_right _ (by omega)
      omega
    · simp only [SBlk.base, SBlk.wd] at h7
      have : (base + o + cap) * cols.length ≤ (base + N) * cols.length := Nat.mul_le_mul_right _ (by omega)
      omega
  | map _ _ _ => exact hx.elim
  | obj _ => exact hx.elim

/-- What append does with the block of the slice that it is given. -/
theorem xapp_sound (c : Ctx F h w) {ts : Array TypeId} {tt t e : TypeId} {args : Array Value} {s : SV} {vs vx : Value} {inf : TypeInfo} {z : Value} {lit : Bool} {n : Nat} {cs : List Col} {f : Nat → Nat → Value}
    (ha : args[0]? = some vs) (hb : args[1]? = some vx) (hs : s ≠ .top → Std h s vs) (ht0 : ts[0]? = some t) (ht1 : ∀ t1, ts[1]? = some t1 → ∃ d, P.underlying t1 = some d ∧ ∀ k, d ≠ .int k)
    (hu : P.underlying t = some (.slice e)) (hinf : P.info? e = some inf) (hz : inf.zero = some z) (k1 : inf.bytes ≤ 1048576) (k2 : 1 ≤ inf.bytes) (k3 : z.cells.size = inf.size) (k4 : 1 ≤ inf.size) (k5 : allOne z.cells.toList = true)
    (hcf : ColsAre cs n f) (hlen : (Builtin.lenOf vx).run P w = .ok n w) (hcs : cs.length = inf.size)
    (hnew : ∀ d, (Builtin.firstCells inf.size n vx).run P { w with drawn := d } = .ok (flatV f inf.size n).toArray { w with drawn := d })
    (hx : xapp h e inf.bytes z.cells.toList s lit n cs K) : Loud P F h w K (do pure (.value (← Builtin.append_ ts tt args))) := by
  have zgood : ∀ {cs : List Col}, zKinds z.cells.toList cs = true → cs.length = inf.size → (∀ (i j : Nat) (c : Col), cs[j]? = some c → fitsC c z.cells[j]!) ∧ ∀ (i j : Nat), j < cs.length → (z.cells[j]!).oneCell' = true := by
    intro cs hzk hcs
    obtain ⟨z1, z2⟩ := zKinds_spec hzk
    refine ⟨fun i j c hj => ?_, fun i j hj => ?_⟩
    · obtain ⟨v, hv, hf⟩ := z2 j c hj
      rw [get_bang hv]; exact hf
    · have hjl : j < z.cells.toList.length := by simp; omega
      have hv : z.cells.toList[j]? = some z.cells.toList[j] := List.getElem?_eq_getElem hjl
      rw [get_bang hv]
      exact allOne_spec k5 _ (List.getElem_mem hjl)
  unfold xapp at hx
  split at hx
  · rename_i m o len cap
    split at hx
    · rename_i b0 k he
      obtain ⟨hty, hx⟩ := bif_false hx
      have hty := Nat.eq_of_beq_eq_true hty
      obtain ⟨⟨ob, hob, hk⟩, hloc⟩ := c.blk he rfl
      have hvs : vs = .slice (some ⟨b0, (k.base + o) * k.wd, none⟩) len cap := by
        have := hs (by simp) []
        simp only [den, hloc []] at this
        exact this.symm
      subst hvs
      obtain ⟨hsrc0, hlc⟩ := capOk_spec hx
      obtain ⟨oc, fo, hsrc, hoc, hofc, hocell, hock⟩ := srcCols_spec' hk hsrc0
      obtain ⟨ec, hcat, hec, hcl, hecf, heck⟩ := catCols_spec hsrc hofc hcf
      obtain ⟨hzk, hsz, hK⟩ := bif_false hcat
      have hwd : k.wd = inf.size := by omega
      have hecl : ec.length = inf.size := by omega
      by_cases hroom : len + n ≤ cap
      · -- there is room
        have hrun := run_append_room (tt := tt) ht0 ht1 ha hb hu hinf hlen hroom (hnew w.drawn)
        obtain ⟨arr, lo, hi, hobe, hold, hspare, hfree⟩ := spare_cells hk hx hty hocell hock (fun j c e h1 h2 => heck j c e h1 h2) hec
        subst hobe
        have hg : ∀ i j, len + n + i < cap → j < k.wd → ∃ v, arr[(k.base + o + (len + n + i)) * k.wd + j]? = some v ∧ v.oneCell' = true ∧ ∀ cc : Col, ec[j]? = some cc → fitsC cc v := fun i j hi' hj => hspare (len + n + i) j (by omega) hi' hj
        obtain ⟨ec', h3, h4, h5⟩ := spareK_spec (fun i j => (arr[(k.base + o + (len + n + i)) * k.wd + j]?).getD .nilIface) (hK b0 (k.base + o) cap hroom fun _ => rfl) hecf (fun i j c hi' hj => by
          have hjl : j < k.wd := by have := (List.getElem?_eq_some_iff.1 hj).1; omega
          obtain ⟨v, e1, -, e3⟩ := hg i j (by omega) hjl
          rw [e1]; exact e3 c hj) (fun i j hi' hj => by
          obtain ⟨v, e1, e2, -⟩ := hg i j (by omega) (by omega)
          rw [e1]; exact e2)
        have h3 := appK_iff (setK_spec h3)
        rw [show len + n + (cap - (len + n)) = cap by omega] at h5
        -- the world behind the stores
        obtain ⟨w', e1, e2, e3, e4⟩ : ∃ w', (storeCells ⟨b0, (k.base + o) * k.wd + len * inf.size, none⟩ (flatV f inf.size n)).run P w = .ok () w' ∧
            w'.heap[b0]? = some (.cells (wrA arr ((k.base + o) * k.wd + len * inf.size) (flatV f inf.size n)) e (lo, hi)) ∧ (∀ y, y ≠ b0 → w'.heap[y]? = w.heap[y]?) ∧ Rest w w' := by
          by_cases hn : n = 0
          · subst hn
            exact ⟨w, rfl, by simpa [flatV, wrA] using hob, fun _ _ => rfl, Rest.refl w⟩
          · have hend : (k.base + o) * k.wd + len * inf.size + n * inf.size ≤ arr.size := by
              obtain ⟨v, e1, -⟩ := hspare (len + (n - 1)) (k.wd - 1) (by omega) (by omega) (by omega)
              have h6 := (Array.getElem?_eq_some_iff.1 e1).1
              rw [← hwd]
              have h7 : (k.base + o + (len + (n - 1))) * k.wd = (k.base + o) * k.wd + len * k.wd + (n - 1) * k.wd := by rw [Nat.add_mul, Nat.add_mul len, Nat.add_assoc]
              have h8 : n * k.wd = (n - 1) * k.wd + k.wd := by
                obtain ⟨m, rfl⟩ : ∃ m, n = m + 1 := ⟨n - 1, by omega⟩
                rw [Nat.add_mul, Nat.one_mul]; simp
              omega
            have := run_storeList (P := P) (x := (k.base + o) * k.wd + len * inf.size) (flatV f inf.size n) arr 0 w hob (by rw [flatV_len]; exact hend) (fun y h6 h7 => by
              rw [flatV_len, Nat.add_zero] at h7
              refine hfree y (by omega) ?_
              have h8 : (len + n) * k.wd ≤ cap * k.wd := Nat.mul_le_mul_right _ hroom
              have h9 : (k.base + o + cap) * k.wd = (k.base + o) * k.wd + cap * k.wd := Nat.add_mul _ _ _
              rw [Nat.add_mul] at h8
              rw [← hwd] at h7
              omega) (fun v hv => by
              obtain ⟨x, hx1⟩ := List.getElem?_of_mem hv
              have hxl := (List.getElem?_eq_some_iff.1 hx1).1
              rw [flatV_len] at hxl
              obtain ⟨i, j, rfl, hj⟩ := div_form (x := x) (wd := inf.size) (by omega)
              have hi' := (form_lt hj).1 hxl
              rw [flatV_get f inf.size hi' hj] at hx1
              cases hx1
              exact hcf.one i j hi' (by omega))
            simpa using this
        refine ⟨_, _, _, .slice (some ⟨b0, (k.base + o) * k.wd, none⟩) (len + n) cap, w', h3, ?_, c.swapIn he e2 (fun r => ?_) e3, e4, fun _ r => ?_, ?_, .inl rfl⟩
        · exact ⟨[(b0, k.base + o, ec'.length)], by have := swap_locs (b' := b0) (k' := .tab e (k.base + o) cap ec') he []; simpa [SBlk.base, SBlk.wd] using this⟩
        · have hwl : ec'.length = k.wd := by omega
          have hlast : (k.base + o) * k.wd + len * inf.size + (flatV f inf.size n).length ≤ arr.size ∨ n = 0 := by
            by_cases hn : n = 0
            · exact .inr hn
            · left
              obtain ⟨v, e1, -⟩ := hspare (len + (n - 1)) (k.wd - 1) (by omega) (by omega) (by omega)
              have h6 := (Array.getElem?_eq_some_iff.1 e1).1
              rw [flatV_len, ← hwd]
              have h7 : (k.base + o + (len + (n - 1))) * k.wd = (k.base + o) * k.wd + len * k.wd + (n - 1) * k.wd := by rw [Nat.add_mul, Nat.add_mul len, Nat.add_assoc]
              have h8 : n * k.wd = (n - 1) * k.wd + k.wd := by
                obtain ⟨m, rfl⟩ : ∃ m, n = m + 1 := ⟨n - 1, by omega⟩
                rw [Nat.add_mul, Nat.one_mul]; simp
              omega
          refine ⟨_, lo, hi, rfl, fun cc hm => ⟨h5.len cc hm, fun i hi' => ?_⟩, fun i j cc hi' hj => ?_, fun y h6 h7 => ?_⟩
          · obtain ⟨j, hj⟩ := List.getElem?_of_mem hm
            rw [h5.get i j cc hi' hj]
            exact h5.one i j hi' (List.getElem?_eq_some_iff.1 hj).1
          · have hjl : j < k.wd := by have := (List.getElem?_eq_some_iff.1 hj).1; omega
            rw [h5.get i j cc hi' hj, hwl]
            have hidx : (k.base + o + i) * k.wd + j = (k.base + o) * k.wd + (i * k.wd + j) := by rw [Nat.add_mul (k.base + o), Nat.add_assoc]
            by_cases hin : i < len
            · have h8 : i * k.wd + j < len * k.wd := (form_lt hjl).2 hin
              simp only [show i < len + n by omega, if_true, hin]
              rcases hlast with hlast | hn
              · rw [wrA_get _ _ _ _ hlast, if_neg (by rw [hidx, ← hwd]; omega)]
                exact hold i j hin hjl
              · subst hn
                simp only [flatV, wrA]
                exact hold i j hin hjl
            · by_cases hin2 : i < len + n
              · have hn : n ≠ 0 := by omega
                rcases hlast with hlast | hn'
                rotate_left
                · exact absurd hn' hn
                simp only [hin2, if_true, hin, if_false]
                have h8 : ¬ (i * k.wd + j < len * k.wd) := fun h => hin ((form_lt hjl).1 h)
                have h9 : i * k.wd + j < (len + n) * k.wd := (form_lt hjl).2 hin2
                rw [Nat.add_mul] at h9
                rw [wrA_get _ _ _ _ hlast, if_pos (by rw [hidx, flatV_len, ← hwd]; omega)]
                have hd : (k.base + o + i) * k.wd + j - ((k.base + o) * k.wd + len * inf.size) = (i - len) * inf.size + j := by
                  obtain ⟨d, rfl⟩ : ∃ d, i = len + d := ⟨i - len, by omega⟩
                  rw [hidx, ← hwd, Nat.add_mul len, show len + d - len = d by omega]; omega
                rw [hd, flatV_get f inf.size (by omega) (by omega)]
              · simp only [hin2, if_false]
                have h9 : ¬ (i * k.wd + j < (len + n) * k.wd) := fun h => hin2 ((form_lt hjl).1 h)
                rw [Nat.add_mul] at h9
                obtain ⟨v, q1, -⟩ := hg (i - (len + n)) j (by omega) hjl
                have he1 := q1
                rw [show len + n + (i - (len + n)) = i by omega] at q1
                rw [he1]
                rcases hlast with hlast | hn
                · rw [wrA_get _ _ _ _ hlast, if_neg (by rw [hidx, flatV_len, ← hwd]; omega), q1]; rfl
                · subst hn
                  simp only [flatV, wrA]
                  rw [q1]; rfl
          · rw [hwl] at h6 h7
            exact hfree y h6 h7
        · rw [swap_locs he]
          simp only [den, lenE_eq]
          rw [locAt_get, List.getElem?_append_right (by simp [locs_eq])]
          have h0 : h.length - (locs h).length = 0 := by simp [locs_eq]
          rw [h0]
          show Value.slice (some ⟨b0, ((k.base + o) + 0) * ec'.length, none⟩) _ _ = _
          rw [Nat.add_zero, show ec'.length = k.wd by omega]
        · simp only [Sem.run_bind, hrun, e1, Result.andThen_ok, Sem.run_pure]
      · -- it grows
        have hold : ∀ d, (Builtin.firstCells inf.size len (.slice (some ⟨b0, (k.base + o) * k.wd, none⟩) len cap)).run P { w with drawn := d } = .ok (flatV fo inf.size len).toArray { w with drawn := d } := by
          intro d
          refine run_firstCells_slice (o := ob) hob (fun i j hi hj => ?_) (by omega)
          rw [← hocell i j hi (by omega), ← hwd, Nat.add_mul (k.base + o)]
        obtain ⟨cap', h1, h2⟩ := run_append_grow (tt := tt) ht0 ht1 ha hb hu hinf hz hlen (by omega) hsz k1 k2 hold hnew
        obtain ⟨g1, g2⟩ := zgood hzk hecl
        obtain ⟨ec', h3, h4, h5⟩ := spareK_spec (fun _ j => z.cells[j]!) (hK w.heap.size 0 cap' h1 fun h => absurd h hroom) hecf (fun i j c _ hj => g1 i j c hj) (fun i j _ hj => g2 i j hj)
        have h3 := appK_iff (setK_spec h3)
        have hflat : (flatV fo inf.size len).toArray ++ (flatV f inf.size n).toArray = (flatV (fun i j => if i < len then fo i j else f (i - len) j) inf.size (len + n)).toArray := by
          rw [← flatV_app]; simp
        rw [hflat] at h2
        refine ⟨_, _, _, .slice (some ⟨w.heap.size, 0, none⟩) (len + n) cap', _, h3, ?_, c.swapNew (d := w.drawn + 1) (o := .cells ((flatV (fun i j => if i < len then fo i j else f (i - len) j) inf.size (len + n)).toArray ++ Builtin.zeroCells z.cells (cap' - (len + n))) e) he (fun r => ?_), ⟨rfl, rfl, rfl, by simp⟩, fun _ r => ?_, ?_, .inl rfl⟩
        · exact ⟨[(w.heap.size, 0, ec'.length)], by have := swap_locs (b' := w.heap.size) (k' := .tab e 0 cap' ec') he []; simpa [SBlk.base, SBlk.wd] using this⟩
        · exact grown_holds (cs := ec) (by omega) k3 (by omega) h1 h5 (fun i j hj => rfl) _
        · rw [swap_locs he]
          simp only [den, lenE_eq]
          rw [locAt_get, List.getElem?_append_right (by simp [locs_eq])]
          simp [locs_eq, SBlk.base]
        · simp only [Sem.run_bind, h2, Result.andThen_ok, Sem.run_pure]
    · exact hx.elim
  · obtain ⟨hzk, hx⟩ := bif_false hx
    have hvs : vs = .slice none 0 0 := (hs (by simp) []).symm
    subst hvs
    -- a new block made out of nothing
    have grow0 : 0 < n → xgrow h e inf.bytes n cs K → Loud P F h w K (do pure (.value (← Builtin.append_ ts tt args))) := by
      intro hn0 hg
      obtain ⟨hsz, hg⟩ := hg
      have hold : ∀ d, (Builtin.firstCells inf.size 0 (.slice none 0 0)).run P { w with drawn := d } = .ok #[] { w with drawn := d } := fun d => rfl
      obtain ⟨cap', h1, h2⟩ := run_append_grow (tt := tt) ht0 ht1 ha hb hu hinf hz hlen (by omega) (by rw [Nat.zero_add]; exact hsz) k1 k2 hold hnew
      simp only [Nat.zero_add] at h1 h2
      obtain ⟨g1, g2⟩ := zgood hzk hcs
      obtain ⟨cs', h3, h4, h5⟩ := spareK_spec (fun _ j => z.cells[j]!) (hg w.heap.size cap' h1) hcf (fun i j c _ hj => g1 i j c hj) (fun i j _ hj => g2 i j hj)
      have h3 := appK_iff h3
      refine ⟨_, _, _, .slice (some ⟨w.heap.size, 0, none⟩) n cap', _, h3, Ext.app _ _, (c.drew (w.drawn + 1)).push (o := .cells (#[] ++ (flatV f inf.size n).toArray ++ Builtin.zeroCells z.cells (cap' - n)) e) (fun r => ?_), ⟨rfl, rfl, rfl, by simp⟩, fun _ r => ?_, ?_, .inl rfl⟩
      · rw [Array.empty_append]
        exact grown_holds (cs := cs) (by omega) k3 (by rw [h4, hcs]) h1 h5 (fun i j hj => rfl) _
      · simp only [den, loc_new, SBlk.base]
        simp
      · simp only [Sem.run_bind, h2, Result.andThen_ok, Sem.run_pure]
    have none0 : n = 0 → K (.val (.slice none 0 0)) h → Loud P F h w K (do pure (.value (← Builtin.append_ ts tt args))) := by
      intro hn hk
      subst hn
      have hr := run_append_none (tt := tt) ht0 ht1 ha hb hu hinf hlen (hnew w.drawn)
      refine ⟨_, _, _, .slice none 0 0, w, hk, Ext.refl _, c, Rest.refl _, fun _ r => rfl, ?_, .inl rfl⟩
      simp only [Sem.run_bind, hr, Result.andThen_ok, Sem.run_pure]
    cases lit with
    | true =>
      simp only [cond_true] at hx
      cases n with
      | zero => exact none0 rfl hx
      | succ n => exact grow0 (by omega) hx
    | false =>
      simp only [cond_false] at hx
      by_cases hn : n = 0
      · exact none0 hn (hx.1 hn)
      · exact grow0 (by omega) (hx.2 (by omega))
  · exact hx.elim

theorem xapp00_sound (c : Ctx F h w) {ts : Array TypeId} {tt t e : TypeId} {args : Array Value} {s : SV} {vs : Value} {inf : TypeInfo}
    (ha : args[0]? = some vs) (hb : args[1]? = some (.slice none 0 0)) (hs : s ≠ .top → Std h s vs) (ht0 : ts[0]? = some t) (ht1 : ∀ t1, ts[1]? = some t1 → ∃ d, P.underlying t1 = some d ∧ ∀ k, d ≠ .int k)
    (hu : P.underlying t = some (.slice e)) (hinf : P.info? e = some inf) (hx : xapp00 h s K) : Loud P F h w K (do pure (.value (← Builtin.append_ ts tt args))) := by
  unfold xapp00 at hx
  split at hx
  · rename_i m o len cap
    have hst := hs (by simp)
    have hvs : vs = .slice (some ⟨(locAt (locs h) m).1, ((locAt (locs h) m).2.1 + o) * (locAt (locs h) m).2.2, none⟩) len cap := by
      have := hst []
      simp only [List.append_nil, den] at this
      exact this.symm
    have hst' : Std h (.slc m o len cap) vs := hst
    subst hvs
    have hrun := run_append_room (w := w) (P := P) (tt := tt) (n := 0) (new := #[]) ht0 ht1 ha hb hu hinf rfl (by omega) rfl
    refine ⟨_, _, _, _, w, hx.2, Ext.refl _, c, Rest.refl _, fun _ => hst', ?_, .inl rfl⟩
    simp only [Sem.run_bind, hrun, Result.andThen_ok, storeCells, Sem.run_pure, Nat.add_zero]
  · have hvs : vs = .slice none 0 0 := (hs (by simp) []).symm
    subst hvs
    have hr := run_append_none (w := w) (P := P) (tt := tt) (new := #[]) ht0 ht1 ha hb hu hinf rfl rfl
    refine ⟨_, _, _, .slice none 0 0, w, hx, Ext.refl _, c, Rest.refl _, fun _ r => rfl, ?_, .inl rfl⟩
    simp only [Sem.run_bind, hr, Result.andThen_ok, Sem.run_pure]
  · rename_i a len cap
    have hvs : vs = .slice (some a) len cap := (hs (by simp) []).symm
    subst hvs
    split at hx
    · rename_i hsp
      obtain ⟨b, x, sp⟩ := a
      cases hsp
      have hrun := run_append_room (w := w) (P := P) (tt := tt) (n := 0) (new := #[]) ht0 ht1 ha hb hu hinf rfl (by omega) rfl
      refine ⟨_, _, _, _, w, hx.2, Ext.refl _, c, Rest.refl _, fun _ r => rfl, ?_, .inl rfl⟩
      simp only [Sem.run_bind, hrun, Result.andThen_ok, storeCells, Sem.run_pure, Nat.add_zero]
    · exact hx.elim
  · exact hx.elim

theorem xappend_sound (c : Ctx F h w) {ts : Array TypeId} {tt : TypeId} {args : Array Value} {s x : SV} {vs vx : Value} (ha : args[0]? = some vs) (hb : args[1]? = some vx)
    (hs : s ≠ .top → Std h s vs) (hxx : x ≠ .top → Std h x vx) (hx : xappend P h ts.toList s x K) : Loud P F h w K (do pure (.value (← Builtin.append_ ts tt args))) := by
  unfold xappend at hx
  split at hx
  · exact hx.elim
  rename_i t tr hts
  have ht0 : ts[0]? = some t := by rw [← Array.getElem?_toList, hts]; rfl
  obtain ⟨hni, hx⟩ := bif_false hx
  have ht1 : ∀ t1, ts[1]? = some t1 → ∃ d, P.underlying t1 = some d ∧ ∀ k, d ≠ .int k := by
    intro t1 h1
    rw [← Array.getElem?_toList, hts] at h1
    exact notInt_spec hni (by simpa using h1)
  split at hx
  rotate_left
  · exact hx.elim
  rename_i e hu
  split at hx
  · exact hx.elim
  rename_i inf hinf
  split at hx
  · exact hx.elim
  rename_i z hz
  obtain ⟨hchk, hx⟩ := bif_false hx
  simp only [Bool.and_eq_true] at hchk
  obtain ⟨k1, k2, k3, k4, k5⟩ := hchk
  have k3 := Nat.eq_of_beq_eq_true k3
  rw [lenV_eq, Array.length_toList] at k3
  have k4 := Nat.le_of_ble_eq_true k4
  split at hx
  · have hvx : vx = .slice none 0 0 := (hxx (by simp) []).symm
    subst hvx
    exact xapp00_sound c ha hb hs ht0 ht1 hu hinf hx
  obtain ⟨lit, n, cs, f, hx, hcf, hlen, hfirst⟩ := xsrc_spec c hxx hx
  obtain ⟨hcs, hx⟩ := bif_false hx
  have hcs := Nat.eq_of_beq_eq_true hcs
  rw [lenC_eq] at hcs
  exact xapp_sound c ha hb hs ht0 ht1 hu hinf hz (Nat.le_of_ble_eq_true k1) (Nat.le_of_ble_eq_true k2) k3 k4 k5 hcf hlen hcs (hfirst inf.size (by omega) hcs) hx

end
end Go.Sx
