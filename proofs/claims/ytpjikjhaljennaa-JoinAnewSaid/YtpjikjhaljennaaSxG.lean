/- All quiet operations together. -/
import Derived.Test.YtpjikjhaljennaaSxE
set_option linter.unusedVariables false
set_option linter.unusedSimpArgs false
namespace Go.Sx
open Classical

def nt (s : SV) (K : SV → Prop) : Prop :=
  match s with
  | .top => False
  | s => K s
theorem nt_spec {s : SV} {K : SV → Prop} (h : nt s K) : s ≠ .top ∧ K s := by
  cases s <;> first | exact h.elim | exact ⟨by simp, h⟩

def wdIs (h : List Ent) (n size : Nat) : Bool :=
  match entAt h n with
  | some e => Nat.beq e.loc.2.2 size
  | none => false

def xbnd (x : Option SV) (dflt ub : Nat) (K : Nat → Prop) : Prop :=
  match x with
  | none => K dflt
  | some (.val (.int _ i)) => (0 ≤ i ∧ i ≤ (ub : Int)) ∧ K i.toNat
  | some _ => False

def xslice3 (x : SV) (lo hi mx : Option SV) (K : SV → Prop) : Prop :=
  match x with
  | .slc n o len cap => xbnd mx cap cap fun m => xbnd hi len m fun hh =>
      (match lo with
       | none => K (.slc n o hh m)
       | some l => xbnd (some l) 0 hh fun ll => K (.slc n (if m = ll then o else o + ll) (hh - ll) (m - ll)))
  | .val (.slice none len cap) => xbnd mx cap cap fun m => xbnd hi len m fun hh => xbnd lo 0 hh fun ll => K (.val (.slice none (hh - ll) (m - ll)))
  | _ => False

def wdFits (h : List Ent) (x : SV) (size : Nat) (A : Prop) : Prop :=
  match x with
  | .slc n _ _ _ => bif wdIs h n size then A else False
  | .ptr n _ _ => bif wdIs h n size then A else False
  | .val (.slice none _ _) => A
  | _ => False

/-- The address behind so many elements. -/
def slOff (a : Option Addr) (m ll size : Nat) : Option Addr := if m = ll then a else a.map (·.add (ll * size))
/-- A slice of a slice: at a position, or at a raw address. -/
def xsl (h : List Ent) (x : SV) (size : Nat) (lo hi mx : Option SV) (K : SV → Prop) : Prop :=
  match x with
  | .val (.slice (some ⟨b, x0, none⟩) len cap) => xbnd mx cap cap fun m => xbnd hi len m fun hh => xbnd lo 0 hh fun ll => K (.val (.slice (some ⟨b, if m = ll then x0 else x0 + ll * size, none⟩) (hh - ll) (m - ll)))
  | .sl a len cap => xbnd mx cap cap fun m => xbnd hi len m fun hh => xbnd lo 0 hh fun ll => K (.sl (slOff a m ll size) (hh - ll) (m - ll))
  | x => wdFits h x size (xslice3 x lo hi mx K)
/-- A slice of an array, at an address. -/
def xslArr (P : Program) (h : List Ent) (n : Nat) (e : TypeId) (x : SV) (lo hi mx : Option SV) (K : SV → Prop) : Prop :=
  match P.info? e, x, hi, mx with
  | some _, .ptr _ _ 0, none, some _ => False
  | some inf, .ptr m i 0, hi, mx => bif wdIs h m inf.size then xslice3 (.slc m i n n) lo hi mx K else False
  | _, _, _, _ => False
def xslice (P : Program) (h : List Ent) (t : TypeId) (x : SV) (lo hi mx : Option SV) (K : SV → Prop) : Prop :=
  match P.underlying t with
  | some (.slice e) =>
    (match P.info? e with
     | none => False
     | some inf => match hi, mx with
       | none, some _ => False
       | hi, mx => xsl h x inf.size lo hi mx K)
  | some .string =>
    (match mx, x with
     | none, .val (.string s) => xbnd hi s.size s.size fun hh => xbnd lo 0 hh fun ll => K (.val (.string (s.extract ll hh)))
     | _, _ => False)
  | some (.array n e) => xslArr P h n e x lo hi mx K
  | _ => False

/-- All of them numbers of one kind. -/
def intsL : IntKind → List SV → Option (List Int)
  | _, [] => some []
  | k, .val (.int k' z) :: r => bif kEqB k k' then (match intsL k r with | some l => some (z :: l) | none => none) else none
  | _, _ => none
/-- An element of an array of numbers. -/
def xindex (P : Program) (t : TypeId) (x ix : SV) (K : SV → Prop) : Prop :=
  match x, ix with
  | .agg l, .val (.int _ i) => (match P.underlying t with
    | some (.array n e) => (match P.underlying e, P.info? e with
      | some (.int k), some inf => (match intsL k l with
        | some zs => bif Nat.beq inf.size 1 && Nat.beq l.length n then (0 ≤ i ∧ i < (n : Int)) ∧ K (.val (.int k (zs.getD i.toNat 0))) else False
        | none => False)
      | _, _ => False)
    | _ => False)
  | .arr k l, .val (.int _ i) => (match P.underlying t with
    | some (.array n e) => (match P.underlying e, P.info? e with
      | some (.int _), some inf => bif Nat.beq inf.size 1 then l.length = n ∧ (0 ≤ i ∧ i < (n : Int)) ∧ K (.val (.int k (l.getD i.toNat 0))) else False
      | _, _ => False)
    | _ => False)
  | _, _ => False
/-- The address of an array that lies in a slice. -/
def xarrAt (P : Program) (t : TypeId) (x : SV) (K : SV → Prop) : Prop :=
  match P.underlying t with
  | some (.array n _) => (match x with
    | .slc m o len _ => n ≤ len ∧ K (.ptr m o 0)
    | .val (.slice a len _) => n ≤ len ∧ K (.val (.pointer a))
    | .sl a len _ => n ≤ len ∧ ∃ b x0, a = some ⟨b, x0, none⟩ ∧ K (.val (.pointer (some ⟨b, x0, none⟩)))
    | _ => False)
  | _ => False

def xindexAddr (P : Program) (h : List Ent) (t : TypeId) (x ix : SV) (K : SV → Prop) : Prop :=
  match ix with
  | .val (.int _ i) =>
    (match P.underlying t with
     | some (.slice e) =>
       (match P.info? e with
        | none => False
        | some inf => match x with
          | .slc n o len _ => bif wdIs h n inf.size then (0 ≤ i ∧ i < (len : Int)) ∧ K (.ptr n (o + i.toNat) 0)
              else bif wdIs h n 1 then (0 ≤ i ∧ i < (len : Int)) ∧ K (.ptr n (o + i.toNat * inf.size) 0) else False
          | .sl a len _ => (0 ≤ i ∧ i < (len : Int)) ∧ ∃ b x0, a = some ⟨b, x0, none⟩ ∧ K (.val (.pointer (some ⟨b, x0 + i.toNat * inf.size, none⟩)))
          | .val (.slice a len _) => rawA a fun b x0 => (0 ≤ i ∧ i < (len : Int)) ∧ K (.val (.pointer (some ⟨b, x0 + i.toNat * inf.size, none⟩)))
          | _ => False)
     | some (.array ln e) =>
       (match P.info? e with
        | none => False
        | some inf => match x with
          | .ptr n i0 j0 => bif wdIs h n inf.size then (bif Nat.beq j0 0 then (0 ≤ i ∧ i < (ln : Int)) ∧ K (.ptr n (i0 + i.toNat) 0) else False) else False
          | .val (.pointer (some ⟨b, x0, none⟩)) => (0 ≤ i ∧ i < (ln : Int)) ∧ K (.val (.pointer (some ⟨b, x0 + i.toNat * inf.size, none⟩)))
          | _ => False)
     | _ => False)
  | _ => False

def fieldN (fs : Array Field) (f : Nat) : Option Field := fs.toList[f]?

def xfieldAddr (P : Program) (s : TypeId) (x : SV) (f : Nat) (K : SV → Prop) : Prop :=
  match P.underlying s with
  | some (.struct fs) =>
    (match fieldN fs f with
     | none => False
     | some fd => match P.info? fd.type with
       | none => False
       | some inf => bif Nat.beq inf.size 0 then False else
         (match x with
          | .ptr n i j => K (.ptr n i (j + fd.offset))
          | .val (.pointer (some ⟨b, x0, none⟩)) => K (.val (.pointer (some ⟨b, x0 + fd.offset, none⟩)))
          | _ => False))
  | _ => False

def subL : List SV → Nat → Nat → List SV
  | l, 0, n => l.take n
  | [], _ + 1, _ => []
  | _ :: r, o + 1, n => subL r o n

def xpart (P : Program) (t : TypeId) (l : List SV) (off : Nat) (K : SV → Prop) : Prop :=
  match P.underlying t with
  | none => False
  | some (.struct _) => (match P.info? t with | none => False | some inf => K (.agg (subL l off inf.size)))
  | some (.array _ _) => (match P.info? t with | none => False | some inf => K (.agg (subL l off inf.size)))
  | some _ => nth l off fun s => nt s K

def xfield (P : Program) (t : TypeId) (x : SV) (f : Nat) (K : SV → Prop) : Prop :=
  match P.underlying t with
  | some (.struct fs) =>
    (match fieldN fs f with
     | none => False
     | some fd => match x with
       | .agg l => xpart P fd.type l fd.offset K
       | _ => False)
  | _ => False

/-- A key's value: it names no position. -/
def ksIs : KS → SV → Option Value
  | .int k, .val (.int k' n) => bif kEqB k k' then some (.int k' n) else none
  | .bool, .tt => some (.bool true)
  | .bool, .ff => some (.bool false)
  | .bool, .val (.bool b) => some (.bool b)
  | .str, .val (.string s) => some (.string s)
  | _, _ => none
def ksIsL : List KS → List SV → Option (List Value)
  | [], [] => some []
  | s :: ss, v :: vs => match ksIs s v, ksIsL ss vs with
    | some a, some b => some (a :: b)
    | _, _ => none
  | _, _ => none
def keyVal : KShape → SV → Option Value
  | .one s, v => ksIs s v
  | .many l, .agg vs => match ksIsL l vs with
    | some a => some (.agg a.toArray)
    | none => none
  | _, _ => none

def ksDesc : TypeDesc → Option KS
  | .int k => some (.int k)
  | .bool => some .bool
  | .string => some .str
  | _ => none
def ksFields (P : Program) : List Field → Option (List KS)
  | [] => some []
  | f :: r => match P.underlying f.type with
    | none => none
    | some d => match ksDesc d, ksFields P r with
      | some s, some l => some (s :: l)
      | _, _ => none
def ksOf (P : Program) (kt : TypeId) : Option KShape :=
  match P.underlying kt with
  | some (.struct fs) => (match ksFields P fs.toList with | some l => some (.many l) | none => none)
  | some d => (match ksDesc d with | some s => some (.one s) | none => none)
  | none => none

def xlookup (P : Program) (h : List Ent) (t : TypeId) (x ix : SV) (commaOk : Bool) (K : SV → Prop) : Prop :=
  match P.underlying t with
  | some (.map kt et) =>
    (match P.info? et with
     | none => False
     | some inf => match inf.zero with
       | none => False
       | some z => match x with
         | .mp n => (match entAt h n with
           | some (.own _ (.map ks m _)) => bif keyOk P kt ks then (match keyVal ks ix with
             | some k => bif commaOk then K (.tup [.val ((m k).getD z), .prop ((m k).isSome = true)]) else K (.val ((m k).getD z))
             | none => False) else False
           | _ => False)
         | .val (.map none) => (match ksOf P kt with
           | some ks => bif keyOk P kt ks then (match keyVal ks ix with
             | some _ => bif commaOk then K (.tup [.val z, .ff]) else K (.val z)
             | none => False) else False
           | none => False)
         | _ => False)
  | _ => False

def xextract (x : SV) (i : Nat) (K : SV → Prop) : Prop :=
  match x with
  | .tup l => nth l i fun s => nt s K
  | _ => False

def xlen (P : Program) (t : TypeId) (x : SV) (K : SV → Prop) : Prop :=
  match P.underlying t with
  | some (.slice _) => (match x with
    | .slc _ _ len _ => K (.val (.int .i64 (len : Int)))
    | .val (.slice _ len _) => K (.val (.int .i64 (len : Int)))
    | .sl _ len _ => K (.val (.int .i64 (len : Int)))
    | _ => False)
  | some .string => (match x with | .val (.string s) => K (.val (.int .i64 (s.size : Int))) | _ => False)
  | some (.array n _) => nt x fun _ => K (.val (.int .i64 (n : Int)))
  | some (.map _ _) => (match x with | .val (.map none) => K (.val (.int .i64 0)) | _ => False)
  | _ => False
def xcap (P : Program) (t : TypeId) (x : SV) (K : SV → Prop) : Prop :=
  match P.underlying t with
  | some (.slice _) => (match x with
    | .slc _ _ _ cap => K (.val (.int .i64 (cap : Int)))
    | .val (.slice _ _ cap) => K (.val (.int .i64 (cap : Int)))
    | .sl _ _ cap => K (.val (.int .i64 (cap : Int)))
    | _ => False)
  | _ => False

def xminmax (f : Int → Int → Int) : SV → List SV → (SV → Prop) → Prop
  | .val (.int k a), [], K => K (.val (.int k a))
  | .val (.int k a), .val (.int k' b) :: r, K => kSame k k' (xminmax f (.val (.int k (f a b))) r K)
  | _, _, _ => False

def bstr (xs : List Int) (o len : Nat) : ByteArray := ⟨(((xs.drop o).take len).map fun n => UInt8.ofNat n.toNat).toArray⟩

def isU8 (P : Program) (e : TypeId) : Bool :=
  match P.underlying e with
  | some (.int .u8) => true
  | _ => false

def xconvert (P : Program) (h : List Ent) (src dst : TypeId) (x : SV) (K : SV → Prop) : Prop :=
  match P.underlying src, P.underlying dst with
  | some _, some (.int k) => (match x with | .val (.int _ n) => K (.val (.int k (k.wrap n))) | _ => False)
  | some .string, some .string => (match x with | .val (.string s) => K (.val (.string s)) | _ => False)
  | some (.slice e), some .string => bif isU8 P e then (match x with
      | .val (.slice none _ _) => K (.val (.string ByteArray.empty))
      | .val (.slice (some ⟨b, x0, none⟩) len _) => (match chunkAt h 0 with
        | some (_, L) => ∃ xs : List Int, rawTab0 L b x0 len [.ints .u8 xs] ∧ K (.val (.string (bstr xs 0 len)))
        | none => False)
      | .sl o len _ => (match chunkAt h 0 with
        | some (_, L) => ∃ xs : List Int, (xs.length = len ∧ (0 < len → ∃ b x0, o = some ⟨b, x0, none⟩ ∧ ∀ i, i < len → rawCell L b (x0 + i) (.int .u8 (xs.getD i 0)))) ∧ K (.val (.string (bstr xs 0 len)))
        | none => False)
      | .slc n o len _ => (match entAt h n with
        | some (.own _ (.tab _ _ N [.ints .u8 xs])) => o + len ≤ N ∧ K (.val (.string (bstr xs o len)))
        | some (.ro _ (.tab _ _ N [.ints .u8 xs])) => o + len ≤ N ∧ K (.val (.string (bstr xs o len)))
        | _ => False)
      | _ => False) else False
  | _, _ => False

def isIface (P : Program) (t : TypeId) : Bool :=
  match P.underlying t with
  | some (.interface _) => true
  | _ => false

def xassert (P : Program) (x : SV) (asserted : TypeId) (commaOk : Bool) (K : SV → Prop) : Prop :=
  match P.underlying asserted with
  | none => False
  | some (.interface _) => False
  | some _ => match x with
    | .ifc t v => bif Nat.beq t asserted then nt v (fun v => bif commaOk then K (.tup [v, .tt]) else K v) else False
    | _ => False

def mapE (e : Operand → SV) : List Operand → List SV
  | [] => []
  | x :: r => e x :: mapE e r
def noTop : List SV → Bool
  | [] => true
  | .top :: _ => false
  | _ :: r => noTop r

def cellsS : SV → List SV
  | .agg l => l
  | .val (.agg cs) => svL cs.toList
  | .arr k l => l.map fun z => .val (.int k z)
  | s => [s]
def setL : List SV → Nat → List SV → List SV
  | l, 0, v => v ++ l.drop v.length
  | [], _ + 1, _ => []
  | a :: r, o + 1, v => a :: setL r o v
def lenS : List SV → Nat
  | [] => 0
  | _ :: r => lenS r + 1
def placesL (P : Program) : List Field → Option (List (Nat × Nat))
  | [] => some []
  | f :: fs => match P.info? f.type, placesL P fs with
    | some inf, some r => some ((f.offset, inf.size) :: r)
    | _, _ => none
def xfill (pl : Nat → Option (Nat × Nat)) (z : List SV) : List (Nat × SV) → (List SV → Prop) → Prop
  | [], K => K z
  | (i, v) :: r, K => match pl i with
    | none => False
    | some (off, size) => bif Nat.beq (lenS (cellsS v)) size && (Nat.ble (off + lenS (cellsS v)) (lenS z) && noTop (cellsS v)) then xfill pl (setL z off (cellsS v)) r K else False
def mapP (e : Operand → SV) : List (Nat × Operand) → List (Nat × SV)
  | [] => []
  | (i, x) :: r => (i, e x) :: mapP e r
def xbuild (P : Program) (t : TypeId) (parts : List (Nat × SV)) (K : SV → Prop) : Prop :=
  match P.info? t with
  | none => False
  | some inf => match inf.zero with
    | none => False
    | some z => match P.underlying t with
      | some (.struct fs) => (match placesL P fs.toList with
        | none => False
        | some pl => xfill (fun i => pl[i]?) (svL z.cells.toList) parts fun l => K (.agg l))
      | some (.array _ e) => (match P.info? e with
        | none => False
        | some ie => xfill (fun i => some (i * ie.size, ie.size)) (svL z.cells.toList) parts fun l => K (.agg l))
      | _ => False

def xpick (c a b : SV) (K : SV → Prop) : Prop :=
  match c with
  | .tt => nt a K
  | .ff => nt b K
  | .prop p => (match a, b with
    | .tt, b => (match isB b with | some q => K (.prop (p ∨ q)) | none => False)
    | a, .ff => (match isB a with | some q => K (.prop (p ∧ q)) | none => False)
    | a, b => (p → nt a K) ∧ (¬ p → nt b K))
  | .val (.bool x) => (match a, b with
    | .tt, b => (match isB b with | some q => K (.prop (x = true ∨ q)) | none => False)
    | a, .ff => (match isB a with | some q => K (.prop (x = true ∧ q)) | none => False)
    | a, b => (x = true → nt a K) ∧ (x = false → nt b K))
  | _ => False

def xun (op : UnOp) (x : SV) (K : SV → Prop) : Prop :=
  match op, x with
  | .not, .tt => K .ff
  | .not, .ff => K .tt
  | .not, .prop p => K (.prop (¬ p))
  | .not, .val (.bool b) => K (.prop (b = false))
  | .neg, .val (.int k n) => K (.val (.int k (k.wrap (0 - n))))
  | .xor, .val (.int k n) => K (.val (.int k (ixor k (if k.signed then -1 else k.max) n)))
  | _, _ => False

def isConstO : Operand → Bool
  | .const _ => true
  | _ => false

/-- Comparing interface values. -/
def xifc (P : Program) (neg : Bool) (cst : Bool) (x y : SV) (K : SV → Prop) : Prop :=
  match x, y with
  | .val .nilIface, .val .nilIface => bif cst then K (bSV (!neg)) else False
  | .val .nilIface, .ifc _ _ => K (bSV neg)
  | .ifc _ _, .val .nilIface => K (bSV neg)
  | _, _ => False

def xq (P : Program) (h : List Ent) (e : Operand → SV) (op : Op) (K : SV → Prop) : Prop :=
  match op with
  | .move x => nt (e x) K
  | .assign x => nt (e x) K
  | .pick c a b => xpick (e c) (e a) (e b) K
  | .load t x => (match e x with | .ptr n i j => xload P h n i j t K | .val (.pointer (some ⟨b, x0, none⟩)) => xraw P h b x0 t K | _ => False)
  | .nilCheck x => (match e x with | .ptr n i j => K (.ptr n i j) | .fn f c => K (.fn f c) | .bfn f c => K (.bfn f c) | .val (.pointer (some a)) => K (.val (.pointer (some a))) | _ => False)
  | .binOp op t x y _ => bif isIface P t then (match op with | .eql => xifc P false (isConstO x || isConstO y) (e x) (e y) K | .neq => xifc P true (isConstO x || isConstO y) (e x) (e y) K | _ => False) else xbin P op t (e x) (e y) K
  | .unOp op _ x => xun op (e x) K
  | .convert s d x => xconvert P h s d (e x) K
  | .slice t x lo hi mx => xslice P h t (e x) (lo.map e) (hi.map e) (mx.map e) K
  | .fieldAddr s x f => xfieldAddr P s (e x) f K
  | .field t x f => xfield P t (e x) f K
  | .indexAddr t x ix => xindexAddr P h t (e x) (e ix) K
  | .index t x ix => xindex P t (e x) (e ix) K
  | .sliceToArrayPointer t x => xarrAt P t (e x) K
  | .lookup t x ix ok => xlookup P h t (e x) (e ix) ok K
  | .extract x i => xextract (e x) i K
  | .makeInterface t x => nt (e x) fun v => (match P.underlying t with | none => False | some (.interface _) => False | some _ => K (.ifc t v))
  | .makeFunc (.func f) first caps => (match first.toList with | [] => bif noTop (mapE e caps.toList) then K (.fn f (mapE e caps.toList)) else False | _ => (match caps.toList with | [] => bif noTop (mapE e first.toList) then K (.bfn f (mapE e first.toList)) else False | _ => False))
  | .typeAssert x _ asserted ok => xassert P (e x) asserted ok K
  | .build t parts => xbuild P t (mapP e parts.toList) K
  | .call { callee := .builtin b, args := args, argTypes := ts } =>
    (match b, mapE e args.toList, ts.toList with
     | .len, x :: _, t :: _ => xlen P t x K
     | .cap, x :: _, t :: _ => xcap P t x K
     | .min, x :: r, _ => xminmax min x r K
     | .max, x :: r, _ => xminmax max x r K
     | _, _, _ => False)
  | _ => False

end Go.Sx

/- The quiet operations are sound. -/
set_option linter.unusedVariables false
set_option linter.unusedSimpArgs false
namespace Go.Sx
open Classical
section
variable {P : Program} {F : List (Nat × Blk)} {h : List Ent} {w : World} {K : SV → Prop}

theorem wdIs_loc {n size : Nat} (hw : wdIs h n size = true) : ∃ l : Loc, l.2.2 = size ∧ ∀ r, locAt (locs h ++ r) n = l := by
  unfold wdIs at hw
  split at hw
  · rename_i e he
    exact ⟨e.loc, Nat.eq_of_beq_eq_true hw, fun r => entAt_loc he r⟩
  · cases hw

theorem Ans.nt {s : SV} {v : Value} (hk : nt s K) (hs : Std h s v) : Ans P h w K (pure v) := by
  obtain ⟨h1, h2⟩ := nt_spec hk
  exact ⟨s, v, h2, h1, hs, rfl⟩

theorem bif_false {b : Bool} {A : Prop} (hb : bif b then A else False) : b = true ∧ A := by cases b; exact hb.elim; exact ⟨rfl, hb⟩

theorem xpick_sound {c a b : SV} {vc va vb : Value} (hc : Std h c vc) (ha : a ≠ .top → Std h a va) (hb : b ≠ .top → Std h b vb) (hx : xpick c a b K) :
    Ans P h w K (do pure (if ← asBool vc then va else vb)) := by
  have two : ∀ (p : Prop) (q : Bool), vc = .bool q → (p ↔ q = true) → (p → Sx.nt a K) → (¬ p → Sx.nt b K) → Ans P h w K (do pure (if ← asBool vc then va else vb)) := by
    intro p q hv hpq h1 h2
    subst hv
    by_cases hp : p
    · obtain ⟨h3, h4⟩ := nt_spec (h1 hp)
      refine ⟨a, va, h4, h3, ha h3, ?_⟩
      simp [asBool, hpq.1 hp]
    · obtain ⟨h3, h4⟩ := nt_spec (h2 hp)
      refine ⟨b, vb, h4, h3, hb h3, ?_⟩
      have : q = false := by cases q; rfl; exact absurd (hpq.2 rfl) hp
      simp [asBool, this]
  have hc0 := hc []
  cases c with
  | tt => exact two True true hc0.symm (by simp) (fun _ => hx) (fun h => absurd trivial h)
  | ff => exact two False false hc0.symm (by simp) (fun h => h.elim) (fun _ => hx)
  | prop p =>
    have hv : vc = .bool (decide p) := hc0.symm
    simp only [xpick] at hx
    split at hx
    · split at hx
      · rename_i q hq
        have hb1 := fun r => isB_den hq r
        have hbt : b ≠ .top := by rintro rfl; cases hq
        have ha1 := ha (by simp)
        refine ⟨_, .bool (decide (p ∨ q)), hx, by simp, fun r => by simp [den], ?_⟩
        have e1 : va = .bool true := (ha1 []).symm
        have e2 : vb = .bool (decide q) := by rw [← hb hbt [], hb1]
        subst hv e1 e2
        by_cases hp : p <;> simp [asBool, hp]
      · exact hx.elim
    · split at hx
      · rename_i q hq
        have ha1 := fun r => isB_den hq r
        have hat : a ≠ .top := by rintro rfl; cases hq
        have hb1 := hb (by simp)
        refine ⟨_, .bool (decide (p ∧ q)), hx, by simp, fun r => by simp [den], ?_⟩
        have e1 : vb = .bool false := (hb1 []).symm
        have e2 : va = .bool (decide q) := by rw [← ha hat [], ha1]
        subst hv e1 e2
        by_cases hp : p <;> simp [asBool, hp]
      · exact hx.elim
    · exact two p (decide p) hv (by simp) hx.1 hx.2
  | val v =>
    cases v with
    | bool x =>
      have hv : vc = .bool x := hc0.symm
      simp only [xpick] at hx
      split at hx
      · split at hx
        · rename_i q hq
          have hb1 := fun r => isB_den hq r
          have hbt : b ≠ .top := by rintro rfl; cases hq
          have ha1 := ha (by simp)
          refine ⟨_, .bool (decide (x = true ∨ q)), hx, by simp, fun r => by simp [den], ?_⟩
          have e1 : va = .bool true := (ha1 []).symm
          have e2 : vb = .bool (decide q) := by rw [← hb hbt [], hb1]
          subst hv e1 e2
          cases x <;> simp [asBool]
        · exact hx.elim
      · split at hx
        · rename_i q hq
          have ha1 := fun r => isB_den hq r
          have hat : a ≠ .top := by rintro rfl; cases hq
          have hb1 := hb (by simp)
          refine ⟨_, .bool (decide (x = true ∧ q)), hx, by simp, fun r => by simp [den], ?_⟩
          have e1 : vb = .bool false := (hb1 []).symm
          have e2 : va = .bool (decide q) := by rw [← ha hat [], ha1]
          subst hv e1 e2
          cases x <;> simp [asBool]
        · exact hx.elim
      · exact two (x = true) x hv Iff.rfl hx.1 (fun h => hx.2 (by simpa using h))
    | _ => exact hx.elim
  | _ => exact hx.elim

theorem xun_sound {op : UnOp} {x : SV} {v : Value} (hv : Std h x v) (hx : xun op x K) : Ans P h w K (Op.unary op v) := by
  have hv0 : v = den (locs h ++ []) x := (hv []).symm
  unfold xun at hx
  split at hx
  · subst hv0; exact ⟨_, _, hx, by simp, fun r => rfl, rfl⟩
  · subst hv0; exact ⟨_, _, hx, by simp, fun r => rfl, rfl⟩
  · subst hv0
    rename_i p
    refine ⟨_, _, hx, by simp, fun r => rfl, ?_⟩
    by_cases hp : p <;> simp [den, Op.unary, hp]
  · subst hv0
    rename_i b
    refine ⟨_, _, hx, by simp, fun r => rfl, ?_⟩
    cases b <;> simp [den, Op.unary]
  · subst hv0; exact ⟨_, _, hx, by simp, fun r => rfl, rfl⟩
  · subst hv0; exact ⟨_, _, hx, by simp, fun r => rfl, rfl⟩
  · exact hx.elim

def bndOf (x : Option Value) (d ub : Nat) (c : BoundsCode) : Sem Nat :=
  match x with
  | some v => Instr.sliceBound v ub c
  | none => pure d

theorem addr_add (b x m : Nat) : Addr.add ⟨b, x, none⟩ m = ⟨b, x + m, none⟩ := by
  unfold Addr.add
  split
  · subst_vars; rfl
  · rfl

theorem sliceBounds_run {isS : Bool} {len cap : Nat} {lo hi mx : Option Value} {m hh ll : Nat} {w : World}
    (hm : ∀ c, (bndOf mx cap cap c).run P w = .ok m w)
    (hhh : ∀ c, (bndOf hi len m c).run P w = .ok hh w) (hmx : hi = none → mx = none)
    (hl : ∀ c, (bndOf lo 0 hh c).run P w = .ok ll w) :
    (Instr.sliceBounds isS len cap lo hi mx).run P w = .ok (ll, hh, m) w := by
  unfold Instr.sliceBounds
  have low : ∀ c, (match lo with | some v => Instr.sliceBound v hh c | none => (pure 0 : Sem Nat)) = bndOf lo 0 hh c := fun c => by cases lo <;> rfl
  cases mx with
  | none =>
    have hm' : cap = m := by have := hm .index; simp [bndOf] at this; exact this
    subst hm'
    cases hi with
    | none =>
      have : len = hh := by have := hhh .index; simp [bndOf] at this; exact this
      subst this
      cases lo with
      | none =>
        have : 0 = ll := by have := hl .index; simp [bndOf] at this; exact this
        subst this; rfl
      | some l => have := hl .sliceB; simp [bndOf] at this; simp [this]
    | some hv =>
      have h2 := hhh (if isS then .sliceAcap else .sliceAlen); simp only [bndOf] at h2
      cases lo with
      | none =>
        have : 0 = ll := by have := hl .index; simp [bndOf] at this; exact this
        subst this; simp [h2]
      | some l => have := hl .sliceB; simp only [bndOf] at this; simp [h2, this]
  | some mv =>
    have h1 := hm (if isS then .slice3Acap else .slice3Alen); simp only [bndOf] at h1
    cases hi with
    | none => cases hmx rfl
    | some hv =>
      have h2 := hhh .slice3B; simp only [bndOf] at h2
      cases lo with
      | none =>
        have : 0 = ll := by have := hl .index; simp [bndOf] at this; exact this
        subst this; simp [h1, h2]
      | some l => have := hl .slice3C; simp only [bndOf] at this; simp [h1, h2, this]

/-- An operand that may lack. -/
def OptStd (h : List Ent) (x : Option SV) (v : Option Value) : Prop :=
  match x, v with
  | none, none => True
  | some s, some v => s ≠ .top → Std h s v
  | _, _ => False

theorem xbnd_all {x : Option SV} {vx : Option Value} (hv : OptStd h x vx) {dflt ub : Nat} {K : Nat → Prop} (hx : xbnd x dflt ub K) :
    ∃ m, K m ∧ (∀ code, (bndOf vx dflt ub code).run P w = .ok m w) ∧ (vx = none → m = dflt) ∧ (vx ≠ none → m ≤ ub) := by
  cases x with
  | none =>
    cases vx with
    | none => exact ⟨dflt, hx, fun _ => rfl, fun _ => rfl, fun h => absurd rfl h⟩
    | some v => exact hv.elim
  | some s =>
    cases vx with
    | none => exact hv.elim
    | some v =>
      cases s with
      | val u =>
        cases u with
        | int k i =>
          have := hv (by simp) []
          simp only [den] at this
          subst this
          obtain ⟨⟨h1, h2⟩, h3⟩ := hx
          refine ⟨i.toNat, h3, fun code => ?_, by simp, fun _ => by omega⟩
          simp [bndOf, Instr.sliceBound, asIntOf, h1, h2]
        | _ => exact hx.elim
      | _ => exact hx.elim

theorem xslArr_sound {t : TypeId} {n : Nat} {e : TypeId} {x : SV} {v : Value} {lo hi mx : Option SV} {vlo vhi vmx : Option Value} (hu : P.underlying t = some (.array n e)) (hv : x ≠ .top → Std h x v) (hlo : OptStd h lo vlo) (hhi : OptStd h hi vhi) (hmx : OptStd h mx vmx)
    (hx : xslArr P h n e x lo hi mx K) : Ans P h w K (Instr.sliceAt t v vlo vhi vmx) := by
  have hnone : vhi = none → vmx = none := by
    intro he
    subst he
    cases hi with
    | some s => exact hhi.elim
    | none => cases mx with
      | none => cases vmx with
        | none => rfl
        | some _ => exact hmx.elim
      | some s =>
        unfold xslArr at hx
        split at hx <;> first | exact hx.elim | (rename_i h1 h2 h3; exact absurd rfl (by intro hh; simp_all)) | simp_all
  unfold xslArr at hx
  split at hx
  · exact hx.elim
  · rename_i inf m i hinf _
    obtain ⟨hw, hx⟩ := bif_false hx
    obtain ⟨l, hl, hloc⟩ := wdIs_loc hw
    have hv' : v = .pointer (some ⟨l.1, (l.2.1 + i) * l.2.2, none⟩) := by
      have := hv (by simp) []
      simp only [den, hloc [], Nat.add_zero] at this
      exact this.symm
    have start : ∀ mm hh ll, (∀ c, (bndOf vmx n n c).run P w = .ok mm w) → (∀ c, (bndOf vhi n mm c).run P w = .ok hh w) → (∀ c, (bndOf vlo 0 hh c).run P w = .ok ll w) →
        (Instr.sliceAt t v vlo vhi vmx).run P w = .ok (.slice (some (if mm = ll then ⟨l.1, (l.2.1 + i) * l.2.2, none⟩ else Addr.add ⟨l.1, (l.2.1 + i) * l.2.2, none⟩ (ll * inf.size))) (hh - ll) (mm - ll)) w := by
      intro mm hh ll h1 h2 h3
      subst hv'
      simp only [Instr.sliceAt, Sem.run_bind, run_underlying' hu, Result.andThen_ok, Instr.sureAddr, Sem.run_pure]
      rw [sliceBounds_run h1 h2 hnone h3]
      simp only [Result.andThen_ok, run_sizeOf' hinf, Sem.run_pure]
    simp only [xslice3] at hx
    obtain ⟨mm, hx, h1, -, -⟩ := xbnd_all (P := P) (w := w) hmx hx
    obtain ⟨hh, hx, h2, -, -⟩ := xbnd_all (P := P) (w := w) hhi hx
    cases lo with
    | none =>
      cases vlo with
      | some _ => exact hlo.elim
      | none =>
        refine ⟨_, _, hx, by simp, fun r => ?_, start mm hh 0 h1 h2 (fun _ => rfl)⟩
        simp only [den, hloc r]
        simp [addr_add]
    | some s =>
      obtain ⟨ll, hx, h3, -, -⟩ := xbnd_all (P := P) (w := w) hlo hx
      refine ⟨_, _, hx, by simp, fun r => ?_, start mm hh ll h1 h2 h3⟩
      simp only [den, hloc r]
      by_cases hml : mm = ll
      · simp [hml]
      · simp only [hml, if_false, addr_add, hl]
        simp only [Nat.add_mul, Nat.add_assoc]
  · exact hx.elim
theorem intsL_spec {k : IntKind} : ∀ {l : List SV} {zs : List Int}, intsL k l = some zs → ∀ ρ, denL ρ l = zs.map (.int k)
  | [], zs, hk, ρ => by simp only [intsL, Option.some.injEq] at hk; subst hk; rfl
  | a :: r, zs, hk, ρ => by
    unfold intsL at hk
    split at hk
    · rename_i h1; cases h1
    · rename_i k _ _ k' z r' heq
      injection heq with e1 e2
      subst e1 e2
      cases hkk : kEqB k k' with
      | false => rw [hkk] at hk; cases hk
      | true =>
        rw [hkk] at hk
        simp only [cond_true] at hk
        cases hr : intsL k r with
        | none => rw [hr] at hk; cases hk
        | some l =>
          rw [hr] at hk
          cases hk
          rw [← kEqB_eq hkk]
          simp only [denL, den, List.map_cons, intsL_spec hr ρ]
    · cases hk
theorem xarrAt_sound {t : TypeId} {x : SV} {v : Value} (hv : x ≠ .top → Std h x v) (hx : xarrAt P t x K) : Ans P h w K (Instr.arrayAt t v) := by
  unfold xarrAt at hx
  split at hx
  · rename_i n e hu
    split at hx
    · rename_i m o len cap
      obtain ⟨h1, hx⟩ := hx
      have hv0 := hv (by simp)
      have hv1 := (hv0 []).symm
      simp only [den] at hv1
      refine ⟨_, .pointer (some ⟨(locAt (locs h ++ []) m).1, ((locAt (locs h ++ []) m).2.1 + o) * (locAt (locs h ++ []) m).2.2, none⟩), hx, by simp, fun r => ?_, ?_⟩
      · have := (hv0 r).trans hv1
        simp only [den, Value.slice.injEq, Nat.add_zero] at this ⊢
        rw [this.1]
      · subst hv1
        simp only [Instr.arrayAt, Sem.run_bind, run_underlying' hu, Result.andThen_ok, if_neg (show ¬ len < n by omega), Sem.run_pure]
    · rename_i a len cap
      obtain ⟨h1, hx⟩ := hx
      have hv1 := (hv (by simp) []).symm
      simp only [den] at hv1
      subst hv1
      refine ⟨_, _, hx, by simp, fun r => rfl, ?_⟩
      simp only [Instr.arrayAt, Sem.run_bind, run_underlying' hu, Result.andThen_ok, if_neg (show ¬ len < n by omega), Sem.run_pure]
    · rename_i a len cap
      obtain ⟨h1, b, x0, rfl, hx⟩ := hx
      have hv1 := (hv (by simp) []).symm
      simp only [den] at hv1
      subst hv1
      refine ⟨_, _, hx, by simp, fun r => rfl, ?_⟩
      simp only [Instr.arrayAt, Sem.run_bind, run_underlying' hu, Result.andThen_ok, if_neg (show ¬ len < n by omega), Sem.run_pure]
    · exact hx.elim
  · exact hx.elim
theorem xslice_sound {t : TypeId} {x : SV} {v : Value} {lo hi mx : Option SV} {vlo vhi vmx : Option Value} (hv : x ≠ .top → Std h x v) (hlo : OptStd h lo vlo) (hhi : OptStd h hi vhi) (hmx : OptStd h mx vmx)
    (hx : xslice P h t x lo hi mx K) : Ans P h w K (Instr.sliceAt t v vlo vhi vmx) := by
  unfold xslice at hx
  split at hx
  · rename_i e hu
    split at hx
    · exact hx.elim
    · rename_i inf hinf
      have hnone : vhi = none → vmx = none := by
        intro he
        subst he
        cases hi with
        | some s => exact hhi.elim
        | none => cases mx with
          | none => cases vmx with
            | none => rfl
            | some _ => exact hmx.elim
          | some s => simp at hx
      have hx' : xsl h x inf.size lo hi mx K := by
        revert hx
        split
        · intro h; exact h.elim
        · exact fun h => h
      clear hx
      have start : ∀ a len cap m hh ll, v = .slice a len cap → (∀ c, (bndOf vmx cap cap c).run P w = .ok m w) →
          (∀ c, (bndOf vhi len m c).run P w = .ok hh w) → (∀ c, (bndOf vlo 0 hh c).run P w = .ok ll w) →
          (Instr.sliceAt t v vlo vhi vmx).run P w = .ok (.slice (if m = ll then a else a.map (·.add (ll * inf.size))) (hh - ll) (m - ll)) w := by
        intro a len cap m hh ll hv h1 h2 h3
        subst hv
        simp only [Instr.sliceAt, Sem.run_bind, run_underlying' hu, Result.andThen_ok, Instr.slice]
        rw [sliceBounds_run h1 h2 hnone h3]
        simp only [Result.andThen_ok, run_sizeOf' hinf, Sem.run_pure]
      cases x with
      | slc n o len cap =>
        obtain ⟨hw, hx⟩ := bif_false hx'
        obtain ⟨l, hl, hloc⟩ := wdIs_loc hw
        have hv' : v = .slice (some ⟨l.1, (l.2.1 + o) * l.2.2, none⟩) len cap := by
          have := hv (by simp) []
          simp only [den, hloc []] at this
          exact this.symm
        simp only [xslice3] at hx
        obtain ⟨m, hx, h1, -, -⟩ := xbnd_all (P := P) (w := w) hmx hx
        obtain ⟨hh, hx, h2, -, -⟩ := xbnd_all (P := P) (w := w) hhi hx
        cases lo with
        | none =>
          cases vlo with
          | some _ => exact hlo.elim
          | none =>
            refine ⟨_, _, hx, by simp, fun r => ?_, start _ len cap m hh 0 hv' h1 h2 (fun _ => rfl)⟩
            simp only [den, hloc r]
            simp [addr_add]
        | some s =>
          obtain ⟨ll, hx, h3, -, -⟩ := xbnd_all (P := P) (w := w) hlo hx
          refine ⟨_, _, hx, by simp, fun r => ?_, start _ len cap m hh ll hv' h1 h2 h3⟩
          simp only [den, hloc r]
          by_cases hml : m = ll
          · simp [hml]
          · simp only [hml, if_false, Option.map_some, addr_add, hl]
            simp only [Nat.add_mul, Nat.add_assoc]
      | val u =>
        cases u with
        | slice a len cap =>
          cases a with
          | some a =>
            obtain ⟨b, x0, sp⟩ := a
            cases sp with
            | some _ => exact hx'.elim
            | none =>
              have hx : (xbnd mx cap cap fun m => xbnd hi len m fun hh => xbnd lo 0 hh fun ll => K (.val (.slice (some ⟨b, if m = ll then x0 else x0 + ll * inf.size, none⟩) (hh - ll) (m - ll)))) := hx'
              have hv' : v = .slice (some ⟨b, x0, none⟩) len cap := (hv (by simp) []).symm
              obtain ⟨m, hx, h1, -, -⟩ := xbnd_all (P := P) (w := w) hmx hx
              obtain ⟨hh, hx, h2, -, -⟩ := xbnd_all (P := P) (w := w) hhi hx
              obtain ⟨ll, hx, h3, -, -⟩ := xbnd_all (P := P) (w := w) hlo hx
              refine ⟨_, _, hx, by simp, fun r => ?_, start _ len cap m hh ll hv' h1 h2 h3⟩
              simp only [den]
              by_cases hml : m = ll
              · simp [hml]
              · simp only [hml, if_false, Option.map_some, addr_add]
          | none =>
            have hx : xslice3 (.val (.slice none len cap)) lo hi mx K := hx'
            simp only [xslice3] at hx
            have hv' : v = .slice none len cap := (hv (by simp) []).symm
            obtain ⟨m, hx, h1, -, -⟩ := xbnd_all (P := P) (w := w) hmx hx
            obtain ⟨hh, hx, h2, -, -⟩ := xbnd_all (P := P) (w := w) hhi hx
            obtain ⟨ll, hx, h3, -, -⟩ := xbnd_all (P := P) (w := w) hlo hx
            refine ⟨_, _, hx, by simp, fun r => ?_, start _ len cap m hh ll hv' h1 h2 h3⟩
            simp [den]
        | _ => exact hx'.elim
      | sl a len cap =>
        have hx : (xbnd mx cap cap fun m => xbnd hi len m fun hh => xbnd lo 0 hh fun ll => K (.sl (slOff a m ll inf.size) (hh - ll) (m - ll))) := hx'
        have hv' : v = .slice a len cap := (hv (by simp) []).symm
        obtain ⟨m, hx, h1, -, -⟩ := xbnd_all (P := P) (w := w) hmx hx
        obtain ⟨hh, hx, h2, -, -⟩ := xbnd_all (P := P) (w := w) hhi hx
        obtain ⟨ll, hx, h3, -, -⟩ := xbnd_all (P := P) (w := w) hlo hx
        exact ⟨_, _, hx, by simp, fun r => rfl, start _ len cap m hh ll hv' h1 h2 h3⟩
      | ptr n i j => obtain ⟨_, hx⟩ := bif_false hx'; exact hx.elim
      | _ => exact hx'.elim
  · rename_i hu
    split at hx
    · rename_i s
      cases vmx with
      | some _ => exact hmx.elim
      | none =>
        have hv' : v = .string s := (hv (by simp) []).symm
        subst hv'
        obtain ⟨hh, hx, h2, -, -⟩ := xbnd_all (P := P) (w := w) hhi hx
        obtain ⟨ll, hx, h3, -, -⟩ := xbnd_all (P := P) (w := w) hlo hx
        refine ⟨_, _, hx, by simp, fun r => rfl, ?_⟩
        simp only [Instr.sliceAt, Sem.run_bind, run_underlying' hu, Result.andThen_ok, Instr.slice, Option.isSome_none, Bool.false_eq_true, if_false, Sem.run_pure]
        rw [sliceBounds_run (m := s.size) (fun _ => rfl) h2 (fun _ => rfl) h3]
        rfl
    · exact hx.elim
  · rename_i n e hu
    exact xslArr_sound hu hv hlo hhi hmx hx
  · exact hx.elim

theorem xindexAddr_sound {t : TypeId} {x ix : SV} {v vi : Value} (hv : x ≠ .top → Std h x v) (hi : ix ≠ .top → Std h ix vi) (hx : xindexAddr P h t x ix K) : Ans P h w K (Instr.indexAt t v vi) := by
  unfold xindexAddr at hx
  split at hx
  · rename_i k i
    have hvi : vi = .int k i := (hi (by simp) []).symm
    subst hvi
    split at hx
    · rename_i e hu
      split at hx
      · exact hx.elim
      · rename_i inf hinf
        split at hx
        · rename_i n o len cap
          cases hw0 : wdIs h n inf.size with
          | false =>
            rw [hw0] at hx
            obtain ⟨hw, ⟨h1, h2⟩, hx⟩ := bif_false hx
            obtain ⟨l, hl, hloc⟩ := wdIs_loc hw
            have hv' : v = .slice (some ⟨l.1, (l.2.1 + o) * l.2.2, none⟩) len cap := by
              have := hv (by simp) []
              simp only [den, hloc []] at this
              exact this.symm
            subst hv'
            refine ⟨_, .pointer (some ⟨l.1, (l.2.1 + o) * l.2.2 + i.toNat * inf.size, none⟩), hx, by simp, fun r => ?_, ?_⟩
            · simp only [den, hloc r, hl, Nat.add_zero, Nat.mul_one]
              rw [← Nat.add_assoc]
            · simp only [Instr.indexAt, Sem.run_bind, asIntOf, Sem.run_pure, Result.andThen_ok, run_underlying' hu, h1, h2, and_self, if_true, run_sizeOf' hinf, addr_add]
          | true =>
          rw [hw0] at hx
          have hw := hw0
          obtain ⟨⟨h1, h2⟩, hx⟩ := hx
          obtain ⟨l, hl, hloc⟩ := wdIs_loc hw
          have hv' : v = .slice (some ⟨l.1, (l.2.1 + o) * l.2.2, none⟩) len cap := by
            have := hv (by simp) []
            simp only [den, hloc []] at this
            exact this.symm
          subst hv'
          refine ⟨_, .pointer (some ⟨l.1, (l.2.1 + o) * l.2.2 + i.toNat * inf.size, none⟩), hx, by simp, fun r => ?_, ?_⟩
          · simp only [den, hloc r, hl, Nat.add_zero]
            rw [← Nat.add_assoc, Nat.add_mul]
          · simp only [Instr.indexAt, Sem.run_bind, asIntOf, Sem.run_pure, Result.andThen_ok, run_underlying' hu, h1, h2, and_self, if_true, run_sizeOf' hinf, addr_add]
        · rename_i a len cap
          obtain ⟨⟨h1, h2⟩, b, x0, rfl, hx⟩ := hx
          have hv' : v = .slice (some ⟨b, x0, none⟩) len cap := (hv (by simp) []).symm
          subst hv'
          refine ⟨_, .pointer (some ⟨b, x0 + i.toNat * inf.size, none⟩), hx, by simp, fun r => rfl, ?_⟩
          simp only [Instr.indexAt, Sem.run_bind, asIntOf, Sem.run_pure, Result.andThen_ok, run_underlying' hu, h1, h2, and_self, if_true, run_sizeOf' hinf, addr_add]
        · rename_i a len cap
          obtain ⟨b, x0, rfl, ⟨h1, h2⟩, hx⟩ := rawA_spec hx
          have hv' : v = .slice (some ⟨b, x0, none⟩) len cap := (hv (by simp) []).symm
          subst hv'
          refine ⟨_, .pointer (some ⟨b, x0 + i.toNat * inf.size, none⟩), hx, by simp, fun r => rfl, ?_⟩
          simp only [Instr.indexAt, Sem.run_bind, asIntOf, Sem.run_pure, Result.andThen_ok, run_underlying' hu, h1, h2, and_self, if_true, run_sizeOf' hinf, addr_add]
        · exact hx.elim
    · rename_i ln e hu
      split at hx
      · exact hx.elim
      · rename_i inf hinf
        split at hx
        · rename_i n i0 j0
          obtain ⟨hw, hx⟩ := bif_false hx
          obtain ⟨hj, ⟨h1, h2⟩, hx2⟩ := bif_false hx
          have hj := Nat.eq_of_beq_eq_true hj
          subst hj
          obtain ⟨l, hl, hloc⟩ := wdIs_loc hw
          have hv' : v = .pointer (some ⟨l.1, (l.2.1 + i0) * l.2.2 + 0, none⟩) := by
            have := hv (by simp) []
            simp only [den, hloc []] at this
            exact this.symm
          subst hv'
          refine ⟨_, .pointer (some ⟨l.1, (l.2.1 + i0) * l.2.2 + i.toNat * inf.size, none⟩), hx2, by simp, fun r => ?_, ?_⟩
          · simp only [den, hloc r, hl, Nat.add_zero]
            rw [← Nat.add_assoc, Nat.add_mul]
          · simp only [Instr.indexAt, Sem.run_bind, asIntOf, Sem.run_pure, Result.andThen_ok, run_underlying' hu, Instr.sureAddr, h1, h2, and_self, if_true, run_sizeOf' hinf, addr_add, Nat.add_zero]
        · rename_i b x0
          obtain ⟨⟨h1, h2⟩, hx⟩ := hx
          have hv' : v = .pointer (some ⟨b, x0, none⟩) := (hv (by simp) []).symm
          subst hv'
          refine ⟨_, .pointer (some ⟨b, x0 + i.toNat * inf.size, none⟩), hx, by simp, fun r => rfl, ?_⟩
          simp only [Instr.indexAt, Sem.run_bind, asIntOf, Sem.run_pure, Result.andThen_ok, run_underlying' hu, Instr.sureAddr, h1, h2, and_self, if_true, run_sizeOf' hinf, addr_add]
        · exact hx.elim
    · exact hx.elim
  · exact hx.elim

theorem fieldN_get {fs : Array Field} {f : Nat} {fd : Field} (h : fieldN fs f = some fd) : fs[f]? = some fd := by simpa [fieldN] using h

theorem xfieldAddr_sound {s : TypeId} {x : SV} {v : Value} {f : Nat} (hv : x ≠ .top → Std h x v) (hx : xfieldAddr P s x f K) : Ans P h w K (Instr.fieldAt s v f) := by
  unfold xfieldAddr at hx
  split at hx
  · rename_i fs hu
    split at hx
    · exact hx.elim
    · rename_i fd hfd
      split at hx
      · exact hx.elim
      · rename_i inf hinf
        cases hz : Nat.beq inf.size 0 with
        | true => rw [hz] at hx; exact hx.elim
        | false =>
          rw [hz] at hx
          simp only [cond_false] at hx
          have hz' : inf.size ≠ 0 := fun h => by rw [h] at hz; cases hz
          split at hx
          · rename_i n i j
            have hv0 := hv (by simp)
            obtain ⟨a, ha⟩ : ∃ a, v = .pointer (some a) := ⟨_, (hv0 []).symm⟩
            subst ha
            have hspot : a.spot = none := by
              have := hv0 []
              simp only [den, Value.pointer.injEq, Option.some.injEq] at this
              rw [← this]
            refine ⟨_, .pointer (some (a.add fd.offset)), hx, by simp, fun r => ?_, ?_⟩
            · have := hv0 r
              simp only [den, Value.pointer.injEq, Option.some.injEq] at this ⊢
              rw [← this, addr_add, Nat.add_assoc]
            · simp only [Instr.fieldAt, Sem.run_bind, run_underlying' hu, Result.andThen_ok, fieldN_get hfd, Instr.sureAddr, Sem.run_pure, fieldPlace, run_sizeOf' hinf, hz', if_false]
          · rename_i b x0
            have hv' : v = .pointer (some ⟨b, x0, none⟩) := (hv (by simp) []).symm
            subst hv'
            refine ⟨_, .pointer (some ⟨b, x0 + fd.offset, none⟩), hx, by simp, fun r => rfl, ?_⟩
            simp only [Instr.fieldAt, Sem.run_bind, run_underlying' hu, Result.andThen_ok, fieldN_get hfd, Instr.sureAddr, Sem.run_pure, fieldPlace, run_sizeOf' hinf, hz', if_false, addr_add]
          · exact hx.elim
  · exact hx.elim

theorem subL_eq : ∀ (l : List SV) (o n : Nat), subL l o n = (l.drop o).take n
  | l, 0, n => by cases l <;> simp [subL]
  | [], o + 1, n => by simp [subL]
  | _ :: r, o + 1, n => by simp [subL, subL_eq r o n]

theorem xpart_sound {t : TypeId} {l : List SV} {off : Nat} {vs : Array Value} (hv : StdL h l vs.toList) (hx : xpart P t l off K) : Ans P h w K (part t vs off) := by
  unfold xpart at hx
  have agg : ∀ inf, P.info? t = some inf → (isAgg t).run P w = .ok true w → K (.agg (subL l off inf.size)) → Ans P h w K (part t vs off) := by
    intro inf hinf hag hx
    refine ⟨_, .agg (vs.extract off (off + inf.size)), hx, by simp, fun r => ?_, ?_⟩
    · simp only [den, Value.agg.injEq]
      apply Array.toList_inj.1
      have := hv r
      rw [denL_eq] at this ⊢
      rw [subL_eq, List.map_take, List.map_drop, this]
      simp [List.extract_eq_take_drop]
    · simp only [part, Sem.run_bind, hag, Result.andThen_ok, if_true, run_sizeOf' hinf, Sem.run_pure]
  split at hx
  · exact hx.elim
  · rename_i hu
    split at hx
    · exact hx.elim
    · exact agg _ (by assumption) (by simp [isAgg, run_underlying' hu]) hx
  · rename_i hu
    split at hx
    · exact hx.elim
    · exact agg _ (by assumption) (by simp [isAgg, run_underlying' hu]) hx
  · rename_i d hns hna hu
    obtain ⟨s, h1, h2⟩ := nth_get hx
    obtain ⟨h3, h4⟩ := nt_spec h2
    have hc : ∀ r, vs[off]? = some (den (locs h ++ r) s) := fun r => by
      have := hv r
      rw [denL_eq] at this
      have h5 : vs.toList[off]? = some (den (locs h ++ r) s) := by rw [← this, List.getElem?_map, h1]; rfl
      simpa using h5
    refine ⟨s, den (locs h ++ []) s, h4, h3, fun r => ?_, ?_⟩
    · have := hc r
      rw [hc []] at this
      exact (Option.some.inj this).symm
    · have hag : (isAgg t).run P w = .ok false w := by
        simp only [isAgg, Sem.run_bind, run_underlying' hu, Result.andThen_ok]
        cases d <;> first | rfl | exact absurd rfl (hns _) | exact absurd rfl (hna _ _)
      simp only [part, Sem.run_bind, hag, Result.andThen_ok, Bool.false_eq_true, if_false, hc [], Sem.run_pure]

theorem xfield_sound {t : TypeId} {x : SV} {v : Value} {f : Nat} (hv : x ≠ .top → Std h x v) (hx : xfield P t x f K) : Ans P h w K (Instr.field t v f) := by
  unfold xfield at hx
  split at hx
  · rename_i fs hu
    split at hx
    · exact hx.elim
    · rename_i fd hfd
      split at hx
      · rename_i l
        have hv0 := hv (by simp)
        obtain ⟨vs, hvs⟩ : ∃ vs, v = .agg vs := ⟨_, (hv0 []).symm⟩
        subst hvs
        have hl : StdL h l vs.toList := fun r => by
          have := hv0 r
          simp only [den, Value.agg.injEq] at this
          rw [← this]
        obtain ⟨s, v, h1, h2, h3, h4⟩ := xpart_sound (w := w) hl hx
        refine ⟨s, v, h1, h2, h3, ?_⟩
        simp only [Instr.field, Sem.run_bind, run_underlying' hu, Result.andThen_ok, fieldN_get hfd, asAgg, Sem.run_pure, h4]
      · exact hx.elim
  · exact hx.elim

end
end Go.Sx
