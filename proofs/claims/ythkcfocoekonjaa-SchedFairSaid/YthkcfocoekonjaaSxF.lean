/- All quiet operations together. -/
import Derived.Test.YthkcfocoekonjaaSxE
set_option linter.unusedVariables false
set_option linter.unusedSimpArgs false
namespace Go.Sx
open Classical

def nt (s : SV) (K : SV → Prop) : Prop :=
  match s with
  | .top => False
  | s => K s
theorem nt_spec {s : SV} {K : SV → Prop} (h : nt s K) : s ≠ .top ∧ K s := by
  cases s <;> first | exact h.elim | exact ⟨by simp, h⟩

def wdIs (h : List Ent) (n size : Nat) : Bool :=
  match entAt h n with
  | some e => Nat.beq e.loc.2.2 size
  | none => false

def xbnd (x : Option SV) (dflt ub : Nat) (K : Nat → Prop) : Prop :=
  match x with
  | none => K dflt
  | some (.val (.int _ i)) => (0 ≤ i ∧ i ≤ (ub : Int)) ∧ K i.toNat
  | some _ => False

def xslice3 (x : SV) (lo hi mx : Option SV) (K : SV → Prop) : Prop :=
  match x with
  | .slc n o len cap => xbnd mx cap cap fun m => xbnd hi len m fun hh =>
      (match lo with
       | none => K (.slc n o hh m)
       | some l => xbnd (some l) 0 hh fun ll => K (.slc n (if m = ll then o else o + ll) (hh - ll) (m - ll)))
  | .val (.slice none len cap) => xbnd mx cap cap fun m => xbnd hi len m fun hh => xbnd lo 0 hh fun ll => K (.val (.slice none (hh - ll) (m - ll)))
  | _ => False

def wdFits (h : List Ent) (x : SV) (size : Nat) (A : Prop) : Prop :=
  match x with
  | .slc n _ _ _ => bif wdIs h n size then A else False
  | .ptr n _ _ => bif wdIs h n size then A else False
  | .val (.slice none _ _) => A
  | _ => False

def xslice (P : Program) (h : List Ent) (t : TypeId) (x : SV) (lo hi mx : Option SV) (K : SV → Prop) : Prop :=
  match P.underlying t with
  | some (.slice e) =>
    (match P.info? e with
     | none => False
     | some inf => match hi, mx with
       | none, some _ => False
       | hi, mx => wdFits h x inf.size (xslice3 x lo hi mx K))
  | some .string =>
    (match mx, x with
     | none, .val (.string s) => xbnd hi s.size s.size fun hh => xbnd lo 0 hh fun ll => K (.val (.string (s.extract ll hh)))
     | _, _ => False)
  | _ => False

def xindexAddr (P : Program) (h : List Ent) (t : TypeId) (x ix : SV) (K : SV → Prop) : Prop :=
  match ix with
  | .val (.int _ i) =>
    (match P.underlying t with
     | some (.slice e) =>
       (match P.info? e with
        | none => False
        | some inf => match x with
          | .slc n o len _ => bif wdIs h n inf.size then (0 ≤ i ∧ i < (len : Int)) ∧ K (.ptr n (o + i.toNat) 0)
              else bif wdIs h n 1 then (0 ≤ i ∧ i < (len : Int)) ∧ K (.ptr n (o + i.toNat * inf.size) 0) else False
          | _ => False)
     | some (.array ln e) =>
       (match P.info? e with
        | none => False
        | some inf => match x with
          | .ptr n i0 j0 => bif wdIs h n inf.size then (bif Nat.beq j0 0 then (0 ≤ i ∧ i < (ln : Int)) ∧ K (.ptr n (i0 + i.toNat) 0) else False) else False
          | _ => False)
     | _ => False)
  | _ => False

def fieldN (fs : Array Field) (f : Nat) : Option Field := fs.toList[f]?

def xfieldAddr (P : Program) (s : TypeId) (x : SV) (f : Nat) (K : SV → Prop) : Prop :=
  match P.underlying s with
  | some (.struct fs) =>
    (match fieldN fs f with
     | none => False
     | some fd => match P.info? fd.type with
       | none => False
       | some inf => bif Nat.beq inf.size 0 then False else
         (match x with
          | .ptr n i j => K (.ptr n i (j + fd.offset))
          | _ => False))
  | _ => False

def subL : List SV → Nat → Nat → List SV
  | l, 0, n => l.take n
  | [], _ + 1, _ => []
  | _ :: r, o + 1, n => subL r o n

def xpart (P : Program) (t : TypeId) (l : List SV) (off : Nat) (K : SV → Prop) : Prop :=
  match P.underlying t with
  | none => False
  | some (.struct _) => (match P.info? t with | none => False | some inf => K (.agg (subL l off inf.size)))
  | some (.array _ _) => (match P.info? t with | none => False | some inf => K (.agg (subL l off inf.size)))
  | some _ => nth l off fun s => nt s K

def xfield (P : Program) (t : TypeId) (x : SV) (f : Nat) (K : SV → Prop) : Prop :=
  match P.underlying t with
  | some (.struct fs) =>
    (match fieldN fs f with
     | none => False
     | some fd => match x with
       | .agg l => xpart P fd.type l fd.offset K
       | _ => False)
  | _ => False

/-- A key's value: it names no position. -/
def ksIs : KS → SV → Option Value
  | .int k, .val (.int k' n) => bif kEqB k k' then some (.int k' n) else none
  | .bool, .tt => some (.bool true)
  | .bool, .ff => some (.bool false)
  | .bool, .val (.bool b) => some (.bool b)
  | .str, .val (.string s) => some (.string s)
  | _, _ => none
def ksIsL : List KS → List SV → Option (List Value)
  | [], [] => some []
  | s :: ss, v :: vs => match ksIs s v, ksIsL ss vs with
    | some a, some b => some (a :: b)
    | _, _ => none
  | _, _ => none
def keyVal : KShape → SV → Option Value
  | .one s, v => ksIs s v
  | .many l, .agg vs => match ksIsL l vs with
    | some a => some (.agg a.toArray)
    | none => none
  | _, _ => none

def xlookup (P : Program) (h : List Ent) (t : TypeId) (x ix : SV) (commaOk : Bool) (K : SV → Prop) : Prop :=
  match P.underlying t with
  | some (.map kt et) =>
    (match P.info? et with
     | none => False
     | some inf => match inf.zero with
       | none => False
       | some z => match x with
         | .mp n => (match entAt h n with
           | some (.own _ (.map ks m _)) => bif keyOk P kt ks then (match keyVal ks ix with
             | some k => bif commaOk then K (.tup [.val ((m k).getD z), .prop ((m k).isSome = true)]) else K (.val ((m k).getD z))
             | none => False) else False
           | _ => False)
         | _ => False)
  | _ => False

def xextract (x : SV) (i : Nat) (K : SV → Prop) : Prop :=
  match x with
  | .tup l => nth l i fun s => nt s K
  | _ => False

def xlen (P : Program) (t : TypeId) (x : SV) (K : SV → Prop) : Prop :=
  match P.underlying t with
  | some (.slice _) => (match x with
    | .slc _ _ len _ => K (.val (.int .i64 (len : Int)))
    | .val (.slice _ len _) => K (.val (.int .i64 (len : Int)))
    | _ => False)
  | some .string => (match x with | .val (.string s) => K (.val (.int .i64 (s.size : Int))) | _ => False)
  | some (.array n _) => nt x fun _ => K (.val (.int .i64 (n : Int)))
  | some (.map _ _) => (match x with | .val (.map none) => K (.val (.int .i64 0)) | _ => False)
  | _ => False
def xcap (P : Program) (t : TypeId) (x : SV) (K : SV → Prop) : Prop :=
  match P.underlying t with
  | some (.slice _) => (match x with
    | .slc _ _ _ cap => K (.val (.int .i64 (cap : Int)))
    | .val (.slice _ _ cap) => K (.val (.int .i64 (cap : Int)))
    | _ => False)
  | _ => False

def xminmax (f : Int → Int → Int) : SV → List SV → (SV → Prop) → Prop
  | .val (.int k a), [], K => K (.val (.int k a))
  | .val (.int k a), .val (.int k' b) :: r, K => kSame k k' (xminmax f (.val (.int k (f a b))) r K)
  | _, _, _ => False

def bstr (xs : List Int) (o len : Nat) : ByteArray := ⟨(((xs.drop o).take len).map fun n => UInt8.ofNat n.toNat).toArray⟩

def isU8 (P : Program) (e : TypeId) : Bool :=
  match P.underlying e with
  | some (.int .u8) => true
  | _ => false

def xconvert (P : Program) (h : List Ent) (src dst : TypeId) (x : SV) (K : SV → Prop) : Prop :=
  match P.underlying src, P.underlying dst with
  | some _, some (.int k) => (match x with | .val (.int _ n) => K (.val (.int k (k.wrap n))) | _ => False)
  | some .string, some .string => (match x with | .val (.string s) => K (.val (.string s)) | _ => False)
  | some (.slice e), some .string => bif isU8 P e then (match x with
      | .val (.slice none _ _) => K (.val (.string ByteArray.empty))
      | .slc n o len _ => (match entAt h n with
        | some (.own _ (.tab _ _ N [.ints .u8 xs])) => o + len ≤ N ∧ K (.val (.string (bstr xs o len)))
        | some (.ro _ (.tab _ _ N [.ints .u8 xs])) => o + len ≤ N ∧ K (.val (.string (bstr xs o len)))
        | _ => False)
      | _ => False) else False
  | _, _ => False

def isIface (P : Program) (t : TypeId) : Bool :=
  match P.underlying t with
  | some (.interface _) => true
  | _ => false

def xassert (P : Program) (x : SV) (asserted : TypeId) (commaOk : Bool) (K : SV → Prop) : Prop :=
  match P.underlying asserted with
  | none => False
  | some (.interface _) => False
  | some _ => match x with
    | .ifc t v => bif Nat.beq t asserted then nt v (fun v => bif commaOk then K (.tup [v, .tt]) else K v) else False
    | _ => False

def mapE (e : Operand → SV) : List Operand → List SV
  | [] => []
  | x :: r => e x :: mapE e r
def noTop : List SV → Bool
  | [] => true
  | .top :: _ => false
  | _ :: r => noTop r

def cellsS : SV → List SV
  | .agg l => l
  | .val (.agg cs) => svL cs.toList
  | s => [s]
def setL : List SV → Nat → List SV → List SV
  | l, 0, v => v ++ l.drop v.length
  | [], _ + 1, _ => []
  | a :: r, o + 1, v => a :: setL r o v
def lenS : List SV → Nat
  | [] => 0
  | _ :: r => lenS r + 1
def placesL (P : Program) : List Field → Option (List (Nat × Nat))
  | [] => some []
  | f :: fs => match P.info? f.type, placesL P fs with
    | some inf, some r => some ((f.offset, inf.size) :: r)
    | _, _ => none
def xfill (pl : Nat → Option (Nat × Nat)) (z : List SV) : List (Nat × SV) → (List SV → Prop) → Prop
  | [], K => K z
  | (i, v) :: r, K => match pl i with
    | none => False
    | some (off, size) => bif Nat.beq (lenS (cellsS v)) size && (Nat.ble (off + lenS (cellsS v)) (lenS z) && noTop (cellsS v)) then xfill pl (setL z off (cellsS v)) r K else False
def mapP (e : Operand → SV) : List (Nat × Operand) → List (Nat × SV)
  | [] => []
  | (i, x) :: r => (i, e x) :: mapP e r
def xbuild (P : Program) (t : TypeId) (parts : List (Nat × SV)) (K : SV → Prop) : Prop :=
  match P.info? t with
  | none => False
  | some inf => match inf.zero with
    | none => False
    | some z => match P.underlying t with
      | some (.struct fs) => (match placesL P fs.toList with
        | none => False
        | some pl => xfill (fun i => pl[i]?) (svL z.cells.toList) parts fun l => K (.agg l))
      | _ => False

def xpick (c a b : SV) (K : SV → Prop) : Prop :=
  match c with
  | .tt => nt a K
  | .ff => nt b K
  | .prop p => (match a, b with
    | .tt, b => (match isB b with | some q => K (.prop (p ∨ q)) | none => False)
    | a, .ff => (match isB a with | some q => K (.prop (p ∧ q)) | none => False)
    | a, b => (p → nt a K) ∧ (¬ p → nt b K))
  | .val (.bool x) => (match a, b with
    | .tt, b => (match isB b with | some q => K (.prop (x = true ∨ q)) | none => False)
    | a, .ff => (match isB a with | some q => K (.prop (x = true ∧ q)) | none => False)
    | a, b => (x = true → nt a K) ∧ (x = false → nt b K))
  | _ => False

def xun (op : UnOp) (x : SV) (K : SV → Prop) : Prop :=
  match op, x with
  | .not, .tt => K .ff
  | .not, .ff => K .tt
  | .not, .prop p => K (.prop (¬ p))
  | .not, .val (.bool b) => K (.prop (b = false))
  | .neg, .val (.int k n) => K (.val (.int k (k.wrap (0 - n))))
  | .xor, .val (.int k n) => K (.val (.int k (ixor k (if k.signed then -1 else k.max) n)))
  | _, _ => False

def isConstO : Operand → Bool
  | .const _ => true
  | _ => false

/-- Comparing interface values. -/
def xifc (P : Program) (neg : Bool) (cst : Bool) (x y : SV) (K : SV → Prop) : Prop :=
  match x, y with
  | .val .nilIface, .val .nilIface => bif cst then K (bSV (!neg)) else False
  | .val .nilIface, .ifc _ _ => K (bSV neg)
  | .ifc _ _, .val .nilIface => K (bSV neg)
  | _, _ => False

def xq (P : Program) (h : List Ent) (e : Operand → SV) (op : Op) (K : SV → Prop) : Prop :=
  match op with
  | .move x => nt (e x) K
  | .assign x => nt (e x) K
  | .pick c a b => xpick (e c) (e a) (e b) K
  | .load t x => (match e x with | .ptr n i j => xload P h n i j t K | _ => False)
  | .nilCheck x => (match e x with | .ptr n i j => K (.ptr n i j) | .fn f c => K (.fn f c) | _ => False)
  | .binOp op t x y _ => bif isIface P t then (match op with | .eql => xifc P false (isConstO x || isConstO y) (e x) (e y) K | .neq => xifc P true (isConstO x || isConstO y) (e x) (e y) K | _ => False) else xbin P op t (e x) (e y) K
  | .unOp op _ x => xun op (e x) K
  | .convert s d x => xconvert P h s d (e x) K
  | .slice t x lo hi mx => xslice P h t (e x) (lo.map e) (hi.map e) (mx.map e) K
  | .fieldAddr s x f => xfieldAddr P s (e x) f K
  | .field t x f => xfield P t (e x) f K
  | .indexAddr t x ix => xindexAddr P h t (e x) (e ix) K
  | .lookup t x ix ok => xlookup P h t (e x) (e ix) ok K
  | .extract x i => xextract (e x) i K
  | .makeInterface t x => nt (e x) fun v => (match P.underlying t with | none => False | some (.interface _) => False | some _ => K (.ifc t v))
  | .makeFunc (.func f) first caps => (match first.toList with | [] => bif noTop (mapE e caps.toList) then K (.fn f (mapE e caps.toList)) else False | _ => False)
  | .typeAssert x _ asserted ok => xassert P (e x) asserted ok K
  | .build t parts => xbuild P t (mapP e parts.toList) K
  | .call { callee := .builtin b, args := args, argTypes := ts } =>
    (match b, mapE e args.toList, ts.toList with
     | .len, x :: _, t :: _ => xlen P t x K
     | .cap, x :: _, t :: _ => xcap P t x K
     | .min, x :: r, _ => xminmax min x r K
     | .max, x :: r, _ => xminmax max x r K
     | _, _, _ => False)
  | _ => False

end Go.Sx
