/-
  No cell of these rows narrows 'for every input' (looked for: loops, veiled, ifaces, maps, wideKeys, modest, calm, conditions, laid).
  DERIVED. THE GIVEN ROWS OF THIS SEAT. 6 by the template 'for every input the law returns true; each argument reads behind the call as it read before'; 0 by the template 'total and deterministic' (their statements: YtmjhfnmkegdafaaTotals.lean).
  GIVEN WITH THE SEED: the statements are not yours to turn. If you find one false, say at which input.
  Laid BY PROGRAM, IN A SANDBOX (cutbox-rows.mjs): the forced cells as the released guide's own fill.sh prints them over the translation cb41d82f7e1c08d5… (all of the seat's roots in one cut). By AI agents, Wed Nov 11 2026. No macro, syntax, notation, axiom, sorry.
-/
import Derived.Test.YtmjhfnmkegdafaaChecked
import GoSem.Claim
import GoSem.ClaimJoined
import GoSem.ClaimMapViews
import Derived.JoinedTies
import Derived.KernelRfl
namespace Go.Proofs.Ytmjhfnmkegdafaa
/- THE CELL 'sum', in the pinned program and in every row, IS THE sha256 OF THE DUMP (.gsa) THAT YtmjhfnmkegdafaaProg.lean LOADS. Nothing in Lean hashes anything: it is a label: what it is worth is what the hold of that sum in a sandbox is worth. -/
noncomputable def Try.pinned : Pinned := { name := "ytmjhfnmkegdafaa", sum := "cb41d82f7e1c08d5e502b978b82e3cff4e5495649390f2fb762ec66a56122c24", checked := Try.checked }
namespace Rows
def none {H : Type} : Left H := { results := [], args := [] }

/-- 'flumelaw02.SpanSkips': WHATEVER THE INPUT: true; the input reads as it did. -/
def spanSkipsSpec : ChangeSpec := { name := "spanSkips", fn := fun _ => fun
  | [d1, d2, d3] => { results := [.lit (.bool true)], args := [d1, d2, d3] }
  | _ => none }
def spanSkipsRow : OpenClaim := { program := "ytmjhfnmkegdafaa", sum := "cb41d82f7e1c08d5e502b978b82e3cff4e5495649390f2fb762ec66a56122c24", func := "flume/flumelaw02.SpanSkips", spec := "spanSkips", inPlace := ["slices.overlaps[flume/span.row]"], unfollowed := true, recurses := true, apart := false }
def SpanSkipsSaid : Prop := spanSkipsRow.holds Try.pinned (OpenSpec.ofChange spanSkipsSpec)

/-- ITS FALSE NEIGHBOUR: 'it returns false'. Refute it at one input. -/
def spanSkipsWrong : ChangeSpec := { name := "spanSkips", fn := fun _ => fun
  | [d1, d2, d3] => { results := [.lit (.bool false)], args := [d1, d2, d3] }
  | _ => none }
def SpanSkipsWrongFalsely : Prop := spanSkipsRow.holds Try.pinned (OpenSpec.ofChange spanSkipsWrong)

/-- 'flumelaw02.SpanPlays': WHATEVER THE INPUT: true; the input reads as it did. -/
def spanPlaysSpec : ChangeSpec := { name := "spanPlays", fn := fun _ => fun
  | [d1, d2, d3] => { results := [.lit (.bool true)], args := [d1, d2, d3] }
  | _ => none }
def spanPlaysRow : OpenClaim := { program := "ytmjhfnmkegdafaa", sum := "cb41d82f7e1c08d5e502b978b82e3cff4e5495649390f2fb762ec66a56122c24", func := "flume/flumelaw02.SpanPlays", spec := "spanPlays", inPlace := ["slices.overlaps[flume/span.row]"], unfollowed := true, recurses := true, apart := false }
def SpanPlaysSaid : Prop := spanPlaysRow.holds Try.pinned (OpenSpec.ofChange spanPlaysSpec)

/-- ITS FALSE NEIGHBOUR: 'it returns false'. Refute it at one input. -/
def spanPlaysWrong : ChangeSpec := { name := "spanPlays", fn := fun _ => fun
  | [d1, d2, d3] => { results := [.lit (.bool false)], args := [d1, d2, d3] }
  | _ => none }
def SpanPlaysWrongFalsely : Prop := spanPlaysRow.holds Try.pinned (OpenSpec.ofChange spanPlaysWrong)

/-- 'flumelaw02.SpanOrder': WHATEVER THE INPUT: true; the input reads as it did. -/
def spanOrderSpec : ChangeSpec := { name := "spanOrder", fn := fun _ => fun
  | [d1, d2, d3] => { results := [.lit (.bool true)], args := [d1, d2, d3] }
  | _ => none }
def spanOrderRow : OpenClaim := { program := "ytmjhfnmkegdafaa", sum := "cb41d82f7e1c08d5e502b978b82e3cff4e5495649390f2fb762ec66a56122c24", func := "flume/flumelaw02.SpanOrder", spec := "spanOrder", inPlace := ["slices.overlaps[flume/span.row]"], unfollowed := true, recurses := true, apart := false }
def SpanOrderSaid : Prop := spanOrderRow.holds Try.pinned (OpenSpec.ofChange spanOrderSpec)

/-- ITS FALSE NEIGHBOUR: 'it returns false'. Refute it at one input. -/
def spanOrderWrong : ChangeSpec := { name := "spanOrder", fn := fun _ => fun
  | [d1, d2, d3] => { results := [.lit (.bool false)], args := [d1, d2, d3] }
  | _ => none }
def SpanOrderWrongFalsely : Prop := spanOrderRow.holds Try.pinned (OpenSpec.ofChange spanOrderWrong)

/-- 'flumelaw02.SpanRound': WHATEVER THE INPUT: true; the input reads as it did. -/
def spanRoundSpec : ChangeSpec := { name := "spanRound", fn := fun _ => fun
  | [d1, d2, d3] => { results := [.lit (.bool true)], args := [d1, d2, d3] }
  | _ => none }
def spanRoundRow : OpenClaim := { program := "ytmjhfnmkegdafaa", sum := "cb41d82f7e1c08d5e502b978b82e3cff4e5495649390f2fb762ec66a56122c24", func := "flume/flumelaw02.SpanRound", spec := "spanRound", inPlace := ["slices.overlaps[flume/span.row]"], unfollowed := true, recurses := true, apart := false }
def SpanRoundSaid : Prop := spanRoundRow.holds Try.pinned (OpenSpec.ofChange spanRoundSpec)

/-- ITS FALSE NEIGHBOUR: 'it returns false'. Refute it at one input. -/
def spanRoundWrong : ChangeSpec := { name := "spanRound", fn := fun _ => fun
  | [d1, d2, d3] => { results := [.lit (.bool false)], args := [d1, d2, d3] }
  | _ => none }
def SpanRoundWrongFalsely : Prop := spanRoundRow.holds Try.pinned (OpenSpec.ofChange spanRoundWrong)

/-- 'flumelaw02.SpanFill': WHATEVER THE INPUT: true; the input reads as it did. -/
def spanFillSpec : ChangeSpec := { name := "spanFill", fn := fun _ => fun
  | [d1, d2] => { results := [.lit (.bool true)], args := [d1, d2] }
  | _ => none }
def spanFillRow : OpenClaim := { program := "ytmjhfnmkegdafaa", sum := "cb41d82f7e1c08d5e502b978b82e3cff4e5495649390f2fb762ec66a56122c24", func := "flume/flumelaw02.SpanFill", spec := "spanFill", inPlace := ["slices.overlaps[flume/span.row]"], unfollowed := true, recurses := true, apart := false }
def SpanFillSaid : Prop := spanFillRow.holds Try.pinned (OpenSpec.ofChange spanFillSpec)

/-- ITS FALSE NEIGHBOUR: 'it returns false'. Refute it at one input. -/
def spanFillWrong : ChangeSpec := { name := "spanFill", fn := fun _ => fun
  | [d1, d2] => { results := [.lit (.bool false)], args := [d1, d2] }
  | _ => none }
def SpanFillWrongFalsely : Prop := spanFillRow.holds Try.pinned (OpenSpec.ofChange spanFillWrong)

/-- 'flumelaw02.SpanRows': WHATEVER THE INPUT: true; the input reads as it did. -/
def spanRowsSpec : ChangeSpec := { name := "spanRows", fn := fun _ => fun
  | [d1, d2] => { results := [.lit (.bool true)], args := [d1, d2] }
  | _ => none }
def spanRowsRow : OpenClaim := { program := "ytmjhfnmkegdafaa", sum := "cb41d82f7e1c08d5e502b978b82e3cff4e5495649390f2fb762ec66a56122c24", func := "flume/flumelaw02.SpanRows", spec := "spanRows", inPlace := ["slices.overlaps[flume/span.row]"], unfollowed := true, recurses := true, apart := false }
def SpanRowsSaid : Prop := spanRowsRow.holds Try.pinned (OpenSpec.ofChange spanRowsSpec)

/-- ITS FALSE NEIGHBOUR: 'it returns false'. Refute it at one input. -/
def spanRowsWrong : ChangeSpec := { name := "spanRows", fn := fun _ => fun
  | [d1, d2] => { results := [.lit (.bool false)], args := [d1, d2] }
  | _ => none }
def SpanRowsWrongFalsely : Prop := spanRowsRow.holds Try.pinned (OpenSpec.ofChange spanRowsWrong)

/- THE SECOND FORM. 'bulk': how many values and letters a reading holds, each counted each time it is reached (what is shared counts as often as it is met; a slice's spare places count too). A statement '..UptoSaid' is the law's where the arguments, and the package variables that the reading takes, are together of bulk at most 1048576: NARROWER than '..Said'. Prove '..Said' where nothing that the law and all that it calls make is longer than what came in: it says more and counts as full. Else prove '..UptoSaid'. A law counts once. -/
mutual
def uptoBulk {H : Type} : DataW H → Nat
  | .lit (.string bytes) => bytes.length + 1
  | .lit _ => 1
  | .nil => 1
  | .ptr d => uptoBulk d + 1
  | .slice elems spare => uptoBulkAll elems + uptoBulkAll spare + 1
  | .agg parts => uptoBulkAll parts + 1
  | .iface _ d => uptoBulk d + 1
  | .map entries => uptoBulkEntries entries + 1
  | .held _ => 1
def uptoBulkAll {H : Type} : List (DataW H) → Nat
  | [] => 0
  | d :: r => uptoBulk d + uptoBulkAll r
def uptoBulkEntries {H : Type} : List (Lit × DataW H) → Nat
  | [] => 0
  | x :: r => uptoBulkEntry x + uptoBulkEntries r
def uptoBulkEntry {H : Type} : Lit × DataW H → Nat
  | (.string bytes, d) => bytes.length + uptoBulk d + 1
  | (_, d) => uptoBulk d + 1
 end
def uptoSmall : (H : Type) → List (DataW H) → Bool := fun _ ds => decide (uptoBulkAll ds ≤ 1048576)
def OpenSpec.upto (s : _root_.Go.ChangeSpec) : _root_.Go.OpenSpec := { _root_.Go.OpenSpec.ofChange s with cond := some uptoSmall }

/-- 'flumelaw02.SpanSkips', WHERE WHAT IT READS IS OF BULK AT MOST 1048576: true; the input reads as it did. -/
def spanSkipsUptoRow : OpenClaim := { program := "ytmjhfnmkegdafaa", sum := "cb41d82f7e1c08d5e502b978b82e3cff4e5495649390f2fb762ec66a56122c24", func := "flume/flumelaw02.SpanSkips", spec := "spanSkips", inPlace := ["slices.overlaps[flume/span.row]"], unfollowed := true, recurses := true, apart := false, narrowed := true }
def SpanSkipsUptoSaid : Prop := spanSkipsUptoRow.holds Try.pinned (OpenSpec.upto spanSkipsSpec)

/-- 'flumelaw02.SpanPlays', WHERE WHAT IT READS IS OF BULK AT MOST 1048576: true; the input reads as it did. -/
def spanPlaysUptoRow : OpenClaim := { program := "ytmjhfnmkegdafaa", sum := "cb41d82f7e1c08d5e502b978b82e3cff4e5495649390f2fb762ec66a56122c24", func := "flume/flumelaw02.SpanPlays", spec := "spanPlays", inPlace := ["slices.overlaps[flume/span.row]"], unfollowed := true, recurses := true, apart := false, narrowed := true }
def SpanPlaysUptoSaid : Prop := spanPlaysUptoRow.holds Try.pinned (OpenSpec.upto spanPlaysSpec)

/-- 'flumelaw02.SpanOrder', WHERE WHAT IT READS IS OF BULK AT MOST 1048576: true; the input reads as it did. -/
def spanOrderUptoRow : OpenClaim := { program := "ytmjhfnmkegdafaa", sum := "cb41d82f7e1c08d5e502b978b82e3cff4e5495649390f2fb762ec66a56122c24", func := "flume/flumelaw02.SpanOrder", spec := "spanOrder", inPlace := ["slices.overlaps[flume/span.row]"], unfollowed := true, recurses := true, apart := false, narrowed := true }
def SpanOrderUptoSaid : Prop := spanOrderUptoRow.holds Try.pinned (OpenSpec.upto spanOrderSpec)

/-- 'flumelaw02.SpanRound', WHERE WHAT IT READS IS OF BULK AT MOST 1048576: true; the input reads as it did. -/
def spanRoundUptoRow : OpenClaim := { program := "ytmjhfnmkegdafaa", sum := "cb41d82f7e1c08d5e502b978b82e3cff4e5495649390f2fb762ec66a56122c24", func := "flume/flumelaw02.SpanRound", spec := "spanRound", inPlace := ["slices.overlaps[flume/span.row]"], unfollowed := true, recurses := true, apart := false, narrowed := true }
def SpanRoundUptoSaid : Prop := spanRoundUptoRow.holds Try.pinned (OpenSpec.upto spanRoundSpec)

/-- 'flumelaw02.SpanFill', WHERE WHAT IT READS IS OF BULK AT MOST 1048576: true; the input reads as it did. -/
def spanFillUptoRow : OpenClaim := { program := "ytmjhfnmkegdafaa", sum := "cb41d82f7e1c08d5e502b978b82e3cff4e5495649390f2fb762ec66a56122c24", func := "flume/flumelaw02.SpanFill", spec := "spanFill", inPlace := ["slices.overlaps[flume/span.row]"], unfollowed := true, recurses := true, apart := false, narrowed := true }
def SpanFillUptoSaid : Prop := spanFillUptoRow.holds Try.pinned (OpenSpec.upto spanFillSpec)

/-- 'flumelaw02.SpanRows', WHERE WHAT IT READS IS OF BULK AT MOST 1048576: true; the input reads as it did. -/
def spanRowsUptoRow : OpenClaim := { program := "ytmjhfnmkegdafaa", sum := "cb41d82f7e1c08d5e502b978b82e3cff4e5495649390f2fb762ec66a56122c24", func := "flume/flumelaw02.SpanRows", spec := "spanRows", inPlace := ["slices.overlaps[flume/span.row]"], unfollowed := true, recurses := true, apart := false, narrowed := true }
def SpanRowsUptoSaid : Prop := spanRowsUptoRow.holds Try.pinned (OpenSpec.upto spanRowsSpec)

end Rows
end Go.Proofs.Ytmjhfnmkegdafaa
