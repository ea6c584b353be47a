/-
  No cell of these rows narrows 'for every input' (looked for: loops, veiled, ifaces, maps, wideKeys, modest, calm, conditions, laid).
  DERIVED. THE GIVEN ROWS OF THIS SEAT. 11 by the template 'for every input the law returns true; each argument reads behind the call as it read before'; 0 by the template 'total and deterministic' (their statements: YthkcfocoekonjaaTotals.lean).
  GIVEN WITH THE SEED: the statements are not yours to turn. If you find one false, say at which input.
  Laid BY PROGRAM, IN A SANDBOX (cutbox-rows.mjs): the forced cells as the released guide's own fill.sh prints them over the translation ae65064544584b07… (all of the seat's roots in one cut). By AI agents, Wed Nov 11 2026. No macro, syntax, notation, axiom, sorry.
-/
import Derived.Test.YthkcfocoekonjaaChecked
import GoSem.Claim
import GoSem.ClaimJoined
import GoSem.ClaimMapViews
import Derived.JoinedTies
import Derived.KernelRfl
namespace Go.Proofs.Ythkcfocoekonjaa
/- THE CELL 'sum', in the pinned program and in every row, IS THE sha256 OF THE DUMP (.gsa) THAT YthkcfocoekonjaaProg.lean LOADS. Nothing in Lean hashes anything: it is a label: what it is worth is what the hold of that sum in a sandbox is worth. -/
noncomputable def Try.pinned : Pinned := { name := "ythkcfocoekonjaa", sum := "ae65064544584b07fba9651f9e46bddee07074732fba98e0af452ba19dca5e5f", checked := Try.checked }
namespace Rows
def none {H : Type} : Left H := { results := [], args := [] }

/-- 'flumelaw17.SchedFair': WHATEVER THE INPUT: true; the input reads as it did. -/
def schedFairSpec : ChangeSpec := { name := "schedFair", fn := fun _ => fun
  | [d] => { results := [.lit (.bool true)], args := [d] }
  | _ => none }
def schedFairRow : OpenClaim := { program := "ythkcfocoekonjaa", sum := "ae65064544584b07fba9651f9e46bddee07074732fba98e0af452ba19dca5e5f", func := "flume/flumelaw17.SchedFair", spec := "schedFair", plainKeys := false, apart := false }
def SchedFairSaid : Prop := schedFairRow.holds Try.pinned (OpenSpec.ofChange schedFairSpec)

/-- ITS FALSE NEIGHBOUR: 'it returns false'. Refute it at one input. -/
def schedFairWrong : ChangeSpec := { name := "schedFair", fn := fun _ => fun
  | [d] => { results := [.lit (.bool false)], args := [d] }
  | _ => none }
def SchedFairWrongFalsely : Prop := schedFairRow.holds Try.pinned (OpenSpec.ofChange schedFairWrong)

/-- 'flumelaw15.FlightMarks': WHATEVER THE INPUT: true; the input reads as it did. -/
def flightMarksSpec : ChangeSpec := { name := "flightMarks", fn := fun _ => fun
  | [d1, d2, d3] => { results := [.lit (.bool true)], args := [d1, d2, d3] }
  | _ => none }
def flightMarksRow : OpenClaim := { program := "ythkcfocoekonjaa", sum := "ae65064544584b07fba9651f9e46bddee07074732fba98e0af452ba19dca5e5f", func := "flume/flumelaw15.FlightMarks", spec := "flightMarks", unfollowed := true, recurses := true, plainKeys := false, apart := false }
def FlightMarksSaid : Prop := flightMarksRow.holds Try.pinned (OpenSpec.ofChange flightMarksSpec)

/-- ITS FALSE NEIGHBOUR: 'it returns false'. Refute it at one input. -/
def flightMarksWrong : ChangeSpec := { name := "flightMarks", fn := fun _ => fun
  | [d1, d2, d3] => { results := [.lit (.bool false)], args := [d1, d2, d3] }
  | _ => none }
def FlightMarksWrongFalsely : Prop := flightMarksRow.holds Try.pinned (OpenSpec.ofChange flightMarksWrong)

/-- 'flumelaw17.SchedNumbers': WHATEVER THE INPUT: true; the input reads as it did. -/
def schedNumbersSpec : ChangeSpec := { name := "schedNumbers", fn := fun _ => fun
  | [d1, d2] => { results := [.lit (.bool true)], args := [d1, d2] }
  | _ => none }
def schedNumbersRow : OpenClaim := { program := "ythkcfocoekonjaa", sum := "ae65064544584b07fba9651f9e46bddee07074732fba98e0af452ba19dca5e5f", func := "flume/flumelaw17.SchedNumbers", spec := "schedNumbers", plainKeys := false, apart := false }
def SchedNumbersSaid : Prop := schedNumbersRow.holds Try.pinned (OpenSpec.ofChange schedNumbersSpec)

/-- ITS FALSE NEIGHBOUR: 'it returns false'. Refute it at one input. -/
def schedNumbersWrong : ChangeSpec := { name := "schedNumbers", fn := fun _ => fun
  | [d1, d2] => { results := [.lit (.bool false)], args := [d1, d2] }
  | _ => none }
def SchedNumbersWrongFalsely : Prop := schedNumbersRow.holds Try.pinned (OpenSpec.ofChange schedNumbersWrong)

/-- 'flumelaw16.TimerOrder': WHATEVER THE INPUT: true; the input reads as it did. -/
def timerOrderSpec : ChangeSpec := { name := "timerOrder", fn := fun _ => fun
  | [d] => { results := [.lit (.bool true)], args := [d] }
  | _ => none }
def timerOrderRow : OpenClaim := { program := "ythkcfocoekonjaa", sum := "ae65064544584b07fba9651f9e46bddee07074732fba98e0af452ba19dca5e5f", func := "flume/flumelaw16.TimerOrder", spec := "timerOrder", unfollowed := true, recurses := true, plainKeys := false, apart := false }
def TimerOrderSaid : Prop := timerOrderRow.holds Try.pinned (OpenSpec.ofChange timerOrderSpec)

/-- ITS FALSE NEIGHBOUR: 'it returns false'. Refute it at one input. -/
def timerOrderWrong : ChangeSpec := { name := "timerOrder", fn := fun _ => fun
  | [d] => { results := [.lit (.bool false)], args := [d] }
  | _ => none }
def TimerOrderWrongFalsely : Prop := timerOrderRow.holds Try.pinned (OpenSpec.ofChange timerOrderWrong)

/-- 'flumelaw16.TimerParts': WHATEVER THE INPUT: true; the input reads as it did. -/
def timerPartsSpec : ChangeSpec := { name := "timerParts", fn := fun _ => fun
  | [d1, d2, d3] => { results := [.lit (.bool true)], args := [d1, d2, d3] }
  | _ => none }
def timerPartsRow : OpenClaim := { program := "ythkcfocoekonjaa", sum := "ae65064544584b07fba9651f9e46bddee07074732fba98e0af452ba19dca5e5f", func := "flume/flumelaw16.TimerParts", spec := "timerParts", unfollowed := true, recurses := true, plainKeys := false, apart := false }
def TimerPartsSaid : Prop := timerPartsRow.holds Try.pinned (OpenSpec.ofChange timerPartsSpec)

/-- ITS FALSE NEIGHBOUR: 'it returns false'. Refute it at one input. -/
def timerPartsWrong : ChangeSpec := { name := "timerParts", fn := fun _ => fun
  | [d1, d2, d3] => { results := [.lit (.bool false)], args := [d1, d2, d3] }
  | _ => none }
def TimerPartsWrongFalsely : Prop := timerPartsRow.holds Try.pinned (OpenSpec.ofChange timerPartsWrong)

/-- 'flumelaw16.TimerAnew': WHATEVER THE INPUT: true; the input reads as it did. -/
def timerAnewSpec : ChangeSpec := { name := "timerAnew", fn := fun _ => fun
  | [d1, d2, d3] => { results := [.lit (.bool true)], args := [d1, d2, d3] }
  | _ => none }
def timerAnewRow : OpenClaim := { program := "ythkcfocoekonjaa", sum := "ae65064544584b07fba9651f9e46bddee07074732fba98e0af452ba19dca5e5f", func := "flume/flumelaw16.TimerAnew", spec := "timerAnew", unfollowed := true, recurses := true, plainKeys := false, apart := false }
def TimerAnewSaid : Prop := timerAnewRow.holds Try.pinned (OpenSpec.ofChange timerAnewSpec)

/-- ITS FALSE NEIGHBOUR: 'it returns false'. Refute it at one input. -/
def timerAnewWrong : ChangeSpec := { name := "timerAnew", fn := fun _ => fun
  | [d1, d2, d3] => { results := [.lit (.bool false)], args := [d1, d2, d3] }
  | _ => none }
def TimerAnewWrongFalsely : Prop := timerAnewRow.holds Try.pinned (OpenSpec.ofChange timerAnewWrong)

/-- 'flumelaw16.TimerNext': WHATEVER THE INPUT: true; the input reads as it did. -/
def timerNextSpec : ChangeSpec := { name := "timerNext", fn := fun _ => fun
  | [d] => { results := [.lit (.bool true)], args := [d] }
  | _ => none }
def timerNextRow : OpenClaim := { program := "ythkcfocoekonjaa", sum := "ae65064544584b07fba9651f9e46bddee07074732fba98e0af452ba19dca5e5f", func := "flume/flumelaw16.TimerNext", spec := "timerNext", unfollowed := true, recurses := true, plainKeys := false, apart := false }
def TimerNextSaid : Prop := timerNextRow.holds Try.pinned (OpenSpec.ofChange timerNextSpec)

/-- ITS FALSE NEIGHBOUR: 'it returns false'. Refute it at one input. -/
def timerNextWrong : ChangeSpec := { name := "timerNext", fn := fun _ => fun
  | [d] => { results := [.lit (.bool false)], args := [d] }
  | _ => none }
def TimerNextWrongFalsely : Prop := timerNextRow.holds Try.pinned (OpenSpec.ofChange timerNextWrong)

/-- 'flumelaw16.TimerPlays': WHATEVER THE INPUT: true; the input reads as it did. -/
def timerPlaysSpec : ChangeSpec := { name := "timerPlays", fn := fun _ => fun
  | [d] => { results := [.lit (.bool true)], args := [d] }
  | _ => none }
def timerPlaysRow : OpenClaim := { program := "ythkcfocoekonjaa", sum := "ae65064544584b07fba9651f9e46bddee07074732fba98e0af452ba19dca5e5f", func := "flume/flumelaw16.TimerPlays", spec := "timerPlays", unfollowed := true, recurses := true, plainKeys := false, apart := false }
def TimerPlaysSaid : Prop := timerPlaysRow.holds Try.pinned (OpenSpec.ofChange timerPlaysSpec)

/-- ITS FALSE NEIGHBOUR: 'it returns false'. Refute it at one input. -/
def timerPlaysWrong : ChangeSpec := { name := "timerPlays", fn := fun _ => fun
  | [d] => { results := [.lit (.bool false)], args := [d] }
  | _ => none }
def TimerPlaysWrongFalsely : Prop := timerPlaysRow.holds Try.pinned (OpenSpec.ofChange timerPlaysWrong)

/-- 'flumelaw17.SchedDrops': WHATEVER THE INPUT: true; the input reads as it did. -/
def schedDropsSpec : ChangeSpec := { name := "schedDrops", fn := fun _ => fun
  | [d1, d2, d3] => { results := [.lit (.bool true)], args := [d1, d2, d3] }
  | _ => none }
def schedDropsRow : OpenClaim := { program := "ythkcfocoekonjaa", sum := "ae65064544584b07fba9651f9e46bddee07074732fba98e0af452ba19dca5e5f", func := "flume/flumelaw17.SchedDrops", spec := "schedDrops", unfollowed := true, recurses := true, plainKeys := false, apart := false }
def SchedDropsSaid : Prop := schedDropsRow.holds Try.pinned (OpenSpec.ofChange schedDropsSpec)

/-- ITS FALSE NEIGHBOUR: 'it returns false'. Refute it at one input. -/
def schedDropsWrong : ChangeSpec := { name := "schedDrops", fn := fun _ => fun
  | [d1, d2, d3] => { results := [.lit (.bool false)], args := [d1, d2, d3] }
  | _ => none }
def SchedDropsWrongFalsely : Prop := schedDropsRow.holds Try.pinned (OpenSpec.ofChange schedDropsWrong)

/-- 'flumelaw17.SchedPlays': WHATEVER THE INPUT: true; the input reads as it did. -/
def schedPlaysSpec : ChangeSpec := { name := "schedPlays", fn := fun _ => fun
  | [d1, d2] => { results := [.lit (.bool true)], args := [d1, d2] }
  | _ => none }
def schedPlaysRow : OpenClaim := { program := "ythkcfocoekonjaa", sum := "ae65064544584b07fba9651f9e46bddee07074732fba98e0af452ba19dca5e5f", func := "flume/flumelaw17.SchedPlays", spec := "schedPlays", unfollowed := true, recurses := true, plainKeys := false, apart := false }
def SchedPlaysSaid : Prop := schedPlaysRow.holds Try.pinned (OpenSpec.ofChange schedPlaysSpec)

/-- ITS FALSE NEIGHBOUR: 'it returns false'. Refute it at one input. -/
def schedPlaysWrong : ChangeSpec := { name := "schedPlays", fn := fun _ => fun
  | [d1, d2] => { results := [.lit (.bool false)], args := [d1, d2] }
  | _ => none }
def SchedPlaysWrongFalsely : Prop := schedPlaysRow.holds Try.pinned (OpenSpec.ofChange schedPlaysWrong)

/-- 'flumelaw17.SchedJoins': WHATEVER THE INPUT: true; the input reads as it did. -/
def schedJoinsSpec : ChangeSpec := { name := "schedJoins", fn := fun _ => fun
  | [d1, d2, d3] => { results := [.lit (.bool true)], args := [d1, d2, d3] }
  | _ => none }
def schedJoinsRow : OpenClaim := { program := "ythkcfocoekonjaa", sum := "ae65064544584b07fba9651f9e46bddee07074732fba98e0af452ba19dca5e5f", func := "flume/flumelaw17.SchedJoins", spec := "schedJoins", plainKeys := false, apart := false }
def SchedJoinsSaid : Prop := schedJoinsRow.holds Try.pinned (OpenSpec.ofChange schedJoinsSpec)

/-- ITS FALSE NEIGHBOUR: 'it returns false'. Refute it at one input. -/
def schedJoinsWrong : ChangeSpec := { name := "schedJoins", fn := fun _ => fun
  | [d1, d2, d3] => { results := [.lit (.bool false)], args := [d1, d2, d3] }
  | _ => none }
def SchedJoinsWrongFalsely : Prop := schedJoinsRow.holds Try.pinned (OpenSpec.ofChange schedJoinsWrong)

/- THE SECOND FORM. 'bulk': how many values and letters a reading holds, each counted each time it is reached (what is shared counts as often as it is met; a slice's spare places count too). A statement '..UptoSaid' is the law's where the arguments, and the package variables that the reading takes, are together of bulk at most 1048576: NARROWER than '..Said'. Prove '..Said' where nothing that the law and all that it calls make is longer than what came in: it says more and counts as full. Else prove '..UptoSaid'. A law counts once. -/
mutual
def uptoBulk {H : Type} : DataW H → Nat
  | .lit (.string bytes) => bytes.length + 1
  | .lit _ => 1
  | .nil => 1
  | .ptr d => uptoBulk d + 1
  | .slice elems spare => uptoBulkAll elems + uptoBulkAll spare + 1
  | .agg parts => uptoBulkAll parts + 1
  | .iface _ d => uptoBulk d + 1
  | .map entries => uptoBulkEntries entries + 1
  | .held _ => 1
def uptoBulkAll {H : Type} : List (DataW H) → Nat
  | [] => 0
  | d :: r => uptoBulk d + uptoBulkAll r
def uptoBulkEntries {H : Type} : List (Lit × DataW H) → Nat
  | [] => 0
  | x :: r => uptoBulkEntry x + uptoBulkEntries r
def uptoBulkEntry {H : Type} : Lit × DataW H → Nat
  | (.string bytes, d) => bytes.length + uptoBulk d + 1
  | (_, d) => uptoBulk d + 1
 end
def uptoSmall : (H : Type) → List (DataW H) → Bool := fun _ ds => decide (uptoBulkAll ds ≤ 1048576)
def OpenSpec.upto (s : _root_.Go.ChangeSpec) : _root_.Go.OpenSpec := { _root_.Go.OpenSpec.ofChange s with cond := some uptoSmall }

/-- 'flumelaw17.SchedFair', WHERE WHAT IT READS IS OF BULK AT MOST 1048576: true; the input reads as it did. -/
def schedFairUptoRow : OpenClaim := { program := "ythkcfocoekonjaa", sum := "ae65064544584b07fba9651f9e46bddee07074732fba98e0af452ba19dca5e5f", func := "flume/flumelaw17.SchedFair", spec := "schedFair", plainKeys := false, apart := false, narrowed := true }
def SchedFairUptoSaid : Prop := schedFairUptoRow.holds Try.pinned (OpenSpec.upto schedFairSpec)

/-- 'flumelaw15.FlightMarks', WHERE WHAT IT READS IS OF BULK AT MOST 1048576: true; the input reads as it did. -/
def flightMarksUptoRow : OpenClaim := { program := "ythkcfocoekonjaa", sum := "ae65064544584b07fba9651f9e46bddee07074732fba98e0af452ba19dca5e5f", func := "flume/flumelaw15.FlightMarks", spec := "flightMarks", unfollowed := true, recurses := true, plainKeys := false, apart := false, narrowed := true }
def FlightMarksUptoSaid : Prop := flightMarksUptoRow.holds Try.pinned (OpenSpec.upto flightMarksSpec)

/-- 'flumelaw17.SchedNumbers', WHERE WHAT IT READS IS OF BULK AT MOST 1048576: true; the input reads as it did. -/
def schedNumbersUptoRow : OpenClaim := { program := "ythkcfocoekonjaa", sum := "ae65064544584b07fba9651f9e46bddee07074732fba98e0af452ba19dca5e5f", func := "flume/flumelaw17.SchedNumbers", spec := "schedNumbers", plainKeys := false, apart := false, narrowed := true }
def SchedNumbersUptoSaid : Prop := schedNumbersUptoRow.holds Try.pinned (OpenSpec.upto schedNumbersSpec)

/-- 'flumelaw16.TimerOrder', WHERE WHAT IT READS IS OF BULK AT MOST 1048576: true; the input reads as it did. -/
def timerOrderUptoRow : OpenClaim := { program := "ythkcfocoekonjaa", sum := "ae65064544584b07fba9651f9e46bddee07074732fba98e0af452ba19dca5e5f", func := "flume/flumelaw16.TimerOrder", spec := "timerOrder", unfollowed := true, recurses := true, plainKeys := false, apart := false, narrowed := true }
def TimerOrderUptoSaid : Prop := timerOrderUptoRow.holds Try.pinned (OpenSpec.upto timerOrderSpec)

/-- 'flumelaw16.TimerParts', WHERE WHAT IT READS IS OF BULK AT MOST 1048576: true; the input reads as it did. -/
def timerPartsUptoRow : OpenClaim := { program := "ythkcfocoekonjaa", sum := "ae65064544584b07fba9651f9e46bddee07074732fba98e0af452ba19dca5e5f", func := "flume/flumelaw16.TimerParts", spec := "timerParts", unfollowed := true, recurses := true, plainKeys := false, apart := false, narrowed := true }
def TimerPartsUptoSaid : Prop := timerPartsUptoRow.holds Try.pinned (OpenSpec.upto timerPartsSpec)

/-- 'flumelaw16.TimerAnew', WHERE WHAT IT READS IS OF BULK AT MOST 1048576: true; the input reads as it did. -/
def timerAnewUptoRow : OpenClaim := { program := "ythkcfocoekonjaa", sum := "ae65064544584b07fba9651f9e46bddee07074732fba98e0af452ba19dca5e5f", func := "flume/flumelaw16.TimerAnew", spec := "timerAnew", unfollowed := true, recurses := true, plainKeys := false, apart := false, narrowed := true }
def TimerAnewUptoSaid : Prop := timerAnewUptoRow.holds Try.pinned (OpenSpec.upto timerAnewSpec)

/-- 'flumelaw16.TimerNext', WHERE WHAT IT READS IS OF BULK AT MOST 1048576: true; the input reads as it did. -/
def timerNextUptoRow : OpenClaim := { program := "ythkcfocoekonjaa", sum := "ae65064544584b07fba9651f9e46bddee07074732fba98e0af452ba19dca5e5f", func := "flume/flumelaw16.TimerNext", spec := "timerNext", unfollowed := true, recurses := true, plainKeys := false, apart := false, narrowed := true }
def TimerNextUptoSaid : Prop := timerNextUptoRow.holds Try.pinned (OpenSpec.upto timerNextSpec)

/-- 'flumelaw16.TimerPlays', WHERE WHAT IT READS IS OF BULK AT MOST 1048576: true; the input reads as it did. -/
def timerPlaysUptoRow : OpenClaim := { program := "ythkcfocoekonjaa", sum := "ae65064544584b07fba9651f9e46bddee07074732fba98e0af452ba19dca5e5f", func := "flume/flumelaw16.TimerPlays", spec := "timerPlays", unfollowed := true, recurses := true, plainKeys := false, apart := false, narrowed := true }
def TimerPlaysUptoSaid : Prop := timerPlaysUptoRow.holds Try.pinned (OpenSpec.upto timerPlaysSpec)

/-- 'flumelaw17.SchedDrops', WHERE WHAT IT READS IS OF BULK AT MOST 1048576: true; the input reads as it did. -/
def schedDropsUptoRow : OpenClaim := { program := "ythkcfocoekonjaa", sum := "ae65064544584b07fba9651f9e46bddee07074732fba98e0af452ba19dca5e5f", func := "flume/flumelaw17.SchedDrops", spec := "schedDrops", unfollowed := true, recurses := true, plainKeys := false, apart := false, narrowed := true }
def SchedDropsUptoSaid : Prop := schedDropsUptoRow.holds Try.pinned (OpenSpec.upto schedDropsSpec)

/-- 'flumelaw17.SchedPlays', WHERE WHAT IT READS IS OF BULK AT MOST 1048576: true; the input reads as it did. -/
def schedPlaysUptoRow : OpenClaim := { program := "ythkcfocoekonjaa", sum := "ae65064544584b07fba9651f9e46bddee07074732fba98e0af452ba19dca5e5f", func := "flume/flumelaw17.SchedPlays", spec := "schedPlays", unfollowed := true, recurses := true, plainKeys := false, apart := false, narrowed := true }
def SchedPlaysUptoSaid : Prop := schedPlaysUptoRow.holds Try.pinned (OpenSpec.upto schedPlaysSpec)

/-- 'flumelaw17.SchedJoins', WHERE WHAT IT READS IS OF BULK AT MOST 1048576: true; the input reads as it did. -/
def schedJoinsUptoRow : OpenClaim := { program := "ythkcfocoekonjaa", sum := "ae65064544584b07fba9651f9e46bddee07074732fba98e0af452ba19dca5e5f", func := "flume/flumelaw17.SchedJoins", spec := "schedJoins", plainKeys := false, apart := false, narrowed := true }
def SchedJoinsUptoSaid : Prop := schedJoinsUptoRow.holds Try.pinned (OpenSpec.upto schedJoinsSpec)

end Rows
end Go.Proofs.Ythkcfocoekonjaa
