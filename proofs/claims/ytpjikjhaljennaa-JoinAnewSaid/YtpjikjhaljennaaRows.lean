/-
  No cell of these rows narrows 'for every input' (looked for: loops, veiled, ifaces, maps, wideKeys, modest, calm, conditions, laid).
  DERIVED. THE GIVEN ROWS OF THIS SEAT. 14 by the template 'for every input the law returns true; each argument reads behind the call as it read before'; 0 by the template 'total and deterministic' (their statements: YtpjikjhaljennaaTotals.lean).
  GIVEN WITH THE SEED: the statements are not yours to turn. If you find one false, say at which input.
  Laid BY PROGRAM, IN A SANDBOX (cutbox-rows.mjs): the forced cells as the released guide's own fill.sh prints them over the translation ff62214742a47b5f… (all of the seat's roots in one cut). By AI agents, Wed Nov 11 2026. No macro, syntax, notation, axiom, sorry.
-/
import Derived.Test.YtpjikjhaljennaaChecked
import GoSem.Claim
import GoSem.ClaimJoined
import GoSem.ClaimMapViews
import Derived.JoinedTies
import Derived.KernelRfl
namespace Go.Proofs.Ytpjikjhaljennaa
/- THE CELL 'sum', in the pinned program and in every row, IS THE sha256 OF THE DUMP (.gsa) THAT YtpjikjhaljennaaProg.lean LOADS. Nothing in Lean hashes anything: it is a label: what it is worth is what the hold of that sum in a sandbox is worth. -/
noncomputable def Try.pinned : Pinned := { name := "ytpjikjhaljennaa", sum := "ff62214742a47b5f640baf69104130dde88f03614c0a872993b09712a0fb3809", checked := Try.checked }
namespace Rows
def none {H : Type} : Left H := { results := [], args := [] }

/-- 'flumelaw13.JoinAnew': WHATEVER THE INPUT: true; the input reads as it did. -/
def joinAnewSpec : ChangeSpec := { name := "joinAnew", fn := fun _ => fun
  | [d1, d2, d3] => { results := [.lit (.bool true)], args := [d1, d2, d3] }
  | _ => none }
def joinAnewRow : OpenClaim := { program := "ytpjikjhaljennaa", sum := "ff62214742a47b5f640baf69104130dde88f03614c0a872993b09712a0fb3809", func := "flume/flumelaw13.JoinAnew", spec := "joinAnew", unfollowed := true, recurses := true, plainKeys := false, apart := false }
def JoinAnewSaid : Prop := joinAnewRow.holds Try.pinned (OpenSpec.ofChange joinAnewSpec)

/-- ITS FALSE NEIGHBOUR: 'it returns false'. Refute it at one input. -/
def joinAnewWrong : ChangeSpec := { name := "joinAnew", fn := fun _ => fun
  | [d1, d2, d3] => { results := [.lit (.bool false)], args := [d1, d2, d3] }
  | _ => none }
def JoinAnewWrongFalsely : Prop := joinAnewRow.holds Try.pinned (OpenSpec.ofChange joinAnewWrong)

/-- 'flumelaw13.JoinOrders': WHATEVER THE INPUT: true; the input reads as it did. -/
def joinOrdersSpec : ChangeSpec := { name := "joinOrders", fn := fun _ => fun
  | [d1, d2, d3] => { results := [.lit (.bool true)], args := [d1, d2, d3] }
  | _ => none }
def joinOrdersRow : OpenClaim := { program := "ytpjikjhaljennaa", sum := "ff62214742a47b5f640baf69104130dde88f03614c0a872993b09712a0fb3809", func := "flume/flumelaw13.JoinOrders", spec := "joinOrders", unfollowed := true, recurses := true, plainKeys := false, apart := false }
def JoinOrdersSaid : Prop := joinOrdersRow.holds Try.pinned (OpenSpec.ofChange joinOrdersSpec)

/-- ITS FALSE NEIGHBOUR: 'it returns false'. Refute it at one input. -/
def joinOrdersWrong : ChangeSpec := { name := "joinOrders", fn := fun _ => fun
  | [d1, d2, d3] => { results := [.lit (.bool false)], args := [d1, d2, d3] }
  | _ => none }
def JoinOrdersWrongFalsely : Prop := joinOrdersRow.holds Try.pinned (OpenSpec.ofChange joinOrdersWrong)

/-- 'flumelaw13.JoinLoose': WHATEVER THE INPUT: true; the input reads as it did. -/
def joinLooseSpec : ChangeSpec := { name := "joinLoose", fn := fun _ => fun
  | [d1, d2, d3] => { results := [.lit (.bool true)], args := [d1, d2, d3] }
  | _ => none }
def joinLooseRow : OpenClaim := { program := "ytpjikjhaljennaa", sum := "ff62214742a47b5f640baf69104130dde88f03614c0a872993b09712a0fb3809", func := "flume/flumelaw13.JoinLoose", spec := "joinLoose", unfollowed := true, recurses := true, plainKeys := false, apart := false }
def JoinLooseSaid : Prop := joinLooseRow.holds Try.pinned (OpenSpec.ofChange joinLooseSpec)

/-- ITS FALSE NEIGHBOUR: 'it returns false'. Refute it at one input. -/
def joinLooseWrong : ChangeSpec := { name := "joinLoose", fn := fun _ => fun
  | [d1, d2, d3] => { results := [.lit (.bool false)], args := [d1, d2, d3] }
  | _ => none }
def JoinLooseWrongFalsely : Prop := joinLooseRow.holds Try.pinned (OpenSpec.ofChange joinLooseWrong)

/-- 'flumelaw13.JoinHolds': WHATEVER THE INPUT: true; the input reads as it did. -/
def joinHoldsSpec : ChangeSpec := { name := "joinHolds", fn := fun _ => fun
  | [d1, d2, d3] => { results := [.lit (.bool true)], args := [d1, d2, d3] }
  | _ => none }
def joinHoldsRow : OpenClaim := { program := "ytpjikjhaljennaa", sum := "ff62214742a47b5f640baf69104130dde88f03614c0a872993b09712a0fb3809", func := "flume/flumelaw13.JoinHolds", spec := "joinHolds", unfollowed := true, recurses := true, plainKeys := false, apart := false }
def JoinHoldsSaid : Prop := joinHoldsRow.holds Try.pinned (OpenSpec.ofChange joinHoldsSpec)

/-- ITS FALSE NEIGHBOUR: 'it returns false'. Refute it at one input. -/
def joinHoldsWrong : ChangeSpec := { name := "joinHolds", fn := fun _ => fun
  | [d1, d2, d3] => { results := [.lit (.bool false)], args := [d1, d2, d3] }
  | _ => none }
def JoinHoldsWrongFalsely : Prop := joinHoldsRow.holds Try.pinned (OpenSpec.ofChange joinHoldsWrong)

/-- 'flumelaw17.SchedJoins': WHATEVER THE INPUT: true; the input reads as it did. -/
def schedJoinsSpec : ChangeSpec := { name := "schedJoins", fn := fun _ => fun
  | [d1, d2, d3] => { results := [.lit (.bool true)], args := [d1, d2, d3] }
  | _ => none }
def schedJoinsRow : OpenClaim := { program := "ytpjikjhaljennaa", sum := "ff62214742a47b5f640baf69104130dde88f03614c0a872993b09712a0fb3809", func := "flume/flumelaw17.SchedJoins", spec := "schedJoins", plainKeys := false, apart := false }
def SchedJoinsSaid : Prop := schedJoinsRow.holds Try.pinned (OpenSpec.ofChange schedJoinsSpec)

/-- ITS FALSE NEIGHBOUR: 'it returns false'. Refute it at one input. -/
def schedJoinsWrong : ChangeSpec := { name := "schedJoins", fn := fun _ => fun
  | [d1, d2, d3] => { results := [.lit (.bool false)], args := [d1, d2, d3] }
  | _ => none }
def SchedJoinsWrongFalsely : Prop := schedJoinsRow.holds Try.pinned (OpenSpec.ofChange schedJoinsWrong)

/-- 'flumelaw08.MacSeals': WHATEVER THE INPUT: true; the input reads as it did. -/
def macSealsSpec : ChangeSpec := { name := "macSeals", fn := fun _ => fun
  | [d1, d2, d3] => { results := [.lit (.bool true)], args := [d1, d2, d3] }
  | _ => none }
def macSealsRow : OpenClaim := { program := "ytpjikjhaljennaa", sum := "ff62214742a47b5f640baf69104130dde88f03614c0a872993b09712a0fb3809", func := "flume/flumelaw08.MacSeals", spec := "macSeals", inPlace := ["slices.overlaps[[]byte]"], unfollowed := true, recurses := true, plainKeys := false, apart := false }
def MacSealsSaid : Prop := macSealsRow.holds Try.pinned (OpenSpec.ofChange macSealsSpec)

/-- ITS FALSE NEIGHBOUR: 'it returns false'. Refute it at one input. -/
def macSealsWrong : ChangeSpec := { name := "macSeals", fn := fun _ => fun
  | [d1, d2, d3] => { results := [.lit (.bool false)], args := [d1, d2, d3] }
  | _ => none }
def MacSealsWrongFalsely : Prop := macSealsRow.holds Try.pinned (OpenSpec.ofChange macSealsWrong)

/-- 'flumelaw08.MacKeys': WHATEVER THE INPUT: true; the input reads as it did. -/
def macKeysSpec : ChangeSpec := { name := "macKeys", fn := fun _ => fun
  | [d1, d2, d3] => { results := [.lit (.bool true)], args := [d1, d2, d3] }
  | _ => none }
def macKeysRow : OpenClaim := { program := "ytpjikjhaljennaa", sum := "ff62214742a47b5f640baf69104130dde88f03614c0a872993b09712a0fb3809", func := "flume/flumelaw08.MacKeys", spec := "macKeys", inPlace := ["slices.overlaps[[]byte]"], unfollowed := true, recurses := true, plainKeys := false, apart := false }
def MacKeysSaid : Prop := macKeysRow.holds Try.pinned (OpenSpec.ofChange macKeysSpec)

/-- ITS FALSE NEIGHBOUR: 'it returns false'. Refute it at one input. -/
def macKeysWrong : ChangeSpec := { name := "macKeys", fn := fun _ => fun
  | [d1, d2, d3] => { results := [.lit (.bool false)], args := [d1, d2, d3] }
  | _ => none }
def MacKeysWrongFalsely : Prop := macKeysRow.holds Try.pinned (OpenSpec.ofChange macKeysWrong)

/-- 'flumelaw08.MacAgain': WHATEVER THE INPUT: true; the input reads as it did. -/
def macAgainSpec : ChangeSpec := { name := "macAgain", fn := fun _ => fun
  | [d1, d2, d3] => { results := [.lit (.bool true)], args := [d1, d2, d3] }
  | _ => none }
def macAgainRow : OpenClaim := { program := "ytpjikjhaljennaa", sum := "ff62214742a47b5f640baf69104130dde88f03614c0a872993b09712a0fb3809", func := "flume/flumelaw08.MacAgain", spec := "macAgain", inPlace := ["slices.overlaps[[]byte]"], unfollowed := true, recurses := true, plainKeys := false, apart := false }
def MacAgainSaid : Prop := macAgainRow.holds Try.pinned (OpenSpec.ofChange macAgainSpec)

/-- ITS FALSE NEIGHBOUR: 'it returns false'. Refute it at one input. -/
def macAgainWrong : ChangeSpec := { name := "macAgain", fn := fun _ => fun
  | [d1, d2, d3] => { results := [.lit (.bool false)], args := [d1, d2, d3] }
  | _ => none }
def MacAgainWrongFalsely : Prop := macAgainRow.holds Try.pinned (OpenSpec.ofChange macAgainWrong)

/-- 'flumelaw08.MacChains': WHATEVER THE INPUT: true; the input reads as it did. -/
def macChainsSpec : ChangeSpec := { name := "macChains", fn := fun _ => fun
  | [d1, d2, d3] => { results := [.lit (.bool true)], args := [d1, d2, d3] }
  | _ => none }
def macChainsRow : OpenClaim := { program := "ytpjikjhaljennaa", sum := "ff62214742a47b5f640baf69104130dde88f03614c0a872993b09712a0fb3809", func := "flume/flumelaw08.MacChains", spec := "macChains", inPlace := ["slices.overlaps[[]byte]"], unfollowed := true, recurses := true, plainKeys := false, apart := false }
def MacChainsSaid : Prop := macChainsRow.holds Try.pinned (OpenSpec.ofChange macChainsSpec)

/-- ITS FALSE NEIGHBOUR: 'it returns false'. Refute it at one input. -/
def macChainsWrong : ChangeSpec := { name := "macChains", fn := fun _ => fun
  | [d1, d2, d3] => { results := [.lit (.bool false)], args := [d1, d2, d3] }
  | _ => none }
def MacChainsWrongFalsely : Prop := macChainsRow.holds Try.pinned (OpenSpec.ofChange macChainsWrong)

/-- 'flumelaw09.CookieMakes': WHATEVER THE INPUT: true; the input reads as it did. -/
def cookieMakesSpec : ChangeSpec := { name := "cookieMakes", fn := fun _ => fun
  | [d1, d2, d3] => { results := [.lit (.bool true)], args := [d1, d2, d3] }
  | _ => none }
def cookieMakesRow : OpenClaim := { program := "ytpjikjhaljennaa", sum := "ff62214742a47b5f640baf69104130dde88f03614c0a872993b09712a0fb3809", func := "flume/flumelaw09.CookieMakes", spec := "cookieMakes", inPlace := ["slices.overlaps[[]byte]"], unfollowed := true, recurses := true, plainKeys := false, apart := false }
def CookieMakesSaid : Prop := cookieMakesRow.holds Try.pinned (OpenSpec.ofChange cookieMakesSpec)

/-- ITS FALSE NEIGHBOUR: 'it returns false'. Refute it at one input. -/
def cookieMakesWrong : ChangeSpec := { name := "cookieMakes", fn := fun _ => fun
  | [d1, d2, d3] => { results := [.lit (.bool false)], args := [d1, d2, d3] }
  | _ => none }
def CookieMakesWrongFalsely : Prop := cookieMakesRow.holds Try.pinned (OpenSpec.ofChange cookieMakesWrong)

/-- 'flumelaw09.CookieOpens': WHATEVER THE INPUT: true; the input reads as it did. -/
def cookieOpensSpec : ChangeSpec := { name := "cookieOpens", fn := fun _ => fun
  | [d1, d2, d3] => { results := [.lit (.bool true)], args := [d1, d2, d3] }
  | _ => none }
def cookieOpensRow : OpenClaim := { program := "ytpjikjhaljennaa", sum := "ff62214742a47b5f640baf69104130dde88f03614c0a872993b09712a0fb3809", func := "flume/flumelaw09.CookieOpens", spec := "cookieOpens", inPlace := ["slices.overlaps[[]byte]"], unfollowed := true, recurses := true, plainKeys := false, apart := false }
def CookieOpensSaid : Prop := cookieOpensRow.holds Try.pinned (OpenSpec.ofChange cookieOpensSpec)

/-- ITS FALSE NEIGHBOUR: 'it returns false'. Refute it at one input. -/
def cookieOpensWrong : ChangeSpec := { name := "cookieOpens", fn := fun _ => fun
  | [d1, d2, d3] => { results := [.lit (.bool false)], args := [d1, d2, d3] }
  | _ => none }
def CookieOpensWrongFalsely : Prop := cookieOpensRow.holds Try.pinned (OpenSpec.ofChange cookieOpensWrong)

/-- 'flumelaw09.CookieTurned': WHATEVER THE INPUT: true; the input reads as it did. -/
def cookieTurnedSpec : ChangeSpec := { name := "cookieTurned", fn := fun _ => fun
  | [d1, d2, d3] => { results := [.lit (.bool true)], args := [d1, d2, d3] }
  | _ => none }
def cookieTurnedRow : OpenClaim := { program := "ytpjikjhaljennaa", sum := "ff62214742a47b5f640baf69104130dde88f03614c0a872993b09712a0fb3809", func := "flume/flumelaw09.CookieTurned", spec := "cookieTurned", inPlace := ["slices.overlaps[[]byte]"], unfollowed := true, recurses := true, plainKeys := false, apart := false }
def CookieTurnedSaid : Prop := cookieTurnedRow.holds Try.pinned (OpenSpec.ofChange cookieTurnedSpec)

/-- ITS FALSE NEIGHBOUR: 'it returns false'. Refute it at one input. -/
def cookieTurnedWrong : ChangeSpec := { name := "cookieTurned", fn := fun _ => fun
  | [d1, d2, d3] => { results := [.lit (.bool false)], args := [d1, d2, d3] }
  | _ => none }
def CookieTurnedWrongFalsely : Prop := cookieTurnedRow.holds Try.pinned (OpenSpec.ofChange cookieTurnedWrong)

/-- 'flumelaw09.CookieAges': WHATEVER THE INPUT: true; the input reads as it did. -/
def cookieAgesSpec : ChangeSpec := { name := "cookieAges", fn := fun _ => fun
  | [d1, d2] => { results := [.lit (.bool true)], args := [d1, d2] }
  | _ => none }
def cookieAgesRow : OpenClaim := { program := "ytpjikjhaljennaa", sum := "ff62214742a47b5f640baf69104130dde88f03614c0a872993b09712a0fb3809", func := "flume/flumelaw09.CookieAges", spec := "cookieAges", inPlace := ["slices.overlaps[[]byte]"], unfollowed := true, recurses := true, plainKeys := false, apart := false }
def CookieAgesSaid : Prop := cookieAgesRow.holds Try.pinned (OpenSpec.ofChange cookieAgesSpec)

/-- ITS FALSE NEIGHBOUR: 'it returns false'. Refute it at one input. -/
def cookieAgesWrong : ChangeSpec := { name := "cookieAges", fn := fun _ => fun
  | [d1, d2] => { results := [.lit (.bool false)], args := [d1, d2] }
  | _ => none }
def CookieAgesWrongFalsely : Prop := cookieAgesRow.holds Try.pinned (OpenSpec.ofChange cookieAgesWrong)

/-- 'flumelaw13.JoinSkips': WHATEVER THE INPUT: true; the input reads as it did. -/
def joinSkipsSpec : ChangeSpec := { name := "joinSkips", fn := fun _ => fun
  | [d1, d2, d3] => { results := [.lit (.bool true)], args := [d1, d2, d3] }
  | _ => none }
def joinSkipsRow : OpenClaim := { program := "ytpjikjhaljennaa", sum := "ff62214742a47b5f640baf69104130dde88f03614c0a872993b09712a0fb3809", func := "flume/flumelaw13.JoinSkips", spec := "joinSkips", unfollowed := true, recurses := true, plainKeys := false, apart := false }
def JoinSkipsSaid : Prop := joinSkipsRow.holds Try.pinned (OpenSpec.ofChange joinSkipsSpec)

/-- ITS FALSE NEIGHBOUR: 'it returns false'. Refute it at one input. -/
def joinSkipsWrong : ChangeSpec := { name := "joinSkips", fn := fun _ => fun
  | [d1, d2, d3] => { results := [.lit (.bool false)], args := [d1, d2, d3] }
  | _ => none }
def JoinSkipsWrongFalsely : Prop := joinSkipsRow.holds Try.pinned (OpenSpec.ofChange joinSkipsWrong)

/- THE SECOND FORM. 'bulk': how many values and letters a reading holds, each counted each time it is reached (what is shared counts as often as it is met; a slice's spare places count too). A statement '..UptoSaid' is the law's where the arguments, and the package variables that the reading takes, are together of bulk at most 1048576: NARROWER than '..Said'. Prove '..Said' where nothing that the law and all that it calls make is longer than what came in: it says more and counts as full. Else prove '..UptoSaid'. A law counts once. -/
mutual
def uptoBulk {H : Type} : DataW H → Nat
  | .lit (.string bytes) => bytes.length + 1
  | .lit _ => 1
  | .nil => 1
  | .ptr d => uptoBulk d + 1
  | .slice elems spare => uptoBulkAll elems + uptoBulkAll spare + 1
  | .agg parts => uptoBulkAll parts + 1
  | .iface _ d => uptoBulk d + 1
  | .map entries => uptoBulkEntries entries + 1
  | .held _ => 1
def uptoBulkAll {H : Type} : List (DataW H) → Nat
  | [] => 0
  | d :: r => uptoBulk d + uptoBulkAll r
def uptoBulkEntries {H : Type} : List (Lit × DataW H) → Nat
  | [] => 0
  | x :: r => uptoBulkEntry x + uptoBulkEntries r
def uptoBulkEntry {H : Type} : Lit × DataW H → Nat
  | (.string bytes, d) => bytes.length + uptoBulk d + 1
  | (_, d) => uptoBulk d + 1
 end
def uptoSmall : (H : Type) → List (DataW H) → Bool := fun _ ds => decide (uptoBulkAll ds ≤ 1048576)
def OpenSpec.upto (s : _root_.Go.ChangeSpec) : _root_.Go.OpenSpec := { _root_.Go.OpenSpec.ofChange s with cond := some uptoSmall }

/-- 'flumelaw13.JoinAnew', WHERE WHAT IT READS IS OF BULK AT MOST 1048576: true; the input reads as it did. -/
def joinAnewUptoRow : OpenClaim := { program := "ytpjikjhaljennaa", sum := "ff62214742a47b5f640baf69104130dde88f03614c0a872993b09712a0fb3809", func := "flume/flumelaw13.JoinAnew", spec := "joinAnew", unfollowed := true, recurses := true, plainKeys := false, apart := false, narrowed := true }
def JoinAnewUptoSaid : Prop := joinAnewUptoRow.holds Try.pinned (OpenSpec.upto joinAnewSpec)

/-- 'flumelaw13.JoinOrders', WHERE WHAT IT READS IS OF BULK AT MOST 1048576: true; the input reads as it did. -/
def joinOrdersUptoRow : OpenClaim := { program := "ytpjikjhaljennaa", sum := "ff62214742a47b5f640baf69104130dde88f03614c0a872993b09712a0fb3809", func := "flume/flumelaw13.JoinOrders", spec := "joinOrders", unfollowed := true, recurses := true, plainKeys := false, apart := false, narrowed := true }
def JoinOrdersUptoSaid : Prop := joinOrdersUptoRow.holds Try.pinned (OpenSpec.upto joinOrdersSpec)

/-- 'flumelaw13.JoinLoose', WHERE WHAT IT READS IS OF BULK AT MOST 1048576: true; the input reads as it did. -/
def joinLooseUptoRow : OpenClaim := { program := "ytpjikjhaljennaa", sum := "ff62214742a47b5f640baf69104130dde88f03614c0a872993b09712a0fb3809", func := "flume/flumelaw13.JoinLoose", spec := "joinLoose", unfollowed := true, recurses := true, plainKeys := false, apart := false, narrowed := true }
def JoinLooseUptoSaid : Prop := joinLooseUptoRow.holds Try.pinned (OpenSpec.upto joinLooseSpec)

/-- 'flumelaw13.JoinHolds', WHERE WHAT IT READS IS OF BULK AT MOST 1048576: true; the input reads as it did. -/
def joinHoldsUptoRow : OpenClaim := { program := "ytpjikjhaljennaa", sum := "ff62214742a47b5f640baf69104130dde88f03614c0a872993b09712a0fb3809", func := "flume/flumelaw13.JoinHolds", spec := "joinHolds", unfollowed := true, recurses := true, plainKeys := false, apart := false, narrowed := true }
def JoinHoldsUptoSaid : Prop := joinHoldsUptoRow.holds Try.pinned (OpenSpec.upto joinHoldsSpec)

/-- 'flumelaw17.SchedJoins', WHERE WHAT IT READS IS OF BULK AT MOST 1048576: true; the input reads as it did. -/
def schedJoinsUptoRow : OpenClaim := { program := "ytpjikjhaljennaa", sum := "ff62214742a47b5f640baf69104130dde88f03614c0a872993b09712a0fb3809", func := "flume/flumelaw17.SchedJoins", spec := "schedJoins", plainKeys := false, apart := false, narrowed := true }
def SchedJoinsUptoSaid : Prop := schedJoinsUptoRow.holds Try.pinned (OpenSpec.upto schedJoinsSpec)

/-- 'flumelaw08.MacSeals', WHERE WHAT IT READS IS OF BULK AT MOST 1048576: true; the input reads as it did. -/
def macSealsUptoRow : OpenClaim := { program := "ytpjikjhaljennaa", sum := "ff62214742a47b5f640baf69104130dde88f03614c0a872993b09712a0fb3809", func := "flume/flumelaw08.MacSeals", spec := "macSeals", inPlace := ["slices.overlaps[[]byte]"], unfollowed := true, recurses := true, plainKeys := false, apart := false, narrowed := true }
def MacSealsUptoSaid : Prop := macSealsUptoRow.holds Try.pinned (OpenSpec.upto macSealsSpec)

/-- 'flumelaw08.MacKeys', WHERE WHAT IT READS IS OF BULK AT MOST 1048576: true; the input reads as it did. -/
def macKeysUptoRow : OpenClaim := { program := "ytpjikjhaljennaa", sum := "ff62214742a47b5f640baf69104130dde88f03614c0a872993b09712a0fb3809", func := "flume/flumelaw08.MacKeys", spec := "macKeys", inPlace := ["slices.overlaps[[]byte]"], unfollowed := true, recurses := true, plainKeys := false, apart := false, narrowed := true }
def MacKeysUptoSaid : Prop := macKeysUptoRow.holds Try.pinned (OpenSpec.upto macKeysSpec)

/-- 'flumelaw08.MacAgain', WHERE WHAT IT READS IS OF BULK AT MOST 1048576: true; the input reads as it did. -/
def macAgainUptoRow : OpenClaim := { program := "ytpjikjhaljennaa", sum := "ff62214742a47b5f640baf69104130dde88f03614c0a872993b09712a0fb3809", func := "flume/flumelaw08.MacAgain", spec := "macAgain", inPlace := ["slices.overlaps[[]byte]"], unfollowed := true, recurses := true, plainKeys := false, apart := false, narrowed := true }
def MacAgainUptoSaid : Prop := macAgainUptoRow.holds Try.pinned (OpenSpec.upto macAgainSpec)

/-- 'flumelaw08.MacChains', WHERE WHAT IT READS IS OF BULK AT MOST 1048576: true; the input reads as it did. -/
def macChainsUptoRow : OpenClaim := { program := "ytpjikjhaljennaa", sum := "ff62214742a47b5f640baf69104130dde88f03614c0a872993b09712a0fb3809", func := "flume/flumelaw08.MacChains", spec := "macChains", inPlace := ["slices.overlaps[[]byte]"], unfollowed := true, recurses := true, plainKeys := false, apart := false, narrowed := true }
def MacChainsUptoSaid : Prop := macChainsUptoRow.holds Try.pinned (OpenSpec.upto macChainsSpec)

/-- 'flumelaw09.CookieMakes', WHERE WHAT IT READS IS OF BULK AT MOST 1048576: true; the input reads as it did. -/
def cookieMakesUptoRow : OpenClaim := { program := "ytpjikjhaljennaa", sum := "ff62214742a47b5f640baf69104130dde88f03614c0a872993b09712a0fb3809", func := "flume/flumelaw09.CookieMakes", spec := "cookieMakes", inPlace := ["slices.overlaps[[]byte]"], unfollowed := true, recurses := true, plainKeys := false, apart := false, narrowed := true }
def CookieMakesUptoSaid : Prop := cookieMakesUptoRow.holds Try.pinned (OpenSpec.upto cookieMakesSpec)

/-- 'flumelaw09.CookieOpens', WHERE WHAT IT READS IS OF BULK AT MOST 1048576: true; the input reads as it did. -/
def cookieOpensUptoRow : OpenClaim := { program := "ytpjikjhaljennaa", sum := "ff62214742a47b5f640baf69104130dde88f03614c0a872993b09712a0fb3809", func := "flume/flumelaw09.CookieOpens", spec := "cookieOpens", inPlace := ["slices.overlaps[[]byte]"], unfollowed := true, recurses := true, plainKeys := false, apart := false, narrowed := true }
def CookieOpensUptoSaid : Prop := cookieOpensUptoRow.holds Try.pinned (OpenSpec.upto cookieOpensSpec)

/-- 'flumelaw09.CookieTurned', WHERE WHAT IT READS IS OF BULK AT MOST 1048576: true; the input reads as it did. -/
def cookieTurnedUptoRow : OpenClaim := { program := "ytpjikjhaljennaa", sum := "ff62214742a47b5f640baf69104130dde88f03614c0a872993b09712a0fb3809", func := "flume/flumelaw09.CookieTurned", spec := "cookieTurned", inPlace := ["slices.overlaps[[]byte]"], unfollowed := true, recurses := true, plainKeys := false, apart := false, narrowed := true }
def CookieTurnedUptoSaid : Prop := cookieTurnedUptoRow.holds Try.pinned (OpenSpec.upto cookieTurnedSpec)

/-- 'flumelaw09.CookieAges', WHERE WHAT IT READS IS OF BULK AT MOST 1048576: true; the input reads as it did. -/
def cookieAgesUptoRow : OpenClaim := { program := "ytpjikjhaljennaa", sum := "ff62214742a47b5f640baf69104130dde88f03614c0a872993b09712a0fb3809", func := "flume/flumelaw09.CookieAges", spec := "cookieAges", inPlace := ["slices.overlaps[[]byte]"], unfollowed := true, recurses := true, plainKeys := false, apart := false, narrowed := true }
def CookieAgesUptoSaid : Prop := cookieAgesUptoRow.holds Try.pinned (OpenSpec.upto cookieAgesSpec)

/-- 'flumelaw13.JoinSkips', WHERE WHAT IT READS IS OF BULK AT MOST 1048576: true; the input reads as it did. -/
def joinSkipsUptoRow : OpenClaim := { program := "ytpjikjhaljennaa", sum := "ff62214742a47b5f640baf69104130dde88f03614c0a872993b09712a0fb3809", func := "flume/flumelaw13.JoinSkips", spec := "joinSkips", unfollowed := true, recurses := true, plainKeys := false, apart := false, narrowed := true }
def JoinSkipsUptoSaid : Prop := joinSkipsUptoRow.holds Try.pinned (OpenSpec.upto joinSkipsSpec)

end Rows
end Go.Proofs.Ytpjikjhaljennaa
