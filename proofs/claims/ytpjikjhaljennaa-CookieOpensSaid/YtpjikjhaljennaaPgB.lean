/- Functions in which a range over a function stands. -/
import Derived.Test.YtpjikjhaljennaaPgA
import Derived.Test.YtpjikjhaljennaaSxPu
import Derived.Test.YtpjikjhaljennaaSxRg
import Derived.Test.YtpjikjhaljennaaSxPv
set_option maxRecDepth 100000
set_option linter.unusedVariables false
set_option linter.unusedSimpArgs false
namespace Go.Proofs.Ytpjikjhaljennaa
open Go Go.Sx
theorem run_withR {l : List (FuncId × Trans)} (hl : ∀ p ∈ l, SoundT Go.Proofs.Try.prog p.1 p.2) (ann : List (Nat × FnAnn)) (hs : Hints) (d : Nat) (path : List Nat) (g : FuncId) : SoundT Go.Proofs.Try.prog g (xrunR Go.Proofs.Try.prog l ann hs d path g) :=
  xrunR_sound mixed no_numG (findT_sound hl) d path g
end Go.Proofs.Ytpjikjhaljennaa
