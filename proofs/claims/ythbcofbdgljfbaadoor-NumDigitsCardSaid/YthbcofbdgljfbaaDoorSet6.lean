/- Sets of bytes: of a range. -/
import Derived.Test.YthbcofbdgljfbaaDoorSet5
namespace Go.Proofs.YthbcofbdgljfbaaDoor
open Go.RowKit
set_option linter.unusedVariables false
set_option linter.unusedSimpArgs false

/-- the set of n bytes from lo on -/
def setRun (lo : Nat) : Nat → S4
  | 0 => S4.zero
  | n + 1 => (setRun lo n).with' (lo + n)

end Go.Proofs.YthbcofbdgljfbaaDoor
