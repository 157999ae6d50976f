/- Sets of bytes: of a range. -/
import Derived.Test.YthbcofbdgljfbaaDoorSet6
namespace Go.Proofs.YthbcofbdgljfbaaDoor
open Go.RowKit
set_option linter.unusedVariables false
set_option linter.unusedSimpArgs false

end Go.Proofs.YthbcofbdgljfbaaDoor
