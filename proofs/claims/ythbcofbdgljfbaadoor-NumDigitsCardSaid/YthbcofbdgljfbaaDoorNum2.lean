/- Names, continued: the document's test; all of some texts; the law's example. -/
import Derived.Test.YthbcofbdgljfbaaDoorNum1
namespace Go.Proofs.YthbcofbdgljfbaaDoor
open Go.RowKit
set_option linter.unusedVariables false
set_option linter.unusedSimpArgs false

end Go.Proofs.YthbcofbdgljfbaaDoor
