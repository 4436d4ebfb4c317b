/- Masks of whole numbers, and an index below a length. -/
import Derived.Test.YtffockklleanmaaXBytes
import Derived.Laws.Bits128
namespace Go.Proofs.Ytffockklleanmaa.X
open Go.RowKit Go.Proofs.YtffockklleanmaaW.PrintWords Go.Proofs.YtffockklleanmaaW.PrintMore
set_option linter.unusedVariables false
set_option linter.unusedSimpArgs false

end Go.Proofs.Ytffockklleanmaa.X
