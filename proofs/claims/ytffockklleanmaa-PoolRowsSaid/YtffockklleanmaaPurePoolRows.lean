/- As many fails in a row as a configuration says make an aim sick, and no fewer; one that does well between is counted anew; behind the time it is well: for every input, no condition. -/
import Derived.Test.YtffockklleanmaaPPoolRowsx1
namespace Go.Proofs.Ytffockklleanmaa.Pure
open Go.RowKit Go.Proofs.Ytffockklleanmaa.PPoolRows
set_option linter.unusedVariables false
theorem PoolRows : tollbarlaw17_PoolRows.Pure := by
  unfold tollbarlaw17_PoolRows.Pure; intros
  rfl
end Go.Proofs.Ytffockklleanmaa.Pure
