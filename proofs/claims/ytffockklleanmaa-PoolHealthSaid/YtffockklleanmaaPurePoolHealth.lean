/- In every order of calls a health answers as the document says: for every input, no condition. -/
import Derived.Test.YtffockklleanmaaPPoolHealthx1
namespace Go.Proofs.Ytffockklleanmaa.Pure
open Go.RowKit Go.Proofs.Ytffockklleanmaa.PPoolHealth
set_option linter.unusedVariables false
theorem PoolHealth : tollbarlaw17_PoolHealth.Pure := by
  unfold tollbarlaw17_PoolHealth.Pure; intros
  rfl
end Go.Proofs.Ytffockklleanmaa.Pure
