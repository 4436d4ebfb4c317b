/- In every order of calls a bound answers as the document says: for every input, no condition. -/
import Derived.Test.YtffockklleanmaaPPoolBoundx1
namespace Go.Proofs.Ytffockklleanmaa.Pure
open Go.RowKit Go.Proofs.Ytffockklleanmaa.PPoolBound
set_option linter.unusedVariables false
theorem PoolBound : tollbarlaw17_PoolBound.Pure := by
  unfold tollbarlaw17_PoolBound.Pure; intros
  rfl
end Go.Proofs.Ytffockklleanmaa.Pure
