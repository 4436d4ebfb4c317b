/- In every order of calls a pool answers as the document says: for every input, no condition. -/
import Derived.Test.YtffockklleanmaaPPoolPlaysx1
namespace Go.Proofs.Ytffockklleanmaa.Pure
open Go.RowKit Go.Proofs.Ytffockklleanmaa.PPoolPlays
set_option linter.unusedVariables false
theorem PoolPlays : tollbarlaw17_PoolPlays.Pure := by
  unfold tollbarlaw17_PoolPlays.Pure; intros
  rfl
end Go.Proofs.Ytffockklleanmaa.Pure
