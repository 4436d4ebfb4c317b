/- Round by round what is granted, and the credit, is as the document says: for every input, no condition. -/
import Derived.Test.YteffhomollmpdaaPRobinPlaysx1
namespace Go.Proofs.Yteffhomollmpdaa.Pure
open Go.RowKit Go.Proofs.Yteffhomollmpdaa.PRobinPlays
set_option linter.unusedVariables false
theorem RobinPlays : tollbarlaw16_RobinPlays.Pure := by
  unfold tollbarlaw16_RobinPlays.Pure; intros
  rfl
end Go.Proofs.Yteffhomollmpdaa.Pure
