/- In whatever order flows are told, as much is granted to the same ones: for every input, no condition. -/
import Derived.Test.YteffhomollmpdaaPRobinOrderx1
namespace Go.Proofs.Yteffhomollmpdaa.Pure
open Go.RowKit Go.Proofs.Yteffhomollmpdaa.PRobinOrder
set_option linter.unusedVariables false
theorem RobinOrder : tollbarlaw16_RobinOrder.Pure := by
  unfold tollbarlaw16_RobinOrder.Pure; intros
  rfl
end Go.Proofs.Yteffhomollmpdaa.Pure
