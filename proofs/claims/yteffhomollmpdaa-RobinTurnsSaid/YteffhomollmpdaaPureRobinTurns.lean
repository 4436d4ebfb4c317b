/- Flows that want as much each are granted as much each, but for a piece, in every round: for every input, no condition. -/
import Derived.Test.YteffhomollmpdaaPRobinTurnsx1
namespace Go.Proofs.Yteffhomollmpdaa.Pure
open Go.RowKit Go.Proofs.Yteffhomollmpdaa.PRobinTurns
set_option linter.unusedVariables false
theorem RobinTurns : tollbarlaw16_RobinTurns.Pure := by
  unfold tollbarlaw16_RobinTurns.Pure; intros
  rfl
end Go.Proofs.Yteffhomollmpdaa.Pure
