/- Of flows that want nothing nothing is granted, and no credit is kept: for every input, no condition. -/
import Derived.Test.YteffhomollmpdaaPRobinNothingx1
namespace Go.Proofs.Yteffhomollmpdaa.Pure
open Go.RowKit Go.Proofs.Yteffhomollmpdaa.PRobinNothing
set_option linter.unusedVariables false
theorem RobinNothing : tollbarlaw16_RobinNothing.Pure := by
  unfold tollbarlaw16_RobinNothing.Pure
  intro a0 l1 h0 h1
  exact if_pos h1.1
end Go.Proofs.Yteffhomollmpdaa.Pure
