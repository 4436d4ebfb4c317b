/- Of aims that are well each has its turn, one behind the other; one that is sick is passed over, until its time has come: for every input, no condition. -/
import Derived.Test.YtffockklleanmaaPPoolTurnsx1
namespace Go.Proofs.Ytffockklleanmaa.Pure
open Go.RowKit Go.Proofs.Ytffockklleanmaa.PPoolTurns
set_option linter.unusedVariables false
theorem PoolTurns : tollbarlaw17_PoolTurns.Pure := by
  unfold tollbarlaw17_PoolTurns.Pure; intros
  rfl
end Go.Proofs.Ytffockklleanmaa.Pure
