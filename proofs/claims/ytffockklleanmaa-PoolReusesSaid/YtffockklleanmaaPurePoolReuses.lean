/- Of idle handles to one aim the newest is lent first; the oldest is taken away first: for every input, no condition. -/
import Derived.Test.YtffockklleanmaaPPoolReusesx1
namespace Go.Proofs.Ytffockklleanmaa.Pure
open Go.RowKit Go.Proofs.Ytffockklleanmaa.PPoolReuses
set_option linter.unusedVariables false
theorem PoolReuses : tollbarlaw17_PoolReuses.Pure := by
  unfold tollbarlaw17_PoolReuses.Pure; intros
  rfl
end Go.Proofs.Ytffockklleanmaa.Pure
