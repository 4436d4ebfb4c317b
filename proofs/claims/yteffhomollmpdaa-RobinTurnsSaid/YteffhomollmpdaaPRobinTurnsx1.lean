-- Written by this session's program xprint.py over the kit's print, with contracts given by hand. Not trusted: Lean checks it.
import Derived.Test.YteffhomollmpdaaPRobinTurnsx0
namespace Go.Proofs.Yteffhomollmpdaa.PRobinTurns
open Go.RowKit Go.Proofs.YteffhomollmpdaaW.PrintWords Go.Proofs.YteffhomollmpdaaW.PrintLast Go.Proofs.YteffhomollmpdaaW.PrintMore
attribute [local go_sem] max2_int min2_int max_two min_two max_three min_three max_four min_four   -- for this text's walks alone
set_option linter.unusedVariables false
set_option linter.unusedSimpArgs false

/-! ### tollbarlaw16_RobinTurns: function 5 -/

def tollbarlaw16_RobinTurns.f (_a0 _a1 _a2 : Int) : Option Bool := some true
theorem tollbarlaw16_RobinTurns.calls (a0 a1 a2 : Int) (r : Bool) (w : World) (h : tollbarlaw16_RobinTurns.f a0 a1 a2 = some r) :
    Calls Try.prog 5 #[.int .i64 a0, .int .i64 a1, .int .i64 a2] w fun e w' => e = .returned (.bool r) ∧ Below w.heap.size w w' := by
  cases h
  exact X.robinTurns_calls a0 a1 a2 w


/-- THE ONE PURE STATEMENT of tollbarlaw16_RobinTurns. -/
def tollbarlaw16_RobinTurns.Pure : Prop := ∀ (a0 : Int) (a1 : Int) (a2 : Int), ((Lit.int .i64 a0).wf = true) → ((Lit.int .i64 a1).wf = true) → ((Lit.int .i64 a2).wf = true) → tollbarlaw16_RobinTurns.f a0 a1 a2 = some true

end Go.Proofs.Yteffhomollmpdaa.PRobinTurns
