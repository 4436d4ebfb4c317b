-- Written by this session's program xprint.py over the kit's print, with contracts given by hand. Not trusted: Lean checks it.
import Derived.Test.YtffockklleanmaaPPoolReusesx0
namespace Go.Proofs.Ytffockklleanmaa.PPoolReuses
open Go.RowKit Go.Proofs.YtffockklleanmaaW.PrintWords Go.Proofs.YtffockklleanmaaW.PrintLast Go.Proofs.YtffockklleanmaaW.PrintMore
attribute [local go_sem] max2_int min2_int max_two min_two max_three min_three max_four min_four   -- for this text's walks alone
set_option linter.unusedVariables false
set_option linter.unusedSimpArgs false

/-! ### tollbarlaw17_PoolReuses: function 8 -/

def tollbarlaw17_PoolReuses.f (_a0 _a1 : Int) : Option Bool := some true
theorem tollbarlaw17_PoolReuses.calls (a0 a1 : Int) (r : Bool) (w : World) (h : tollbarlaw17_PoolReuses.f a0 a1 = some r) :
    Calls Try.prog 8 #[.int .i64 a0, .int .i64 a1] w fun e w' => e = .returned (.bool r) ∧ Below w.heap.size w w' := by
  cases h
  exact X.poolReuses_calls a0 a1 w


/-- THE ONE PURE STATEMENT of tollbarlaw17_PoolReuses. -/
def tollbarlaw17_PoolReuses.Pure : Prop := ∀ (a0 : Int) (a1 : Int), ((Lit.int .i64 a0).wf = true) → ((Lit.int .i64 a1).wf = true) → tollbarlaw17_PoolReuses.f a0 a1 = some true

end Go.Proofs.Ytffockklleanmaa.PPoolReuses
