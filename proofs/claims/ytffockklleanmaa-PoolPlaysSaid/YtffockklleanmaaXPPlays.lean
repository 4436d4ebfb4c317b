import Derived.Test.YtffockklleanmaaPZ2
/- PoolPlays: the law's calls. -/
namespace Go.Proofs.Ytffockklleanmaa.X
open Go Go.RowKit Go.Proofs Go.Proofs.Ytffockklleanmaa.AM Go.Proofs.Ytffockklleanmaa.AM.SX Go.Proofs.YtffockklleanmaaW.PrintWords Go.Proofs.YtffockklleanmaaW.PrintMore
set_option linter.unusedVariables false
theorem poolPlays_calls (most : Int) (A : Option Addr) (c : Nat) (l : List OpT) (w : World) (hr : Kd.C kO w A l.length l) (hlc : l.length ≤ c) :
    Calls Try.prog 6 #[.int .i64 most, .slice A l.length c] w fun e w' => e = .returned (.bool true) ∧ Below w.heap.size w w' :=
  law_script (n := 3001) hr hlc fun h0 sv ids hs hlt => plays_run (n := 3000) (Nat.le_refl _) most l h0 sv ids hs hlt
end Go.Proofs.Ytffockklleanmaa.X
