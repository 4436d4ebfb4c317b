import Derived.Test.YteffhomollmpdaaQZ2
/- RobinNothing: the law's calls. -/
namespace Go.Proofs.Yteffhomollmpdaa.X
open Go Go.RowKit Go.Proofs Go.Proofs.Yteffhomollmpdaa.AM Go.Proofs.Yteffhomollmpdaa.AM.SX Go.Proofs.YteffhomollmpdaaW.PrintWords Go.Proofs.YteffhomollmpdaaW.PrintMore
set_option linter.unusedVariables false
theorem robinNothing_calls (q : Int) (A : Option Addr) (c : Nat) (l : List (Int × Int)) (w : World) (hb : l.length ≤ 140737488355328) (hr : Kd.C kP w A l.length l) (hlc : l.length ≤ c) :
    Calls Try.prog 6 #[.int .i64 q, .slice A l.length c] w fun e w' => e = .returned (.bool true) ∧ Below w.heap.size w w' :=
  law_flows (n := 3000000 + l.length + 1) hr hlc fun h0 sv ids hs hlt => nothing_run (n := 3000000 + l.length) (K := 2100000) ⟨by omega, by omega⟩ q l (by omega) hb h0 sv ids hs hlt
end Go.Proofs.Yteffhomollmpdaa.X
