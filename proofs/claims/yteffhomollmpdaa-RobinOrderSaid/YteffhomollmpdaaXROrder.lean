import Derived.Test.YteffhomollmpdaaQZ2
/- RobinOrder: the law's calls. -/
namespace Go.Proofs.Yteffhomollmpdaa.X
open Go Go.RowKit Go.Proofs Go.Proofs.Yteffhomollmpdaa.AM Go.Proofs.Yteffhomollmpdaa.AM.SX Go.Proofs.YteffhomollmpdaaW.PrintWords Go.Proofs.YteffhomollmpdaaW.PrintMore
set_option linter.unusedVariables false
theorem robinOrder_calls (q : Int) (A : Option Addr) (c : Nat) (l : List Int) (x y : Int) (w : World) (hr : Kd.C (Kd.int .i64) w A l.length l) (hlc : l.length ≤ c) :
    Calls Try.prog 7 #[.int .i64 q, .slice A l.length c, .int .i64 x, .int .i64 y] w fun e w' => e = .returned (.bool true) ∧ Below w.heap.size w w' :=
  law_nums (n := 3000000 + l.length + 1) hr hlc fun h0 sv ids hs hlt => order_run (n := 3000000 + l.length) (K := 2100000) ⟨by omega, by omega⟩ (by omega) q x y l h0 sv ids hs hlt
end Go.Proofs.Yteffhomollmpdaa.X
