-- Written by this session's program xprint.py over the kit's print, with contracts given by hand. Not trusted: Lean checks it.
import Derived.Test.YteffhomollmpdaaPRobinOrderx0
namespace Go.Proofs.Yteffhomollmpdaa.PRobinOrder
open Go.RowKit Go.Proofs.YteffhomollmpdaaW.PrintWords Go.Proofs.YteffhomollmpdaaW.PrintLast Go.Proofs.YteffhomollmpdaaW.PrintMore
attribute [local go_sem] max2_int min2_int max_two min_two max_three min_three max_four min_four   -- for this text's walks alone
set_option linter.unusedVariables false
set_option linter.unusedSimpArgs false

/-! ### tollbarlaw16_RobinOrder: function 7 -/

def tollbarlaw16_RobinOrder.f (_q : Int) (_l : List Int) (_x _y : Int) : Option Bool := some true
theorem tollbarlaw16_RobinOrder.calls (q : Int) (A : Option Addr) (c : Nat) (l : List Int) (x y : Int) (r : Bool) (w : World) (hr : Kd.C (Kd.int .i64) w A l.length l) (hc : l.length ≤ c) (h : tollbarlaw16_RobinOrder.f q l x y = some r) :
    Calls Try.prog 7 #[.int .i64 q, .slice A l.length c, .int .i64 x, .int .i64 y] w fun e w' => e = .returned (.bool r) ∧ Below w.heap.size w w' := by
  cases h
  exact X.robinOrder_calls q A c l x y w hr hc


/-- THE ONE PURE STATEMENT of tollbarlaw16_RobinOrder. -/
def tollbarlaw16_RobinOrder.Pure : Prop := ∀ (a0 : Int) (l1 : List Int) (a2 : Int) (a3 : Int), ((Lit.int .i64 a0).wf = true) → (l1.length * 8 ≤ 140737488351232 ∧ ∀ x_ ∈ l1, (Lit.int .i64 x_).wf = true) → ((Lit.int .i64 a2).wf = true) → ((Lit.int .i64 a3).wf = true) → tollbarlaw16_RobinOrder.f a0 l1 a2 a3 = some true

end Go.Proofs.Yteffhomollmpdaa.PRobinOrder
