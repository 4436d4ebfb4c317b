import Derived.Test.YteffhomollmpdaaQZ2
/- RobinTurns: the law's calls. -/
namespace Go.Proofs.Yteffhomollmpdaa.X
open Go Go.RowKit Go.Proofs Go.Proofs.Yteffhomollmpdaa.AM Go.Proofs.Yteffhomollmpdaa.AM.SX Go.Proofs.YteffhomollmpdaaW.PrintWords Go.Proofs.YteffhomollmpdaaW.PrintMore
set_option linter.unusedVariables false
theorem robinTurns_calls (a b c : Int) (w : World) :
    Calls Try.prog 5 #[.int .i64 a, .int .i64 b, .int .i64 c] w fun e w' => e = .returned (.bool true) ∧ Below w.heap.size w w' := by
  letI := tokL (.slice none 0 0) slice_one (fun b => w.heap[b]?)
  obtain ⟨v, h', h1, rfl⟩ := C_out (turns_run (n := 6000) (Nat.le_refl _) a b c ⟨.nil, 0⟩)
  refine law_calls_from (sound X_ok tbL_ok 6001) h1 piG_gr (hr_nil (fun id hid => if_neg (Nat.not_lt.2 hid)) ⟨Nat.le_refl _, fun b _ => rfl⟩) ?_ (fun b => own_nil)
  exact .cons (.int _ _) (.cons (.int _ _) (.cons (.int _ _) .nil))
end Go.Proofs.Yteffhomollmpdaa.X
