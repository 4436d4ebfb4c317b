/- Of all fields a response's body is as said: for every input of a bulk of at most 1048576 (no other condition). -/
import Derived.Test.YtijindelbagpiaaDoorPFramex8
import Derived.Test.YtijindelbagpiaaDoorKFrameXBulk
import Derived.Test.YtijindelbagpiaaDoorKFrameXAliveF
import Derived.Test.YtijindelbagpiaaDoorKFrameXFrameR
namespace Go.Proofs.YtijindelbagpiaaDoor.Pure
open Go.RowKit Go.Proofs.YtijindelbagpiaaDoor.PFrame Go.Proofs.YtijindelbagpiaaDoor.X Go.Proofs.YtijindelbagpiaaDoorW.PrintWords Go.Proofs.YtijindelbagpiaaDoorW.PrintMore
set_option linter.unusedVariables false
set_option linter.unusedSimpArgs false
theorem FrameResponses : tollbarlaw07_FrameResponses.Pure := by
  intro method r hmt hr hb
  have hf : Lite r.f3 := lite_of (by omega)
  refine ⟨4398046511200, ?_⟩
  unfold tollbarlaw07_FrameResponses.f
  rw [alive_ok _ (by omega), Option.bind_some, if_pos rfl]
  by_cases h : (r.f3.length : Int) > 200
  · rw [if_pos h]
  · rw [if_neg h, response_spec method r.f0 r.f1 r.f2 r.f3 r.f4 hf.mid _ (by omega), Option.bind_some, rresponse_spec method r.f0 r.f1 r.f2 r.f3 r.f4 hf _ (by omega), Option.bind_some, if_pos rfl, if_pos rfl]
    simp
end Go.Proofs.YtijindelbagpiaaDoor.Pure
