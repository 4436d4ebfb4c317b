/- Of all fields a request's body is as said: for every input of a bulk of at most 1048576 (no other condition). -/
import Derived.Test.YtijindelbagpiaaDoorPFramex6
import Derived.Test.YtijindelbagpiaaDoorKFrameXBulk
import Derived.Test.YtijindelbagpiaaDoorKFrameXAliveF
import Derived.Test.YtijindelbagpiaaDoorKFrameXFrameR
namespace Go.Proofs.YtijindelbagpiaaDoor.Pure
open Go.RowKit Go.Proofs.YtijindelbagpiaaDoor.PFrame Go.Proofs.YtijindelbagpiaaDoor.X Go.Proofs.YtijindelbagpiaaDoorW.PrintWords Go.Proofs.YtijindelbagpiaaDoorW.PrintMore
set_option linter.unusedVariables false
set_option linter.unusedSimpArgs false
theorem FrameRequests : tollbarlaw07_FrameRequests.Pure := by
  intro fs minor hfs hm hb
  have hf : Lite fs := lite_of (by omega)
  refine ⟨4398046511200, ?_⟩
  unfold tollbarlaw07_FrameRequests.f
  rw [alive_ok _ (by omega), Option.bind_some, if_pos rfl]
  by_cases h : (fs.length : Int) > 200
  · rw [if_pos h]
  · rw [if_neg h, request_spec fs hf.mid minor _ (by omega), Option.bind_some, rrequest_spec fs hf minor _ (by omega), Option.bind_some, if_pos rfl, if_pos (by simp), if_pos rfl, closes_spec fs hf.mid minor _ (by omega), Option.bind_some, rcloses_spec fs hf minor _ (by omega), Option.bind_some]
    simp
end Go.Proofs.YtijindelbagpiaaDoor.Pure
