/- alive: the document's examples of layer 7. -/
import Derived.Test.YtijindelbagpiaaDoorPFrameNonex3
import Derived.Test.YtijindelbagpiaaDoorXBytes
namespace Go.Proofs.YtijindelbagpiaaDoor.X
open Go.RowKit Go.Proofs.YtijindelbagpiaaDoor.PFrameNone Go.Proofs.YtijindelbagpiaaDoorW.PrintWords Go.Proofs.YtijindelbagpiaaDoorW.PrintMore
theorem alive_100 : tollbarlaw07_alive.f 100 = some true := by decide +kernel
theorem alive_ok (k : Nat) (hk : 100 ≤ k) : tollbarlaw07_alive.f k = some true := by
  obtain ⟨d, rfl⟩ : ∃ d, k = 100 + d := ⟨k - 100, by omega⟩
  clear hk
  induction d with
  | zero => exact alive_100
  | succ d ih => exact (tollbarlaw07_alive.mono (100 + d)) _ ih
end Go.Proofs.YtijindelbagpiaaDoor.X
