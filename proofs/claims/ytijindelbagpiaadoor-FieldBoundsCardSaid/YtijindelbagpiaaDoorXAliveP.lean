/- parsing is alive. -/
import Derived.Test.YtijindelbagpiaaDoorPAllx4
import Derived.Test.YtijindelbagpiaaDoorXBytes
namespace Go.Proofs.YtijindelbagpiaaDoor.X
open Go.RowKit Go.Proofs.YtijindelbagpiaaDoor.PAll Go.Proofs.YtijindelbagpiaaDoorW.PrintWords Go.Proofs.YtijindelbagpiaaDoorW.PrintMore
theorem parsing_30 : tollbarlaw04_parsing.f 30 = some true := by decide +kernel
theorem parsing_ok (k : Nat) (hk : 30 ≤ k) : tollbarlaw04_parsing.f k = some true := by
  obtain ⟨d, rfl⟩ : ∃ d, k = 30 + d := ⟨k - 30, by omega⟩
  clear hk
  induction d with
  | zero => exact parsing_30
  | succ d ih => exact (tollbarlaw04_parsing.mono (30 + d)) _ ih
end Go.Proofs.YtijindelbagpiaaDoor.X
