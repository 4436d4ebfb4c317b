/- looking is alive. -/
import Derived.Test.YtijindelbagpiaaDoorPFieldPartsx6
import Derived.Test.YtijindelbagpiaaDoorXBytes
namespace Go.Proofs.YtijindelbagpiaaDoor.X
open Go.RowKit Go.Proofs.YtijindelbagpiaaDoor.PFieldParts Go.Proofs.YtijindelbagpiaaDoorW.PrintWords Go.Proofs.YtijindelbagpiaaDoorW.PrintMore
theorem looking_100 : tollbarlaw04_looking.f 100 = some true := by decide +kernel
theorem looking_ok (k : Nat) (hk : 100 ≤ k) : tollbarlaw04_looking.f k = some true := by
  obtain ⟨d, rfl⟩ : ∃ d, k = 100 + d := ⟨k - 100, by omega⟩
  clear hk
  induction d with
  | zero => exact looking_100
  | succ d ih => exact (tollbarlaw04_looking.mono (100 + d)) _ ih
end Go.Proofs.YtijindelbagpiaaDoor.X
