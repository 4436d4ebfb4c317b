/- The document's Same of fields and themselves. -/
import Derived.Test.YtijindelbagpiaaDoorPFieldPartsx7
import Derived.Test.YtijindelbagpiaaDoorKFieldPartsXField2
namespace Go.Proofs.YtijindelbagpiaaDoor.X
open Go.RowKit Go.Proofs.YtijindelbagpiaaDoor.PFieldParts Go.Proofs.YtijindelbagpiaaDoorW.PrintWords Go.Proofs.YtijindelbagpiaaDoorW.PrintMore
set_option linter.unusedVariables false
set_option linter.unusedSimpArgs false

theorem rsame_self (a : List FdT) (hl : a.length ≤ 4398046511104) : ∀ d i k, i + d = a.length → d < k → tollbarref04_Same.l0 k a a (i : Int) = some true := by
  intro d
  induction d with
  | zero =>
    intro i k hi hk; obtain ⟨k, rfl, _⟩ := suc hk
    simp only [tollbarref04_Same.l0]; rw [if_neg (by omega)]
  | succ d ih =>
    intro i k hi hk; obtain ⟨k, rfl, _⟩ := suc hk
    simp only [tollbarref04_Same.l0]
    rw [if_pos (by omega), if_pos (by omega), if_pos (by omega), if_pos trivial, if_pos trivial, succ_cast i (by omega), ih (i + 1) k (by omega) (by omega)]
theorem rsames_self (a : List FdT) (hl : a.length ≤ 4398046511104) (k : Nat) (hk : a.length < k) : tollbarref04_Same.f k a a = some true := by
  unfold tollbarref04_Same.f
  have h := rsame_self a hl a.length 0 k (by omega) hk
  rw [Int.natCast_zero] at h
  rw [if_pos rfl, h]
end Go.Proofs.YtijindelbagpiaaDoor.X
