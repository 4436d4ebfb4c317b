/- What field.right computes. -/
import Derived.Test.YtijindelbagpiaaDoorPFieldPartsx5
import Derived.Test.YtijindelbagpiaaDoorKFieldPartsXSignT
namespace Go.Proofs.YtijindelbagpiaaDoor.X
open Go.RowKit Go.Proofs.YtijindelbagpiaaDoor.PFieldParts Go.Proofs.YtijindelbagpiaaDoorW.PrintWords Go.Proofs.YtijindelbagpiaaDoorW.PrintMore
set_option linter.unusedVariables false
set_option linter.unusedSimpArgs false

def okF (n v : List UInt8) : Bool := isTok n && decide (n.length ≤ 100) && isVal v && decide (v.length ≤ 1000) && (trimL v == v)
theorem right_spec (n v : ByteArray) (hn : n.size ≤ 562949953421312) (hv : v.size ≤ 140737488351232) (k : Nat) (hk : n.size < k) (hk2 : v.size < k) : field_right.f k n v = some (okF (L n) (L v)) := by
  unfold field_right.f okF
  rw [token_spec n hn k hk, value_spec v (by omega) k hk2, trim_spec v hv]
  simp only [Option.bind_some, toList_eq, L_trimB, L_len]
  by_cases h1 : (n.size : Int) ≤ 100
  · rw [if_pos h1, decide_eq_true (show n.size ≤ 100 by omega)]
    cases isTok (L n)
    · rfl
    · rw [if_pos rfl]
      by_cases h2 : (v.size : Int) ≤ 1000
      · rw [if_pos h2, decide_eq_true (show v.size ≤ 1000 by omega)]
        cases isVal (L v) <;> rfl
      · rw [if_neg h2, decide_eq_false (show ¬ v.size ≤ 1000 by omega)]
        cases isVal (L v) <;> rfl
  · rw [if_neg h1, decide_eq_false (show ¬ n.size ≤ 100 by omega)]
    cases isTok (L n) <;> rfl
end Go.Proofs.YtijindelbagpiaaDoor.X
