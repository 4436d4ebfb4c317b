/- Which fields are right by the document. -/
import Derived.Test.YtijindelbagpiaaDoorPAllx5
import Derived.Test.YtijindelbagpiaaDoorXField1
import Derived.Test.YtijindelbagpiaaDoorXSignR
namespace Go.Proofs.YtijindelbagpiaaDoor.X
open Go.RowKit Go.Proofs.YtijindelbagpiaaDoor.PAll Go.Proofs.YtijindelbagpiaaDoorW.PrintWords Go.Proofs.YtijindelbagpiaaDoorW.PrintMore
set_option linter.unusedVariables false
set_option linter.unusedSimpArgs false

theorem one_spec (n v : ByteArray) (hn : n.size ≤ 562949953421312) (hv : v.size ≤ 562949953421312) (k : Nat) (hk : n.size + 1 < k) (hk2 : v.size + v.size + 2 < k) : tollbarref04_One.f k n v = some (okF (L n) (L v)) := by
  unfold tollbarref04_One.f okF
  rw [rtoken_spec n hn k hk, rvalue_spec v hv k (by omega), rtrim_spec v hv k hk2]
  simp only [Option.bind_some, toList_eq, L_trimB, L_len]
  cases isTok (L n) with
  | false => rfl
  | true =>
    rw [if_pos rfl]
    by_cases h1 : (n.size : Int) ≤ 100
    · rw [if_pos h1, decide_eq_true (show n.size ≤ 100 by omega)]
      cases isVal (L v) with
      | false => rfl
      | true =>
        rw [if_pos rfl]
        by_cases h3 : trimL (L v) = L v
        · rw [if_pos h3, h3, show decide ((v.size : Int) ≤ 1000) = decide (v.size ≤ 1000) from by congr 1; simp only [eq_iff_iff]; omega]
          simp
        · rw [if_neg h3, show (trimL (L v) == L v) = false from by simpa using h3]
          simp
    · rw [if_neg h1, decide_eq_false (show ¬ n.size ≤ 100 by omega)]
      rfl

end Go.Proofs.YtijindelbagpiaaDoor.X
