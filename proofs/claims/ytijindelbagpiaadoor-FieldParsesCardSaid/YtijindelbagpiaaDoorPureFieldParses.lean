/- Every line is the field, or none, that is said: for every input (no condition). -/
import Derived.Test.YtijindelbagpiaaDoorPAllx6
import Derived.Test.YtijindelbagpiaaDoorXField1
namespace Go.Proofs.YtijindelbagpiaaDoor.Pure
open Go.RowKit Go.Proofs.YtijindelbagpiaaDoor.PAll Go.Proofs.YtijindelbagpiaaDoor.X Go.Proofs.YtijindelbagpiaaDoorW.PrintWords Go.Proofs.YtijindelbagpiaaDoorW.PrintMore
set_option linter.unusedVariables false
set_option linter.unusedSimpArgs false

theorem parsing_20 : tollbarlaw04_parsing.f 30 = some true := by decide +kernel
theorem parsing_ok (k : Nat) (hk : 30 ≤ k) : tollbarlaw04_parsing.f k = some true := by
  obtain ⟨d, rfl⟩ : ∃ d, k = 30 + d := ⟨k - 30, by omega⟩
  clear hk
  induction d with
  | zero => exact parsing_20
  | succ d ih => exact (tollbarlaw04_parsing.mono (30 + d)) _ ih
theorem FieldParses : tollbarlaw04_FieldParses.Pure := by
  intro s hs
  refine ⟨s.size + s.size + s.size + 30, ?_⟩
  unfold tollbarlaw04_FieldParses.f
  rw [parsing_ok _ (by omega), Option.bind_some, if_pos rfl, parse_spec s hs _ (by omega), Option.bind_some, rparse_spec s hs _ (by omega), Option.bind_some]
  cases fieldOf s with
  | none => simp [toList_eq, L]
  | some p => obtain ⟨n, v⟩ := p; simp
end Go.Proofs.YtijindelbagpiaaDoor.Pure
