/- PoolReuses, from its closed runs. -/
import Derived.Test.YtffockklleanmaaAMPR
namespace Go.Proofs.Ytffockklleanmaa.X
open Go Go.RowKit Go.Proofs Go.Proofs.Ytffockklleanmaa.AM
set_option linter.unusedVariables false
theorem poolReuses_calls (a0 a1 : Int) (W : World) : Calls Try.prog 8 #[.int .i64 a0, .int .i64 a1] W fun e W' => e = .returned (.bool true) ∧ Below W.heap.size W W' := by
  letI := tokP a0 a1 (fun b => W.heap[b]?)
  have h0 : 0 ≤ a0 % 8 := Int.emod_nonneg _ (by decide)
  have h1 : a0 % 8 < 8 := Int.emod_lt_of_pos _ (by decide)
  obtain ⟨m, hm⟩ := Int.eq_ofNat_of_zero_le h0
  have hm8 : m < 8 := by omega
  have h2 : 0 ≤ (a1 % 1024) % ((m + 2 : Nat) : Int) := Int.emod_nonneg _ (by omega)
  have h3 : (a1 % 1024) % ((m + 2 : Nat) : Int) < ((m + 2 : Nat) : Int) := Int.emod_lt_of_pos _ (by omega)
  obtain ⟨k, hk⟩ := Int.eq_ofNat_of_zero_le h2
  have hk2 : k < m + 2 := by omega
  obtain ⟨h', hrun⟩ := resB_some (runs m k hm8 hk2)
  rw [callF_eq] at hrun
  refine law_calls (args := [.chan (some 0), .chan (some 1)]) (sound noX_ok (tbP_ok hm hk) 1000) hrun ?_ (fun b _ => rfl)
  exact .cons (VR.tok 0) (.cons (VR.tok 1) .nil)
end Go.Proofs.Ytffockklleanmaa.X
