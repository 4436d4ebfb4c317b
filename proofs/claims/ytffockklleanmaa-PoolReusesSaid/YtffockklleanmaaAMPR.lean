import Derived.Test.YtffockklleanmaaAMZ4
/- PoolReuses: its 44 closed runs, printed by genruns.py. -/
namespace Go.Proofs.Ytffockklleanmaa.AM
open Go Go.RowKit Go.Proofs
set_option maxRecDepth 1000000
theorem run_0_0 : resB (callF (env noX (tbP 0 0)) 1000 8 [.chan (some 0), .chan (some 1)] ⟨.nil, 0⟩) = some true := by kernel_rfl
theorem run_0_1 : resB (callF (env noX (tbP 0 1)) 1000 8 [.chan (some 0), .chan (some 1)] ⟨.nil, 0⟩) = some true := by kernel_rfl
theorem run_1_0 : resB (callF (env noX (tbP 1 0)) 1000 8 [.chan (some 0), .chan (some 1)] ⟨.nil, 0⟩) = some true := by kernel_rfl
theorem run_1_1 : resB (callF (env noX (tbP 1 1)) 1000 8 [.chan (some 0), .chan (some 1)] ⟨.nil, 0⟩) = some true := by kernel_rfl
theorem run_1_2 : resB (callF (env noX (tbP 1 2)) 1000 8 [.chan (some 0), .chan (some 1)] ⟨.nil, 0⟩) = some true := by kernel_rfl
theorem run_2_0 : resB (callF (env noX (tbP 2 0)) 1000 8 [.chan (some 0), .chan (some 1)] ⟨.nil, 0⟩) = some true := by kernel_rfl
theorem run_2_1 : resB (callF (env noX (tbP 2 1)) 1000 8 [.chan (some 0), .chan (some 1)] ⟨.nil, 0⟩) = some true := by kernel_rfl
theorem run_2_2 : resB (callF (env noX (tbP 2 2)) 1000 8 [.chan (some 0), .chan (some 1)] ⟨.nil, 0⟩) = some true := by kernel_rfl
theorem run_2_3 : resB (callF (env noX (tbP 2 3)) 1000 8 [.chan (some 0), .chan (some 1)] ⟨.nil, 0⟩) = some true := by kernel_rfl
theorem run_3_0 : resB (callF (env noX (tbP 3 0)) 1000 8 [.chan (some 0), .chan (some 1)] ⟨.nil, 0⟩) = some true := by kernel_rfl
theorem run_3_1 : resB (callF (env noX (tbP 3 1)) 1000 8 [.chan (some 0), .chan (some 1)] ⟨.nil, 0⟩) = some true := by kernel_rfl
theorem run_3_2 : resB (callF (env noX (tbP 3 2)) 1000 8 [.chan (some 0), .chan (some 1)] ⟨.nil, 0⟩) = some true := by kernel_rfl
theorem run_3_3 : resB (callF (env noX (tbP 3 3)) 1000 8 [.chan (some 0), .chan (some 1)] ⟨.nil, 0⟩) = some true := by kernel_rfl
theorem run_3_4 : resB (callF (env noX (tbP 3 4)) 1000 8 [.chan (some 0), .chan (some 1)] ⟨.nil, 0⟩) = some true := by kernel_rfl
theorem run_4_0 : resB (callF (env noX (tbP 4 0)) 1000 8 [.chan (some 0), .chan (some 1)] ⟨.nil, 0⟩) = some true := by kernel_rfl
theorem run_4_1 : resB (callF (env noX (tbP 4 1)) 1000 8 [.chan (some 0), .chan (some 1)] ⟨.nil, 0⟩) = some true := by kernel_rfl
theorem run_4_2 : resB (callF (env noX (tbP 4 2)) 1000 8 [.chan (some 0), .chan (some 1)] ⟨.nil, 0⟩) = some true := by kernel_rfl
theorem run_4_3 : resB (callF (env noX (tbP 4 3)) 1000 8 [.chan (some 0), .chan (some 1)] ⟨.nil, 0⟩) = some true := by kernel_rfl
theorem run_4_4 : resB (callF (env noX (tbP 4 4)) 1000 8 [.chan (some 0), .chan (some 1)] ⟨.nil, 0⟩) = some true := by kernel_rfl
theorem run_4_5 : resB (callF (env noX (tbP 4 5)) 1000 8 [.chan (some 0), .chan (some 1)] ⟨.nil, 0⟩) = some true := by kernel_rfl
theorem run_5_0 : resB (callF (env noX (tbP 5 0)) 1000 8 [.chan (some 0), .chan (some 1)] ⟨.nil, 0⟩) = some true := by kernel_rfl
theorem run_5_1 : resB (callF (env noX (tbP 5 1)) 1000 8 [.chan (some 0), .chan (some 1)] ⟨.nil, 0⟩) = some true := by kernel_rfl
theorem run_5_2 : resB (callF (env noX (tbP 5 2)) 1000 8 [.chan (some 0), .chan (some 1)] ⟨.nil, 0⟩) = some true := by kernel_rfl
theorem run_5_3 : resB (callF (env noX (tbP 5 3)) 1000 8 [.chan (some 0), .chan (some 1)] ⟨.nil, 0⟩) = some true := by kernel_rfl
theorem run_5_4 : resB (callF (env noX (tbP 5 4)) 1000 8 [.chan (some 0), .chan (some 1)] ⟨.nil, 0⟩) = some true := by kernel_rfl
theorem run_5_5 : resB (callF (env noX (tbP 5 5)) 1000 8 [.chan (some 0), .chan (some 1)] ⟨.nil, 0⟩) = some true := by kernel_rfl
theorem run_5_6 : resB (callF (env noX (tbP 5 6)) 1000 8 [.chan (some 0), .chan (some 1)] ⟨.nil, 0⟩) = some true := by kernel_rfl
theorem run_6_0 : resB (callF (env noX (tbP 6 0)) 1000 8 [.chan (some 0), .chan (some 1)] ⟨.nil, 0⟩) = some true := by kernel_rfl
theorem run_6_1 : resB (callF (env noX (tbP 6 1)) 1000 8 [.chan (some 0), .chan (some 1)] ⟨.nil, 0⟩) = some true := by kernel_rfl
theorem run_6_2 : resB (callF (env noX (tbP 6 2)) 1000 8 [.chan (some 0), .chan (some 1)] ⟨.nil, 0⟩) = some true := by kernel_rfl
theorem run_6_3 : resB (callF (env noX (tbP 6 3)) 1000 8 [.chan (some 0), .chan (some 1)] ⟨.nil, 0⟩) = some true := by kernel_rfl
theorem run_6_4 : resB (callF (env noX (tbP 6 4)) 1000 8 [.chan (some 0), .chan (some 1)] ⟨.nil, 0⟩) = some true := by kernel_rfl
theorem run_6_5 : resB (callF (env noX (tbP 6 5)) 1000 8 [.chan (some 0), .chan (some 1)] ⟨.nil, 0⟩) = some true := by kernel_rfl
theorem run_6_6 : resB (callF (env noX (tbP 6 6)) 1000 8 [.chan (some 0), .chan (some 1)] ⟨.nil, 0⟩) = some true := by kernel_rfl
theorem run_6_7 : resB (callF (env noX (tbP 6 7)) 1000 8 [.chan (some 0), .chan (some 1)] ⟨.nil, 0⟩) = some true := by kernel_rfl
theorem run_7_0 : resB (callF (env noX (tbP 7 0)) 1000 8 [.chan (some 0), .chan (some 1)] ⟨.nil, 0⟩) = some true := by kernel_rfl
theorem run_7_1 : resB (callF (env noX (tbP 7 1)) 1000 8 [.chan (some 0), .chan (some 1)] ⟨.nil, 0⟩) = some true := by kernel_rfl
theorem run_7_2 : resB (callF (env noX (tbP 7 2)) 1000 8 [.chan (some 0), .chan (some 1)] ⟨.nil, 0⟩) = some true := by kernel_rfl
theorem run_7_3 : resB (callF (env noX (tbP 7 3)) 1000 8 [.chan (some 0), .chan (some 1)] ⟨.nil, 0⟩) = some true := by kernel_rfl
theorem run_7_4 : resB (callF (env noX (tbP 7 4)) 1000 8 [.chan (some 0), .chan (some 1)] ⟨.nil, 0⟩) = some true := by kernel_rfl
theorem run_7_5 : resB (callF (env noX (tbP 7 5)) 1000 8 [.chan (some 0), .chan (some 1)] ⟨.nil, 0⟩) = some true := by kernel_rfl
theorem run_7_6 : resB (callF (env noX (tbP 7 6)) 1000 8 [.chan (some 0), .chan (some 1)] ⟨.nil, 0⟩) = some true := by kernel_rfl
theorem run_7_7 : resB (callF (env noX (tbP 7 7)) 1000 8 [.chan (some 0), .chan (some 1)] ⟨.nil, 0⟩) = some true := by kernel_rfl
theorem run_7_8 : resB (callF (env noX (tbP 7 8)) 1000 8 [.chan (some 0), .chan (some 1)] ⟨.nil, 0⟩) = some true := by kernel_rfl
theorem runs : ∀ m k : Nat, m < 8 → k < m + 2 → resB (callF (env noX (tbP m k)) 1000 8 [.chan (some 0), .chan (some 1)] ⟨.nil, 0⟩) = some true
  | 0, 0, _, _ => run_0_0
  | 0, 1, _, _ => run_0_1
  | 0, k + 2, _, h => absurd h (by omega)
  | 1, 0, _, _ => run_1_0
  | 1, 1, _, _ => run_1_1
  | 1, 2, _, _ => run_1_2
  | 1, k + 3, _, h => absurd h (by omega)
  | 2, 0, _, _ => run_2_0
  | 2, 1, _, _ => run_2_1
  | 2, 2, _, _ => run_2_2
  | 2, 3, _, _ => run_2_3
  | 2, k + 4, _, h => absurd h (by omega)
  | 3, 0, _, _ => run_3_0
  | 3, 1, _, _ => run_3_1
  | 3, 2, _, _ => run_3_2
  | 3, 3, _, _ => run_3_3
  | 3, 4, _, _ => run_3_4
  | 3, k + 5, _, h => absurd h (by omega)
  | 4, 0, _, _ => run_4_0
  | 4, 1, _, _ => run_4_1
  | 4, 2, _, _ => run_4_2
  | 4, 3, _, _ => run_4_3
  | 4, 4, _, _ => run_4_4
  | 4, 5, _, _ => run_4_5
  | 4, k + 6, _, h => absurd h (by omega)
  | 5, 0, _, _ => run_5_0
  | 5, 1, _, _ => run_5_1
  | 5, 2, _, _ => run_5_2
  | 5, 3, _, _ => run_5_3
  | 5, 4, _, _ => run_5_4
  | 5, 5, _, _ => run_5_5
  | 5, 6, _, _ => run_5_6
  | 5, k + 7, _, h => absurd h (by omega)
  | 6, 0, _, _ => run_6_0
  | 6, 1, _, _ => run_6_1
  | 6, 2, _, _ => run_6_2
  | 6, 3, _, _ => run_6_3
  | 6, 4, _, _ => run_6_4
  | 6, 5, _, _ => run_6_5
  | 6, 6, _, _ => run_6_6
  | 6, 7, _, _ => run_6_7
  | 6, k + 8, _, h => absurd h (by omega)
  | 7, 0, _, _ => run_7_0
  | 7, 1, _, _ => run_7_1
  | 7, 2, _, _ => run_7_2
  | 7, 3, _, _ => run_7_3
  | 7, 4, _, _ => run_7_4
  | 7, 5, _, _ => run_7_5
  | 7, 6, _, _ => run_7_6
  | 7, 7, _, _ => run_7_7
  | 7, 8, _, _ => run_7_8
  | 7, k + 9, _, h => absurd h (by omega)
  | m + 8, _, h, _ => absurd h (by omega)
end Go.Proofs.Ytffockklleanmaa.AM
