/- slices.Delete, slices.Backward on the machine. -/
import Derived.Test.YtffockklleanmaaPS5
namespace Go.Proofs.Ytffockklleanmaa.AM.SX
open Go
set_option linter.unusedVariables false
set_option linter.unusedSimpArgs false
set_option maxRecDepth 100000
set_option maxHeartbeats 4000000
attribute [local irreducible] astep0 aev awants abin abuild
section
variable {n : Nat} {h : AHeap}
theorem delete_spec {l : List Int} {v : Value} {O : List Nat} {i : Nat} (hv : IntsAt h l v O) (hi : i < l.length) (hl : l.length < 1000000) : C EE (n + 1) 40 [v, .int .i64 (i : Int), .int .i64 ((i : Int) + 1)] h fun r h' => IntsAt h' (l.eraseIdx i) r O ∧ h.next ≤ h'.next ∧ ∀ q, q ∉ O → h'.get q = h.get q := by
  rcases hv with ⟨rfl, _, _⟩ | ⟨bk, js, rfl, hbk, rfl⟩
  · exact absurd hi (Nat.not_lt_zero _)
  have hj : ((i : Int) + 1) = ((i + 1 : Nat) : Int) := by omega
  rw [hj]
  refine C_in (E_X _) F_delete rfl rfl rfl ?_
  intro a hna hat
  have e0 := hat 0 _ rfl
  have e1 := hat 1 _ rfl
  have e2 := hat 2 _ rfl
  replace hna : a.n = 33 := hna
  clear hat
  obtain ⟨r3, hr3⟩ := sl3_ints (T := EE.T) (st := 80) (h := h) (bk := bk) (TL rfl) (TL rfl) (Nat.le_succ i) (show i + 1 ≤ l.length from hi) hl
  repeat first | refine G_seq ?_ | refine G_reg ?_ | refine N_seq ?_ | refine N_block ?_ | refine G_block ?_ | refine G_skip ?_ | refine G_cT ?_ | refine G_cF ?_ | refine G_ret ?_ | refine U_seq_ret ?_ | refine U_block_ret ?_ | refine U_nil ?_ | refine S_nil ?_ | refine S_auto ?_
  refine S_step wants0 (o_builtin (by simp only [List.map, aev_tmp, aev_const, aev_func, aev_global, at_put, at_none, n_put, reduceIte, Nat.reduceEqDiff, Nat.reduceLT, zq, *]; first | done | rfl) (lenS (TL rfl))) ?_
  refine S_step wants0 (o_slice (by simp only [aev_tmp, aev_const, aev_func, aev_global, at_put, at_none, n_put, reduceIte, Nat.reduceEqDiff, Nat.reduceLT, zq, *]; first | done | rfl) (by simp only [Option.map, aev_tmp, aev_const, at_put, at_none, n_put, reduceIte, Nat.reduceEqDiff, Nat.reduceLT, zq, *]; first | done | rfl) (by simp only [Option.map, aev_tmp, aev_const, at_put, at_none, n_put, reduceIte, Nat.reduceEqDiff, Nat.reduceLT, zq, *]; first | done | rfl) (by simp only [Option.map, aev_tmp, aev_const, at_put, at_none, n_put, reduceIte, Nat.reduceEqDiff, Nat.reduceLT, zq, *]; first | done | rfl) hr3) ?_
  clear hr3
  have hne : ((i : Int) = ((i + 1 : Nat) : Int)) = False := eq_false (by omega)
  repeat first | refine G_seq ?_ | refine G_reg ?_ | refine N_seq ?_ | refine N_block ?_ | refine G_block ?_ | refine G_skip ?_ | refine G_cT ?_ | refine G_cF ?_ | refine G_ret ?_ | refine U_seq_ret ?_ | refine U_block_ret ?_ | refine U_nil ?_ | refine S_nil ?_ | refine S_auto ?_
  refine S_step wants0 (o_builtin (by simp only [List.map, aev_tmp, aev_const, aev_func, aev_global, at_put, at_none, n_put, reduceIte, Nat.reduceEqDiff, Nat.reduceLT, zq, *]; first | done | rfl) (lenS (TL rfl))) ?_
  repeat first | refine G_seq ?_ | refine G_reg ?_ | refine N_seq ?_ | refine N_block ?_ | refine G_block ?_ | refine G_skip ?_ | refine G_cT ?_ | refine G_cF ?_ | refine G_ret ?_ | refine U_seq_ret ?_ | refine U_block_ret ?_ | refine U_nil ?_ | refine S_nil ?_ | refine S_auto ?_
  clear hne
  refine G_draw [] [] (by kernel_rfl) ?_
  obtain ⟨h', g1, g2, g3, g4⟩ := app_within (T := EE.T) (st := 80) (nid := h.next + 6) (c := CAPX + 1) (h := bump h 8) (TL rfl) (TL rfl) hbk (Nat.le_succ i) (show i + 1 ≤ l.length from hi) hl
  repeat first | refine D1_nil0 ?_ | refine D2_nil ?_ | refine D_pure ?_ | refine D_rd ?_ | refine D2_pure' ?_
  refine D1_rd wants0 rfl rfl (fun _ => o_slice (by simp only [aev_tmp, aev_const, aev_func, aev_global, at_put, at_none, n_put, reduceIte, Nat.reduceEqDiff, Nat.reduceLT, zq, *]; first | done | rfl) (by simp only [Option.map, aev_tmp, aev_const, at_put, at_none, n_put, reduceIte, Nat.reduceEqDiff, Nat.reduceLT, zq, *]; first | done | rfl) (by simp only [Option.map, aev_tmp, aev_const, at_put, at_none, n_put, reduceIte, Nat.reduceEqDiff, Nat.reduceLT, zq, *]; first | done | rfl) (by simp only [Option.map, aev_tmp, aev_const, at_put, at_none, n_put, reduceIte, Nat.reduceEqDiff, Nat.reduceLT, zq, *]; first | done | rfl) (sl_ints (TL rfl) (TL rfl) (optNat_none _) (optNat_int _ _) (Nat.zero_le _) (Nat.le_of_lt hi))) (veq_self rfl) ?_
  repeat first | refine D1_nil0 ?_ | refine D2_nil ?_ | refine D_pure ?_ | refine D_rd ?_ | refine D2_pure' ?_
  refine D1_rd wants0 rfl rfl (fun _ => o_slice (by simp only [aev_tmp, aev_const, aev_func, aev_global, at_put, at_none, n_put, reduceIte, Nat.reduceEqDiff, Nat.reduceLT, zq, *]; first | done | rfl) (by simp only [Option.map, aev_tmp, aev_const, at_put, at_none, n_put, reduceIte, Nat.reduceEqDiff, Nat.reduceLT, zq, *]; first | done | rfl) (by simp only [Option.map, aev_tmp, aev_const, at_put, at_none, n_put, reduceIte, Nat.reduceEqDiff, Nat.reduceLT, zq, *]; first | done | rfl) (by simp only [Option.map, aev_tmp, aev_const, at_put, at_none, n_put, reduceIte, Nat.reduceEqDiff, Nat.reduceLT, zq, *]; first | done | rfl) (sl_ints (TL rfl) (TL rfl) (optNat_int _ _) (optNat_none _) hi (Nat.le_refl _))) (veq_self rfl) ?_
  refine D1_wr0 wants0 rfl (o_builtin (by simp only [List.map, aev_tmp, aev_const, aev_func, aev_global, at_put, at_none, n_put, reduceIte, Nat.reduceEqDiff, Nat.reduceLT, zq, *]; first | done | rfl) g1) .nil ?_
  repeat first | refine D1_nil0 ?_ | refine D2_nil ?_ | refine D_pure ?_ | refine D_rd ?_ | refine D2_pure' ?_
  repeat first | refine G_seq ?_ | refine G_reg ?_ | refine N_seq ?_ | refine N_block ?_ | refine G_block ?_ | refine G_skip ?_ | refine G_cT ?_ | refine G_cF ?_ | refine G_ret ?_ | refine U_seq_ret ?_ | refine U_block_ret ?_ | refine U_nil ?_ | refine S_nil ?_ | refine S_auto ?_
  refine S_step wants0 (o_builtin (by simp only [List.map, aev_tmp, aev_const, aev_func, aev_global, at_put, at_none, n_put, reduceIte, Nat.reduceEqDiff, Nat.reduceLT, zq, *]; first | done | rfl) (lenS (TL rfl))) ?_
  have hcl : (l.take i ++ (l.drop i.succ ++ (l ++ js).drop (i + (l.length - i.succ)))).length = (l ++ js).length := by simp; omega
  have hct : (l.take i ++ (l.drop i.succ ++ (l ++ js).drop (i + (l.length - i.succ)))).take (i + (l.length - i.succ)) = l.eraseIdx i := by
    rw [List.eraseIdx_eq_take_drop_succ, ← List.append_assoc, List.take_append_of_le_length (by simp; omega), List.take_of_length_le (by simp; omega)]
  generalize l.take i ++ (l.drop i.succ ++ (l ++ js).drop (i + (l.length - i.succ))) = cur at g2 hcl hct
  have hcl2 : l.length ≤ cur.length := by rw [hcl]; simp
  have hlen : (l.eraseIdx i).length = i + (l.length - i.succ) := by rw [List.length_eraseIdx_of_lt hi]; omega
  generalize hn1 : i + (l.length - i.succ) = n1 at *
  have hn1l : n1 < l.length := by omega
  repeat first | refine G_seq ?_ | refine G_reg ?_ | refine N_seq ?_ | refine N_block ?_ | refine G_block ?_ | refine G_skip ?_ | refine G_cT ?_ | refine G_cF ?_ | refine G_ret ?_ | refine U_seq_ret ?_ | refine U_block_ret ?_ | refine U_nil ?_ | refine S_nil ?_ | refine S_auto ?_
  refine S_step wants0 (o_slice (by simp only [aev_tmp, aev_const, aev_func, aev_global, at_put, at_none, n_put, reduceIte, Nat.reduceEqDiff, Nat.reduceLT, zq, *]; first | done | rfl) (by simp only [Option.map, aev_tmp, aev_const, at_put, at_none, n_put, reduceIte, Nat.reduceEqDiff, Nat.reduceLT, zq, *]; first | done | rfl) (by simp only [Option.map, aev_tmp, aev_const, at_put, at_none, n_put, reduceIte, Nat.reduceEqDiff, Nat.reduceLT, zq, *]; first | done | rfl) (by simp only [Option.map, aev_tmp, aev_const, at_put, at_none, n_put, reduceIte, Nat.reduceEqDiff, Nat.reduceLT, zq, *]; first | done | rfl) (sl_more (TL rfl) (TL rfl) g2 (Nat.le_of_lt hn1l) hcl2)) ?_
  refine S_step wants0 (o_builtin (by simp only [List.map, aev_tmp, aev_const, aev_func, aev_global, at_put, at_none, n_put, reduceIte, Nat.reduceEqDiff, Nat.reduceLT, zq, *]; first | done | rfl) (cl_ints (TL rfl) (TL rfl) g2 (by omega) (by omega))) ?_
  repeat first | refine G_seq ?_ | refine G_reg ?_ | refine N_seq ?_ | refine N_block ?_ | refine G_block ?_ | refine G_skip ?_ | refine G_cT ?_ | refine G_cF ?_ | refine G_ret ?_ | refine U_seq_ret ?_ | refine U_block_ret ?_ | refine U_nil ?_ | refine S_nil ?_ | refine S_auto ?_
  refine FQ_in (by first | exact .inr rfl | exact .inl rfl) (by first | exact ares1 (by simp only [at_put, at_none, n_put, reduceIte, Nat.reduceEqDiff, Nat.reduceLT, zq, *]; first | done | rfl) | exact ares2 (by simp only [at_put, at_none, n_put, reduceIte, Nat.reduceEqDiff, Nat.reduceLT, zq, *]; first | done | rfl) (by simp only [at_put, at_none, n_put, reduceIte, Nat.reduceEqDiff, Nat.reduceLT, zq, *]; first | done | rfl)) ?_
  refine ⟨.inr ⟨bk, List.replicate (l.length - n1) 0 ++ cur.drop (n1 + (l.length - n1)), ?_, ?_, rfl⟩, ?_, fun q hq => ?_⟩
  · rw [hlen]; rfl
  · rw [get_set_self, hct]
  · rw [next_set, g3]; exact Nat.le_add_right _ _
  · have hq : q ≠ bk := by simpa using hq
    rw [get_set_ne hq, g4 q hq]; rfl
theorem back_spec {v : Value} (hv : v.cells.toList = [v] ∧ one v = true) : C EE (n + 1) 39 [v] h fun r h' => r = .func (.func 45) #[] #[.pointer (some ⟨h.next, 0, none⟩)] ∧ h' = h.new h.next (.cells [v] true) := by
  refine C_in (E_X _) F_back rfl rfl rfl ?_
  intro a hna hat
  have e0 := hat 0 _ rfl
  replace hna : a.n = 4 := hna
  clear hat
  obtain ⟨v1, v2⟩ := hv
  refine G_seq ?_
  refine G_reg ?_
  refine S_step wants0 (o_box (by simp only [aev_tmp, aev_const, aev_func, aev_global, at_put, at_none, n_put, reduceIte, Nat.reduceEqDiff, Nat.reduceLT, zq, *]; first | done | rfl) (by rw [v1]; simp [ones, v2])) ?_
  rw [v1]
  clear v1 v2
  repeat first | refine G_seq ?_ | refine G_reg ?_ | refine N_seq ?_ | refine N_block ?_ | refine G_block ?_ | refine G_skip ?_ | refine G_cT ?_ | refine G_cF ?_ | refine G_ret ?_ | refine U_seq_ret ?_ | refine U_block_ret ?_ | refine U_nil ?_ | refine S_nil ?_ | refine S_auto ?_
  refine FQ_in (by first | exact .inr rfl | exact .inl rfl) (by first | exact ares1 (by simp only [at_put, at_none, n_put, reduceIte, Nat.reduceEqDiff, Nat.reduceLT, zq, *]; first | done | rfl) | exact ares2 (by simp only [at_put, at_none, n_put, reduceIte, Nat.reduceEqDiff, Nat.reduceLT, zq, *]; first | done | rfl) (by simp only [at_put, at_none, n_put, reduceIte, Nat.reduceEqDiff, Nat.reduceLT, zq, *]; first | done | rfl)) ?_
  exact ⟨rfl, rfl⟩
end
end Go.Proofs.Ytffockklleanmaa.AM.SX
