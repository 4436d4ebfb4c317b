import Derived.Test.YteffhomollmpdaaQZ1
import Derived.Test.YteffhomollmpdaaXChg
/- Robin: Delete; the flows that count. -/
namespace Go.Proofs.Yteffhomollmpdaa.AM.SX
open Go
set_option linter.unusedVariables false
set_option linter.unusedSimpArgs false
set_option maxRecDepth 100000
set_option maxHeartbeats 4000000
attribute [local irreducible] astep0 aev awants abin abuild
def flowsF (l : List Fl) : List Fl := delF (compF (sortF l))
theorem compF_short {l : List Fl} (h : l.length < 2) : compF l = l := by
  unfold compF
  rw [compN_take (Nat.le_refl _) (fun q hq _ => by omega), List.take_length]
theorem compN_len (l : List Fl) : ∀ k, (compN l k).length ≤ k
  | 0 => Nat.le_refl _
  | k + 1 => by
    have := compN_len l k
    show (compN l k ++ _).length ≤ k + 1
    rw [List.length_append]
    split
    · show _ + 0 ≤ _; omega
    · show _ + 1 ≤ _; omega
theorem compF_len (l : List Fl) : (compF l).length ≤ l.length := compN_len l _
section
variable {n : Nat} {h : AHeap}
theorem delete_spec {bk : Nat} {l js : List Fl} {i : Nat} (hb : h.get bk = some (.cells (kF.fl (l ++ js)) true)) (hbl : bk < h.next) (hi : i < l.length) (hl : l.length < 1000000) : C EE (n + 1) 21 [.slice (some ⟨bk, 0, none⟩) l.length (CAPX + kF.sz), .int .i64 (i : Int), .int .i64 ((i : Int) + 1)] h fun r h' => ∃ js', r = .slice (some ⟨bk, 0, none⟩) (l.eraseIdx i).length (CAPX + kF.sz) ∧ h'.get bk = some (.cells (kF.fl (l.eraseIdx i ++ js')) true) ∧ Keep h h' [bk] := by
  have hj : ((i : Int) + 1) = ((i + 1 : Nat) : Int) := by omega
  rw [hj]
  refine C_in (E_X _) F_delete rfl rfl rfl ?_
  intro a hna hat
  have e0 := hat 0 _ rfl
  have e1 := hat 1 _ rfl
  have e2 := hat 2 _ rfl
  replace hna : a.n = 33 := hna
  clear hat
  obtain ⟨r3, hr3⟩ := sl_row3 (K := kF) (T := EE.T) (st := 29) (h := h) (bk := bk) (TL rfl) (TL rfl) ⟨rfl, rfl, by decide⟩ (Nat.le_succ i) (show i + 1 ≤ l.length from hi) hl
  repeat first | refine G_seq ?_ | refine G_reg ?_ | refine N_seq ?_ | refine N_block ?_ | refine G_block ?_ | refine G_skip ?_ | refine G_cT ?_ | refine G_cF ?_ | refine G_ret ?_ | refine U_seq_ret ?_ | refine U_block_ret ?_ | refine U_nil ?_ | refine S_nil ?_ | refine S_auto ?_
  refine S_step wants0 (o_builtin (by simp only [List.map, aev_tmp, aev_const, aev_func, aev_global, at_put, at_none, n_put, reduceIte, Nat.reduceEqDiff, Nat.reduceLT, zq, *]; first | done | rfl) (lenS (TL rfl))) ?_
  refine S_step wants0 (o_slice (by simp only [aev_tmp, aev_const, aev_func, aev_global, at_put, at_none, n_put, reduceIte, Nat.reduceEqDiff, Nat.reduceLT, zq, *]; first | done | rfl) (by simp only [Option.map, aev_tmp, aev_const, at_put, at_none, n_put, reduceIte, Nat.reduceEqDiff, Nat.reduceLT, zq, *]; first | done | rfl) (by simp only [Option.map, aev_tmp, aev_const, at_put, at_none, n_put, reduceIte, Nat.reduceEqDiff, Nat.reduceLT, zq, *]; first | done | rfl) (by simp only [Option.map, aev_tmp, aev_const, at_put, at_none, n_put, reduceIte, Nat.reduceEqDiff, Nat.reduceLT, zq, *]; first | done | rfl) hr3) ?_
  clear hr3
  have hne : ((i : Int) = ((i + 1 : Nat) : Int)) = False := eq_false (by omega)
  repeat first | refine G_seq ?_ | refine G_reg ?_ | refine N_seq ?_ | refine N_block ?_ | refine G_block ?_ | refine G_skip ?_ | refine G_cT ?_ | refine G_cF ?_ | refine G_ret ?_ | refine U_seq_ret ?_ | refine U_block_ret ?_ | refine U_nil ?_ | refine S_nil ?_ | refine S_auto ?_
  refine S_step wants0 (o_builtin (by simp only [List.map, aev_tmp, aev_const, aev_func, aev_global, at_put, at_none, n_put, reduceIte, Nat.reduceEqDiff, Nat.reduceLT, zq, *]; first | done | rfl) (lenS (TL rfl))) ?_
  repeat first | refine G_seq ?_ | refine G_reg ?_ | refine N_seq ?_ | refine N_block ?_ | refine G_block ?_ | refine G_skip ?_ | refine G_cT ?_ | refine G_cF ?_ | refine G_ret ?_ | refine U_seq_ret ?_ | refine U_block_ret ?_ | refine U_nil ?_ | refine S_nil ?_ | refine S_auto ?_
  clear hne
  refine G_draw [] [] (by kernel_rfl) ?_
  obtain ⟨h', g1, g2, g3, g4⟩ := app_rowW (K := kF) (T := EE.T) (st := 29) (nid := h.next + 6) (c := CAPX + kF.sz) (h := bump h 8) (TL rfl) (TL rfl) ⟨rfl, rfl, by decide⟩ hb (Nat.le_succ i) (show i + 1 ≤ l.length from hi) hl
  repeat first | refine D1_nil0 ?_ | refine D2_nil ?_ | refine D_pure ?_ | refine D_rd ?_ | refine D2_pure' ?_
  refine D1_rd wants0 rfl rfl (fun _ => o_slice (by simp only [aev_tmp, aev_const, aev_func, aev_global, at_put, at_none, n_put, reduceIte, Nat.reduceEqDiff, Nat.reduceLT, zq, *]; first | done | rfl) (by simp only [Option.map, aev_tmp, aev_const, at_put, at_none, n_put, reduceIte, Nat.reduceEqDiff, Nat.reduceLT, zq, *]; first | done | rfl) (by simp only [Option.map, aev_tmp, aev_const, at_put, at_none, n_put, reduceIte, Nat.reduceEqDiff, Nat.reduceLT, zq, *]; first | done | rfl) (by simp only [Option.map, aev_tmp, aev_const, at_put, at_none, n_put, reduceIte, Nat.reduceEqDiff, Nat.reduceLT, zq, *]; first | done | rfl) (sl_rowZ (K := kF) (TL rfl) (TL rfl) ⟨rfl, rfl, by decide⟩ (Nat.le_of_lt hi))) (veq_self rfl) ?_
  repeat first | refine D1_nil0 ?_ | refine D2_nil ?_ | refine D_pure ?_ | refine D_rd ?_ | refine D2_pure' ?_
  refine D1_rd wants0 rfl rfl (fun _ => o_slice (by simp only [aev_tmp, aev_const, aev_func, aev_global, at_put, at_none, n_put, reduceIte, Nat.reduceEqDiff, Nat.reduceLT, zq, *]; first | done | rfl) (by simp only [Option.map, aev_tmp, aev_const, at_put, at_none, n_put, reduceIte, Nat.reduceEqDiff, Nat.reduceLT, zq, *]; first | done | rfl) (by simp only [Option.map, aev_tmp, aev_const, at_put, at_none, n_put, reduceIte, Nat.reduceEqDiff, Nat.reduceLT, zq, *]; first | done | rfl) (by simp only [Option.map, aev_tmp, aev_const, at_put, at_none, n_put, reduceIte, Nat.reduceEqDiff, Nat.reduceLT, zq, *]; first | done | rfl) (sl_row (K := kF) (TL rfl) (TL rfl) ⟨rfl, rfl, by decide⟩ (optNat_int _ _) (optNat_none _) hi (Nat.le_refl _))) (veq_self rfl) ?_
  refine D1_wr0 wants0 rfl (o_builtin (by simp only [List.map, aev_tmp, aev_const, aev_func, aev_global, at_put, at_none, n_put, reduceIte, Nat.reduceEqDiff, Nat.reduceLT, zq, *]; first | done | rfl) g1) .nil ?_
  repeat first | refine D1_nil0 ?_ | refine D2_nil ?_ | refine D_pure ?_ | refine D_rd ?_ | refine D2_pure' ?_
  repeat first | refine G_seq ?_ | refine G_reg ?_ | refine N_seq ?_ | refine N_block ?_ | refine G_block ?_ | refine G_skip ?_ | refine G_cT ?_ | refine G_cF ?_ | refine G_ret ?_ | refine U_seq_ret ?_ | refine U_block_ret ?_ | refine U_nil ?_ | refine S_nil ?_ | refine S_auto ?_
  refine S_step wants0 (o_builtin (by simp only [List.map, aev_tmp, aev_const, aev_func, aev_global, at_put, at_none, n_put, reduceIte, Nat.reduceEqDiff, Nat.reduceLT, zq, *]; first | done | rfl) (lenS (TL rfl))) ?_
  have hcl : (l.take i ++ (l.drop i.succ ++ (l ++ js).drop (i + (l.length - i.succ)))).length = (l ++ js).length := by simp; omega
  have hct : (l.take i ++ (l.drop i.succ ++ (l ++ js).drop (i + (l.length - i.succ)))).take (i + (l.length - i.succ)) = l.eraseIdx i := by
    rw [List.eraseIdx_eq_take_drop_succ, ← List.append_assoc, List.take_append_of_le_length (by simp; omega), List.take_of_length_le (by simp; omega)]
  generalize l.take i ++ (l.drop i.succ ++ (l ++ js).drop (i + (l.length - i.succ))) = cur at g2 hcl hct
  have hcl2 : l.length ≤ cur.length := by rw [hcl]; simp
  have hlen : (l.eraseIdx i).length = i + (l.length - i.succ) := by rw [List.length_eraseIdx_of_lt hi]; omega
  clear g1
  generalize hn1 : i + (l.length - i.succ) = n1 at *
  have hn1l : n1 < l.length := by omega
  obtain ⟨h4, js4, q1, q2, q3, q4⟩ := cl_rowG (T := EE.T) (st := 29) (nid := h'.next) (ts := []) (c := CAPX + kF.sz) (z0 := ((0, 0) : Fl)) (m := l.length - n1) (TL rfl) (TL rfl) rfl g2 (show n1 + (l.length - n1) ≤ cur.length by omega)
  rw [hct] at q2
  repeat first | refine G_seq ?_ | refine G_reg ?_ | refine N_seq ?_ | refine N_block ?_ | refine G_block ?_ | refine G_skip ?_ | refine G_cT ?_ | refine G_cF ?_ | refine G_ret ?_ | refine U_seq_ret ?_ | refine U_block_ret ?_ | refine U_nil ?_ | refine S_nil ?_ | refine S_auto ?_
  refine S_step wants0 (o_slice (by simp only [aev_tmp, aev_const, aev_func, aev_global, at_put, at_none, n_put, reduceIte, Nat.reduceEqDiff, Nat.reduceLT, zq, *]; first | done | rfl) (by simp only [Option.map, aev_tmp, aev_const, at_put, at_none, n_put, reduceIte, Nat.reduceEqDiff, Nat.reduceLT, zq, *]; first | done | rfl) (by simp only [Option.map, aev_tmp, aev_const, at_put, at_none, n_put, reduceIte, Nat.reduceEqDiff, Nat.reduceLT, zq, *]; first | done | rfl) (by simp only [Option.map, aev_tmp, aev_const, at_put, at_none, n_put, reduceIte, Nat.reduceEqDiff, Nat.reduceLT, zq, *]; first | done | rfl) (sl_rowM (K := kF) (TL rfl) (TL rfl) ⟨rfl, rfl, by decide⟩ g2 (Nat.le_of_lt hn1l) hcl2)) ?_
  refine S_step wants0 (o_builtin (by simp only [List.map, aev_tmp, aev_const, aev_func, aev_global, at_put, at_none, n_put, reduceIte, Nat.reduceEqDiff, Nat.reduceLT, zq, *]; first | done | rfl) q1) ?_
  clear q1 g2
  repeat first | refine G_seq ?_ | refine G_reg ?_ | refine N_seq ?_ | refine N_block ?_ | refine G_block ?_ | refine G_skip ?_ | refine G_cT ?_ | refine G_cF ?_ | refine G_ret ?_ | refine U_seq_ret ?_ | refine U_block_ret ?_ | refine U_nil ?_ | refine S_nil ?_ | refine S_auto ?_
  refine FQ_in (by first | exact .inr rfl | exact .inl rfl) (by first | exact ares1 (by simp only [at_put, at_none, n_put, reduceIte, Nat.reduceEqDiff, Nat.reduceLT, zq, *]; first | done | rfl) | exact ares2 (by simp only [at_put, at_none, n_put, reduceIte, Nat.reduceEqDiff, Nat.reduceLT, zq, *]; first | done | rfl) (by simp only [at_put, at_none, n_put, reduceIte, Nat.reduceEqDiff, Nat.reduceLT, zq, *]; first | done | rfl)) ?_
  refine ⟨js4, by rw [hlen]; rfl, q2, by rw [q3, g3]; exact Nat.le_add_right _ _, fun q hq hn => ?_⟩
  have hq : q ≠ bk := by simpa using hn
  rw [q4 q hq, g4 q hq]; rfl
theorem flows_spec {l : List Fl} {v : Value} {O : List Nat} (hv : RowAt kF h l v O) (hO : ∀ i ∈ O, i < h.next) (hl : l.length ≤ 20) (hn : 60 ≤ n) : C EE (n + 1) 19 [v] h fun r h' => Keep h h' [] ∧ ((flowsF l = [] ∧ ∃ A c, r = .slice A 0 c) ∨ ∃ b js, h.next ≤ b ∧ b < h'.next ∧ r = .slice (some ⟨b, 0, none⟩) (flowsF l).length (CAPX + kF.sz) ∧ h'.get b = some (.cells (kF.fl (flowsF l ++ js)) true)) := by
  refine C_in (E_X _) F_flows rfl rfl rfl ?_
  intro a hna hat
  have e0 := hat 0 _ rfl
  replace hna : a.n = 12 := hna
  clear hat
  obtain ⟨m, rfl⟩ : ∃ m, n = m + 1 := ⟨n - 1, by omega⟩
  repeat first | refine G_seq ?_ | refine G_reg ?_ | refine N_seq ?_ | refine N_block ?_ | refine G_block ?_ | refine G_skip ?_ | refine G_cT ?_ | refine G_cF ?_ | refine G_ret ?_ | refine U_seq_ret ?_ | refine U_block_ret ?_ | refine U_nil ?_ | refine S_nil ?_ | refine S_auto ?_
  refine S_call wants0 (by simp only [aev_tmp, aev_const, aev_func, aev_global, at_put, at_none, n_put, reduceIte, Nat.reduceEqDiff, Nat.reduceLT, zq, *]; first | done | rfl) (E_Y _) (by simp only [List.map, aev_tmp, aev_const, aev_func, aev_global, at_put, at_none, n_put, reduceIte, Nat.reduceEqDiff, Nat.reduceLT, zq, *]; first | done | rfl) ?_
  refine (clone_spec (n := m) hv hO (by omega)).mono ?_
  rintro r h1 ⟨hk1, ⟨rfl, A, c, O', rfl, hr, hO'⟩ | ⟨b, js, hb0, hb1, rfl, hrow⟩⟩
  · repeat first | refine G_seq ?_ | refine G_reg ?_ | refine N_seq ?_ | refine N_block ?_ | refine G_block ?_ | refine G_skip ?_ | refine G_cT ?_ | refine G_cF ?_ | refine G_ret ?_ | refine U_seq_ret ?_ | refine U_block_ret ?_ | refine U_nil ?_ | refine S_nil ?_ | refine S_auto ?_
    refine S_call wants0 (by simp only [aev_tmp, aev_const, aev_func, aev_global, at_put, at_none, n_put, reduceIte, Nat.reduceEqDiff, Nat.reduceLT, zq, *]; first | done | rfl) (E_Y _) (by simp only [List.map, aev_tmp, aev_const, aev_func, aev_global, at_put, at_none, n_put, reduceIte, Nat.reduceEqDiff, Nat.reduceLT, zq, *]; first | done | rfl) ?_
    refine (sort0_spec (n := m) (by omega)).mono ?_
    rintro r h2 ⟨rfl, rfl⟩
    repeat first | refine G_seq ?_ | refine G_reg ?_ | refine N_seq ?_ | refine N_block ?_ | refine G_block ?_ | refine G_skip ?_ | refine G_cT ?_ | refine G_cF ?_ | refine G_ret ?_ | refine U_seq_ret ?_ | refine U_block_ret ?_ | refine U_nil ?_ | refine S_nil ?_ | refine S_auto ?_
    refine S_call wants0 (by simp only [aev_tmp, aev_const, aev_func, aev_global, at_put, at_none, n_put, reduceIte, Nat.reduceEqDiff, Nat.reduceLT, zq, *]; first | done | rfl) (E_Y _) (by simp only [List.map, aev_tmp, aev_const, aev_func, aev_global, at_put, at_none, n_put, reduceIte, Nat.reduceEqDiff, Nat.reduceLT, zq, *]; first | done | rfl) ?_
    refine (compact0_spec (n := m) (m := 0) (by omega)).mono ?_
    rintro r h3 ⟨rfl, rfl⟩
    repeat first | refine G_seq ?_ | refine G_reg ?_ | refine N_seq ?_ | refine N_block ?_ | refine G_block ?_ | refine G_skip ?_ | refine G_cT ?_ | refine G_cF ?_ | refine G_ret ?_ | refine U_seq_ret ?_ | refine U_block_ret ?_ | refine U_nil ?_ | refine S_nil ?_ | refine S_auto ?_
    refine S_call wants0 (by simp only [aev_tmp, aev_const, aev_func, aev_global, at_put, at_none, n_put, reduceIte, Nat.reduceEqDiff, Nat.reduceLT, zq, *]; first | done | rfl) (E_Y _) (by simp only [List.map, aev_tmp, aev_const, aev_func, aev_global, at_put, at_none, n_put, reduceIte, Nat.reduceEqDiff, Nat.reduceLT, zq, *]; first | done | rfl) ?_
    refine (deleteFunc0_spec (n := m) hr hO' (by omega)).mono ?_
    rintro r h4 ⟨rfl, hk4⟩
    repeat first | refine G_seq ?_ | refine G_reg ?_ | refine N_seq ?_ | refine N_block ?_ | refine G_block ?_ | refine G_skip ?_ | refine G_cT ?_ | refine G_cF ?_ | refine G_ret ?_ | refine U_seq_ret ?_ | refine U_block_ret ?_ | refine U_nil ?_ | refine S_nil ?_ | refine S_auto ?_
    refine FQ_in (by first | exact .inr rfl | exact .inl rfl) (by first | exact ares1 (by simp only [at_put, at_none, n_put, reduceIte, Nat.reduceEqDiff, Nat.reduceLT, zq, *]; first | done | rfl) | exact ares2 (by simp only [at_put, at_none, n_put, reduceIte, Nat.reduceEqDiff, Nat.reduceLT, zq, *]; first | done | rfl) (by simp only [at_put, at_none, n_put, reduceIte, Nat.reduceEqDiff, Nat.reduceLT, zq, *]; first | done | rfl)) ?_
    exact ⟨hk1.trans hk4 fun i hi => .inl hi, .inl ⟨rfl, _, _, rfl⟩⟩
  · repeat first | refine G_seq ?_ | refine G_reg ?_ | refine N_seq ?_ | refine N_block ?_ | refine G_block ?_ | refine G_skip ?_ | refine G_cT ?_ | refine G_cF ?_ | refine G_ret ?_ | refine U_seq_ret ?_ | refine U_block_ret ?_ | refine U_nil ?_ | refine S_nil ?_ | refine S_auto ?_
    refine S_call wants0 (by simp only [aev_tmp, aev_const, aev_func, aev_global, at_put, at_none, n_put, reduceIte, Nat.reduceEqDiff, Nat.reduceLT, zq, *]; first | done | rfl) (E_Y _) (by simp only [List.map, aev_tmp, aev_const, aev_func, aev_global, at_put, at_none, n_put, reduceIte, Nat.reduceEqDiff, Nat.reduceLT, zq, *]; first | done | rfl) ?_
    refine (sort_spec (n := m) hrow hb1 (by omega) hl).mono ?_
    rintro r h2 ⟨rfl, hrow2, hk2⟩
    have hkk2 : Keep h h2 [] := hk1.fresh hk2 fun i hi => by rw [List.mem_singleton.1 hi]; exact hb0
    have hb2 : b < h2.next := Nat.lt_of_lt_of_le hb1 hk2.1
    have hsl := sortF_len l
    have htail : ∀ (h3 : AHeap) (js3 : List Fl), h3.get b = some (.cells (kF.fl (compF (sortF l) ++ js3)) true) → Keep h h3 [] → b < h3.next → C EE (m + 1) 28 [.slice (some ⟨b, 0, none⟩) (compF (sortF l)).length (CAPX + kF.sz), .func (.func 29) #[] #[]] h3 fun r h' => Keep h h' [] ∧ ((flowsF l = [] ∧ ∃ A c, r = .slice A 0 c) ∨ ∃ b js, h.next ≤ b ∧ b < h'.next ∧ r = .slice (some ⟨b, 0, none⟩) (flowsF l).length (CAPX + kF.sz) ∧ h'.get b = some (.cells (kF.fl (flowsF l ++ js)) true)) := by
      intro h3 js3 hr3 hk3 hb3
      have hcl := compF_len (sortF l)
      refine (deleteFunc_spec (n := m) hr3 hb3 (by omega) (by omega)).mono ?_
      rintro r h4 ⟨js4, rfl, hr4, hk4⟩
      exact ⟨hk3.fresh hk4 fun i hi => by rw [List.mem_singleton.1 hi]; exact hb0, .inr ⟨b, js4, hb0, Nat.lt_of_lt_of_le hb3 hk4.1, rfl, hr4⟩⟩
    repeat first | refine G_seq ?_ | refine G_reg ?_ | refine N_seq ?_ | refine N_block ?_ | refine G_block ?_ | refine G_skip ?_ | refine G_cT ?_ | refine G_cF ?_ | refine G_ret ?_ | refine U_seq_ret ?_ | refine U_block_ret ?_ | refine U_nil ?_ | refine S_nil ?_ | refine S_auto ?_
    refine S_call wants0 (by simp only [aev_tmp, aev_const, aev_func, aev_global, at_put, at_none, n_put, reduceIte, Nat.reduceEqDiff, Nat.reduceLT, zq, *]; first | done | rfl) (E_Y _) (by simp only [List.map, aev_tmp, aev_const, aev_func, aev_global, at_put, at_none, n_put, reduceIte, Nat.reduceEqDiff, Nat.reduceLT, zq, *]; first | done | rfl) ?_
    by_cases hl2 : l.length < 2
    · refine (compact0_spec (n := m) (m := l.length) hl2).mono ?_
      rintro r h3 ⟨rfl, rfl⟩
      have hcs : compF (sortF l) = sortF l := compF_short (by rw [hsl]; exact hl2)
      have ht := htail h3 js (by rw [hcs]; exact hrow2) hkk2 hb2
      rw [hcs, hsl] at ht
      clear htail hsl hcs hl2
      repeat first | refine G_seq ?_ | refine G_reg ?_ | refine N_seq ?_ | refine N_block ?_ | refine G_block ?_ | refine G_skip ?_ | refine G_cT ?_ | refine G_cF ?_ | refine G_ret ?_ | refine U_seq_ret ?_ | refine U_block_ret ?_ | refine U_nil ?_ | refine S_nil ?_ | refine S_auto ?_
      refine S_call wants0 (by simp only [aev_tmp, aev_const, aev_func, aev_global, at_put, at_none, n_put, reduceIte, Nat.reduceEqDiff, Nat.reduceLT, zq, *]; first | done | rfl) (E_Y _) (by simp only [List.map, aev_tmp, aev_const, aev_func, aev_global, at_put, at_none, n_put, reduceIte, Nat.reduceEqDiff, Nat.reduceLT, zq, *]; first | done | rfl) ?_
      refine ht.mono ?_
      rintro r h4 ⟨hk4, hres⟩
      clear ht
      repeat first | refine G_seq ?_ | refine G_reg ?_ | refine N_seq ?_ | refine N_block ?_ | refine G_block ?_ | refine G_skip ?_ | refine G_cT ?_ | refine G_cF ?_ | refine G_ret ?_ | refine U_seq_ret ?_ | refine U_block_ret ?_ | refine U_nil ?_ | refine S_nil ?_ | refine S_auto ?_
      refine FQ_in (by first | exact .inr rfl | exact .inl rfl) (by first | exact ares1 (by simp only [at_put, at_none, n_put, reduceIte, Nat.reduceEqDiff, Nat.reduceLT, zq, *]; first | done | rfl) | exact ares2 (by simp only [at_put, at_none, n_put, reduceIte, Nat.reduceEqDiff, Nat.reduceLT, zq, *]; first | done | rfl) (by simp only [at_put, at_none, n_put, reduceIte, Nat.reduceEqDiff, Nat.reduceLT, zq, *]; first | done | rfl)) ?_
      exact ⟨hk4, hres⟩
    · have hcm := compact_spec (n := m) hrow2 hb2 (by rw [hsl]; omega) (by rw [hsl]; omega) (by rw [hsl]; omega)
      rw [hsl] at hcm
      refine hcm.mono ?_
      rintro r h3 ⟨js3, rfl, hr3, hk3⟩
      have ht := htail h3 js3 hr3 (hkk2.fresh hk3 fun i hi => by rw [List.mem_singleton.1 hi]; exact hb0) (Nat.lt_of_lt_of_le hb2 hk3.1)
      clear htail hsl hcm hl2
      repeat first | refine G_seq ?_ | refine G_reg ?_ | refine N_seq ?_ | refine N_block ?_ | refine G_block ?_ | refine G_skip ?_ | refine G_cT ?_ | refine G_cF ?_ | refine G_ret ?_ | refine U_seq_ret ?_ | refine U_block_ret ?_ | refine U_nil ?_ | refine S_nil ?_ | refine S_auto ?_
      refine S_call wants0 (by simp only [aev_tmp, aev_const, aev_func, aev_global, at_put, at_none, n_put, reduceIte, Nat.reduceEqDiff, Nat.reduceLT, zq, *]; first | done | rfl) (E_Y _) (by simp only [List.map, aev_tmp, aev_const, aev_func, aev_global, at_put, at_none, n_put, reduceIte, Nat.reduceEqDiff, Nat.reduceLT, zq, *]; first | done | rfl) ?_
      refine ht.mono ?_
      rintro r h4 ⟨hk4, hres⟩
      clear ht
      repeat first | refine G_seq ?_ | refine G_reg ?_ | refine N_seq ?_ | refine N_block ?_ | refine G_block ?_ | refine G_skip ?_ | refine G_cT ?_ | refine G_cF ?_ | refine G_ret ?_ | refine U_seq_ret ?_ | refine U_block_ret ?_ | refine U_nil ?_ | refine S_nil ?_ | refine S_auto ?_
      refine FQ_in (by first | exact .inr rfl | exact .inl rfl) (by first | exact ares1 (by simp only [at_put, at_none, n_put, reduceIte, Nat.reduceEqDiff, Nat.reduceLT, zq, *]; first | done | rfl) | exact ares2 (by simp only [at_put, at_none, n_put, reduceIte, Nat.reduceEqDiff, Nat.reduceLT, zq, *]; first | done | rfl) (by simp only [at_put, at_none, n_put, reduceIte, Nat.reduceEqDiff, Nat.reduceLT, zq, *]; first | done | rfl)) ?_
      exact ⟨hk4, hres⟩
end
end Go.Proofs.Yteffhomollmpdaa.AM.SX

/- Robin: a round. -/
namespace Go.Proofs.Yteffhomollmpdaa.AM.SX
open Go
set_option linter.unusedVariables false
set_option linter.unusedSimpArgs false
set_option maxRecDepth 100000
set_option maxHeartbeats 8000000
attribute [local irreducible] astep0 aev awants abin abuild
theorem S_gen {E : Env} {cf : CallF} {ops : Array Oper} {os : List Oper} {a : AAct} {h : AHeap} {Q : AAct → AHeap → Prop} (P : AAct → AHeap → Prop) (hp : P a h) (hh : ∀ a h, P a h → S E cf ops os a h Q) : S E cf ops os a h Q := hh a h hp
def pickI (la : Int) (any : Bool) (lf : List Fl) : Nat := (lf.findIdx? fun x => any && decide (la < x.1)).getD 0
def roundL : Nat → Int → Int → Bool → List Fl → List Fl → Int × Int × Bool × List Fl
  | 0, c, la, any, lf, out => (c, la, any, out)
  | k + 1, c, la, any, lf, out =>
    if lf.length = 0 then (0, la, any, out)
    else if c < min (lf.getD (pickI la any lf) (0, 0)).2 64 then (c, la, any, out)
    else roundL k (c - min (lf.getD (pickI la any lf) (0, 0)).2 64) (lf.getD (pickI la any lf) (0, 0)).1 true
      (if (lf.getD (pickI la any lf) (0, 0)).2 - min (lf.getD (pickI la any lf) (0, 0)).2 64 = 0 then lf.eraseIdx (pickI la any lf) else lf.set (pickI la any lf) ((lf.getD (pickI la any lf) (0, 0)).1, (lf.getD (pickI la any lf) (0, 0)).2 - min (lf.getD (pickI la any lf) (0, 0)).2 64))
      (out ++ [((lf.getD (pickI la any lf) (0, 0)).1, min (lf.getD (pickI la any lf) (0, 0)).2 64)])
theorem idxR_pick {P : Fl → Bool} {l : List Fl} {i : Int} (h : IdxR P l i) : max i 0 = ((l.findIdx? P).getD 0 : Nat) := by
  cases h with
  | none hq =>
    have : l.findIdx? P = none := by
      rw [List.findIdx?_eq_none_iff]
      intro x hx
      obtain ⟨i, hi, rfl⟩ := List.mem_iff_getElem.1 hx
      exact hq i hi
    rw [this]; rfl
  | some i hi he hq =>
    have : l.findIdx? P = some i := by
      rw [List.findIdx?_eq_some_iff_getElem]
      exact ⟨hi, he, fun j hj => by simp [hq j (by omega) hj]⟩
    rw [this]
    show max (i : Int) 0 = (i : Int)
    omega
theorem pickI_lt {la : Int} {any : Bool} {lf : List Fl} (h : 0 < lf.length) : pickI la any lf < lf.length := by
  unfold pickI
  cases hf : lf.findIdx? fun x => any && decide (la < x.1) with
  | none => exact h
  | some i => exact (List.findIdx?_eq_some_iff_getElem.1 hf).1
/-- what is left: its value -/
def LeftAt (base : Nat) (O : List Nat) (h : AHeap) (lf : List Fl) (v : Value) : Prop :=
  (lf = [] ∧ ∃ A c, v = .slice A 0 c) ∨ ∃ bl js, base ≤ bl ∧ bl < h.next ∧ bl ∉ O ∧ v = .slice (some ⟨bl, 0, none⟩) lf.length (CAPX + kF.sz) ∧ h.get bl = some (.cells (kF.fl (lf ++ js)) true)
theorem LeftAt.len {base : Nat} {O : List Nat} {h : AHeap} {lf : List Fl} {v : Value} (hv : LeftAt base O h lf v) : ∃ A c, v = .slice A lf.length c := by
  rcases hv with ⟨rfl, A, c, rfl⟩ | ⟨bl, js, _, _, _, rfl, _⟩
  · exact ⟨A, c, rfl⟩
  · exact ⟨_, _, rfl⟩
def WOk (lf : List Fl) : Prop := ∀ x ∈ lf, 0 < x.2 ∧ x.2 ≤ 1099511627776
section
variable {n : Nat} {h : AHeap}
theorem new_spec (q : Int) : C EE (n + 1) 8 [.int .i64 q] h fun r h' => r = .pointer (some ⟨h.next, 0, none⟩) ∧ h' = h.new h.next (.cells [.int .i64 (min (max q 1) 1048576), .int .i64 0, .int .i64 0, .bool false] true) := by
  refine C_in (E_X _) F_new rfl rfl rfl ?_
  intro a hna hat
  have e0 := hat 0 _ rfl
  replace hna : a.n = 8 := hna
  clear hat
  repeat first | refine G_seq ?_ | refine G_reg ?_ | refine N_seq ?_ | refine N_block ?_ | refine G_block ?_ | refine G_skip ?_ | refine G_cT ?_ | refine G_cF ?_ | refine G_ret ?_ | refine U_seq_ret ?_ | refine U_block_ret ?_ | refine U_nil ?_ | refine S_nil ?_ | refine S_auto ?_
  refine S_step wants0 (o_builtin (by simp only [List.map, aev_tmp, aev_const, aev_func, aev_global, at_put, at_none, n_put, reduceIte, Nat.reduceEqDiff, Nat.reduceLT, zq, *]; first | done | rfl) bi_max) ?_
  refine S_step wants0 (o_builtin (by simp only [List.map, aev_tmp, aev_const, aev_func, aev_global, at_put, at_none, n_put, reduceIte, Nat.reduceEqDiff, Nat.reduceLT, zq, *]; first | done | rfl) bi_min) ?_
  repeat first | refine G_seq ?_ | refine G_reg ?_ | refine N_seq ?_ | refine N_block ?_ | refine G_block ?_ | refine G_skip ?_ | refine G_cT ?_ | refine G_cF ?_ | refine G_ret ?_ | refine U_seq_ret ?_ | refine U_block_ret ?_ | refine U_nil ?_ | refine S_nil ?_ | refine S_auto ?_
  refine FQ_in (by first | exact .inr rfl | exact .inl rfl) (by first | exact ares1 (by simp only [at_put, at_none, n_put, reduceIte, Nat.reduceEqDiff, Nat.reduceLT, zq, *]; first | done | rfl) | exact ares2 (by simp only [at_put, at_none, n_put, reduceIte, Nat.reduceEqDiff, Nat.reduceLT, zq, *]; first | done | rfl) (by simp only [at_put, at_none, n_put, reduceIte, Nat.reduceEqDiff, Nat.reduceLT, zq, *]; first | done | rfl)) ?_
  exact ⟨rfl, rfl⟩
theorem credit_spec {p : Nat} {q c la : Int} {any z : Bool} (hp : h.get p = some (.cells [.int .i64 q, .int .i64 c, .int .i64 la, .bool any] z)) : C EE (n + 1) 15 [.pointer (some ⟨p, 0, none⟩)] h fun r h' => r = .int .i64 c ∧ h' = h := by
  refine C_in (E_X _) F_credit rfl rfl rfl ?_
  intro a hna hat
  have e0 := hat 0 _ rfl
  replace hna : a.n = 7 := hna
  clear hat
  repeat first | refine G_seq ?_ | refine G_reg ?_ | refine N_seq ?_ | refine N_block ?_ | refine G_block ?_ | refine G_skip ?_ | refine G_cT ?_ | refine G_cF ?_ | refine G_ret ?_ | refine U_seq_ret ?_ | refine U_block_ret ?_ | refine U_nil ?_ | refine S_nil ?_ | refine S_auto ?_
  refine FQ_in (by first | exact .inr rfl | exact .inl rfl) (by first | exact ares1 (by simp only [at_put, at_none, n_put, reduceIte, Nat.reduceEqDiff, Nat.reduceLT, zq, *]; first | done | rfl) | exact ares2 (by simp only [at_put, at_none, n_put, reduceIte, Nat.reduceEqDiff, Nat.reduceLT, zq, *]; first | done | rfl) (by simp only [at_put, at_none, n_put, reduceIte, Nat.reduceEqDiff, Nat.reduceLT, zq, *]; first | done | rfl)) ?_
  exact ⟨rfl, rfl⟩
theorem round_spec {p K : Nat} {q c la : Int} {any : Bool} {l : List Fl} {v : Value} {O : List Nat} (hp : h.get p = some (.cells [.int .i64 q, .int .i64 c, .int .i64 la, .bool any] true)) (hpl : p < h.next) (hv : RowAt kF h l v O) (hO : ∀ i ∈ O, i < h.next) (hl : l.length ≤ 20) (hw : WOk (flowsF l)) (hlf : (flowsF l).length ≤ 20) (hq : 1 ≤ q ∧ q ≤ 1048576) (hc : 0 ≤ c ∧ c ≤ 1048576) (hK : c + q < K) (hKn : K + 100 ≤ n) (hKb : K ≤ 4000000) :
    C EE (n + 1) 14 [.pointer (some ⟨p, 0, none⟩), v] h fun r h' => ∃ R O', R = roundL K (if (flowsF l).length = 0 then c else c + q) la any (flowsF l) [] ∧ RowAt kF h' R.2.2.2 r O' ∧ (∀ i ∈ O', h.next ≤ i ∧ i < h'.next) ∧ h'.get p = some (.cells [.int .i64 q, .int .i64 R.1, .int .i64 R.2.1, .bool R.2.2.1] true) ∧ Keep h h' [p] := by
  refine C_in (E_X _) F_round rfl rfl rfl ?_
  intro a hna hat
  have e0 := hat 0 _ rfl
  have e1 := hat 1 _ rfl
  replace hna : a.n = 97 := hna
  clear hat
  obtain ⟨m, rfl⟩ : ∃ m, n = m + 1 := ⟨n - 1, by omega⟩
  obtain ⟨hq1, hq2⟩ := hq
  obtain ⟨hc1, hc2⟩ := hc
  refine G_seq ?_
  refine G_reg ?_
  repeat first | refine S_nil ?_ | refine S_auto ?_
  refine N_seq ?_
  refine G_seq ?_
  refine G_reg ?_
  repeat first | refine S_nil ?_ | refine S_auto ?_
  refine S_call wants0 (by simp only [aev_tmp, aev_const, aev_func, aev_global, at_put, at_none, n_put, reduceIte, Nat.reduceEqDiff, Nat.reduceLT, zq, *]; first | done | rfl) (E_Y _) (by simp only [List.map, aev_tmp, aev_const, aev_func, aev_global, at_put, at_none, n_put, reduceIte, Nat.reduceEqDiff, Nat.reduceLT, zq, *]; first | done | rfl) ?_
  refine (flows_spec (n := m) hv hO hl (by omega)).mono ?_
  rintro r h1 ⟨hk1, hres⟩
  generalize hlfe : flowsF l = lf at *
  have hLeft : LeftAt h.next [] h1 lf r := by
    rcases hres with ⟨h2, h3⟩ | ⟨b, js, h2, h3, h4, h5⟩
    · exact .inl ⟨h2, h3⟩
    · exact .inr ⟨b, js, h2, h3, by simp, h4, h5⟩
  have hp1 := (hk1.2 p hpl (by simp)).trans hp
  clear hres hv hO hp
  obtain ⟨A, cc, hre⟩ := hLeft.len
  repeat first | refine S_nil ?_ | refine S_auto ?_
  refine N_seq ?_
  refine G_seq ?_
  refine G_join (fun a h2 => a.n = 97 ∧ a.at 0 = .pointer (some ⟨p, 0, none⟩) ∧ a.at 5 = r ∧ h2.get p = some (.cells [.int .i64 q, .int .i64 (if lf.length = 0 then c else c + q), .int .i64 la, .bool any] true) ∧ LeftAt h.next [] h2 lf r ∧ Keep h h2 [p]) ?_ ?_
  · subst hre
    by_cases h0 : lf.length = 0
    · have cz : ((0 : Int) < (lf.length : Int)) = False := eq_false (by omega)
      rw [if_pos h0]
      have hk1p : Keep h h1 [p] := hk1.mono fun i hi => by cases hi
      clear h0
      repeat first | refine G_seq ?_ | refine G_reg ?_ | refine N_seq ?_ | refine N_block ?_ | refine G_block ?_ | refine G_skip ?_ | refine G_cT ?_ | refine G_cF ?_ | refine G_ret ?_ | refine U_seq_ret ?_ | refine U_block_ret ?_ | refine U_nil ?_ | refine S_nil ?_ | refine S_auto ?_
      refine S_step wants0 (o_builtin (by simp only [List.map, aev_tmp, aev_const, aev_func, aev_global, at_put, at_none, n_put, reduceIte, Nat.reduceEqDiff, Nat.reduceLT, zq, *]; first | done | rfl) (lenS (TL rfl))) ?_
      repeat first | refine G_seq ?_ | refine G_reg ?_ | refine N_seq ?_ | refine N_block ?_ | refine G_block ?_ | refine G_skip ?_ | refine G_cT ?_ | refine G_cF ?_ | refine G_ret ?_ | refine U_seq_ret ?_ | refine U_block_ret ?_ | refine U_nil ?_ | refine S_nil ?_ | refine S_auto ?_
      refine N_nil ?_
      exact JQ_n ⟨by simp only [at_put, at_none, n_put, reduceIte, Nat.reduceEqDiff, Nat.reduceLT, zq, *]; first | done | rfl, by simp only [at_put, at_none, n_put, reduceIte, Nat.reduceEqDiff, Nat.reduceLT, zq, *]; first | done | rfl, by simp only [at_put, at_none, n_put, reduceIte, Nat.reduceEqDiff, Nat.reduceLT, zq, *]; first | done | rfl, hp1, hLeft, hk1p⟩
    · have cz : ((0 : Int) < (lf.length : Int)) = True := eq_true (by omega)
      rw [if_neg h0]
      repeat first | refine G_seq ?_ | refine G_reg ?_ | refine N_seq ?_ | refine N_block ?_ | refine G_block ?_ | refine G_skip ?_ | refine G_cT ?_ | refine G_cF ?_ | refine G_ret ?_ | refine U_seq_ret ?_ | refine U_block_ret ?_ | refine U_nil ?_ | refine S_nil ?_ | refine S_auto ?_
      refine S_step wants0 (o_builtin (by simp only [List.map, aev_tmp, aev_const, aev_func, aev_global, at_put, at_none, n_put, reduceIte, Nat.reduceEqDiff, Nat.reduceLT, zq, *]; first | done | rfl) (lenS (TL rfl))) ?_
      repeat first | refine G_seq ?_ | refine G_reg ?_ | refine N_seq ?_ | refine N_block ?_ | refine G_block ?_ | refine G_skip ?_ | refine G_cT ?_ | refine G_cF ?_ | refine G_ret ?_ | refine U_seq_ret ?_ | refine U_block_ret ?_ | refine U_nil ?_ | refine S_nil ?_ | refine S_auto ?_
      refine G_draw [] [] (by kernel_rfl) ?_
      repeat first | refine D1_nil0 ?_ | refine D2_nil ?_ | refine D_pure ?_ | refine D_rd ?_ | refine D2_pure' ?_
      refine D1_wr0 wants0 rfl (o_st (by simp only [aev_tmp, aev_const, aev_func, aev_global, at_put, at_none, n_put, reduceIte, Nat.reduceEqDiff, Nat.reduceLT, zq, *]; first | done | rfl) (by simp only [aev_tmp, aev_const, aev_func, aev_global, at_put, at_none, n_put, reduceIte, Nat.reduceEqDiff, Nat.reduceLT, zq, *]; first | done | rfl) (TL rfl) rfl (by simp (disch := omega) only [get_set_self, get_new_self, get_set_ne, get_new_ne, get_bump, next_set, next_new, Nat.lt_irrefl, reduceIte, next_kill, next_bump, *]; first | done | rfl) rfl rfl) .nil ?_
      repeat first | refine D1_nil0 ?_ | refine D2_nil ?_ | refine D_pure ?_ | refine D_rd ?_ | refine D2_pure' ?_
      refine N_nil ?_
      refine JQ_n ⟨by simp only [at_put, at_none, n_put, reduceIte, Nat.reduceEqDiff, Nat.reduceLT, zq, *]; first | done | rfl, by simp only [at_put, at_none, n_put, reduceIte, Nat.reduceEqDiff, Nat.reduceLT, zq, *]; first | done | rfl, by simp only [at_put, at_none, n_put, reduceIte, Nat.reduceEqDiff, Nat.reduceLT, zq, *]; first | done | rfl, by simp (disch := omega) only [get_set_self, get_new_self, get_set_ne, get_new_ne, get_bump, next_set, next_new, Nat.lt_irrefl, reduceIte, next_kill, next_bump, *]; first | done | rfl, ?_, by rw [next_set, next_bump]; have := hk1.1; omega, fun i hi hn => by rw [get_set_ne (by simpa using hn), get_bump, hk1.2 i hi (by simp)]⟩
      rcases hLeft with ⟨h2, h3⟩ | ⟨b, js, h2, h3, h4, h5, h6⟩
      · exact .inl ⟨h2, h3⟩
      · exact .inr ⟨b, js, h2, by rw [next_set, next_bump]; omega, h4, h5, by rw [get_set_ne (by omega)]; exact h6⟩
  · clear hna e0 e1 a hLeft hre hp1 hk1 h1 hlfe
    rintro a h1 ⟨hna, e0, e5, hp1, hLeft, hk1⟩
    have hcb : 0 ≤ (if lf.length = 0 then c else c + q) ∧ (if lf.length = 0 then c else c + q) < K := by split <;> omega
    generalize (if lf.length = 0 then c else c + q) = c0 at *
    clear hc1 hc2 hK c
    repeat first | refine G_seq ?_ | refine G_reg ?_ | refine N_seq ?_ | refine N_block ?_ | refine G_block ?_ | refine G_skip ?_ | refine G_cT ?_ | refine G_cF ?_ | refine G_ret ?_ | refine U_seq_ret ?_ | refine U_block_ret ?_ | refine U_nil ?_ | refine S_nil ?_ | refine S_auto ?_
    generalize hRe : roundL K c0 la any lf [] = R at *
    refine G_loop (fun j a h' => ∃ (c la : Int) (any : Bool) (lf out : List Fl) (lv ov : Value) (Oo : List Nat), a.n = 97 ∧ a.at 0 = .pointer (some ⟨p, 0, none⟩) ∧ a.at 5 = lv ∧ a.at 6 = ov ∧ h'.get p = some (.cells [.int .i64 q, .int .i64 c, .int .i64 la, .bool any] true) ∧ LeftAt h.next Oo h' lf lv ∧ RowAt kF h' out ov Oo ∧ (∀ i ∈ Oo, h.next ≤ i ∧ i < h'.next) ∧ Keep h h' [p] ∧ roundL j c la any lf out = R ∧ 0 ≤ c ∧ c < j ∧ out.length + j ≤ K ∧ WOk lf ∧ lf.length ≤ 20) K (by omega) ⟨c0, la, any, lf, [], r, .slice none 0 0, [], by simp only [at_put, at_none, n_put, reduceIte, Nat.reduceEqDiff, Nat.reduceLT, zq, *]; first | done | rfl, by simp only [at_put, at_none, n_put, reduceIte, Nat.reduceEqDiff, Nat.reduceLT, zq, *]; first | done | rfl, by simp only [at_put, at_none, n_put, reduceIte, Nat.reduceEqDiff, Nat.reduceLT, zq, *]; first | done | rfl, by simp only [at_put, at_none, n_put, reduceIte, Nat.reduceEqDiff, Nat.reduceLT, zq, *]; first | done | rfl, hp1, hLeft, .inl ⟨rfl, rfl, rfl⟩, fun i hi => (by cases hi), hk1, hRe, hcb.1, hcb.2, by simp, hw, hlf⟩ ?_
    clear e0 e5 hna a hLeft hp1 hk1 h1 hRe hcb hw hlf lf r A cc c0 la any
    rintro j a h1 ⟨c, la, any, lf, out, lv, ov, Oo, hna, e0, e5, e6, hp1, hLeft, hout, hOo, hk1, hRe, hc0, hcj, hoj, hw, hlf⟩
    obtain ⟨k, rfl⟩ : ∃ k, j = k + 1 := ⟨j - 1, by omega⟩
    obtain ⟨A, cc, hre⟩ := hLeft.len
    have hp1l : p < h1.next := Nat.lt_of_lt_of_le hpl hk1.1
    by_cases h0 : lf.length = 0
    · have cz : ((0 : Int) < (lf.length : Int)) = False := eq_false (by omega)
      have hR2 : R = (0, la, any, out) := by rw [← hRe]; unfold roundL; rw [if_pos h0]
      subst hre
      clear h0 hRe hLeft
      repeat first | refine G_seq ?_ | refine G_reg ?_ | refine N_seq ?_ | refine N_block ?_ | refine G_block ?_ | refine G_skip ?_ | refine G_cT ?_ | refine G_cF ?_ | refine G_ret ?_ | refine U_seq_ret ?_ | refine U_block_ret ?_ | refine U_nil ?_ | refine S_nil ?_ | refine S_auto ?_
      refine S_step wants0 (o_builtin (by simp only [List.map, aev_tmp, aev_const, aev_func, aev_global, at_put, at_none, n_put, reduceIte, Nat.reduceEqDiff, Nat.reduceLT, zq, *]; first | done | rfl) (lenS (TL rfl))) ?_
      repeat first | refine G_seq ?_ | refine G_reg ?_ | refine N_seq ?_ | refine N_block ?_ | refine G_block ?_ | refine G_skip ?_ | refine G_cT ?_ | refine G_cF ?_ | refine G_ret ?_ | refine U_seq_ret ?_ | refine U_block_ret ?_ | refine U_nil ?_ | refine S_nil ?_ | refine S_auto ?_
      refine G_exit ?_
      repeat first | refine U_seq_exit ?_ | refine U_nil ?_ | refine LQ_exit ?_ | refine U_block_hit ?_
      repeat first | refine G_seq ?_ | refine G_reg ?_ | refine N_seq ?_ | refine N_block ?_ | refine G_block ?_ | refine G_skip ?_ | refine G_cT ?_ | refine G_cF ?_ | refine G_ret ?_ | refine U_seq_ret ?_ | refine U_block_ret ?_ | refine U_nil ?_ | refine S_nil ?_ | refine S_auto ?_
      refine FQ_in (by first | exact .inr rfl | exact .inl rfl) (by first | exact ares1 (by simp only [at_put, at_none, n_put, reduceIte, Nat.reduceEqDiff, Nat.reduceLT, zq, *]; first | done | rfl) | exact ares2 (by simp only [at_put, at_none, n_put, reduceIte, Nat.reduceEqDiff, Nat.reduceLT, zq, *]; first | done | rfl) (by simp only [at_put, at_none, n_put, reduceIte, Nat.reduceEqDiff, Nat.reduceLT, zq, *]; first | done | rfl)) ?_
      refine ⟨R, Oo, rfl, by rw [hR2]; exact hout.keep fun i hi => get_set_ne (by have := hOo i hi; omega), fun i hi => by have := hOo i hi; rw [next_set]; exact this, by rw [hR2]; simp (disch := omega) only [get_set_self, get_new_self, get_set_ne, get_new_ne, get_bump, next_set, next_new, Nat.lt_irrefl, reduceIte, next_kill, next_bump, *]; first | done | rfl, by rw [next_set]; exact hk1.1, fun i hi hn => by rw [get_set_ne (by simpa using hn), hk1.2 i hi hn]⟩
    · have cz : ((0 : Int) < (lf.length : Int)) = True := eq_true (by omega)
      obtain ⟨bl, js, hb0, hb1, hbO, rfl, hbl⟩ : ∃ bl js, h.next ≤ bl ∧ bl < h1.next ∧ bl ∉ Oo ∧ lv = .slice (some ⟨bl, 0, none⟩) lf.length (CAPX + kF.sz) ∧ h1.get bl = some (.cells (kF.fl (lf ++ js)) true) := by
        rcases hLeft with ⟨h2, _⟩ | h2
        · exact absurd (by rw [h2]; rfl) h0
        · exact h2
      clear hLeft hre
      have hx := next_spec (n := m - 1) hp1 hp1l (l := lf) (v := .slice (some ⟨bl, 0, none⟩) lf.length (CAPX + kF.sz)) (O := [bl]) (.inr (.inr ⟨bl, js, rfl, hbl, rfl⟩)) (fun i hi => by rw [List.mem_singleton.1 hi]; exact hb1) (by omega) (by omega)
      repeat first | refine G_seq ?_ | refine G_reg ?_ | refine N_seq ?_ | refine N_block ?_ | refine G_block ?_ | refine G_skip ?_ | refine G_cT ?_ | refine G_cF ?_ | refine G_ret ?_ | refine U_seq_ret ?_ | refine U_block_ret ?_ | refine U_nil ?_ | refine S_nil ?_ | refine S_auto ?_
      refine S_step wants0 (o_builtin (by simp only [List.map, aev_tmp, aev_const, aev_func, aev_global, at_put, at_none, n_put, reduceIte, Nat.reduceEqDiff, Nat.reduceLT, zq, *]; first | done | rfl) (lenS (TL rfl))) ?_
      repeat first | refine G_seq ?_ | refine G_reg ?_ | refine N_seq ?_ | refine N_block ?_ | refine G_block ?_ | refine G_skip ?_ | refine G_cT ?_ | refine G_cF ?_ | refine G_ret ?_ | refine U_seq_ret ?_ | refine U_block_ret ?_ | refine U_nil ?_ | refine S_nil ?_ | refine S_auto ?_
      refine S_call wants0 (by simp only [aev_tmp, aev_const, aev_func, aev_global, at_put, at_none, n_put, reduceIte, Nat.reduceEqDiff, Nat.reduceLT, zq, *]; first | done | rfl) (E_Y _) (by simp only [List.map, aev_tmp, aev_const, aev_func, aev_global, at_put, at_none, n_put, reduceIte, Nat.reduceEqDiff, Nat.reduceLT, zq, *]; first | done | rfl) ?_
      refine C_le (show m - 1 + 2 = m + 1 by omega) ?_
      refine hx.mono ?_
      rintro r h2 ⟨ii, rfl, hidx, hk2⟩
      clear hx
      have hpi : max ii 0 = ((pickI la any lf : Nat) : Int) := idxR_pick hidx
      have hil := pickI_lt (la := la) (any := any) (lf := lf) (by omega)
      rw [hpi]
      clear hidx hpi
      obtain ⟨xc, xw, hxe⟩ : ∃ xc xw, lf[pickI la any lf] = (xc, xw) := ⟨_, _, rfl⟩
      have hgd : lf.getD (pickI la any lf) (0, 0) = (xc, xw) := by rw [getD_at hil, hxe]
      have hRs : R = if c < min xw 64 then (c, la, any, out) else roundL k (c - min xw 64) xc true (if xw - min xw 64 = 0 then lf.eraseIdx (pickI la any lf) else lf.set (pickI la any lf) (xc, xw - min xw 64)) (out ++ [(xc, min xw 64)]) := by
        rw [← hRe]
        show (if lf.length = 0 then _ else _) = _
        rw [if_neg h0]
        simp only [hgd]
      clear hRe hgd
      generalize pickI la any lf = i at *
      have hw1 := hw (xc, xw) (by rw [← hxe]; exact List.getElem_mem _)
      replace hw1 : 0 < xw ∧ xw ≤ 1099511627776 := hw1
      obtain ⟨hw0, hwb⟩ := hw1
      have hg1 : 1 ≤ min xw 64 ∧ min xw 64 ≤ 64 ∧ min xw 64 ≤ xw := by omega
      have hij : i < (lf ++ js).length := by rw [List.length_append]; omega
      have hxj : (lf ++ js)[i] = (xc, xw) := by rw [List.getElem_append_left hil]; exact hxe
      have i1 : aindexAddr EE.T 29 (.slice (some ⟨bl, 0, none⟩) lf.length (CAPX + kF.sz)) (.int .i64 (i : Int)) = some (.pointer (some ⟨bl, i * kF.sz, none⟩)) := ix_row0 (TL rfl) (TL rfl) ⟨rfl, rfl, by decide⟩ hil
      have w0 : (kF.fl (lf ++ js))[i * kF.sz + 0]? = some (.int .i64 xc) := by rw [kF.fl_get hij (show 0 < kF.sz by decide), hxj]; rfl
      have w1 : (kF.fl (lf ++ js))[i * kF.sz + 1]? = some (.int .i64 xw) := by rw [kF.fl_get hij (show 1 < kF.sz by decide), hxj]; rfl
      have hput := put_fld (K := kF) (l := lf ++ js) (i := i) (j := 1) (x := (xc, xw - min xw 64)) (v := .int .i64 (xw - min xw 64)) hij (by decide) (by rw [hxj]; rfl)
      have w2 : (kF.fl ((lf ++ js).set i (xc, xw - min xw 64)))[i * kF.sz + 1]? = some (.int .i64 (xw - min xw 64)) := by rw [kF.fl_get (by rw [List.length_set]; exact hij) (show 1 < kF.sz by decide), List.getElem_set_self]; rfl
      have hset : (lf ++ js).set i (xc, xw - min xw 64) = lf.set i (xc, xw - min xw 64) ++ js := List.set_append_left _ _ hil
      have hwm : ∀ y, 0 < y → y ≤ xw → WOk (lf.set i (xc, y)) := fun y h1 h2 z hz => by
        rcases List.mem_or_eq_of_mem_set hz with h3 | h3
        · exact hw z h3
        · rw [h3]; exact ⟨h1, by show y ≤ _; omega⟩
      have hwe : WOk (lf.eraseIdx i) := fun z hz => hw z (List.mem_of_mem_eraseIdx hz)
      generalize hge : min xw 64 = g at *
      obtain ⟨hg1, hg2, hg3⟩ := hg1
      have hp2 := (hk2.2 p hp1l (by simp)).trans hp1
      have hbl2 := (hk2.2 bl hb1 (by simp)).trans hbl
      have hout2 : RowAt kF h2 out ov Oo := hout.keep fun q hq => hk2.2 q (hOo q hq).2 (by simp)
      have hOo2 : ∀ q ∈ Oo, h.next ≤ q ∧ q < h2.next := fun q hq => ⟨(hOo q hq).1, Nat.lt_of_lt_of_le (hOo q hq).2 hk2.1⟩
      have hkk2 : Keep h h2 [p] := hk1.trans hk2 fun i hi => (by cases hi)
      have hp2l : p < h2.next := Nat.lt_of_lt_of_le hp1l hk2.1
      have hb2 : bl < h2.next := Nat.lt_of_lt_of_le hb1 hk2.1
      clear hk2 hp1 hbl hout hOo hk1 hxe hxj hij h0 hw hp1l hb1
      repeat first | refine G_seq ?_ | refine G_reg ?_ | refine N_seq ?_ | refine N_block ?_ | refine G_block ?_ | refine G_skip ?_ | refine G_cT ?_ | refine G_cF ?_ | refine G_ret ?_ | refine U_seq_ret ?_ | refine U_block_ret ?_ | refine U_nil ?_ | refine S_nil ?_ | refine S_auto ?_
      refine S_step wants0 (o_indexAddr (by simp only [aev_tmp, aev_const, aev_func, aev_global, at_put, at_none, n_put, reduceIte, Nat.reduceEqDiff, Nat.reduceLT, zq, *]; first | done | rfl) (by simp only [aev_tmp, aev_const, aev_func, aev_global, at_put, at_none, n_put, reduceIte, Nat.reduceEqDiff, Nat.reduceLT, zq, *]; first | done | rfl) i1) ?_
      repeat first | refine G_seq ?_ | refine G_reg ?_ | refine N_seq ?_ | refine N_block ?_ | refine G_block ?_ | refine G_skip ?_ | refine G_cT ?_ | refine G_cF ?_ | refine G_ret ?_ | refine U_seq_ret ?_ | refine U_block_ret ?_ | refine U_nil ?_ | refine S_nil ?_ | refine S_auto ?_
      refine S_step wants0 (o_ld (by simp only [aev_tmp, aev_const, aev_func, aev_global, at_put, at_none, n_put, reduceIte, Nat.reduceEqDiff, Nat.reduceLT, zq, *]; first | done | rfl) (TL rfl) rfl (rd_cells (by simp (disch := omega) only [get_set_self, get_new_self, get_set_ne, get_new_ne, get_bump, next_set, next_new, Nat.lt_irrefl, reduceIte, next_kill, next_bump, *]; first | done | rfl)) w1) ?_
      refine S_step wants0 (o_builtin (by simp only [List.map, aev_tmp, aev_const, aev_func, aev_global, at_put, at_none, n_put, reduceIte, Nat.reduceEqDiff, Nat.reduceLT, zq, *]; first | done | rfl) bi_min) ?_
      rw [hge]
      by_cases hcg : c < g
      · have hR2 : R = (c, la, any, out) := by rw [hRs, if_pos hcg]
        clear hRs w0 w1 w2 hput i1 hset hwm hwe hge
        repeat first | refine G_seq ?_ | refine G_reg ?_ | refine N_seq ?_ | refine N_block ?_ | refine G_block ?_ | refine G_skip ?_ | refine G_cT ?_ | refine G_cF ?_ | refine G_ret ?_ | refine U_seq_ret ?_ | refine U_block_ret ?_ | refine U_nil ?_ | refine S_nil ?_ | refine S_auto ?_
        refine LQ_ret ?_
        repeat first | refine G_seq ?_ | refine G_reg ?_ | refine N_seq ?_ | refine N_block ?_ | refine G_block ?_ | refine G_skip ?_ | refine G_cT ?_ | refine G_cF ?_ | refine G_ret ?_ | refine U_seq_ret ?_ | refine U_block_ret ?_ | refine U_nil ?_ | refine S_nil ?_ | refine S_auto ?_
        refine FQ_in (by first | exact .inr rfl | exact .inl rfl) (by first | exact ares1 (by simp only [at_put, at_none, n_put, reduceIte, Nat.reduceEqDiff, Nat.reduceLT, zq, *]; first | done | rfl) | exact ares2 (by simp only [at_put, at_none, n_put, reduceIte, Nat.reduceEqDiff, Nat.reduceLT, zq, *]; first | done | rfl) (by simp only [at_put, at_none, n_put, reduceIte, Nat.reduceEqDiff, Nat.reduceLT, zq, *]; first | done | rfl)) ?_
        exact ⟨R, Oo, rfl, by rw [hR2]; exact hout2, hOo2, by rw [hR2]; exact hp2, hkk2⟩
      · rw [if_neg hcg] at hRs
        obtain ⟨v3, h3, O3, q1, q2, q3, q4, q5⟩ := app_rowX (K := kF) (T := EE.T) (h := h2.new h2.next (.cells (kF.enc (xc, g)) true)) (st := 36) (xt := 36) (news := [((xc, g) : Fl)]) (x := .slice (some ⟨h2.next, 0, none⟩) 1 1) (TL rfl) (TL rfl) ⟨rfl, rfl, by decide⟩ (TL rfl) (hout2.keep fun q hq => by have := hOo2 q hq; simp (disch := omega) only [get_set_self, get_new_self, get_set_ne, get_new_ne, get_bump, next_set, next_new, Nat.lt_irrefl, reduceIte, next_kill, next_bump, *]; first | done | rfl) (by simp) (src_row1 (K := kF) (by simp (disch := omega) only [get_set_self, get_new_self, get_set_ne, get_new_ne, get_bump, next_set, next_new, Nat.lt_irrefl, reduceIte, next_kill, next_bump, *]; first | done | rfl)) (by simp; omega) (fun q hq => by have := hOo2 q hq; simp only [next_bump, next_set, next_new, Nat.lt_irrefl, reduceIte]; omega)
        have hK : Keep h2 h3 Oo := ⟨by have := q3.1; simp only [next_new, Nat.lt_irrefl, reduceIte] at this; omega, fun q hq hn => by rw [q3.2 q (by simp only [next_bump, next_set, next_new, Nat.lt_irrefl, reduceIte]; omega) hn]; simp (disch := omega) only [get_set_self, get_new_self, get_set_ne, get_new_ne, get_bump, next_set, next_new, Nat.lt_irrefl, reduceIte, next_kill, next_bump, *]; first | done | rfl⟩
        have hp3 := (hK.2 p hp2l (fun hm => by have := hOo2 p hm; omega)).trans hp2
        have hbl3 := (hK.2 bl hb2 hbO).trans hbl2
        have hp3l : p < h3.next := Nat.lt_of_lt_of_le hp2l hK.1
        have hb3 : bl < h3.next := Nat.lt_of_lt_of_le hb2 hK.1
        have hO3 : ∀ q ∈ O3, h.next ≤ q ∧ q < h3.next ∧ q ≠ bl := fun q hq => by
          rcases q4 with rfl | rfl
          · exact ⟨(hOo2 q hq).1, q5 q hq, fun e => hbO (e ▸ hq)⟩
          · have h9 := q5 q hq
            simp only [List.mem_singleton, next_new, Nat.lt_irrefl, reduceIte] at hq
            exact ⟨by omega, h9, by omega⟩
        have hkk3 : Keep h h3 [p] := hkk2.trans hK fun q hq => .inr (hOo2 q hq).1
        have hout3 : RowAt kF h3 (out ++ [(xc, g)]) v3 O3 := .inr (.inr q2)
        have hbp : bl ≠ p := by omega
        clear q2 q3 q4 q5 hK hkk2 hOo2 hout2
        repeat first | refine G_seq ?_ | refine G_reg ?_ | refine N_seq ?_ | refine N_block ?_ | refine G_block ?_ | refine G_skip ?_ | refine G_cT ?_ | refine G_cF ?_ | refine G_ret ?_ | refine U_seq_ret ?_ | refine U_block_ret ?_ | refine U_nil ?_ | refine S_nil ?_ | refine S_auto ?_
        refine S_step wants0 (o_indexAddr (by simp only [aev_tmp, aev_const, aev_func, aev_global, at_put, at_none, n_put, reduceIte, Nat.reduceEqDiff, Nat.reduceLT, zq, *]; first | done | rfl) (by simp only [aev_tmp, aev_const, aev_func, aev_global, at_put, at_none, n_put, reduceIte, Nat.reduceEqDiff, Nat.reduceLT, zq, *]; first | done | rfl) i1) ?_
        repeat first | refine G_seq ?_ | refine G_reg ?_ | refine N_seq ?_ | refine N_block ?_ | refine G_block ?_ | refine G_skip ?_ | refine G_cT ?_ | refine G_cF ?_ | refine G_ret ?_ | refine U_seq_ret ?_ | refine U_block_ret ?_ | refine U_nil ?_ | refine S_nil ?_ | refine S_auto ?_
        refine S_step wants0 (o_ld (by simp only [aev_tmp, aev_const, aev_func, aev_global, at_put, at_none, n_put, reduceIte, Nat.reduceEqDiff, Nat.reduceLT, zq, *]; first | done | rfl) (TL rfl) rfl (rd_cells (by simp (disch := omega) only [get_set_self, get_new_self, get_set_ne, get_new_ne, get_bump, next_set, next_new, Nat.lt_irrefl, reduceIte, next_kill, next_bump, *]; first | done | rfl)) w0) ?_
        repeat first | refine G_seq ?_ | refine G_reg ?_ | refine N_seq ?_ | refine N_block ?_ | refine G_block ?_ | refine G_skip ?_ | refine G_cT ?_ | refine G_cF ?_ | refine G_ret ?_ | refine U_seq_ret ?_ | refine U_block_ret ?_ | refine U_nil ?_ | refine S_nil ?_ | refine S_auto ?_
        refine S_step wants0 (o_buildSlice (by simp only [List.map, aev_tmp, aev_const, aev_func, aev_global, at_put, at_none, n_put, reduceIte, Nat.reduceEqDiff, Nat.reduceLT, zq, *]; first | done | rfl) (bs_row1 (K := kF) (x := ((xc, g) : Fl)) (TL rfl) (TL rfl) ⟨rfl, rfl, by decide⟩ (by decide) rfl)) ?_
        refine S_step wants0 (o_builtin (by simp only [List.map, aev_tmp, aev_const, aev_func, aev_global, at_put, at_none, n_put, reduceIte, Nat.reduceEqDiff, Nat.reduceLT, zq, *]; first | done | rfl) (bi_app q1)) ?_
        clear q1 hp2 hbl2
        repeat first | refine G_seq ?_ | refine G_reg ?_ | refine N_seq ?_ | refine N_block ?_ | refine G_block ?_ | refine G_skip ?_ | refine G_cT ?_ | refine G_cF ?_ | refine G_ret ?_ | refine U_seq_ret ?_ | refine U_block_ret ?_ | refine U_nil ?_ | refine S_nil ?_ | refine S_auto ?_
        refine S_step wants0 (o_indexAddr (by simp only [aev_tmp, aev_const, aev_func, aev_global, at_put, at_none, n_put, reduceIte, Nat.reduceEqDiff, Nat.reduceLT, zq, *]; first | done | rfl) (by simp only [aev_tmp, aev_const, aev_func, aev_global, at_put, at_none, n_put, reduceIte, Nat.reduceEqDiff, Nat.reduceLT, zq, *]; first | done | rfl) i1) ?_
        repeat first | refine G_seq ?_ | refine G_reg ?_ | refine N_seq ?_ | refine N_block ?_ | refine G_block ?_ | refine G_skip ?_ | refine G_cT ?_ | refine G_cF ?_ | refine G_ret ?_ | refine U_seq_ret ?_ | refine U_block_ret ?_ | refine U_nil ?_ | refine S_nil ?_ | refine S_auto ?_
        refine S_step wants0 (o_ld (by simp only [aev_tmp, aev_const, aev_func, aev_global, at_put, at_none, n_put, reduceIte, Nat.reduceEqDiff, Nat.reduceLT, zq, *]; first | done | rfl) (TL rfl) rfl (rd_cells (by simp (disch := omega) only [get_set_self, get_new_self, get_set_ne, get_new_ne, get_bump, next_set, next_new, Nat.lt_irrefl, reduceIte, next_kill, next_bump, *]; first | done | rfl)) w0) ?_
        repeat first | refine G_seq ?_ | refine G_reg ?_ | refine N_seq ?_ | refine N_block ?_ | refine G_block ?_ | refine G_skip ?_ | refine G_cT ?_ | refine G_cF ?_ | refine G_ret ?_ | refine U_seq_ret ?_ | refine U_block_ret ?_ | refine U_nil ?_ | refine S_nil ?_ | refine S_auto ?_
        refine S_step wants0 (o_indexAddr (by simp only [aev_tmp, aev_const, aev_func, aev_global, at_put, at_none, n_put, reduceIte, Nat.reduceEqDiff, Nat.reduceLT, zq, *]; first | done | rfl) (by simp only [aev_tmp, aev_const, aev_func, aev_global, at_put, at_none, n_put, reduceIte, Nat.reduceEqDiff, Nat.reduceLT, zq, *]; first | done | rfl) i1) ?_
        repeat first | refine G_seq ?_ | refine G_reg ?_ | refine N_seq ?_ | refine N_block ?_ | refine G_block ?_ | refine G_skip ?_ | refine G_cT ?_ | refine G_cF ?_ | refine G_ret ?_ | refine U_seq_ret ?_ | refine U_block_ret ?_ | refine U_nil ?_ | refine S_nil ?_ | refine S_auto ?_
        refine S_step wants0 (o_ld (by simp only [aev_tmp, aev_const, aev_func, aev_global, at_put, at_none, n_put, reduceIte, Nat.reduceEqDiff, Nat.reduceLT, zq, *]; first | done | rfl) (TL rfl) rfl (rd_cells (by simp (disch := omega) only [get_set_self, get_new_self, get_set_ne, get_new_ne, get_bump, next_set, next_new, Nat.lt_irrefl, reduceIte, next_kill, next_bump, *]; first | done | rfl)) w1) ?_
        repeat first | refine G_seq ?_ | refine G_reg ?_ | refine N_seq ?_ | refine N_block ?_ | refine G_block ?_ | refine G_skip ?_ | refine G_cT ?_ | refine G_cF ?_ | refine G_ret ?_ | refine U_seq_ret ?_ | refine U_block_ret ?_ | refine U_nil ?_ | refine S_nil ?_ | refine S_auto ?_
        refine S_step wants0 (o_indexAddr (by simp only [aev_tmp, aev_const, aev_func, aev_global, at_put, at_none, n_put, reduceIte, Nat.reduceEqDiff, Nat.reduceLT, zq, *]; first | done | rfl) (by simp only [aev_tmp, aev_const, aev_func, aev_global, at_put, at_none, n_put, reduceIte, Nat.reduceEqDiff, Nat.reduceLT, zq, *]; first | done | rfl) i1) ?_
        refine S_auto ?_
        refine S_step wants0 (o_st1 (by simp only [aev_tmp, aev_const, aev_func, aev_global, at_put, at_none, n_put, reduceIte, Nat.reduceEqDiff, Nat.reduceLT, zq, *]; first | done | rfl) (by simp only [aev_tmp, aev_const, aev_func, aev_global, at_put, at_none, n_put, reduceIte, Nat.reduceEqDiff, Nat.reduceLT, zq, *]; first | done | rfl) (TL rfl) rfl ⟨rfl, rfl⟩ (by simp (disch := omega) only [get_set_self, get_new_self, get_set_ne, get_new_ne, get_bump, next_set, next_new, Nat.lt_irrefl, reduceIte, next_kill, next_bump, *]; first | done | rfl) hput) ?_
        repeat first | refine G_seq ?_ | refine G_reg ?_ | refine N_seq ?_ | refine N_block ?_ | refine G_block ?_ | refine G_skip ?_ | refine G_cT ?_ | refine G_cF ?_ | refine G_ret ?_ | refine U_seq_ret ?_ | refine U_block_ret ?_ | refine U_nil ?_ | refine S_nil ?_ | refine S_auto ?_
        refine S_step wants0 (o_indexAddr (by simp only [aev_tmp, aev_const, aev_func, aev_global, at_put, at_none, n_put, reduceIte, Nat.reduceEqDiff, Nat.reduceLT, zq, *]; first | done | rfl) (by simp only [aev_tmp, aev_const, aev_func, aev_global, at_put, at_none, n_put, reduceIte, Nat.reduceEqDiff, Nat.reduceLT, zq, *]; first | done | rfl) i1) ?_
        repeat first | refine G_seq ?_ | refine G_reg ?_ | refine N_seq ?_ | refine N_block ?_ | refine G_block ?_ | refine G_skip ?_ | refine G_cT ?_ | refine G_cF ?_ | refine G_ret ?_ | refine U_seq_ret ?_ | refine U_block_ret ?_ | refine U_nil ?_ | refine S_nil ?_ | refine S_auto ?_
        refine S_step wants0 (o_ld (by simp only [aev_tmp, aev_const, aev_func, aev_global, at_put, at_none, n_put, reduceIte, Nat.reduceEqDiff, Nat.reduceLT, zq, *]; first | done | rfl) (TL rfl) rfl (rd_cells (by simp (disch := omega) only [get_set_self, get_new_self, get_set_ne, get_new_ne, get_bump, next_set, next_new, Nat.lt_irrefl, reduceIte, next_kill, next_bump, *]; first | done | rfl)) w2) ?_
        have hcl : out.length + 1 + k ≤ K := by omega
        refine S_gen (fun a h4 => a.n = 97 ∧ a.at 0 = .pointer (some ⟨p, 0, none⟩) ∧ a.at 5 = .slice (some ⟨bl, 0, none⟩) lf.length (CAPX + kF.sz) ∧ a.at 6 = v3 ∧ a.at 7 = .int .i64 (i : Int) ∧ a.at 86 = .int .i64 (xw - g) ∧ h4.get p = some (.cells [.int .i64 q, .int .i64 (c - g), .int .i64 xc, .bool true] true) ∧ h4.get bl = some (.cells (kF.fl (lf.set i (xc, xw - g) ++ js)) true) ∧ h4.next = h3.next ∧ ∀ q, q ≠ p → q ≠ bl → h4.get q = h3.get q) ⟨by simp only [at_put, at_none, n_put, reduceIte, Nat.reduceEqDiff, Nat.reduceLT, zq, *]; first | done | rfl, by simp only [at_put, at_none, n_put, reduceIte, Nat.reduceEqDiff, Nat.reduceLT, zq, *]; first | done | rfl, by simp only [at_put, at_none, n_put, reduceIte, Nat.reduceEqDiff, Nat.reduceLT, zq, *]; first | done | rfl, by simp only [at_put, at_none, n_put, reduceIte, Nat.reduceEqDiff, Nat.reduceLT, zq, *]; first | done | rfl, by simp only [at_put, at_none, n_put, reduceIte, Nat.reduceEqDiff, Nat.reduceLT, zq, *]; first | done | rfl, by simp only [at_put, at_none, n_put, reduceIte, Nat.reduceEqDiff, Nat.reduceLT, zq, *]; first | done | rfl, by simp (disch := omega) only [get_set_self, get_new_self, get_set_ne, get_new_ne, get_bump, next_set, next_new, Nat.lt_irrefl, reduceIte, next_kill, next_bump, *]; first | done | rfl, by rw [← hset]; simp (disch := omega) only [get_set_self, get_new_self, get_set_ne, get_new_ne, get_bump, next_set, next_new, Nat.lt_irrefl, reduceIte, next_kill, next_bump, *]; first | done | rfl, rfl, fun q h8 h9 => by simp (disch := omega) only [get_set_self, get_new_self, get_set_ne, get_new_ne, get_bump, next_set, next_new, Nat.lt_irrefl, reduceIte, next_kill, next_bump, *]; first | done | rfl⟩ ?_
        clear hna e0 e5 e6 a hp3 hbl3 w0 w1 w2 hput hset
        rintro a h4 ⟨hna, e0, e5, e6, e7, e86, hp4, hbl4, hnx4, hoth4⟩
        have hkk4 : Keep h h4 [p] := ⟨by rw [hnx4]; exact hkk3.1, fun q hq hn => by
          have hqp : q ≠ p := by simpa using hn
          rw [hoth4 q hqp (by omega), hkk3.2 q hq hn]⟩
        have hout4 : RowAt kF h4 (out ++ [(xc, g)]) v3 O3 := hout3.keep fun q hq => hoth4 q (by have := hO3 q hq; omega) (hO3 q hq).2.2
        have hb4 : bl < h4.next := by rw [hnx4]; exact hb3
        have hO4 : ∀ q ∈ O3, h.next ≤ q ∧ q < h4.next ∧ q ≠ bl := fun q hq => by rw [hnx4]; exact hO3 q hq
        have hbO3 : bl ∉ O3 := fun hm => (hO3 bl hm).2.2 rfl
        clear hkk3 hout3 hoth4 hO3 hp3l hb3
        by_cases hz : xw - g = 0
        · have c3 : (xw - g = 0) = True := eq_true hz
          rw [if_pos hz] at hRs
          clear hz
          have hdel := delete_spec (n := m) (i := i) hbl4 hb4 (by rw [List.length_set]; exact hil) (by rw [List.length_set]; omega)
          rw [List.length_set] at hdel
          have hes : (lf.set i (xc, xw - g)).eraseIdx i = lf.eraseIdx i := by rw [List.eraseIdx_eq_take_drop_succ, List.eraseIdx_eq_take_drop_succ, List.take_set_of_le (Nat.le_refl _), List.drop_set_of_lt (Nat.lt_succ_self _)]
          rw [hes] at hdel
          repeat first | refine G_seq ?_ | refine G_reg ?_ | refine N_seq ?_ | refine N_block ?_ | refine G_block ?_ | refine G_skip ?_ | refine G_cT ?_ | refine G_cF ?_ | refine G_ret ?_ | refine U_seq_ret ?_ | refine U_block_ret ?_ | refine U_nil ?_ | refine S_nil ?_ | refine S_auto ?_
          refine S_call wants0 (by simp only [aev_tmp, aev_const, aev_func, aev_global, at_put, at_none, n_put, reduceIte, Nat.reduceEqDiff, Nat.reduceLT, zq, *]; first | done | rfl) (E_Y _) (by simp only [List.map, aev_tmp, aev_const, aev_func, aev_global, at_put, at_none, n_put, reduceIte, Nat.reduceEqDiff, Nat.reduceLT, zq, *]; first | done | rfl) ?_
          refine hdel.mono ?_
          rintro r h5 ⟨js5, rfl, hb5, hk5⟩
          have hp5 := (hk5.2 p (by have := hkk4.1; omega) (fun hm => hbp (List.mem_singleton.1 hm).symm)).trans hp4
          have hout5 : RowAt kF h5 (out ++ [(xc, g)]) v3 O3 := hout4.keep fun q hq => hk5.2 q (hO4 q hq).2.1 (fun hm => (hO4 q hq).2.2 (List.mem_singleton.1 hm))
          have hO5 : ∀ q ∈ O3, h.next ≤ q ∧ q < h5.next := fun q hq => ⟨(hO4 q hq).1, Nat.lt_of_lt_of_le (hO4 q hq).2.1 hk5.1⟩
          have hb5l : bl < h5.next := Nat.lt_of_lt_of_le hb4 hk5.1
          have hkk5 : Keep h h5 [p] := hkk4.trans hk5 fun q hq => .inr (by rw [List.mem_singleton.1 hq]; exact hb0)
          have hle := Nat.le_trans (List.length_eraseIdx_le lf i) hlf
          clear hdel hk5 hp4 hbl4 hkk4 hout4 hO4 c3
          repeat first | refine G_seq ?_ | refine G_reg ?_ | refine N_seq ?_ | refine N_block ?_ | refine G_block ?_ | refine G_skip ?_ | refine G_cT ?_ | refine G_cF ?_ | refine G_ret ?_ | refine U_seq_ret ?_ | refine U_block_ret ?_ | refine U_nil ?_ | refine S_nil ?_ | refine S_auto ?_
          refine N_nil ?_
          exact LQ_n k (by omega) ⟨c - g, xc, true, lf.eraseIdx i, out ++ [(xc, g)], _, v3, O3, by simp only [at_put, at_none, n_put, reduceIte, Nat.reduceEqDiff, Nat.reduceLT, zq, *]; first | done | rfl, by simp only [at_put, at_none, n_put, reduceIte, Nat.reduceEqDiff, Nat.reduceLT, zq, *]; first | done | rfl, by simp only [at_put, at_none, n_put, reduceIte, Nat.reduceEqDiff, Nat.reduceLT, zq, *]; first | done | rfl, by simp only [at_put, at_none, n_put, reduceIte, Nat.reduceEqDiff, Nat.reduceLT, zq, *]; first | done | rfl, hp5, .inr ⟨bl, js5, hb0, hb5l, hbO3, rfl, hb5⟩, hout5, hO5, hkk5, hRs.symm, by omega, by omega, by rw [List.length_append]; exact hcl, hwe, hle⟩
        · have c3 : (xw - g = 0) = False := eq_false hz
          rw [if_neg hz] at hRs
          have hws := hwm (xw - g) (by omega) (by omega)
          have hle : (lf.set i (xc, xw - g)).length ≤ 20 := by rw [List.length_set]; exact hlf
          have hO5 : ∀ q ∈ O3, h.next ≤ q ∧ q < h4.next := fun q hq => ⟨(hO4 q hq).1, (hO4 q hq).2.1⟩
          have hlv : Value.slice (some ⟨bl, 0, none⟩) lf.length (CAPX + kF.sz) = .slice (some ⟨bl, 0, none⟩) (lf.set i (xc, xw - g)).length (CAPX + kF.sz) := by rw [List.length_set]
          clear hz
          repeat first | refine G_seq ?_ | refine G_reg ?_ | refine N_seq ?_ | refine N_block ?_ | refine G_block ?_ | refine G_skip ?_ | refine G_cT ?_ | refine G_cF ?_ | refine G_ret ?_ | refine U_seq_ret ?_ | refine U_block_ret ?_ | refine U_nil ?_ | refine S_nil ?_ | refine S_auto ?_
          refine N_nil ?_
          exact LQ_n k (by omega) ⟨c - g, xc, true, lf.set i (xc, xw - g), out ++ [(xc, g)], .slice (some ⟨bl, 0, none⟩) lf.length (CAPX + kF.sz), v3, O3, by simp only [at_put, at_none, n_put, reduceIte, Nat.reduceEqDiff, Nat.reduceLT, zq, *]; first | done | rfl, by simp only [at_put, at_none, n_put, reduceIte, Nat.reduceEqDiff, Nat.reduceLT, zq, *]; first | done | rfl, by simp only [at_put, at_none, n_put, reduceIte, Nat.reduceEqDiff, Nat.reduceLT, zq, *]; first | done | rfl, by simp only [at_put, at_none, n_put, reduceIte, Nat.reduceEqDiff, Nat.reduceLT, zq, *]; first | done | rfl, hp4, .inr ⟨bl, js, hb0, hb4, hbO3, hlv, hbl4⟩, hout4, hO5, hkk4, hRs.symm, by omega, by omega, by rw [List.length_append]; exact hcl, hws, hle⟩
end
end Go.Proofs.Yteffhomollmpdaa.AM.SX

/- A law over a number and a row of flows: from the machine's run to the program's. -/
namespace Go.Proofs.Yteffhomollmpdaa.X
open Go Go.RowKit Go.Proofs.YteffhomollmpdaaW.PrintWords Go.Proofs.YteffhomollmpdaaW.PrintMore
set_option linter.unusedVariables false
theorem C_map {α β : Type} {d : Kd α} {d' : Kd β} (f : α → β) (hs : d.sz = d'.sz) (hK : ∀ w x cs, d.K w x cs → d'.K w (f x) cs) {w : World} {A : Option Addr} {n : Nat} {xs : List α} (h : Kd.C d w A n xs) : Kd.C d' w A n (xs.map f) := by
  obtain ⟨h1, h2, h3⟩ := h
  refine ⟨by rw [List.length_map]; exact h1, h2, fun hn => ?_⟩
  obtain ⟨ad, e, hc⟩ := h3 hn
  refine ⟨ad, e, fun j p hj => ?_⟩
  rw [List.getElem?_map] at hj
  obtain ⟨q, hq, rfl⟩ := Option.map_eq_some_iff.1 hj
  obtain ⟨c, c1, c2, c3⟩ := hc j q hq
  exact ⟨c, by rw [c1, hs], hK _ _ _ c2, by rw [← hs]; exact c3⟩
def kP : Kd (Int × Int) := Kd.pair (Kd.int .i64) (Kd.int .i64)
theorem kP_open {w : World} {x : Int × Int} {cs : List Value} (h : kP.K w x cs) : cs = [.int .i64 x.1, .int .i64 x.2] := by
  obtain ⟨_, _, rfl, rfl, rfl⟩ := h
  rfl
end Go.Proofs.Yteffhomollmpdaa.X
namespace Go.Proofs.Yteffhomollmpdaa.AM.SX
open Go Go.RowKit Go.Proofs Go.Proofs.Yteffhomollmpdaa.X Go.Proofs.YteffhomollmpdaaW.PrintWords
set_option linter.unusedVariables false
set_option linter.unusedSimpArgs false
set_option maxRecDepth 100000
/-- a law's row of flows as the machine has it -/
def FlowsAt (h : AHeap) (l : List Fl) (sv : Value) (ids : List Nat) : Prop :=
  (l = [] ∧ sv = .chan (some 0) ∧ ids = []) ∨ ∃ b, sv = .slice (some ⟨b, 0, none⟩) l.length (CAPX + 1) ∧ h.get b = some (.ro (kF.fl l)) ∧ ids = [b]
theorem FlowsAt.keep {h h' : AHeap} {l : List Fl} {sv : Value} {ids : List Nat} (hs : FlowsAt h l sv ids) (hk : ∀ i ∈ ids, h'.get i = h.get i) : FlowsAt h' l sv ids := by
  rcases hs with hs | ⟨b, h1, h2, rfl⟩
  · exact .inl hs
  · exact .inr ⟨b, h1, by rw [hk b (.head _)]; exact h2, rfl⟩
@[reducible] def tokL (v : Value) (hv : v.oneCell' = true ∧ ∀ b, v ≠ .bool b) (low : Nat → Option Obj) : Tok where
  val := fun _ => v
  one := fun _ => hv.1
  nb := fun _ b => hv.2 b
  low := low
theorem slice_one {A : Option Addr} {n c : Nat} : (Value.slice A n c).oneCell' = true ∧ ∀ b, Value.slice A n c ≠ .bool b := ⟨rfl, fun b h => by cases h⟩
theorem tbL_ok {N c : Nat} {A : Option Addr} {low : Nat → Option Obj} : @TbOk (tokL (.slice A 0 c) slice_one low) Try.prog 0 N tbL := by
  letI := tokL (.slice A 0 c) slice_one low
  intro op vs v h o π g nx w ρ he hg hr hvs
  unfold tbL at h
  split at h
  · rename_i args ts
    cases hts : one29 ts with
    | false => rw [hts] at h; cases h
    | true =>
      rw [hts] at h
      have h : some (Value.int .i64 0) = some v := h
      obtain rfl := Option.some.inj h
      unfold one29 at hts
      have ho : o.op = .call ⟨.builtin .len, args, ts⟩ := he
      have hts' : ts[0]? = some 29 := by
        split at hts
        · rename_i t e
          rw [beqd, decide_eq_true_eq] at hts
          subst hts
          rw [← Array.getElem?_toList, e]; rfl
        · cases hts
      have hops : (Op.call ⟨.builtin .len, args, ts⟩).operands.toList.map ρ = args.toList.map ρ := by simp [Op.operands, Call.operands]
      rw [hops] at hvs
      have hx : args.map ρ = #[.slice A 0 c] := by
        have h1 : args.toList.map ρ = [.slice A 0 c] := by
          generalize args.toList.map ρ = z at hvs
          cases hvs with
          | cons h1 h2 =>
            cases h2
            have h3 := tok_inv h1
            rw [h3]; rfl
        apply Array.toList_inj.1
        simpa using h1
      refine ⟨.int .i64 0, ?_, .int _ _⟩
      have hexec : (execOp ρ o).run Try.prog w = (builtin .len ts o.type (args.map fun | .const _ => true | _ => false) (args.map ρ)).run Try.prog w := by
        unfold execOp
        rw [ho]
        rfl
      rw [hexec, hx]
      have hu : Try.prog.underlying 29 = some (.slice 47) := by kernel_rfl
      have hu2 := run_under (w := w) hu
      simp [builtin, Builtin.len_, hts', hu2, goInt, Sem.run_pure, Sem.run_bind, Result.andThen]
  · cases h
theorem X_ok [Tok] {N : Nat} : ∀ k x, XL k = some x → ∀ args h v h', x args h = some (v, h') → CallOk Try.prog 0 N k args h v h' := by
  refine trueX_ok (fun f hf h => ?_)
  obtain rfl := List.mem_singleton.1 hf
  obtain ⟨h', hrun⟩ := resB_some alive_run
  rw [callF_eq] at hrun
  exact closed_call (sound noX_ok noTb_ok 1000) hrun h
/-- a law's run from what the world holds -/
theorem law_calls_from [Tok] {n f : Nat} {args : List Value} {cargs : Array Value} {h0 h' : AHeap} {W : World} {π : Pi} (hc : CallsOk Try.prog 0 W.heap.size (acall EE n)) (hrun : acall EE n f args h0 = some (.bool true, h')) (hg : GR 0 π) (hr : HR π W.heap.size h0.get h0.next W) (hargs : VRs π args cargs.toList) (hown : ∀ b, ¬ Own π h0.get b) :
    Calls Try.prog f cargs W fun e W' => e = .returned (.bool true) ∧ Below W.heap.size W W' := by
  obtain ⟨_, hcall⟩ := hc f args h0 (.bool true) h' hrun
  refine (hcall π W cargs hg hr hargs).mono ?_
  rintro e w' ⟨π', v', rfl, hv, hst⟩
  have := hv.bool_inv
  subst this
  exact ⟨rfl, hst.os, hst.tape, hst.output, hst.size, fun b hb => hst.blk b hb (hown b)⟩
theorem flows_cells {W : World} {A : Option Addr} {l : List Fl} (hr : Kd.C kP W A l.length l) (h0 : 0 < l.length) : ∃ bk of ds t fr, A = some ⟨bk, of, none⟩ ∧ W.heap[bk]? = some (.cells ds t fr) ∧ ∀ (i : Nat) (hi : i < l.length), ∀ j u, (kF.enc l[i])[j]? = some u → ds[of + (i * 2 + j)]? = some u := by
  have key : ∀ (i : Nat) (hi : i < l.length), ∃ ad, A = some ad ∧ ∀ j u, (kF.enc l[i])[j]? = some u → W.cell? (ad.add (i * 2 + j)) = some u := by
    intro i hi
    obtain ⟨ad, c, e, _, hK, hc0⟩ := Kd.C_get hr ((0, 0) : Fl) (i : Int) (by omega) (by omega)
    have hg : l.getD (i : Int).toNat (0, 0) = l[i] := by simp [List.getD, hi]
    rw [hg] at hK
    obtain rfl := kP_open hK
    exact ⟨ad, e, fun j u hj => hc0 j u hj⟩
  obtain ⟨ad, e, h1⟩ := key 0 h0
  have h2 := h1 0 _ rfl
  have h3 : W.cell? ad = some (.int .i64 (l[0]'h0).1) := h2
  obtain ⟨bk, of, sp⟩ := ad
  unfold World.cell? at h3
  split at h3
  · rename_i ds t fr hb
    have hsp : sp = none := by
      cases sp with
      | none => rfl
      | some q => simp at h3
    subst hsp
    refine ⟨bk, of, ds, t, fr, e, hb, fun i hi j u hj => ?_⟩
    obtain ⟨ad', e', h4⟩ := key i hi
    rw [e] at e'
    obtain rfl := Option.some.inj e'
    have h5 := h4 j u hj
    have hadd : (⟨bk, of, none⟩ : Addr).add (i * 2 + j) = ⟨bk, of + (i * 2 + j), none⟩ := by
      unfold Addr.add
      split
      · rename_i hz; rw [hz]; rfl
      · rfl
    rw [hadd] at h5
    unfold World.cell? at h5
    simpa [hb] using h5
  · cases h3
theorem fl_at {l : List Fl} {j : Nat} {v : Value} (h : (kF.fl l)[j]? = some v) : ∃ hi : j / 2 < l.length, (kF.enc l[j / 2])[j % 2]? = some v := by
  have hlt := (List.getElem?_eq_some_iff.1 h).1
  rw [kF.fl_len] at hlt
  have hlt : j < l.length * 2 := hlt
  have hi : j / 2 < l.length := by omega
  refine ⟨hi, ?_⟩
  have := kF.fl_get hi (j := j % 2) (show j % 2 < 2 by omega)
  rw [← this, ← h]
  congr 1
  show j / 2 * 2 + j % 2 = j
  omega
/-- the whole: a law over a number and a row of flows -/
theorem law_flows {n f : Nat} {q : Int} {W : World} {A : Option Addr} {c : Nat} {l : List Fl} (hr : Kd.C kP W A l.length l) (hlc : l.length ≤ c)
    (run : ∀ (h0 : AHeap) (sv : Value) (ids : List Nat), FlowsAt h0 l sv ids → (∀ i ∈ ids, i < h0.next) → C EE n f [.int .i64 q, sv] h0 fun v _ => v = .bool true) :
    Calls Try.prog f #[.int .i64 q, .slice A l.length c] W fun e W' => e = .returned (.bool true) ∧ Below W.heap.size W W' := by
  by_cases hl : l.length = 0
  · have hnil := List.eq_nil_of_length_eq_zero hl
    subst hnil
    letI := tokL (.slice A 0 c) slice_one (fun b => W.heap[b]?)
    obtain ⟨v, h', h1, rfl⟩ := C_out (run ⟨.nil, 0⟩ (.chan (some 0)) [] (.inl ⟨rfl, rfl, rfl⟩) (fun i hi => by cases hi))
    refine law_calls_from (sound X_ok tbL_ok n) h1 piG_gr (hr_nil (fun id hid => if_neg (Nat.not_lt.2 hid)) ⟨Nat.le_refl _, fun b _ => rfl⟩) ?_ (fun b => own_nil)
    exact .cons (.int _ _) (.cons (VR.tok 0) .nil)
  · obtain ⟨bk, of, ds, t, fr, rfl, hb, hcell⟩ := flows_cells hr (by omega)
    letI := tokL (.slice none 0 0) slice_one (fun b => W.heap[b]?)
    obtain ⟨v, h', h1, rfl⟩ := C_out (run ⟨(Tr.nil).put 0 (some (.ro (kF.fl l))), 0 + 1⟩ (.slice (some ⟨0, 0, none⟩) l.length (CAPX + 1)) [0] (.inr ⟨0, rfl, by show Tr.get _ _ = _; rw [Tr.get_put, if_pos rfl], rfl⟩) (fun i hi => by rw [List.mem_singleton.1 hi]; exact Nat.lt_succ_self _))
    have hbl : bk < W.heap.size := (Array.getElem?_eq_some_iff.1 hb).1
    let π : Pi := fun id => if id < 0 then some ⟨id, 0, 0⟩ else if id = 0 then some ⟨bk, of, of + c⟩ else none
    have hπ : π 0 = some ⟨bk, of, of + c⟩ := by simp [π]
    have hgs : ∀ id o, AHeap.get ⟨(Tr.nil).put 0 (some (.ro (kF.fl l))), 0 + 1⟩ id = some o → id = 0 ∧ o = .ro (kF.fl l) := by
      intro id o h
      have h : Tr.get ((Tr.nil).put 0 (some (.ro (kF.fl l)))) id = some o := h
      rw [Tr.get_put] at h
      split at h
      · rename_i e; exact ⟨e, (Option.some.inj h).symm⟩
      · cases h
    refine law_calls_from (π := π) (sound X_ok tbL_ok n) h1 (fun g hg => ⟨0, by show (if g < 0 then _ else _) = _; rw [if_pos hg]⟩) ⟨fun id o h => ?_, fun i j o p L M hi hj hor => ?_, fun id hid => ?_, ⟨Nat.le_refl _, fun b _ => rfl⟩⟩ ?_ (fun b => ?_)
    · obtain ⟨rfl, rfl⟩ := hgs id o h
      refine ⟨_, hπ, hbl, ds, t, fr, hb, fun j v hj => ?_⟩
      obtain ⟨hi, hj2⟩ := fl_at hj
      have hc := hcell (j / 2) hi (j % 2) v hj2
      rw [show j / 2 * 2 + j % 2 = j by omega] at hc
      refine ⟨_, hc, ?_⟩
      rcases (by omega : j % 2 = 0 ∨ j % 2 = 1) with e | e <;> rw [e] at hj2 <;> obtain rfl := Option.some.inj hj2 <;> exact .int _ _
    · obtain ⟨_, rfl⟩ := hgs i o hi
      cases hor
    · have hid : 0 + 1 ≤ id := hid
      simp only [π]
      rw [if_neg (by omega), if_neg (by omega)]
    · refine .cons (.int _ _) (.cons ?_ .nil)
      have := VR.slice (π := π) (id := 0) (o := 0) (len := l.length) (cap := CAPX + 1) (cap' := c) hπ (.inr ⟨1, rfl, by omega, by simp, hlc⟩)
      exact this
    · rintro ⟨id, o, L, h, hor, _⟩
      obtain ⟨_, rfl⟩ := hgs id o h
      cases hor
end Go.Proofs.Yteffhomollmpdaa.AM.SX

/- Robin: what stays true of flows and of a round. -/
namespace Go.Proofs.Yteffhomollmpdaa.AM.SX
open Go Go.Proofs.Yteffhomollmpdaa.X
set_option linter.unusedVariables false
set_option linter.unusedSimpArgs false
set_option maxRecDepth 100000
set_option maxHeartbeats 4000000
theorem insF_mem {S : List Fl} {x y : Fl} (h : y ∈ insF S x) : y = x ∨ y ∈ S := by
  unfold insF at h
  rcases List.mem_append.1 h with h1 | h1
  · exact .inr (List.mem_of_mem_take h1)
  · rcases List.mem_cons.1 h1 with h2 | h2
    · exact .inl h2
    · exact .inr (List.mem_of_mem_drop h2)
theorem foldl_mem : ∀ {l S : List Fl} {y : Fl}, y ∈ l.foldl insF S → y ∈ l ∨ y ∈ S
  | [], S, y, h => .inr h
  | x :: l, S, y, h => by
    rw [List.foldl_cons] at h
    rcases foldl_mem h with h1 | h1
    · exact .inl (.tail _ h1)
    · rcases insF_mem h1 with rfl | h2
      · exact .inl (.head _)
      · exact .inr h2
theorem sortF_mem {l : List Fl} {y : Fl} (h : y ∈ sortF l) : y ∈ l := by
  rcases foldl_mem h with h1 | h1
  · exact h1
  · cases h1
theorem compN_mem {l : List Fl} {y : Fl} : ∀ {k : Nat}, k ≤ l.length → y ∈ compN l k → y ∈ l
  | 0, _, h => by cases h
  | k + 1, hk, h => by
    have h : y ∈ compN l k ++ (if 0 < k ∧ (l.getD k (0, 0)).1 = (l.getD (k - 1) (0, 0)).1 then [] else [l.getD k (0, 0)]) := h
    rcases List.mem_append.1 h with h1 | h1
    · exact compN_mem (by omega) h1
    · split at h1
      · cases h1
      · rw [List.mem_singleton.1 h1, getD_at hk]
        exact List.getElem_mem _
theorem flowsF_mem {l : List Fl} {y : Fl} (h : y ∈ flowsF l) : y ∈ l ∧ 0 < y.2 := by
  unfold flowsF delF at h
  obtain ⟨h1, h2⟩ := List.mem_filter.1 h
  exact ⟨sortF_mem (compN_mem (Nat.le_refl _) h1), by simpa using h2⟩
theorem flowsF_len (l : List Fl) : (flowsF l).length ≤ l.length := by
  refine Nat.le_trans (List.length_filter_le _ _) (Nat.le_trans (compF_len _) ?_)
  rw [sortF_len]; exact Nat.le_refl _
theorem flowsF_wok {l : List Fl} (hb : ∀ x ∈ l, x.2 ≤ 1099511627776) : WOk (flowsF l) := fun x hx => ⟨(flowsF_mem hx).2, hb x (flowsF_mem hx).1⟩
theorem flowsF_none {l : List Fl} (hb : ∀ x ∈ l, x.2 ≤ 0) : flowsF l = [] := by
  cases h : flowsF l with
  | nil => rfl
  | cons x r =>
    obtain ⟨h1, h2⟩ := flowsF_mem (l := l) (y := x) (by rw [h]; exact .head _)
    have := hb x h1
    omega
theorem roundL_c : ∀ (k : Nat) (c la : Int) (any : Bool) (lf out : List Fl), 0 ≤ c → WOk lf → 0 ≤ (roundL k c la any lf out).1 ∧ (roundL k c la any lf out).1 ≤ c
  | 0, c, la, any, lf, out, hc, hw => ⟨hc, Int.le_refl _⟩
  | k + 1, c, la, any, lf, out, hc, hw => by
    unfold roundL
    by_cases h0 : lf.length = 0
    · rw [if_pos h0]; exact ⟨Int.le_refl _, hc⟩
    · rw [if_neg h0]
      have hil := pickI_lt (la := la) (any := any) (lf := lf) (by omega)
      have hgd := getD_at hil
      have hx := hw _ (List.getElem_mem hil)
      rw [hgd]
      generalize lf[pickI la any lf] = x at *
      by_cases hcg : c < min x.2 64
      · rw [if_pos hcg]; exact ⟨hc, Int.le_refl _⟩
      · rw [if_neg hcg]
        have hw' : WOk (if x.2 - min x.2 64 = 0 then lf.eraseIdx (pickI la any lf) else lf.set (pickI la any lf) (x.1, x.2 - min x.2 64)) := by
          split
          · exact fun z hz => hw z (List.mem_of_mem_eraseIdx hz)
          · intro z hz
            rcases List.mem_or_eq_of_mem_set hz with h3 | h3
            · exact hw z h3
            · rw [h3]; exact ⟨by show 0 < x.2 - min x.2 64; omega, by show x.2 - min x.2 64 ≤ _; omega⟩
        have := roundL_c k (c - min x.2 64) x.1 true _ (out ++ [(x.1, min x.2 64)]) (by omega) hw'
        omega
theorem roundL_nil {K : Nat} {c la : Int} {any : Bool} {out : List Fl} (hK : 0 < K) : roundL K c la any [] out = (0, la, any, out) := by
  obtain ⟨k, rfl⟩ : ∃ k, K = k + 1 := ⟨K - 1, by omega⟩
  rfl
def noneF (l : List Fl) : List Fl := (l.take 20).map fun x => (x.1, min x.2 0)
theorem noneF_take {l : List Fl} {i : Nat} (hi : i < l.length) : noneF (l.take (i + 1)) = if i < 20 then noneF (l.take i) ++ [(l[i].1, min l[i].2 0)] else noneF (l.take i) := by
  unfold noneF
  by_cases h : i < 20
  · rw [if_pos h, List.take_take, List.take_take, Nat.min_eq_right (by omega), Nat.min_eq_right (by omega), List.take_succ_eq_append_getElem hi, List.map_append]; rfl
  · rw [if_neg h, List.take_take, List.take_take, Nat.min_eq_left (by omega), Nat.min_eq_left (by omega)]
theorem noneF_len (l : List Fl) : (noneF l).length ≤ 20 := by unfold noneF; rw [List.length_map, List.length_take]; omega
theorem noneF_le {l : List Fl} : ∀ x ∈ noneF l, x.2 ≤ 0 := fun x hx => by
  obtain ⟨y, _, rfl⟩ := List.mem_map.1 hx
  show min y.2 0 ≤ 0
  omega
end Go.Proofs.Yteffhomollmpdaa.AM.SX

/- RobinNothing on the machine. -/
namespace Go.Proofs.Yteffhomollmpdaa.AM.SX
open Go Go.Proofs.Yteffhomollmpdaa.X
set_option linter.unusedVariables false
set_option linter.unusedSimpArgs false
set_option maxRecDepth 100000
set_option maxHeartbeats 8000000
attribute [local irreducible] astep0 aev awants abin abuild
theorem len_flows {n : Nat} {ops : Array Oper} {os : List Oper} {a : AAct} {h : AHeap} {Q : AAct → AHeap → Prop} {dst : Option Nat} {ty : Nat} {pos : String} {aft : Array Edge} {args : Array Operand} {l : List Fl} {sv : Value} {ids : List Nat} (hs : FlowsAt h l sv ids) (hl : args.toList.map (aev a) = [sv]) (hh : S EE (acall EE n) ops os (a.put dst (.int .i64 (l.length : Int))) h Q) : S EE (acall EE n) ops (⟨dst, .call ⟨.builtin .len, args, #[29]⟩, ty, pos, aft, none⟩ :: os) a h Q := by
  rcases hs with ⟨rfl, rfl, _⟩ | ⟨b, rfl, _, _⟩
  · refine S_tb wants0 ?_ rfl (l := [.chan (some 0)]) ?_ rfl hh
    · have hT : EE.T.get 29 = _ := TL rfl
      simp only [astep0, hl]
      simp only [abuiltin, alen, hT]
    · simpa [Op.operands, Call.operands] using hl
  · exact S_step wants0 (o_builtin hl (lenS (TL rfl))) hh
theorem nothing_run {n K : Nat} (hK : 2097152 < K ∧ K ≤ 4000000) (q0 : Int) (l : List Fl) (hn : K + 200 + l.length ≤ n) (hlb : l.length ≤ 140737488355328) (h0 : AHeap) (sv : Value) (ids : List Nat) (hs : FlowsAt h0 l sv ids) (hlt : ∀ i ∈ ids, i < h0.next) : C EE (n + 1) 6 [.int .i64 q0, sv] h0 fun v _ => v = .bool true := by
  obtain ⟨hK1, hK2⟩ := hK
  refine C_in (E_X _) F_nothing rfl rfl rfl ?_
  intro a hna hat
  have e0 := hat 0 _ rfl
  have e1 := hat 1 _ rfl
  replace hna : a.n = 66 := hna
  clear hat
  obtain ⟨m, rfl⟩ : ∃ m, n = m + 1 := ⟨n - 1, by omega⟩
  repeat first | refine G_seq ?_ | refine G_reg ?_ | refine N_seq ?_ | refine N_block ?_ | refine G_block ?_ | refine G_skip ?_ | refine G_cT ?_ | refine G_cF ?_ | refine G_ret ?_ | refine U_seq_ret ?_ | refine U_block_ret ?_ | refine U_nil ?_ | refine S_nil ?_ | refine S_auto ?_
  refine S_call wants0 (by simp only [aev_tmp, aev_const, aev_func, aev_global, at_put, at_none, n_put, reduceIte, Nat.reduceEqDiff, Nat.reduceLT, zq, *]; first | done | rfl) (E_Y _) (by simp only [List.map, aev_tmp, aev_const, aev_func, aev_global, at_put, at_none, n_put, reduceIte, Nat.reduceEqDiff, Nat.reduceLT, zq, *]; first | done | rfl) ?_
  refine (new_spec q0).mono ?_
  rintro r h1 ⟨rfl, rfl⟩
  have hq : 1 ≤ min (max q0 1) 1048576 ∧ min (max q0 1) 1048576 ≤ 1048576 := by omega
  generalize min (max q0 1) 1048576 = q at *
  repeat first | refine G_seq ?_ | refine G_reg ?_ | refine N_seq ?_ | refine N_block ?_ | refine G_block ?_ | refine G_skip ?_ | refine G_cT ?_ | refine G_cF ?_ | refine G_ret ?_ | refine U_seq_ret ?_ | refine U_block_ret ?_ | refine U_nil ?_ | refine S_nil ?_ | refine S_auto ?_
  refine S_step wants0 (o_bin (by simp only [aev_tmp, aev_const, aev_func, aev_global, at_put, at_none, n_put, reduceIte, Nat.reduceEqDiff, Nat.reduceLT, zq, *]; first | done | rfl) (by simp only [aev_tmp, aev_const, aev_func, aev_global, at_put, at_none, n_put, reduceIte, Nat.reduceEqDiff, Nat.reduceLT, zq, *]; first | done | rfl) (b_nilP (TL rfl))) ?_
  repeat first | refine G_seq ?_ | refine G_reg ?_ | refine N_seq ?_ | refine N_block ?_ | refine G_block ?_ | refine G_skip ?_ | refine G_cT ?_ | refine G_cF ?_ | refine G_ret ?_ | refine U_seq_ret ?_ | refine U_block_ret ?_ | refine U_nil ?_ | refine S_nil ?_ | refine S_noG ?_ | refine S_auto ?_
  refine S_call (by first | exact wants0 | exact (wantsG rfl rfl (by simp only [n_put, *]; decide) (by simp only [at_put, at_none, n_put, reduceIte, Nat.reduceEqDiff, Nat.reduceLT, cond_true, cond_false, ne_eq, not_true_eq_false, not_false_eq_true, decide_true, decide_false, Bool.not_true, Bool.not_false, eq_self, Int.lt_irrefl, Int.le_refl, *]; first | done | rfl)).trans rfl) (by simp only [aev_tmp, aev_const, aev_func, aev_global, at_put, at_none, n_put, reduceIte, Nat.reduceEqDiff, Nat.reduceLT, zq, *]; first | done | rfl) (E_Y _) (by simp only [List.map, aev_tmp, aev_const, aev_func, aev_global, at_put, at_none, n_put, reduceIte, Nat.reduceEqDiff, Nat.reduceLT, zq, *]; first | done | rfl) ?_
  refine C_x E_Xl rfl ?_
  repeat first | refine G_seq ?_ | refine G_reg ?_ | refine N_seq ?_ | refine N_block ?_ | refine G_block ?_ | refine G_skip ?_ | refine G_cT ?_ | refine G_cF ?_ | refine G_ret ?_ | refine U_seq_ret ?_ | refine U_block_ret ?_ | refine U_nil ?_ | refine S_nil ?_ | refine S_noG ?_ | refine S_auto ?_
  refine S_step wants0 (o_buildSlice (by simp only [List.map, aev_tmp, aev_const, aev_func, aev_global, at_put, at_none, n_put, reduceIte, Nat.reduceEqDiff, Nat.reduceLT, zq, *]; first | done | rfl) (bs_row1 (K := kF) (x := ((1, 2097152) : Fl)) (TL rfl) (TL rfl) ⟨rfl, rfl, by decide⟩ (by decide) rfl)) ?_
  refine S_call wants0 (by simp only [aev_tmp, aev_const, aev_func, aev_global, at_put, at_none, n_put, reduceIte, Nat.reduceEqDiff, Nat.reduceLT, zq, *]; first | done | rfl) (E_Y _) (by simp only [List.map, aev_tmp, aev_const, aev_func, aev_global, at_put, at_none, n_put, reduceIte, Nat.reduceEqDiff, Nat.reduceLT, zq, *]; first | done | rfl) ?_
  have hnx : (h0.new h0.next (.cells [.int .i64 q, .int .i64 0, .int .i64 0, .bool false] true)).next = h0.next + 1 := next_new_self _ _
  refine (round_spec (n := m) (p := h0.next) (K := K) (q := q) (c := 0) (la := 0) (any := false) (l := [((1, 2097152) : Fl)]) (O := [h0.next + 1]) (by simp (disch := omega) only [get_set_self, get_new_self, get_set_ne, get_new_ne, get_bump, next_set, next_new, Nat.lt_irrefl, reduceIte, next_kill, next_bump, *]; first | done | rfl) (by simp only [next_new, Nat.lt_irrefl, reduceIte]; omega) (.inr (.inl ⟨h0.next + 1, by rw [hnx]; rfl, by rw [hnx, get_new_self, kF.fl_one], rfl, by decide⟩)) (fun i hi => by rw [List.mem_singleton.1 hi]; simp only [next_new, Nat.lt_irrefl, reduceIte]; omega) (by decide) (flowsF_wok (fun x hx => by rw [List.mem_singleton.1 hx]; decide)) (Nat.le_trans (flowsF_len _) (by decide)) hq ⟨by decide, by decide⟩ (by omega) (by omega) hK2).mono ?_
  rintro r h2 ⟨R, O2, hR, hrr, hOO, hp2, hk2⟩
  clear hrr hOO
  have hw1 : WOk (flowsF [((1, 2097152) : Fl)]) := flowsF_wok (fun x hx => by rw [List.mem_singleton.1 hx]; decide)
  have hcR := roundL_c K (if (flowsF [((1, 2097152) : Fl)]).length = 0 then 0 else 0 + q) 0 false (flowsF [((1, 2097152) : Fl)]) [] (by split <;> omega) hw1
  rw [← hR] at hcR
  have hcR2 : 0 ≤ R.1 ∧ R.1 ≤ 1048576 := by
    refine ⟨hcR.1, Int.le_trans hcR.2 ?_⟩
    split <;> omega
  clear hR hcR hw1
  obtain ⟨c1, la1, any1, out1⟩ := R
  have hc1 : 0 ≤ c1 ∧ c1 ≤ 1048576 := hcR2
  replace hp2 : h2.get h0.next = some (.cells [.int .i64 q, .int .i64 c1, .int .i64 la1, .bool any1] true) := hp2
  have hnx2 := hk2.1
  simp only [next_new, Nat.lt_irrefl, reduceIte] at hnx2
  have hs2 : FlowsAt h2 l sv ids := hs.keep fun i hi => by
    have h9 := hlt i hi
    rw [hk2.2 i (by simp only [next_new, Nat.lt_irrefl, reduceIte]; omega) (by simp; omega), get_new_ne (by rw [hnx]; omega), get_new_ne (by omega)]
  clear hcR2 hk2 hnx out1
  repeat first | refine G_seq ?_ | refine G_reg ?_ | refine N_seq ?_ | refine N_block ?_ | refine G_block ?_ | refine G_skip ?_ | refine G_cT ?_ | refine G_cF ?_ | refine G_ret ?_ | refine U_seq_ret ?_ | refine U_block_ret ?_ | refine U_nil ?_ | refine S_nil ?_ | refine S_auto ?_
  refine S_step wants0 (o_buildSlice (by simp only [List.map, aev_tmp, aev_const, aev_func, aev_global, at_put, at_none, n_put, reduceIte, Nat.reduceEqDiff, Nat.reduceLT, zq, *]; first | done | rfl) (bs_row0 (K := kF) (TL rfl) (TL rfl) ⟨rfl, rfl, by decide⟩)) ?_
  repeat first | refine G_seq ?_ | refine G_reg ?_ | refine N_seq ?_ | refine N_block ?_ | refine G_block ?_ | refine G_skip ?_ | refine G_cT ?_ | refine G_cF ?_ | refine G_ret ?_ | refine U_seq_ret ?_ | refine U_block_ret ?_ | refine U_nil ?_ | refine S_nil ?_ | refine S_auto ?_
  have hs3 : FlowsAt (h2.new h2.next (.cells [] true)) l sv ids := hs2.keep fun i hi => get_new_ne (by have := hlt i hi; omega)
  refine len_flows hs3 (by simp only [List.map, aev_tmp, aev_const, aev_func, aev_global, at_put, at_none, n_put, reduceIte, Nat.reduceEqDiff, Nat.reduceLT, zq, *]; first | done | rfl) ?_
  repeat first | refine G_seq ?_ | refine G_reg ?_ | refine N_seq ?_ | refine N_block ?_ | refine G_block ?_ | refine G_skip ?_ | refine G_cT ?_ | refine G_cF ?_ | refine G_ret ?_ | refine U_seq_ret ?_ | refine U_block_ret ?_ | refine U_nil ?_ | refine S_nil ?_ | refine S_auto ?_
  generalize hpe : h0.next = p at *
  have hp3 : (h2.new h2.next (.cells [] true)).get p = some (.cells [.int .i64 q, .int .i64 c1, .int .i64 la1, .bool any1] true) := by rw [get_new_ne (by omega)]; exact hp2
  refine G_loop (fun j a h' => ∃ (i : Nat) (rv : Value) (Or : List Nat), i + j = l.length ∧ a.n = 66 ∧ a.at 5 = .pointer (some ⟨p, 0, none⟩) ∧ a.at 6 = rv ∧ a.at 24 = sv ∧ a.at 25 = .int .i64 (l.length : Int) ∧ a.at 26 = .int .i64 (i : Int) ∧ FlowsAt h' l sv ids ∧ RowAt kF h' (noneF (l.take i)) rv Or ∧ (∀ q ∈ Or, h2.next ≤ q ∧ q < h'.next) ∧ h'.get p = some (.cells [.int .i64 q, .int .i64 c1, .int .i64 la1, .bool any1] true) ∧ h2.next ≤ h'.next) l.length (by omega) ⟨0, .slice (some ⟨h2.next, 0, none⟩) 0 0, [h2.next], by omega, by simp only [at_put, at_none, n_put, reduceIte, Nat.reduceEqDiff, Nat.reduceLT, zq, *]; first | done | rfl, by simp only [at_put, at_none, n_put, reduceIte, Nat.reduceEqDiff, Nat.reduceLT, zq, *]; first | done | rfl, by simp (disch := omega) only [at_put, at_none, n_put, reduceIte, Nat.reduceEqDiff, Nat.reduceLT, get_set_self, get_new_self, get_set_ne, get_new_ne, get_bump, next_set, next_new, Nat.lt_irrefl, next_kill, next_bump, cond_true, cond_false, *]; first | done | rfl, by simp only [at_put, at_none, n_put, reduceIte, Nat.reduceEqDiff, Nat.reduceLT, zq, *]; first | done | rfl, by simp only [at_put, at_none, n_put, reduceIte, Nat.reduceEqDiff, Nat.reduceLT, zq, *]; first | done | rfl, by simp only [at_put, at_none, n_put, reduceIte, Nat.reduceEqDiff, Nat.reduceLT, zq, *]; first | done | rfl, hs3, row0 (get_new_self _ _ _), fun i hi => by rw [List.mem_singleton.1 hi, next_new_self]; omega, hp3, by rw [next_new_self]; omega⟩ ?_
  clear e0 e1 hna hs hs2 hs3 hp2 hp3
  rintro j a h3 ⟨i, rv, Or, hij, hna, e5, e6, e24, e25, e26, hs, hrow, hOr, hp, hnx3⟩
  have hpl : p < h3.next := by omega
  by_cases hil : i < l.length
  · have hil' : (i : Int) < (l.length : Int) := by omega
    obtain ⟨b, rfl, hgb, rfl⟩ : ∃ b, sv = .slice (some ⟨b, 0, none⟩) l.length (CAPX + 1) ∧ h3.get b = some (.ro (kF.fl l)) ∧ ids = [b] := by
      rcases hs with ⟨rfl, _, _⟩ | hh
      · exact absurd hil (Nat.not_lt_zero _)
      · exact hh
    have hbl : b < p := hlt b (.head _)
    have i1 : aindexAddr EE.T 29 (.slice (some ⟨b, 0, none⟩) l.length (CAPX + 1)) (.int .i64 (i : Int)) = some (.pointer (some ⟨b, i * kF.sz, none⟩)) := ix_row0 (TL rfl) (TL rfl) ⟨rfl, rfl, by decide⟩ hil
    have hcut := kF.fl_cut hil
    have hnt := noneF_take hil
    have hlen20 := noneF_len (l.take i)
    obtain ⟨xc, xw, hxe⟩ : ∃ xc xw, l[i] = (xc, xw) := ⟨_, _, rfl⟩
    rw [hxe] at hcut hnt
    repeat first | refine G_seq ?_ | refine G_reg ?_ | refine N_seq ?_ | refine N_block ?_ | refine G_block ?_ | refine G_skip ?_ | refine G_cT ?_ | refine G_cF ?_ | refine G_ret ?_ | refine U_seq_ret ?_ | refine U_block_ret ?_ | refine U_nil ?_ | refine S_nil ?_ | refine S_auto ?_
    refine S_step wants0 (o_indexAddr (by simp only [aev_tmp, aev_const, aev_func, aev_global, at_put, at_none, n_put, reduceIte, Nat.reduceEqDiff, Nat.reduceLT, zq, *]; first | done | rfl) (by simp only [aev_tmp, aev_const, aev_func, aev_global, at_put, at_none, n_put, reduceIte, Nat.reduceEqDiff, Nat.reduceLT, zq, *]; first | done | rfl) i1) ?_
    refine S_step wants0 (o_ldA (by simp only [aev_tmp, aev_const, aev_func, aev_global, at_put, at_none, n_put, reduceIte, Nat.reduceEqDiff, Nat.reduceLT, zq, *]; first | done | rfl) (TL rfl) rfl (rd_ro hgb) (hcut.trans rfl)) ?_
    clear i1 hcut
    by_cases h20 : i < 20
    · have c20 : ((i : Int) < 20) = True := eq_true (by omega)
      rw [if_pos h20] at hnt
      clear h20
      repeat first | refine G_seq ?_ | refine G_reg ?_ | refine N_seq ?_ | refine N_block ?_ | refine G_block ?_ | refine G_skip ?_ | refine G_cT ?_ | refine G_cF ?_ | refine G_ret ?_ | refine U_seq_ret ?_ | refine U_block_ret ?_ | refine U_nil ?_ | refine S_nil ?_ | refine S_auto ?_
      refine S_step wants0 (o_builtin (by simp only [List.map, aev_tmp, aev_const, aev_func, aev_global, at_put, at_none, n_put, reduceIte, Nat.reduceEqDiff, Nat.reduceLT, zq, *]; first | done | rfl) bi_min) ?_
      obtain ⟨hh, hhe⟩ : ∃ hh, hh = (h3.new h3.next (.cells [.int .i64 0, .int .i64 0] true)).set h3.next (.cells (kF.enc (xc, xw)) true) := ⟨_, rfl⟩
      have hhn : hh.next = h3.next + 1 := by rw [hhe, next_set, next_new_self]
      have hhg : ∀ q, q ≠ h3.next → hh.get q = h3.get q := fun q hq => by rw [hhe, get_set_ne hq, get_new_ne hq]
      obtain ⟨v3, h5, O3, q1, q2, q3, q4, q5⟩ := app_row (K := kF) (T := EE.T) (h := hh.new hh.next (.cells (kF.enc (xc, min xw 0)) true)) (st := 29) (xt := 29) (news := [((xc, min xw 0) : Fl)]) (x := .slice (some ⟨hh.next, 0, none⟩) 1 1) (TL rfl) (TL rfl) ⟨rfl, rfl, by decide⟩ (TL rfl) (hrow.keep fun q hq => by have := hOr q hq; rw [get_new_ne (by omega), hhg q (by omega)]) (by simp) (src_row1 (K := kF) (get_new_self _ _ _)) (by simp; omega) (fun q hq => by have := hOr q hq; rw [next_new_self]; omega)
      have hnx5 := q3.1
      rw [next_new_self] at hnx5
      have hk5 : ∀ q, q < h2.next → h5.get q = h3.get q := fun q hq => by
        rw [q3.2 q (by rw [next_new_self]; omega) (fun hm => by have := hOr q hm; omega), get_new_ne (by omega), hhg q (by omega)]
      have hO3 : ∀ q ∈ O3, h2.next ≤ q ∧ q < h5.next := fun q hq => ⟨by
        rcases q4 with rfl | rfl
        · exact (hOr q hq).1
        · rw [List.mem_singleton, next_new_self] at hq; omega, q5 q hq⟩
      have hge : h2.next ≤ h5.next := by omega
      have hp5 := (hk5 p (by omega)).trans hp
      have hs5 : FlowsAt h5 l (.slice (some ⟨b, 0, none⟩) l.length (CAPX + 1)) [b] := .inr ⟨b, rfl, (hk5 b (by omega)).trans hgb, rfl⟩
      rw [← hnt] at q2
      clear hnt hrow hOr q3 q4 q5 hk5 hs hhn hhg hnx5
      subst hhe
      repeat first | refine G_seq ?_ | refine G_reg ?_ | refine N_seq ?_ | refine N_block ?_ | refine G_block ?_ | refine G_skip ?_ | refine G_cT ?_ | refine G_cF ?_ | refine G_ret ?_ | refine U_seq_ret ?_ | refine U_block_ret ?_ | refine U_nil ?_ | refine S_nil ?_ | refine S_auto ?_
      refine S_step wants0 (o_buildSlice (by simp only [List.map, aev_tmp, aev_const, aev_func, aev_global, at_put, at_none, n_put, reduceIte, Nat.reduceEqDiff, Nat.reduceLT, zq, *]; first | done | rfl) (bs_row1 (K := kF) (x := ((xc, min xw 0) : Fl)) (TL rfl) (TL rfl) ⟨rfl, rfl, by decide⟩ (by decide) rfl)) ?_
      refine S_step wants0 (o_builtin (by simp only [List.map, aev_tmp, aev_const, aev_func, aev_global, at_put, at_none, n_put, reduceIte, Nat.reduceEqDiff, Nat.reduceLT, zq, *]; first | done | rfl) (bi_app q1)) ?_
      clear q1 hp hgb
      repeat first | refine G_seq ?_ | refine G_reg ?_ | refine N_seq ?_ | refine N_block ?_ | refine G_block ?_ | refine G_skip ?_ | refine G_cT ?_ | refine G_cF ?_ | refine G_ret ?_ | refine U_seq_ret ?_ | refine U_block_ret ?_ | refine U_nil ?_ | refine S_nil ?_ | refine S_auto ?_
      refine N_nil ?_
      exact LQ_n (j - 1) (by omega) ⟨i + 1, v3, O3, by omega, by simp only [at_put, at_none, n_put, reduceIte, Nat.reduceEqDiff, Nat.reduceLT, zq, *]; first | done | rfl, by simp only [at_put, at_none, n_put, reduceIte, Nat.reduceEqDiff, Nat.reduceLT, zq, *]; first | done | rfl, by simp only [at_put, at_none, n_put, reduceIte, Nat.reduceEqDiff, Nat.reduceLT, zq, *]; first | done | rfl, by simp only [at_put, at_none, n_put, reduceIte, Nat.reduceEqDiff, Nat.reduceLT, zq, *]; first | done | rfl, by simp only [at_put, at_none, n_put, reduceIte, Nat.reduceEqDiff, Nat.reduceLT, zq, *]; first | done | rfl, by rw [Int.natCast_add]; simp only [at_put, at_none, n_put, reduceIte, Nat.reduceEqDiff, Nat.reduceLT, zq, *]; first | done | rfl, hs5, q2, hO3, hp5, hge⟩
    · have c20 : ((i : Int) < 20) = False := eq_false (by omega)
      rw [if_neg h20] at hnt
      rw [← hnt] at hrow
      clear h20 hnt
      repeat first | refine G_seq ?_ | refine G_reg ?_ | refine N_seq ?_ | refine N_block ?_ | refine G_block ?_ | refine G_skip ?_ | refine G_cT ?_ | refine G_cF ?_ | refine G_ret ?_ | refine U_seq_ret ?_ | refine U_block_ret ?_ | refine U_nil ?_ | refine S_nil ?_ | refine S_auto ?_
      refine N_nil ?_
      refine LQ_n (j - 1) (by omega) ⟨i + 1, rv, Or, by omega, by simp only [at_put, at_none, n_put, reduceIte, Nat.reduceEqDiff, Nat.reduceLT, zq, *]; first | done | rfl, by simp only [at_put, at_none, n_put, reduceIte, Nat.reduceEqDiff, Nat.reduceLT, zq, *]; first | done | rfl, by simp only [at_put, at_none, n_put, reduceIte, Nat.reduceEqDiff, Nat.reduceLT, zq, *]; first | done | rfl, by simp only [at_put, at_none, n_put, reduceIte, Nat.reduceEqDiff, Nat.reduceLT, zq, *]; first | done | rfl, by simp only [at_put, at_none, n_put, reduceIte, Nat.reduceEqDiff, Nat.reduceLT, zq, *]; first | done | rfl, by rw [Int.natCast_add]; simp only [at_put, at_none, n_put, reduceIte, Nat.reduceEqDiff, Nat.reduceLT, zq, *]; first | done | rfl, hs.keep fun q hq => ?_, hrow.keep fun q hq => by have := hOr q hq; simp (disch := omega) only [get_set_self, get_new_self, get_set_ne, get_new_ne, get_bump, next_set, next_new, Nat.lt_irrefl, reduceIte, next_kill, next_bump, *]; first | done | rfl, fun q hq => by have := hOr q hq; simp only [next_set, next_new, Nat.lt_irrefl, reduceIte]; omega, by simp (disch := omega) only [get_set_self, get_new_self, get_set_ne, get_new_ne, get_bump, next_set, next_new, Nat.lt_irrefl, reduceIte, next_kill, next_bump, *]; first | done | rfl, by simp only [next_set, next_new, Nat.lt_irrefl, reduceIte]; omega⟩
      have hqb : q = b := List.mem_singleton.1 hq
      have : q < h3.next := by omega
      clear hgb
      simp (disch := omega) only [get_set_self, get_new_self, get_set_ne, get_new_ne, get_bump, next_set, next_new, Nat.lt_irrefl, reduceIte, next_kill, next_bump, *]; first | done | rfl
  · have hil' : ¬ (i : Int) < (l.length : Int) := by omega
    have hlen20 := noneF_len (l.take i)
    have hle := noneF_le (l := l.take i)
    generalize noneF (l.take i) = nl at *
    have hfn := flowsF_none hle
    repeat first | refine G_seq ?_ | refine G_reg ?_ | refine N_seq ?_ | refine N_block ?_ | refine G_block ?_ | refine G_skip ?_ | refine G_cT ?_ | refine G_cF ?_ | refine G_ret ?_ | refine U_seq_ret ?_ | refine U_block_ret ?_ | refine U_nil ?_ | refine S_nil ?_ | refine S_auto ?_
    refine G_exit ?_
    repeat first | refine U_seq_exit ?_ | refine U_nil ?_ | refine LQ_exit ?_ | refine U_block_hit ?_
    repeat first | refine G_seq ?_ | refine G_reg ?_ | refine N_seq ?_ | refine N_block ?_ | refine G_block ?_ | refine G_skip ?_ | refine G_cT ?_ | refine G_cF ?_ | refine G_ret ?_ | refine U_seq_ret ?_ | refine U_block_ret ?_ | refine U_nil ?_ | refine S_nil ?_ | refine S_auto ?_
    refine S_call wants0 (by simp only [aev_tmp, aev_const, aev_func, aev_global, at_put, at_none, n_put, reduceIte, Nat.reduceEqDiff, Nat.reduceLT, zq, *]; first | done | rfl) (E_Y _) (by simp only [List.map, aev_tmp, aev_const, aev_func, aev_global, at_put, at_none, n_put, reduceIte, Nat.reduceEqDiff, Nat.reduceLT, zq, *]; first | done | rfl) ?_
    refine (round_spec (n := m) (K := K) hp hpl hrow (fun i hi => (hOr i hi).2) hlen20 (by rw [hfn]; intro x hx; cases hx) (by rw [hfn]; exact Nat.zero_le _) hq hc1 (by omega) (by omega) hK2).mono ?_
    rintro r h4 ⟨R, O4, hR, hr4, hO4, hp4, hk4⟩
    rw [hfn, roundL_nil (by omega)] at hR
    subst hR
    have hp4l : p < h4.next := Nat.lt_of_lt_of_le hpl hk4.1
    replace hp4 : h4.get p = some (.cells [.int .i64 q, .int .i64 0, .int .i64 la1, .bool any1] true) := hp4
    replace hr4 : RowAt kF h4 [] r O4 := hr4
    have cl0 : (((([] : List Fl).length : Nat) : Int) = 0) = True := eq_true rfl
    have cz : ((0 : Int) = 0) = True := eq_true rfl
    clear hrow hOr hk4 hp hs hfn hle
    repeat first | refine G_seq ?_ | refine G_reg ?_ | refine N_seq ?_ | refine N_block ?_ | refine G_block ?_ | refine G_skip ?_ | refine G_cT ?_ | refine G_cF ?_ | refine G_ret ?_ | refine U_seq_ret ?_ | refine U_block_ret ?_ | refine U_nil ?_ | refine S_nil ?_ | refine S_auto ?_
    refine S_call wants0 (by simp only [aev_tmp, aev_const, aev_func, aev_global, at_put, at_none, n_put, reduceIte, Nat.reduceEqDiff, Nat.reduceLT, zq, *]; first | done | rfl) (E_Y _) (by simp only [List.map, aev_tmp, aev_const, aev_func, aev_global, at_put, at_none, n_put, reduceIte, Nat.reduceEqDiff, Nat.reduceLT, zq, *]; first | done | rfl) ?_
    refine (credit_spec hp4).mono ?_
    rintro r2 h5 ⟨rfl, rfl⟩
    repeat first | refine G_seq ?_ | refine G_reg ?_ | refine N_seq ?_ | refine N_block ?_ | refine G_block ?_ | refine G_skip ?_ | refine G_cT ?_ | refine G_cF ?_ | refine G_ret ?_ | refine U_seq_ret ?_ | refine U_block_ret ?_ | refine U_nil ?_ | refine S_nil ?_ | refine S_auto ?_
    refine S_step wants0 (o_builtin (by simp only [List.map, aev_tmp, aev_const, aev_func, aev_global, at_put, at_none, n_put, reduceIte, Nat.reduceEqDiff, Nat.reduceLT, zq, *]; first | done | rfl) (hr4.lenB (TL rfl))) ?_
    repeat first | refine G_seq ?_ | refine G_reg ?_ | refine N_seq ?_ | refine N_block ?_ | refine G_block ?_ | refine G_skip ?_ | refine G_cT ?_ | refine G_cF ?_ | refine G_ret ?_ | refine U_seq_ret ?_ | refine U_block_ret ?_ | refine U_nil ?_ | refine S_nil ?_ | refine S_noG ?_ | refine S_auto ?_
    refine S_call (by first | exact wants0 | exact (wantsG rfl rfl (by simp only [n_put, *]; decide) (by simp only [at_put, at_none, n_put, reduceIte, Nat.reduceEqDiff, Nat.reduceLT, cond_true, cond_false, ne_eq, not_true_eq_false, not_false_eq_true, decide_true, decide_false, Bool.not_true, Bool.not_false, eq_self, Int.lt_irrefl, Int.le_refl, *]; first | done | rfl)).trans rfl) (by simp only [aev_tmp, aev_const, aev_func, aev_global, at_put, at_none, n_put, reduceIte, Nat.reduceEqDiff, Nat.reduceLT, zq, *]; first | done | rfl) (E_Y _) (by simp only [List.map, aev_tmp, aev_const, aev_func, aev_global, at_put, at_none, n_put, reduceIte, Nat.reduceEqDiff, Nat.reduceLT, zq, *]; first | done | rfl) ?_
    have hrn : RowAt kF h5 [] (.slice none 0 0) [] := .inl ⟨rfl, rfl, rfl⟩
    have hfe : flowsF [] = [] := rfl
    refine (round_spec (n := m) (K := K) hp4 hp4l hrn (fun i hi => by cases hi) (by decide) (by rw [hfe]; intro x hx; cases hx) (by rw [hfe]; exact Nat.zero_le _) hq ⟨by decide, by decide⟩ (by omega) (by omega) hK2).mono ?_
    rintro r3 h6 ⟨R, O6, hR, hr6, hO6, hp6, hk6⟩
    rw [hfe, roundL_nil (by omega)] at hR
    subst hR
    replace hp6 : h6.get p = some (.cells [.int .i64 q, .int .i64 0, .int .i64 la1, .bool any1] true) := hp6
    replace hr6 : RowAt kF h6 [] r3 O6 := hr6
    clear hr4 hO4 hp4 hk6
    refine S_step (by first | exact wants0 | exact (wantsG rfl rfl (by simp only [n_put, *]; decide) (by simp only [at_put, at_none, n_put, reduceIte, Nat.reduceEqDiff, Nat.reduceLT, cond_true, cond_false, ne_eq, not_true_eq_false, not_false_eq_true, decide_true, decide_false, Bool.not_true, Bool.not_false, eq_self, Int.lt_irrefl, Int.le_refl, *]; first | done | rfl)).trans rfl) (o_builtin (by simp only [List.map, aev_tmp, aev_const, aev_func, aev_global, at_put, at_none, n_put, reduceIte, Nat.reduceEqDiff, Nat.reduceLT, zq, *]; first | done | rfl) (hr6.lenB (TL rfl))) ?_
    repeat first | refine G_seq ?_ | refine G_reg ?_ | refine N_seq ?_ | refine N_block ?_ | refine G_block ?_ | refine G_skip ?_ | refine G_cT ?_ | refine G_cF ?_ | refine G_ret ?_ | refine U_seq_ret ?_ | refine U_block_ret ?_ | refine U_nil ?_ | refine S_nil ?_ | refine S_noG ?_ | refine S_auto ?_
    refine S_call (by first | exact wants0 | exact (wantsG rfl rfl (by simp only [n_put, *]; decide) (by simp only [at_put, at_none, n_put, reduceIte, Nat.reduceEqDiff, Nat.reduceLT, cond_true, cond_false, ne_eq, not_true_eq_false, not_false_eq_true, decide_true, decide_false, Bool.not_true, Bool.not_false, eq_self, Int.lt_irrefl, Int.le_refl, *]; first | done | rfl)).trans rfl) (by simp only [aev_tmp, aev_const, aev_func, aev_global, at_put, at_none, n_put, reduceIte, Nat.reduceEqDiff, Nat.reduceLT, zq, *]; first | done | rfl) (E_Y _) (by simp only [List.map, aev_tmp, aev_const, aev_func, aev_global, at_put, at_none, n_put, reduceIte, Nat.reduceEqDiff, Nat.reduceLT, zq, *]; first | done | rfl) ?_
    refine (credit_spec hp6).mono ?_
    rintro r4 h7 ⟨rfl, rfl⟩
    repeat first | refine G_seq ?_ | refine G_reg ?_ | refine N_seq ?_ | refine N_block ?_ | refine G_block ?_ | refine G_skip ?_ | refine G_cT ?_ | refine G_cF ?_ | refine G_ret ?_ | refine U_seq_ret ?_ | refine U_block_ret ?_ | refine U_nil ?_ | refine S_nil ?_ | refine S_noG ?_ | refine S_auto ?_
    refine FQ_in (by first | exact .inr rfl | exact .inl rfl) (by first | exact ares1 (by simp only [at_put, at_none, n_put, reduceIte, Nat.reduceEqDiff, Nat.reduceLT, zq, *]; first | done | rfl) | exact ares2 (by simp only [at_put, at_none, n_put, reduceIte, Nat.reduceEqDiff, Nat.reduceLT, zq, *]; first | done | rfl) (by simp only [at_put, at_none, n_put, reduceIte, Nat.reduceEqDiff, Nat.reduceLT, zq, *]; first | done | rfl)) ?_
    rfl
end Go.Proofs.Yteffhomollmpdaa.AM.SX
