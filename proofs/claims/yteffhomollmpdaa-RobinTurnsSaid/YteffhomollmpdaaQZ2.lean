import Derived.Test.YteffhomollmpdaaQZ1
import Derived.Test.YteffhomollmpdaaXChg
/- Robin: Delete; the flows that count. -/
namespace Go.Proofs.Yteffhomollmpdaa.AM.SX
open Go
set_option linter.unusedVariables false
set_option linter.unusedSimpArgs false
set_option maxRecDepth 100000
set_option maxHeartbeats 4000000
attribute [local irreducible] astep0 aev awants abin abuild
def flowsF (l : List Fl) : List Fl := delF (compF (sortF l))
theorem compF_short {l : List Fl} (h : l.length < 2) : compF l = l := by
  unfold compF
  rw [compN_take (Nat.le_refl _) (fun q hq _ => by omega), List.take_length]
theorem compN_len (l : List Fl) : ∀ k, (compN l k).length ≤ k
  | 0 => Nat.le_refl _
  | k + 1 => by
    have := compN_len l k
    show (compN l k ++ _).length ≤ k + 1
    rw [List.length_append]
    split
    · show _ + 0 ≤ _; omega
    · show _ + 1 ≤ _; omega
theorem compF_len (l : List Fl) : (compF l).length ≤ l.length := compN_len l _
section
variable {n : Nat} {h : AHeap}
theorem delete_spec {bk : Nat} {l js : List Fl} {i : Nat} (hb : h.get bk = some (.cells (kF.fl (l ++ js)) true)) (hbl : bk < h.next) (hi : i < l.length) (hl : l.length < 1000000) : C EE (n + 1) 21 [.slice (some ⟨bk, 0, none⟩) l.length (CAPX + kF.sz), .int .i64 (i : Int), .int .i64 ((i : Int) + 1)] h fun r h' => ∃ js', r = .slice (some ⟨bk, 0, none⟩) (l.eraseIdx i).length (CAPX + kF.sz) ∧ h'.get bk = some (.cells (kF.fl (l.eraseIdx i ++ js')) true) ∧ Keep h h' [bk] := by
  have hj : ((i : Int) + 1) = ((i + 1 : Nat) : Int) := by omega
  rw [hj]
  refine C_in (E_X _) F_delete rfl rfl rfl ?_
  intro a hna hat
  have e0 := hat 0 _ rfl
  have e1 := hat 1 _ rfl
  have e2 := hat 2 _ rfl
  replace hna : a.n = 33 := hna
  clear hat
  obtain ⟨r3, hr3⟩ := sl_row3 (K := kF) (T := EE.T) (st := 29) (h := h) (bk := bk) (TL rfl) (TL rfl) ⟨rfl, rfl, by decide⟩ (Nat.le_succ i) (show i + 1 ≤ l.length from hi) hl
  repeat first | refine G_seq ?_ | refine G_reg ?_ | refine N_seq ?_ | refine N_block ?_ | refine G_block ?_ | refine G_skip ?_ | refine G_cT ?_ | refine G_cF ?_ | refine G_ret ?_ | refine U_seq_ret ?_ | refine U_block_ret ?_ | refine U_nil ?_ | refine S_nil ?_ | refine S_auto ?_
  refine S_step wants0 (o_builtin (by simp only [List.map, aev_tmp, aev_const, aev_func, aev_global, at_put, at_none, n_put, reduceIte, Nat.reduceEqDiff, Nat.reduceLT, zq, *]; first | done | rfl) (lenS (TL rfl))) ?_
  refine S_step wants0 (o_slice (by simp only [aev_tmp, aev_const, aev_func, aev_global, at_put, at_none, n_put, reduceIte, Nat.reduceEqDiff, Nat.reduceLT, zq, *]; first | done | rfl) (by simp only [Option.map, aev_tmp, aev_const, at_put, at_none, n_put, reduceIte, Nat.reduceEqDiff, Nat.reduceLT, zq, *]; first | done | rfl) (by simp only [Option.map, aev_tmp, aev_const, at_put, at_none, n_put, reduceIte, Nat.reduceEqDiff, Nat.reduceLT, zq, *]; first | done | rfl) (by simp only [Option.map, aev_tmp, aev_const, at_put, at_none, n_put, reduceIte, Nat.reduceEqDiff, Nat.reduceLT, zq, *]; first | done | rfl) hr3) ?_
  clear hr3
  have hne : ((i : Int) = ((i + 1 : Nat) : Int)) = False := eq_false (by omega)
  repeat first | refine G_seq ?_ | refine G_reg ?_ | refine N_seq ?_ | refine N_block ?_ | refine G_block ?_ | refine G_skip ?_ | refine G_cT ?_ | refine G_cF ?_ | refine G_ret ?_ | refine U_seq_ret ?_ | refine U_block_ret ?_ | refine U_nil ?_ | refine S_nil ?_ | refine S_auto ?_
  refine S_step wants0 (o_builtin (by simp only [List.map, aev_tmp, aev_const, aev_func, aev_global, at_put, at_none, n_put, reduceIte, Nat.reduceEqDiff, Nat.reduceLT, zq, *]; first | done | rfl) (lenS (TL rfl))) ?_
  repeat first | refine G_seq ?_ | refine G_reg ?_ | refine N_seq ?_ | refine N_block ?_ | refine G_block ?_ | refine G_skip ?_ | refine G_cT ?_ | refine G_cF ?_ | refine G_ret ?_ | refine U_seq_ret ?_ | refine U_block_ret ?_ | refine U_nil ?_ | refine S_nil ?_ | refine S_auto ?_
  clear hne
  refine G_draw [] [] (by kernel_rfl) ?_
  obtain ⟨h', g1, g2, g3, g4⟩ := app_rowW (K := kF) (T := EE.T) (st := 29) (nid := h.next + 6) (c := CAPX + kF.sz) (h := bump h 8) (TL rfl) (TL rfl) ⟨rfl, rfl, by decide⟩ hb (Nat.le_succ i) (show i + 1 ≤ l.length from hi) hl
  repeat first | refine D1_nil0 ?_ | refine D2_nil ?_ | refine D_pure ?_ | refine D_rd ?_ | refine D2_pure' ?_
  refine D1_rd wants0 rfl rfl (fun _ => o_slice (by simp only [aev_tmp, aev_const, aev_func, aev_global, at_put, at_none, n_put, reduceIte, Nat.reduceEqDiff, Nat.reduceLT, zq, *]; first | done | rfl) (by simp only [Option.map, aev_tmp, aev_const, at_put, at_none, n_put, reduceIte, Nat.reduceEqDiff, Nat.reduceLT, zq, *]; first | done | rfl) (by simp only [Option.map, aev_tmp, aev_const, at_put, at_none, n_put, reduceIte, Nat.reduceEqDiff, Nat.reduceLT, zq, *]; first | done | rfl) (by simp only [Option.map, aev_tmp, aev_const, at_put, at_none, n_put, reduceIte, Nat.reduceEqDiff, Nat.reduceLT, zq, *]; first | done | rfl) (sl_rowZ (K := kF) (TL rfl) (TL rfl) ⟨rfl, rfl, by decide⟩ (Nat.le_of_lt hi))) (veq_self rfl) ?_
  repeat first | refine D1_nil0 ?_ | refine D2_nil ?_ | refine D_pure ?_ | refine D_rd ?_ | refine D2_pure' ?_
  refine D1_rd wants0 rfl rfl (fun _ => o_slice (by simp only [aev_tmp, aev_const, aev_func, aev_global, at_put, at_none, n_put, reduceIte, Nat.reduceEqDiff, Nat.reduceLT, zq, *]; first | done | rfl) (by simp only [Option.map, aev_tmp, aev_const, at_put, at_none, n_put, reduceIte, Nat.reduceEqDiff, Nat.reduceLT, zq, *]; first | done | rfl) (by simp only [Option.map, aev_tmp, aev_const, at_put, at_none, n_put, reduceIte, Nat.reduceEqDiff, Nat.reduceLT, zq, *]; first | done | rfl) (by simp only [Option.map, aev_tmp, aev_const, at_put, at_none, n_put, reduceIte, Nat.reduceEqDiff, Nat.reduceLT, zq, *]; first | done | rfl) (sl_row (K := kF) (TL rfl) (TL rfl) ⟨rfl, rfl, by decide⟩ (optNat_int _ _) (optNat_none _) hi (Nat.le_refl _))) (veq_self rfl) ?_
  refine D1_wr0 wants0 rfl (o_builtin (by simp only [List.map, aev_tmp, aev_const, aev_func, aev_global, at_put, at_none, n_put, reduceIte, Nat.reduceEqDiff, Nat.reduceLT, zq, *]; first | done | rfl) g1) .nil ?_
  repeat first | refine D1_nil0 ?_ | refine D2_nil ?_ | refine D_pure ?_ | refine D_rd ?_ | refine D2_pure' ?_
  repeat first | refine G_seq ?_ | refine G_reg ?_ | refine N_seq ?_ | refine N_block ?_ | refine G_block ?_ | refine G_skip ?_ | refine G_cT ?_ | refine G_cF ?_ | refine G_ret ?_ | refine U_seq_ret ?_ | refine U_block_ret ?_ | refine U_nil ?_ | refine S_nil ?_ | refine S_auto ?_
  refine S_step wants0 (o_builtin (by simp only [List.map, aev_tmp, aev_const, aev_func, aev_global, at_put, at_none, n_put, reduceIte, Nat.reduceEqDiff, Nat.reduceLT, zq, *]; first | done | rfl) (lenS (TL rfl))) ?_
  have hcl : (l.take i ++ (l.drop i.succ ++ (l ++ js).drop (i + (l.length - i.succ)))).length = (l ++ js).length := by simp; omega
  have hct : (l.take i ++ (l.drop i.succ ++ (l ++ js).drop (i + (l.length - i.succ)))).take (i + (l.length - i.succ)) = l.eraseIdx i := by
    rw [List.eraseIdx_eq_take_drop_succ, ← List.append_assoc, List.take_append_of_le_length (by simp; omega), List.take_of_length_le (by simp; omega)]
  generalize l.take i ++ (l.drop i.succ ++ (l ++ js).drop (i + (l.length - i.succ))) = cur at g2 hcl hct
  have hcl2 : l.length ≤ cur.length := by rw [hcl]; simp
  have hlen : (l.eraseIdx i).length = i + (l.length - i.succ) := by rw [List.length_eraseIdx_of_lt hi]; omega
  clear g1
  generalize hn1 : i + (l.length - i.succ) = n1 at *
  have hn1l : n1 < l.length := by omega
  obtain ⟨h4, js4, q1, q2, q3, q4⟩ := cl_rowG (T := EE.T) (st := 29) (nid := h'.next) (ts := []) (c := CAPX + kF.sz) (z0 := ((0, 0) : Fl)) (m := l.length - n1) (TL rfl) (TL rfl) rfl g2 (show n1 + (l.length - n1) ≤ cur.length by omega)
  rw [hct] at q2
  repeat first | refine G_seq ?_ | refine G_reg ?_ | refine N_seq ?_ | refine N_block ?_ | refine G_block ?_ | refine G_skip ?_ | refine G_cT ?_ | refine G_cF ?_ | refine G_ret ?_ | refine U_seq_ret ?_ | refine U_block_ret ?_ | refine U_nil ?_ | refine S_nil ?_ | refine S_auto ?_
  refine S_step wants0 (o_slice (by simp only [aev_tmp, aev_const, aev_func, aev_global, at_put, at_none, n_put, reduceIte, Nat.reduceEqDiff, Nat.reduceLT, zq, *]; first | done | rfl) (by simp only [Option.map, aev_tmp, aev_const, at_put, at_none, n_put, reduceIte, Nat.reduceEqDiff, Nat.reduceLT, zq, *]; first | done | rfl) (by simp only [Option.map, aev_tmp, aev_const, at_put, at_none, n_put, reduceIte, Nat.reduceEqDiff, Nat.reduceLT, zq, *]; first | done | rfl) (by simp only [Option.map, aev_tmp, aev_const, at_put, at_none, n_put, reduceIte, Nat.reduceEqDiff, Nat.reduceLT, zq, *]; first | done | rfl) (sl_rowM (K := kF) (TL rfl) (TL rfl) ⟨rfl, rfl, by decide⟩ g2 (Nat.le_of_lt hn1l) hcl2)) ?_
  refine S_step wants0 (o_builtin (by simp only [List.map, aev_tmp, aev_const, aev_func, aev_global, at_put, at_none, n_put, reduceIte, Nat.reduceEqDiff, Nat.reduceLT, zq, *]; first | done | rfl) q1) ?_
  clear q1 g2
  repeat first | refine G_seq ?_ | refine G_reg ?_ | refine N_seq ?_ | refine N_block ?_ | refine G_block ?_ | refine G_skip ?_ | refine G_cT ?_ | refine G_cF ?_ | refine G_ret ?_ | refine U_seq_ret ?_ | refine U_block_ret ?_ | refine U_nil ?_ | refine S_nil ?_ | refine S_auto ?_
  refine FQ_in (by first | exact .inr rfl | exact .inl rfl) (by first | exact ares1 (by simp only [at_put, at_none, n_put, reduceIte, Nat.reduceEqDiff, Nat.reduceLT, zq, *]; first | done | rfl) | exact ares2 (by simp only [at_put, at_none, n_put, reduceIte, Nat.reduceEqDiff, Nat.reduceLT, zq, *]; first | done | rfl) (by simp only [at_put, at_none, n_put, reduceIte, Nat.reduceEqDiff, Nat.reduceLT, zq, *]; first | done | rfl)) ?_
  refine ⟨js4, by rw [hlen]; rfl, q2, by rw [q3, g3]; exact Nat.le_add_right _ _, fun q hq hn => ?_⟩
  have hq : q ≠ bk := by simpa using hn
  rw [q4 q hq, g4 q hq]; rfl
theorem flows_spec {l : List Fl} {v : Value} {O : List Nat} (hv : RowAt kF h l v O) (hO : ∀ i ∈ O, i < h.next) (hl : l.length ≤ 20) (hn : 60 ≤ n) : C EE (n + 1) 19 [v] h fun r h' => Keep h h' [] ∧ ((flowsF l = [] ∧ ∃ A c, r = .slice A 0 c) ∨ ∃ b js, h.next ≤ b ∧ b < h'.next ∧ r = .slice (some ⟨b, 0, none⟩) (flowsF l).length (CAPX + kF.sz) ∧ h'.get b = some (.cells (kF.fl (flowsF l ++ js)) true)) := by
  refine C_in (E_X _) F_flows rfl rfl rfl ?_
  intro a hna hat
  have e0 := hat 0 _ rfl
  replace hna : a.n = 12 := hna
  clear hat
  obtain ⟨m, rfl⟩ : ∃ m, n = m + 1 := ⟨n - 1, by omega⟩
  repeat first | refine G_seq ?_ | refine G_reg ?_ | refine N_seq ?_ | refine N_block ?_ | refine G_block ?_ | refine G_skip ?_ | refine G_cT ?_ | refine G_cF ?_ | refine G_ret ?_ | refine U_seq_ret ?_ | refine U_block_ret ?_ | refine U_nil ?_ | refine S_nil ?_ | refine S_auto ?_
  refine S_call wants0 (by simp only [aev_tmp, aev_const, aev_func, aev_global, at_put, at_none, n_put, reduceIte, Nat.reduceEqDiff, Nat.reduceLT, zq, *]; first | done | rfl) (E_Y _) (by simp only [List.map, aev_tmp, aev_const, aev_func, aev_global, at_put, at_none, n_put, reduceIte, Nat.reduceEqDiff, Nat.reduceLT, zq, *]; first | done | rfl) ?_
  refine (clone_spec (n := m) hv hO (by omega)).mono ?_
  rintro r h1 ⟨hk1, ⟨rfl, A, c, O', rfl, hr, hO'⟩ | ⟨b, js, hb0, hb1, rfl, hrow⟩⟩
  · repeat first | refine G_seq ?_ | refine G_reg ?_ | refine N_seq ?_ | refine N_block ?_ | refine G_block ?_ | refine G_skip ?_ | refine G_cT ?_ | refine G_cF ?_ | refine G_ret ?_ | refine U_seq_ret ?_ | refine U_block_ret ?_ | refine U_nil ?_ | refine S_nil ?_ | refine S_auto ?_
    refine S_call wants0 (by simp only [aev_tmp, aev_const, aev_func, aev_global, at_put, at_none, n_put, reduceIte, Nat.reduceEqDiff, Nat.reduceLT, zq, *]; first | done | rfl) (E_Y _) (by simp only [List.map, aev_tmp, aev_const, aev_func, aev_global, at_put, at_none, n_put, reduceIte, Nat.reduceEqDiff, Nat.reduceLT, zq, *]; first | done | rfl) ?_
    refine (sort0_spec (n := m) (by omega)).mono ?_
    rintro r h2 ⟨rfl, rfl⟩
    repeat first | refine G_seq ?_ | refine G_reg ?_ | refine N_seq ?_ | refine N_block ?_ | refine G_block ?_ | refine G_skip ?_ | refine G_cT ?_ | refine G_cF ?_ | refine G_ret ?_ | refine U_seq_ret ?_ | refine U_block_ret ?_ | refine U_nil ?_ | refine S_nil ?_ | refine S_auto ?_
    refine S_call wants0 (by simp only [aev_tmp, aev_const, aev_func, aev_global, at_put, at_none, n_put, reduceIte, Nat.reduceEqDiff, Nat.reduceLT, zq, *]; first | done | rfl) (E_Y _) (by simp only [List.map, aev_tmp, aev_const, aev_func, aev_global, at_put, at_none, n_put, reduceIte, Nat.reduceEqDiff, Nat.reduceLT, zq, *]; first | done | rfl) ?_
    refine (compact0_spec (n := m) (m := 0) (by omega)).mono ?_
    rintro r h3 ⟨rfl, rfl⟩
    repeat first | refine G_seq ?_ | refine G_reg ?_ | refine N_seq ?_ | refine N_block ?_ | refine G_block ?_ | refine G_skip ?_ | refine G_cT ?_ | refine G_cF ?_ | refine G_ret ?_ | refine U_seq_ret ?_ | refine U_block_ret ?_ | refine U_nil ?_ | refine S_nil ?_ | refine S_auto ?_
    refine S_call wants0 (by simp only [aev_tmp, aev_const, aev_func, aev_global, at_put, at_none, n_put, reduceIte, Nat.reduceEqDiff, Nat.reduceLT, zq, *]; first | done | rfl) (E_Y _) (by simp only [List.map, aev_tmp, aev_const, aev_func, aev_global, at_put, at_none, n_put, reduceIte, Nat.reduceEqDiff, Nat.reduceLT, zq, *]; first | done | rfl) ?_
    refine (deleteFunc0_spec (n := m) hr hO' (by omega)).mono ?_
    rintro r h4 ⟨rfl, hk4⟩
    repeat first | refine G_seq ?_ | refine G_reg ?_ | refine N_seq ?_ | refine N_block ?_ | refine G_block ?_ | refine G_skip ?_ | refine G_cT ?_ | refine G_cF ?_ | refine G_ret ?_ | refine U_seq_ret ?_ | refine U_block_ret ?_ | refine U_nil ?_ | refine S_nil ?_ | refine S_auto ?_
    refine FQ_in (by first | exact .inr rfl | exact .inl rfl) (by first | exact ares1 (by simp only [at_put, at_none, n_put, reduceIte, Nat.reduceEqDiff, Nat.reduceLT, zq, *]; first | done | rfl) | exact ares2 (by simp only [at_put, at_none, n_put, reduceIte, Nat.reduceEqDiff, Nat.reduceLT, zq, *]; first | done | rfl) (by simp only [at_put, at_none, n_put, reduceIte, Nat.reduceEqDiff, Nat.reduceLT, zq, *]; first | done | rfl)) ?_
    exact ⟨hk1.trans hk4 fun i hi => .inl hi, .inl ⟨rfl, _, _, rfl⟩⟩
  · repeat first | refine G_seq ?_ | refine G_reg ?_ | refine N_seq ?_ | refine N_block ?_ | refine G_block ?_ | refine G_skip ?_ | refine G_cT ?_ | refine G_cF ?_ | refine G_ret ?_ | refine U_seq_ret ?_ | refine U_block_ret ?_ | refine U_nil ?_ | refine S_nil ?_ | refine S_auto ?_
    refine S_call wants0 (by simp only [aev_tmp, aev_const, aev_func, aev_global, at_put, at_none, n_put, reduceIte, Nat.reduceEqDiff, Nat.reduceLT, zq, *]; first | done | rfl) (E_Y _) (by simp only [List.map, aev_tmp, aev_const, aev_func, aev_global, at_put, at_none, n_put, reduceIte, Nat.reduceEqDiff, Nat.reduceLT, zq, *]; first | done | rfl) ?_
    refine (sort_spec (n := m) hrow hb1 (by omega) hl).mono ?_
    rintro r h2 ⟨rfl, hrow2, hk2⟩
    have hkk2 : Keep h h2 [] := hk1.fresh hk2 fun i hi => by rw [List.mem_singleton.1 hi]; exact hb0
    have hb2 : b < h2.next := Nat.lt_of_lt_of_le hb1 hk2.1
    have hsl := sortF_len l
    have htail : ∀ (h3 : AHeap) (js3 : List Fl), h3.get b = some (.cells (kF.fl (compF (sortF l) ++ js3)) true) → Keep h h3 [] → b < h3.next → C EE (m + 1) 28 [.slice (some ⟨b, 0, none⟩) (compF (sortF l)).length (CAPX + kF.sz), .func (.func 29) #[] #[]] h3 fun r h' => Keep h h' [] ∧ ((flowsF l = [] ∧ ∃ A c, r = .slice A 0 c) ∨ ∃ b js, h.next ≤ b ∧ b < h'.next ∧ r = .slice (some ⟨b, 0, none⟩) (flowsF l).length (CAPX + kF.sz) ∧ h'.get b = some (.cells (kF.fl (flowsF l ++ js)) true)) := by
      intro h3 js3 hr3 hk3 hb3
      have hcl := compF_len (sortF l)
      refine (deleteFunc_spec (n := m) hr3 hb3 (by omega) (by omega)).mono ?_
      rintro r h4 ⟨js4, rfl, hr4, hk4⟩
      exact ⟨hk3.fresh hk4 fun i hi => by rw [List.mem_singleton.1 hi]; exact hb0, .inr ⟨b, js4, hb0, Nat.lt_of_lt_of_le hb3 hk4.1, rfl, hr4⟩⟩
    repeat first | refine G_seq ?_ | refine G_reg ?_ | refine N_seq ?_ | refine N_block ?_ | refine G_block ?_ | refine G_skip ?_ | refine G_cT ?_ | refine G_cF ?_ | refine G_ret ?_ | refine U_seq_ret ?_ | refine U_block_ret ?_ | refine U_nil ?_ | refine S_nil ?_ | refine S_auto ?_
    refine S_call wants0 (by simp only [aev_tmp, aev_const, aev_func, aev_global, at_put, at_none, n_put, reduceIte, Nat.reduceEqDiff, Nat.reduceLT, zq, *]; first | done | rfl) (E_Y _) (by simp only [List.map, aev_tmp, aev_const, aev_func, aev_global, at_put, at_none, n_put, reduceIte, Nat.reduceEqDiff, Nat.reduceLT, zq, *]; first | done | rfl) ?_
    by_cases hl2 : l.length < 2
    · refine (compact0_spec (n := m) (m := l.length) hl2).mono ?_
      rintro r h3 ⟨rfl, rfl⟩
      have hcs : compF (sortF l) = sortF l := compF_short (by rw [hsl]; exact hl2)
      have ht := htail h3 js (by rw [hcs]; exact hrow2) hkk2 hb2
      rw [hcs, hsl] at ht
      clear htail hsl hcs hl2
      repeat first | refine G_seq ?_ | refine G_reg ?_ | refine N_seq ?_ | refine N_block ?_ | refine G_block ?_ | refine G_skip ?_ | refine G_cT ?_ | refine G_cF ?_ | refine G_ret ?_ | refine U_seq_ret ?_ | refine U_block_ret ?_ | refine U_nil ?_ | refine S_nil ?_ | refine S_auto ?_
      refine S_call wants0 (by simp only [aev_tmp, aev_const, aev_func, aev_global, at_put, at_none, n_put, reduceIte, Nat.reduceEqDiff, Nat.reduceLT, zq, *]; first | done | rfl) (E_Y _) (by simp only [List.map, aev_tmp, aev_const, aev_func, aev_global, at_put, at_none, n_put, reduceIte, Nat.reduceEqDiff, Nat.reduceLT, zq, *]; first | done | rfl) ?_
      refine ht.mono ?_
      rintro r h4 ⟨hk4, hres⟩
      clear ht
      repeat first | refine G_seq ?_ | refine G_reg ?_ | refine N_seq ?_ | refine N_block ?_ | refine G_block ?_ | refine G_skip ?_ | refine G_cT ?_ | refine G_cF ?_ | refine G_ret ?_ | refine U_seq_ret ?_ | refine U_block_ret ?_ | refine U_nil ?_ | refine S_nil ?_ | refine S_auto ?_
      refine FQ_in (by first | exact .inr rfl | exact .inl rfl) (by first | exact ares1 (by simp only [at_put, at_none, n_put, reduceIte, Nat.reduceEqDiff, Nat.reduceLT, zq, *]; first | done | rfl) | exact ares2 (by simp only [at_put, at_none, n_put, reduceIte, Nat.reduceEqDiff, Nat.reduceLT, zq, *]; first | done | rfl) (by simp only [at_put, at_none, n_put, reduceIte, Nat.reduceEqDiff, Nat.reduceLT, zq, *]; first | done | rfl)) ?_
      exact ⟨hk4, hres⟩
    · have hcm := compact_spec (n := m) hrow2 hb2 (by rw [hsl]; omega) (by rw [hsl]; omega) (by rw [hsl]; omega)
      rw [hsl] at hcm
      refine hcm.mono ?_
      rintro r h3 ⟨js3, rfl, hr3, hk3⟩
      have ht := htail h3 js3 hr3 (hkk2.fresh hk3 fun i hi => by rw [List.mem_singleton.1 hi]; exact hb0) (Nat.lt_of_lt_of_le hb2 hk3.1)
      clear htail hsl hcm hl2
      repeat first | refine G_seq ?_ | refine G_reg ?_ | refine N_seq ?_ | refine N_block ?_ | refine G_block ?_ | refine G_skip ?_ | refine G_cT ?_ | refine G_cF ?_ | refine G_ret ?_ | refine U_seq_ret ?_ | refine U_block_ret ?_ | refine U_nil ?_ | refine S_nil ?_ | refine S_auto ?_
      refine S_call wants0 (by simp only [aev_tmp, aev_const, aev_func, aev_global, at_put, at_none, n_put, reduceIte, Nat.reduceEqDiff, Nat.reduceLT, zq, *]; first | done | rfl) (E_Y _) (by simp only [List.map, aev_tmp, aev_const, aev_func, aev_global, at_put, at_none, n_put, reduceIte, Nat.reduceEqDiff, Nat.reduceLT, zq, *]; first | done | rfl) ?_
      refine ht.mono ?_
      rintro r h4 ⟨hk4, hres⟩
      clear ht
      repeat first | refine G_seq ?_ | refine G_reg ?_ | refine N_seq ?_ | refine N_block ?_ | refine G_block ?_ | refine G_skip ?_ | refine G_cT ?_ | refine G_cF ?_ | refine G_ret ?_ | refine U_seq_ret ?_ | refine U_block_ret ?_ | refine U_nil ?_ | refine S_nil ?_ | refine S_auto ?_
      refine FQ_in (by first | exact .inr rfl | exact .inl rfl) (by first | exact ares1 (by simp only [at_put, at_none, n_put, reduceIte, Nat.reduceEqDiff, Nat.reduceLT, zq, *]; first | done | rfl) | exact ares2 (by simp only [at_put, at_none, n_put, reduceIte, Nat.reduceEqDiff, Nat.reduceLT, zq, *]; first | done | rfl) (by simp only [at_put, at_none, n_put, reduceIte, Nat.reduceEqDiff, Nat.reduceLT, zq, *]; first | done | rfl)) ?_
      exact ⟨hk4, hres⟩
end
end Go.Proofs.Yteffhomollmpdaa.AM.SX

/- Robin: a round. -/
namespace Go.Proofs.Yteffhomollmpdaa.AM.SX
open Go
set_option linter.unusedVariables false
set_option linter.unusedSimpArgs false
set_option maxRecDepth 100000
set_option maxHeartbeats 8000000
attribute [local irreducible] astep0 aev awants abin abuild
theorem S_gen {E : Env} {cf : CallF} {ops : Array Oper} {os : List Oper} {a : AAct} {h : AHeap} {Q : AAct → AHeap → Prop} (P : AAct → AHeap → Prop) (hp : P a h) (hh : ∀ a h, P a h → S E cf ops os a h Q) : S E cf ops os a h Q := hh a h hp
def pickI (la : Int) (any : Bool) (lf : List Fl) : Nat := (lf.findIdx? fun x => any && decide (la < x.1)).getD 0
def roundL : Nat → Int → Int → Bool → List Fl → List Fl → Int × Int × Bool × List Fl
  | 0, c, la, any, lf, out => (c, la, any, out)
  | k + 1, c, la, any, lf, out =>
    if lf.length = 0 then (0, la, any, out)
    else if c < min (lf.getD (pickI la any lf) (0, 0)).2 64 then (c, la, any, out)
    else roundL k (c - min (lf.getD (pickI la any lf) (0, 0)).2 64) (lf.getD (pickI la any lf) (0, 0)).1 true
      (if (lf.getD (pickI la any lf) (0, 0)).2 - min (lf.getD (pickI la any lf) (0, 0)).2 64 = 0 then lf.eraseIdx (pickI la any lf) else lf.set (pickI la any lf) ((lf.getD (pickI la any lf) (0, 0)).1, (lf.getD (pickI la any lf) (0, 0)).2 - min (lf.getD (pickI la any lf) (0, 0)).2 64))
      (out ++ [((lf.getD (pickI la any lf) (0, 0)).1, min (lf.getD (pickI la any lf) (0, 0)).2 64)])
theorem idxR_pick {P : Fl → Bool} {l : List Fl} {i : Int} (h : IdxR P l i) : max i 0 = ((l.findIdx? P).getD 0 : Nat) := by
  cases h with
  | none hq =>
    have : l.findIdx? P = none := by
      rw [List.findIdx?_eq_none_iff]
      intro x hx
      obtain ⟨i, hi, rfl⟩ := List.mem_iff_getElem.1 hx
      exact hq i hi
    rw [this]; rfl
  | some i hi he hq =>
    have : l.findIdx? P = some i := by
      rw [List.findIdx?_eq_some_iff_getElem]
      exact ⟨hi, he, fun j hj => by simp [hq j (by omega) hj]⟩
    rw [this]
    show max (i : Int) 0 = (i : Int)
    omega
theorem pickI_lt {la : Int} {any : Bool} {lf : List Fl} (h : 0 < lf.length) : pickI la any lf < lf.length := by
  unfold pickI
  cases hf : lf.findIdx? fun x => any && decide (la < x.1) with
  | none => exact h
  | some i => exact (List.findIdx?_eq_some_iff_getElem.1 hf).1
/-- what is left: its value -/
def LeftAt (base : Nat) (O : List Nat) (h : AHeap) (lf : List Fl) (v : Value) : Prop :=
  (lf = [] ∧ ∃ A c, v = .slice A 0 c) ∨ ∃ bl js, base ≤ bl ∧ bl < h.next ∧ bl ∉ O ∧ v = .slice (some ⟨bl, 0, none⟩) lf.length (CAPX + kF.sz) ∧ h.get bl = some (.cells (kF.fl (lf ++ js)) true)
theorem LeftAt.len {base : Nat} {O : List Nat} {h : AHeap} {lf : List Fl} {v : Value} (hv : LeftAt base O h lf v) : ∃ A c, v = .slice A lf.length c := by
  rcases hv with ⟨rfl, A, c, rfl⟩ | ⟨bl, js, _, _, _, rfl, _⟩
  · exact ⟨A, c, rfl⟩
  · exact ⟨_, _, rfl⟩
def WOk (lf : List Fl) : Prop := ∀ x ∈ lf, 0 < x.2 ∧ x.2 ≤ 1099511627776
section
variable {n : Nat} {h : AHeap}
theorem new_spec (q : Int) : C EE (n + 1) 8 [.int .i64 q] h fun r h' => r = .pointer (some ⟨h.next, 0, none⟩) ∧ h' = h.new h.next (.cells [.int .i64 (min (max q 1) 1048576), .int .i64 0, .int .i64 0, .bool false] true) := by
  refine C_in (E_X _) F_new rfl rfl rfl ?_
  intro a hna hat
  have e0 := hat 0 _ rfl
  replace hna : a.n = 8 := hna
  clear hat
  repeat first | refine G_seq ?_ | refine G_reg ?_ | refine N_seq ?_ | refine N_block ?_ | refine G_block ?_ | refine G_skip ?_ | refine G_cT ?_ | refine G_cF ?_ | refine G_ret ?_ | refine U_seq_ret ?_ | refine U_block_ret ?_ | refine U_nil ?_ | refine S_nil ?_ | refine S_auto ?_
  refine S_step wants0 (o_builtin (by simp only [List.map, aev_tmp, aev_const, aev_func, aev_global, at_put, at_none, n_put, reduceIte, Nat.reduceEqDiff, Nat.reduceLT, zq, *]; first | done | rfl) bi_max) ?_
  refine S_step wants0 (o_builtin (by simp only [List.map, aev_tmp, aev_const, aev_func, aev_global, at_put, at_none, n_put, reduceIte, Nat.reduceEqDiff, Nat.reduceLT, zq, *]; first | done | rfl) bi_min) ?_
  repeat first | refine G_seq ?_ | refine G_reg ?_ | refine N_seq ?_ | refine N_block ?_ | refine G_block ?_ | refine G_skip ?_ | refine G_cT ?_ | refine G_cF ?_ | refine G_ret ?_ | refine U_seq_ret ?_ | refine U_block_ret ?_ | refine U_nil ?_ | refine S_nil ?_ | refine S_auto ?_
  refine FQ_in (by first | exact .inr rfl | exact .inl rfl) (by first | exact ares1 (by simp only [at_put, at_none, n_put, reduceIte, Nat.reduceEqDiff, Nat.reduceLT, zq, *]; first | done | rfl) | exact ares2 (by simp only [at_put, at_none, n_put, reduceIte, Nat.reduceEqDiff, Nat.reduceLT, zq, *]; first | done | rfl) (by simp only [at_put, at_none, n_put, reduceIte, Nat.reduceEqDiff, Nat.reduceLT, zq, *]; first | done | rfl)) ?_
  exact ⟨rfl, rfl⟩
theorem round_spec {p K : Nat} {q c la : Int} {any : Bool} {l : List Fl} {v : Value} {O : List Nat} (hp : h.get p = some (.cells [.int .i64 q, .int .i64 c, .int .i64 la, .bool any] true)) (hpl : p < h.next) (hv : RowAt kF h l v O) (hO : ∀ i ∈ O, i < h.next) (hl : l.length ≤ 20) (hw : WOk (flowsF l)) (hlf : (flowsF l).length ≤ 20) (hq : 1 ≤ q ∧ q ≤ 1048576) (hc : 0 ≤ c ∧ c ≤ 1048576) (hK : c + q < K) (hKn : K + 100 ≤ n) (hKb : K ≤ 4000000) :
    C EE (n + 1) 14 [.pointer (some ⟨p, 0, none⟩), v] h fun r h' => ∃ R O', R = roundL K (if (flowsF l).length = 0 then c else c + q) la any (flowsF l) [] ∧ RowAt kF h' R.2.2.2 r O' ∧ (∀ i ∈ O', h.next ≤ i ∧ i < h'.next) ∧ h'.get p = some (.cells [.int .i64 q, .int .i64 R.1, .int .i64 R.2.1, .bool R.2.2.1] true) ∧ Keep h h' [p] := by
  refine C_in (E_X _) F_round rfl rfl rfl ?_
  intro a hna hat
  have e0 := hat 0 _ rfl
  have e1 := hat 1 _ rfl
  replace hna : a.n = 97 := hna
  clear hat
  obtain ⟨m, rfl⟩ : ∃ m, n = m + 1 := ⟨n - 1, by omega⟩
  obtain ⟨hq1, hq2⟩ := hq
  obtain ⟨hc1, hc2⟩ := hc
  refine G_seq ?_
  refine G_reg ?_
  repeat first | refine S_nil ?_ | refine S_auto ?_
  refine N_seq ?_
  refine G_seq ?_
  refine G_reg ?_
  repeat first | refine S_nil ?_ | refine S_auto ?_
  refine S_call wants0 (by simp only [aev_tmp, aev_const, aev_func, aev_global, at_put, at_none, n_put, reduceIte, Nat.reduceEqDiff, Nat.reduceLT, zq, *]; first | done | rfl) (E_Y _) (by simp only [List.map, aev_tmp, aev_const, aev_func, aev_global, at_put, at_none, n_put, reduceIte, Nat.reduceEqDiff, Nat.reduceLT, zq, *]; first | done | rfl) ?_
  refine (flows_spec (n := m) hv hO hl (by omega)).mono ?_
  rintro r h1 ⟨hk1, hres⟩
  generalize hlfe : flowsF l = lf at *
  have hLeft : LeftAt h.next [] h1 lf r := by
    rcases hres with ⟨h2, h3⟩ | ⟨b, js, h2, h3, h4, h5⟩
    · exact .inl ⟨h2, h3⟩
    · exact .inr ⟨b, js, h2, h3, by simp, h4, h5⟩
  have hp1 := (hk1.2 p hpl (by simp)).trans hp
  clear hres hv hO hp
  obtain ⟨A, cc, hre⟩ := hLeft.len
  repeat first | refine S_nil ?_ | refine S_auto ?_
  refine N_seq ?_
  refine G_seq ?_
  refine G_join (fun a h2 => a.n = 97 ∧ a.at 0 = .pointer (some ⟨p, 0, none⟩) ∧ a.at 5 = r ∧ h2.get p = some (.cells [.int .i64 q, .int .i64 (if lf.length = 0 then c else c + q), .int .i64 la, .bool any] true) ∧ LeftAt h.next [] h2 lf r ∧ Keep h h2 [p]) ?_ ?_
  · subst hre
    by_cases h0 : lf.length = 0
    · have cz : ((0 : Int) < (lf.length : Int)) = False := eq_false (by omega)
      rw [if_pos h0]
      have hk1p : Keep h h1 [p] := hk1.mono fun i hi => by cases hi
      clear h0
      repeat first | refine G_seq ?_ | refine G_reg ?_ | refine N_seq ?_ | refine N_block ?_ | refine G_block ?_ | refine G_skip ?_ | refine G_cT ?_ | refine G_cF ?_ | refine G_ret ?_ | refine U_seq_ret ?_ | refine U_block_ret ?_ | refine U_nil ?_ | refine S_nil ?_ | refine S_auto ?_
      refine S_step wants0 (o_builtin (by simp only [List.map, aev_tmp, aev_const, aev_func, aev_global, at_put, at_none, n_put, reduceIte, Nat.reduceEqDiff, Nat.reduceLT, zq, *]; first | done | rfl) (lenS (TL rfl))) ?_
      repeat first | refine G_seq ?_ | refine G_reg ?_ | refine N_seq ?_ | refine N_block ?_ | refine G_block ?_ | refine G_skip ?_ | refine G_cT ?_ | refine G_cF ?_ | refine G_ret ?_ | refine U_seq_ret ?_ | refine U_block_ret ?_ | refine U_nil ?_ | refine S_nil ?_ | refine S_auto ?_
      refine N_nil ?_
      exact JQ_n ⟨by simp only [at_put, at_none, n_put, reduceIte, Nat.reduceEqDiff, Nat.reduceLT, zq, *]; first | done | rfl, by simp only [at_put, at_none, n_put, reduceIte, Nat.reduceEqDiff, Nat.reduceLT, zq, *]; first | done | rfl, by simp only [at_put, at_none, n_put, reduceIte, Nat.reduceEqDiff, Nat.reduceLT, zq, *]; first | done | rfl, hp1, hLeft, hk1p⟩
    · have cz : ((0 : Int) < (lf.length : Int)) = True := eq_true (by omega)
      rw [if_neg h0]
      repeat first | refine G_seq ?_ | refine G_reg ?_ | refine N_seq ?_ | refine N_block ?_ | refine G_block ?_ | refine G_skip ?_ | refine G_cT ?_ | refine G_cF ?_ | refine G_ret ?_ | refine U_seq_ret ?_ | refine U_block_ret ?_ | refine U_nil ?_ | refine S_nil ?_ | refine S_auto ?_
      refine S_step wants0 (o_builtin (by simp only [List.map, aev_tmp, aev_const, aev_func, aev_global, at_put, at_none, n_put, reduceIte, Nat.reduceEqDiff, Nat.reduceLT, zq, *]; first | done | rfl) (lenS (TL rfl))) ?_
      repeat first | refine G_seq ?_ | refine G_reg ?_ | refine N_seq ?_ | refine N_block ?_ | refine G_block ?_ | refine G_skip ?_ | refine G_cT ?_ | refine G_cF ?_ | refine G_ret ?_ | refine U_seq_ret ?_ | refine U_block_ret ?_ | refine U_nil ?_ | refine S_nil ?_ | refine S_auto ?_
      refine G_draw [] [] (by kernel_rfl) ?_
      repeat first | refine D1_nil0 ?_ | refine D2_nil ?_ | refine D_pure ?_ | refine D_rd ?_ | refine D2_pure' ?_
      refine D1_wr0 wants0 rfl (o_st (by simp only [aev_tmp, aev_const, aev_func, aev_global, at_put, at_none, n_put, reduceIte, Nat.reduceEqDiff, Nat.reduceLT, zq, *]; first | done | rfl) (by simp only [aev_tmp, aev_const, aev_func, aev_global, at_put, at_none, n_put, reduceIte, Nat.reduceEqDiff, Nat.reduceLT, zq, *]; first | done | rfl) (TL rfl) rfl (by simp (disch := omega) only [get_set_self, get_new_self, get_set_ne, get_new_ne, get_bump, next_set, next_new, Nat.lt_irrefl, reduceIte, next_kill, next_bump, *]; first | done | rfl) rfl rfl) .nil ?_
      repeat first | refine D1_nil0 ?_ | refine D2_nil ?_ | refine D_pure ?_ | refine D_rd ?_ | refine D2_pure' ?_
      refine N_nil ?_
      refine JQ_n ⟨by simp only [at_put, at_none, n_put, reduceIte, Nat.reduceEqDiff, Nat.reduceLT, zq, *]; first | done | rfl, by simp only [at_put, at_none, n_put, reduceIte, Nat.reduceEqDiff, Nat.reduceLT, zq, *]; first | done | rfl, by simp only [at_put, at_none, n_put, reduceIte, Nat.reduceEqDiff, Nat.reduceLT, zq, *]; first | done | rfl, by simp (disch := omega) only [get_set_self, get_new_self, get_set_ne, get_new_ne, get_bump, next_set, next_new, Nat.lt_irrefl, reduceIte, next_kill, next_bump, *]; first | done | rfl, ?_, by rw [next_set, next_bump]; have := hk1.1; omega, fun i hi hn => by rw [get_set_ne (by simpa using hn), get_bump, hk1.2 i hi (by simp)]⟩
      rcases hLeft with ⟨h2, h3⟩ | ⟨b, js, h2, h3, h4, h5, h6⟩
      · exact .inl ⟨h2, h3⟩
      · exact .inr ⟨b, js, h2, by rw [next_set, next_bump]; omega, h4, h5, by rw [get_set_ne (by omega)]; exact h6⟩
  · clear hna e0 e1 a hLeft hre hp1 hk1 h1 hlfe
    rintro a h1 ⟨hna, e0, e5, hp1, hLeft, hk1⟩
    have hcb : 0 ≤ (if lf.length = 0 then c else c + q) ∧ (if lf.length = 0 then c else c + q) < K := by split <;> omega
    generalize (if lf.length = 0 then c else c + q) = c0 at *
    clear hc1 hc2 hK c
    repeat first | refine G_seq ?_ | refine G_reg ?_ | refine N_seq ?_ | refine N_block ?_ | refine G_block ?_ | refine G_skip ?_ | refine G_cT ?_ | refine G_cF ?_ | refine G_ret ?_ | refine U_seq_ret ?_ | refine U_block_ret ?_ | refine U_nil ?_ | refine S_nil ?_ | refine S_auto ?_
    generalize hRe : roundL K c0 la any lf [] = R at *
    refine G_loop (fun j a h' => ∃ (c la : Int) (any : Bool) (lf out : List Fl) (lv ov : Value) (Oo : List Nat), a.n = 97 ∧ a.at 0 = .pointer (some ⟨p, 0, none⟩) ∧ a.at 5 = lv ∧ a.at 6 = ov ∧ h'.get p = some (.cells [.int .i64 q, .int .i64 c, .int .i64 la, .bool any] true) ∧ LeftAt h.next Oo h' lf lv ∧ RowAt kF h' out ov Oo ∧ (∀ i ∈ Oo, h.next ≤ i ∧ i < h'.next) ∧ Keep h h' [p] ∧ roundL j c la any lf out = R ∧ 0 ≤ c ∧ c < j ∧ out.length + j ≤ K ∧ WOk lf ∧ lf.length ≤ 20) K (by omega) ⟨c0, la, any, lf, [], r, .slice none 0 0, [], by simp only [at_put, at_none, n_put, reduceIte, Nat.reduceEqDiff, Nat.reduceLT, zq, *]; first | done | rfl, by simp only [at_put, at_none, n_put, reduceIte, Nat.reduceEqDiff, Nat.reduceLT, zq, *]; first | done | rfl, by simp only [at_put, at_none, n_put, reduceIte, Nat.reduceEqDiff, Nat.reduceLT, zq, *]; first | done | rfl, by simp only [at_put, at_none, n_put, reduceIte, Nat.reduceEqDiff, Nat.reduceLT, zq, *]; first | done | rfl, hp1, hLeft, .inl ⟨rfl, rfl, rfl⟩, fun i hi => (by cases hi), hk1, hRe, hcb.1, hcb.2, by simp, hw, hlf⟩ ?_
    clear e0 e5 hna a hLeft hp1 hk1 h1 hRe hcb hw hlf lf r A cc c0 la any
    rintro j a h1 ⟨c, la, any, lf, out, lv, ov, Oo, hna, e0, e5, e6, hp1, hLeft, hout, hOo, hk1, hRe, hc0, hcj, hoj, hw, hlf⟩
    obtain ⟨k, rfl⟩ : ∃ k, j = k + 1 := ⟨j - 1, by omega⟩
    obtain ⟨A, cc, hre⟩ := hLeft.len
    have hp1l : p < h1.next := Nat.lt_of_lt_of_le hpl hk1.1
    by_cases h0 : lf.length = 0
    · have cz : ((0 : Int) < (lf.length : Int)) = False := eq_false (by omega)
      have hR2 : R = (0, la, any, out) := by rw [← hRe]; unfold roundL; rw [if_pos h0]
      subst hre
      clear h0 hRe hLeft
      repeat first | refine G_seq ?_ | refine G_reg ?_ | refine N_seq ?_ | refine N_block ?_ | refine G_block ?_ | refine G_skip ?_ | refine G_cT ?_ | refine G_cF ?_ | refine G_ret ?_ | refine U_seq_ret ?_ | refine U_block_ret ?_ | refine U_nil ?_ | refine S_nil ?_ | refine S_auto ?_
      refine S_step wants0 (o_builtin (by simp only [List.map, aev_tmp, aev_const, aev_func, aev_global, at_put, at_none, n_put, reduceIte, Nat.reduceEqDiff, Nat.reduceLT, zq, *]; first | done | rfl) (lenS (TL rfl))) ?_
      repeat first | refine G_seq ?_ | refine G_reg ?_ | refine N_seq ?_ | refine N_block ?_ | refine G_block ?_ | refine G_skip ?_ | refine G_cT ?_ | refine G_cF ?_ | refine G_ret ?_ | refine U_seq_ret ?_ | refine U_block_ret ?_ | refine U_nil ?_ | refine S_nil ?_ | refine S_auto ?_
      refine G_exit ?_
      repeat first | refine U_seq_exit ?_ | refine U_nil ?_ | refine LQ_exit ?_ | refine U_block_hit ?_
      repeat first | refine G_seq ?_ | refine G_reg ?_ | refine N_seq ?_ | refine N_block ?_ | refine G_block ?_ | refine G_skip ?_ | refine G_cT ?_ | refine G_cF ?_ | refine G_ret ?_ | refine U_seq_ret ?_ | refine U_block_ret ?_ | refine U_nil ?_ | refine S_nil ?_ | refine S_auto ?_
      refine FQ_in (by first | exact .inr rfl | exact .inl rfl) (by first | exact ares1 (by simp only [at_put, at_none, n_put, reduceIte, Nat.reduceEqDiff, Nat.reduceLT, zq, *]; first | done | rfl) | exact ares2 (by simp only [at_put, at_none, n_put, reduceIte, Nat.reduceEqDiff, Nat.reduceLT, zq, *]; first | done | rfl) (by simp only [at_put, at_none, n_put, reduceIte, Nat.reduceEqDiff, Nat.reduceLT, zq, *]; first | done | rfl)) ?_
      refine ⟨R, Oo, rfl, by rw [hR2]; exact hout.keep fun i hi => get_set_ne (by have := hOo i hi; omega), fun i hi => by have := hOo i hi; rw [next_set]; exact this, by rw [hR2]; simp (disch := omega) only [get_set_self, get_new_self, get_set_ne, get_new_ne, get_bump, next_set, next_new, Nat.lt_irrefl, reduceIte, next_kill, next_bump, *]; first | done | rfl, by rw [next_set]; exact hk1.1, fun i hi hn => by rw [get_set_ne (by simpa using hn), hk1.2 i hi hn]⟩
    · have cz : ((0 : Int) < (lf.length : Int)) = True := eq_true (by omega)
      obtain ⟨bl, js, hb0, hb1, hbO, rfl, hbl⟩ : ∃ bl js, h.next ≤ bl ∧ bl < h1.next ∧ bl ∉ Oo ∧ lv = .slice (some ⟨bl, 0, none⟩) lf.length (CAPX + kF.sz) ∧ h1.get bl = some (.cells (kF.fl (lf ++ js)) true) := by
        rcases hLeft with ⟨h2, _⟩ | h2
        · exact absurd (by rw [h2]; rfl) h0
        · exact h2
      clear hLeft hre
      have hx := next_spec (n := m - 1) hp1 hp1l (l := lf) (v := .slice (some ⟨bl, 0, none⟩) lf.length (CAPX + kF.sz)) (O := [bl]) (.inr (.inr ⟨bl, js, rfl, hbl, rfl⟩)) (fun i hi => by rw [List.mem_singleton.1 hi]; exact hb1) (by omega) (by omega)
      repeat first | refine G_seq ?_ | refine G_reg ?_ | refine N_seq ?_ | refine N_block ?_ | refine G_block ?_ | refine G_skip ?_ | refine G_cT ?_ | refine G_cF ?_ | refine G_ret ?_ | refine U_seq_ret ?_ | refine U_block_ret ?_ | refine U_nil ?_ | refine S_nil ?_ | refine S_auto ?_
      refine S_step wants0 (o_builtin (by simp only [List.map, aev_tmp, aev_const, aev_func, aev_global, at_put, at_none, n_put, reduceIte, Nat.reduceEqDiff, Nat.reduceLT, zq, *]; first | done | rfl) (lenS (TL rfl))) ?_
      repeat first | refine G_seq ?_ | refine G_reg ?_ | refine N_seq ?_ | refine N_block ?_ | refine G_block ?_ | refine G_skip ?_ | refine G_cT ?_ | refine G_cF ?_ | refine G_ret ?_ | refine U_seq_ret ?_ | refine U_block_ret ?_ | refine U_nil ?_ | refine S_nil ?_ | refine S_auto ?_
      refine S_call wants0 (by simp only [aev_tmp, aev_const, aev_func, aev_global, at_put, at_none, n_put, reduceIte, Nat.reduceEqDiff, Nat.reduceLT, zq, *]; first | done | rfl) (E_Y _) (by simp only [List.map, aev_tmp, aev_const, aev_func, aev_global, at_put, at_none, n_put, reduceIte, Nat.reduceEqDiff, Nat.reduceLT, zq, *]; first | done | rfl) ?_
      refine C_le (show m - 1 + 2 = m + 1 by omega) ?_
      refine hx.mono ?_
      rintro r h2 ⟨ii, rfl, hidx, hk2⟩
      clear hx
      have hpi : max ii 0 = ((pickI la any lf : Nat) : Int) := idxR_pick hidx
      have hil := pickI_lt (la := la) (any := any) (lf := lf) (by omega)
      rw [hpi]
      clear hidx hpi
      obtain ⟨xc, xw, hxe⟩ : ∃ xc xw, lf[pickI la any lf] = (xc, xw) := ⟨_, _, rfl⟩
      have hgd : lf.getD (pickI la any lf) (0, 0) = (xc, xw) := by rw [getD_at hil, hxe]
      have hRs : R = if c < min xw 64 then (c, la, any, out) else roundL k (c - min xw 64) xc true (if xw - min xw 64 = 0 then lf.eraseIdx (pickI la any lf) else lf.set (pickI la any lf) (xc, xw - min xw 64)) (out ++ [(xc, min xw 64)]) := by
        rw [← hRe]
        show (if lf.length = 0 then _ else _) = _
        rw [if_neg h0]
        simp only [hgd]
      clear hRe hgd
      generalize pickI la any lf = i at *
      have hw1 := hw (xc, xw) (by rw [← hxe]; exact List.getElem_mem _)
      replace hw1 : 0 < xw ∧ xw ≤ 1099511627776 := hw1
      obtain ⟨hw0, hwb⟩ := hw1
      have hg1 : 1 ≤ min xw 64 ∧ min xw 64 ≤ 64 ∧ min xw 64 ≤ xw := by omega
      have hij : i < (lf ++ js).length := by rw [List.length_append]; omega
      have hxj : (lf ++ js)[i] = (xc, xw) := by rw [List.getElem_append_left hil]; exact hxe
      have i1 : aindexAddr EE.T 29 (.slice (some ⟨bl, 0, none⟩) lf.length (CAPX + kF.sz)) (.int .i64 (i : Int)) = some (.pointer (some ⟨bl, i * kF.sz, none⟩)) := ix_row0 (TL rfl) (TL rfl) ⟨rfl, rfl, by decide⟩ hil
      have w0 : (kF.fl (lf ++ js))[i * kF.sz + 0]? = some (.int .i64 xc) := by rw [kF.fl_get hij (show 0 < kF.sz by decide), hxj]; rfl
      have w1 : (kF.fl (lf ++ js))[i * kF.sz + 1]? = some (.int .i64 xw) := by rw [kF.fl_get hij (show 1 < kF.sz by decide), hxj]; rfl
      have hput := put_fld (K := kF) (l := lf ++ js) (i := i) (j := 1) (x := (xc, xw - min xw 64)) (v := .int .i64 (xw - min xw 64)) hij (by decide) (by rw [hxj]; rfl)
      have w2 : (kF.fl ((lf ++ js).set i (xc, xw - min xw 64)))[i * kF.sz + 1]? = some (.int .i64 (xw - min xw 64)) := by rw [kF.fl_get (by rw [List.length_set]; exact hij) (show 1 < kF.sz by decide), List.getElem_set_self]; rfl
      have hset : (lf ++ js).set i (xc, xw - min xw 64) = lf.set i (xc, xw - min xw 64) ++ js := List.set_append_left _ _ hil
      have hwm : ∀ y, 0 < y → y ≤ xw → WOk (lf.set i (xc, y)) := fun y h1 h2 z hz => by
        rcases List.mem_or_eq_of_mem_set hz with h3 | h3
        · exact hw z h3
        · rw [h3]; exact ⟨h1, by show y ≤ _; omega⟩
      have hwe : WOk (lf.eraseIdx i) := fun z hz => hw z (List.mem_of_mem_eraseIdx hz)
      generalize hge : min xw 64 = g at *
      obtain ⟨hg1, hg2, hg3⟩ := hg1
      have hp2 := (hk2.2 p hp1l (by simp)).trans hp1
      have hbl2 := (hk2.2 bl hb1 (by simp)).trans hbl
      have hout2 : RowAt kF h2 out ov Oo := hout.keep fun q hq => hk2.2 q (hOo q hq).2 (by simp)
      have hOo2 : ∀ q ∈ Oo, h.next ≤ q ∧ q < h2.next := fun q hq => ⟨(hOo q hq).1, Nat.lt_of_lt_of_le (hOo q hq).2 hk2.1⟩
      have hkk2 : Keep h h2 [p] := hk1.trans hk2 fun i hi => (by cases hi)
      have hp2l : p < h2.next := Nat.lt_of_lt_of_le hp1l hk2.1
      have hb2 : bl < h2.next := Nat.lt_of_lt_of_le hb1 hk2.1
      clear hk2 hp1 hbl hout hOo hk1 hxe hxj hij h0 hw hp1l hb1
      repeat first | refine G_seq ?_ | refine G_reg ?_ | refine N_seq ?_ | refine N_block ?_ | refine G_block ?_ | refine G_skip ?_ | refine G_cT ?_ | refine G_cF ?_ | refine G_ret ?_ | refine U_seq_ret ?_ | refine U_block_ret ?_ | refine U_nil ?_ | refine S_nil ?_ | refine S_auto ?_
      refine S_step wants0 (o_indexAddr (by simp only [aev_tmp, aev_const, aev_func, aev_global, at_put, at_none, n_put, reduceIte, Nat.reduceEqDiff, Nat.reduceLT, zq, *]; first | done | rfl) (by simp only [aev_tmp, aev_const, aev_func, aev_global, at_put, at_none, n_put, reduceIte, Nat.reduceEqDiff, Nat.reduceLT, zq, *]; first | done | rfl) i1) ?_
      repeat first | refine G_seq ?_ | refine G_reg ?_ | refine N_seq ?_ | refine N_block ?_ | refine G_block ?_ | refine G_skip ?_ | refine G_cT ?_ | refine G_cF ?_ | refine G_ret ?_ | refine U_seq_ret ?_ | refine U_block_ret ?_ | refine U_nil ?_ | refine S_nil ?_ | refine S_auto ?_
      refine S_step wants0 (o_ld (by simp only [aev_tmp, aev_const, aev_func, aev_global, at_put, at_none, n_put, reduceIte, Nat.reduceEqDiff, Nat.reduceLT, zq, *]; first | done | rfl) (TL rfl) rfl (rd_cells (by simp (disch := omega) only [get_set_self, get_new_self, get_set_ne, get_new_ne, get_bump, next_set, next_new, Nat.lt_irrefl, reduceIte, next_kill, next_bump, *]; first | done | rfl)) w1) ?_
      refine S_step wants0 (o_builtin (by simp only [List.map, aev_tmp, aev_const, aev_func, aev_global, at_put, at_none, n_put, reduceIte, Nat.reduceEqDiff, Nat.reduceLT, zq, *]; first | done | rfl) bi_min) ?_
      rw [hge]
      by_cases hcg : c < g
      · have hR2 : R = (c, la, any, out) := by rw [hRs, if_pos hcg]
        clear hRs w0 w1 w2 hput i1 hset hwm hwe hge
        repeat first | refine G_seq ?_ | refine G_reg ?_ | refine N_seq ?_ | refine N_block ?_ | refine G_block ?_ | refine G_skip ?_ | refine G_cT ?_ | refine G_cF ?_ | refine G_ret ?_ | refine U_seq_ret ?_ | refine U_block_ret ?_ | refine U_nil ?_ | refine S_nil ?_ | refine S_auto ?_
        refine LQ_ret ?_
        repeat first | refine G_seq ?_ | refine G_reg ?_ | refine N_seq ?_ | refine N_block ?_ | refine G_block ?_ | refine G_skip ?_ | refine G_cT ?_ | refine G_cF ?_ | refine G_ret ?_ | refine U_seq_ret ?_ | refine U_block_ret ?_ | refine U_nil ?_ | refine S_nil ?_ | refine S_auto ?_
        refine FQ_in (by first | exact .inr rfl | exact .inl rfl) (by first | exact ares1 (by simp only [at_put, at_none, n_put, reduceIte, Nat.reduceEqDiff, Nat.reduceLT, zq, *]; first | done | rfl) | exact ares2 (by simp only [at_put, at_none, n_put, reduceIte, Nat.reduceEqDiff, Nat.reduceLT, zq, *]; first | done | rfl) (by simp only [at_put, at_none, n_put, reduceIte, Nat.reduceEqDiff, Nat.reduceLT, zq, *]; first | done | rfl)) ?_
        exact ⟨R, Oo, rfl, by rw [hR2]; exact hout2, hOo2, by rw [hR2]; exact hp2, hkk2⟩
      · rw [if_neg hcg] at hRs
        obtain ⟨v3, h3, O3, q1, q2, q3, q4, q5⟩ := app_rowX (K := kF) (T := EE.T) (h := h2.new h2.next (.cells (kF.enc (xc, g)) true)) (st := 36) (xt := 36) (news := [((xc, g) : Fl)]) (x := .slice (some ⟨h2.next, 0, none⟩) 1 1) (TL rfl) (TL rfl) ⟨rfl, rfl, by decide⟩ (TL rfl) (hout2.keep fun q hq => by have := hOo2 q hq; simp (disch := omega) only [get_set_self, get_new_self, get_set_ne, get_new_ne, get_bump, next_set, next_new, Nat.lt_irrefl, reduceIte, next_kill, next_bump, *]; first | done | rfl) (by simp) (src_row1 (K := kF) (by simp (disch := omega) only [get_set_self, get_new_self, get_set_ne, get_new_ne, get_bump, next_set, next_new, Nat.lt_irrefl, reduceIte, next_kill, next_bump, *]; first | done | rfl)) (by simp; omega) (fun q hq => by have := hOo2 q hq; simp only [next_bump, next_set, next_new, Nat.lt_irrefl, reduceIte]; omega)
        have hK : Keep h2 h3 Oo := ⟨by have := q3.1; simp only [next_new, Nat.lt_irrefl, reduceIte] at this; omega, fun q hq hn => by rw [q3.2 q (by simp only [next_bump, next_set, next_new, Nat.lt_irrefl, reduceIte]; omega) hn]; simp (disch := omega) only [get_set_self, get_new_self, get_set_ne, get_new_ne, get_bump, next_set, next_new, Nat.lt_irrefl, reduceIte, next_kill, next_bump, *]; first | done | rfl⟩
        have hp3 := (hK.2 p hp2l (fun hm => by have := hOo2 p hm; omega)).trans hp2
        have hbl3 := (hK.2 bl hb2 hbO).trans hbl2
        have hp3l : p < h3.next := Nat.lt_of_lt_of_le hp2l hK.1
        have hb3 : bl < h3.next := Nat.lt_of_lt_of_le hb2 hK.1
        have hO3 : ∀ q ∈ O3, h.next ≤ q ∧ q < h3.next ∧ q ≠ bl := fun q hq => by
          rcases q4 with rfl | rfl
          · exact ⟨(hOo2 q hq).1, q5 q hq, fun e => hbO (e ▸ hq)⟩
          · have h9 := q5 q hq
            simp only [List.mem_singleton, next_new, Nat.lt_irrefl, reduceIte] at hq
            exact ⟨by omega, h9, by omega⟩
        have hkk3 : Keep h h3 [p] := hkk2.trans hK fun q hq => .inr (hOo2 q hq).1
        have hout3 : RowAt kF h3 (out ++ [(xc, g)]) v3 O3 := .inr (.inr q2)
        have hbp : bl ≠ p := by omega
        clear q2 q3 q4 q5 hK hkk2 hOo2 hout2
        repeat first | refine G_seq ?_ | refine G_reg ?_ | refine N_seq ?_ | refine N_block ?_ | refine G_block ?_ | refine G_skip ?_ | refine G_cT ?_ | refine G_cF ?_ | refine G_ret ?_ | refine U_seq_ret ?_ | refine U_block_ret ?_ | refine U_nil ?_ | refine S_nil ?_ | refine S_auto ?_
        refine S_step wants0 (o_indexAddr (by simp only [aev_tmp, aev_const, aev_func, aev_global, at_put, at_none, n_put, reduceIte, Nat.reduceEqDiff, Nat.reduceLT, zq, *]; first | done | rfl) (by simp only [aev_tmp, aev_const, aev_func, aev_global, at_put, at_none, n_put, reduceIte, Nat.reduceEqDiff, Nat.reduceLT, zq, *]; first | done | rfl) i1) ?_
        repeat first | refine G_seq ?_ | refine G_reg ?_ | refine N_seq ?_ | refine N_block ?_ | refine G_block ?_ | refine G_skip ?_ | refine G_cT ?_ | refine G_cF ?_ | refine G_ret ?_ | refine U_seq_ret ?_ | refine U_block_ret ?_ | refine U_nil ?_ | refine S_nil ?_ | refine S_auto ?_
        refine S_step wants0 (o_ld (by simp only [aev_tmp, aev_const, aev_func, aev_global, at_put, at_none, n_put, reduceIte, Nat.reduceEqDiff, Nat.reduceLT, zq, *]; first | done | rfl) (TL rfl) rfl (rd_cells (by simp (disch := omega) only [get_set_self, get_new_self, get_set_ne, get_new_ne, get_bump, next_set, next_new, Nat.lt_irrefl, reduceIte, next_kill, next_bump, *]; first | done | rfl)) w0) ?_
        repeat first | refine G_seq ?_ | refine G_reg ?_ | refine N_seq ?_ | refine N_block ?_ | refine G_block ?_ | refine G_skip ?_ | refine G_cT ?_ | refine G_cF ?_ | refine G_ret ?_ | refine U_seq_ret ?_ | refine U_block_ret ?_ | refine U_nil ?_ | refine S_nil ?_ | refine S_auto ?_
        refine S_step wants0 (o_buildSlice (by simp only [List.map, aev_tmp, aev_const, aev_func, aev_global, at_put, at_none, n_put, reduceIte, Nat.reduceEqDiff, Nat.reduceLT, zq, *]; first | done | rfl) (bs_row1 (K := kF) (x := ((xc, g) : Fl)) (TL rfl) (TL rfl) ⟨rfl, rfl, by decide⟩ (by decide) rfl)) ?_
        refine S_step wants0 (o_builtin (by simp only [List.map, aev_tmp, aev_const, aev_func, aev_global, at_put, at_none, n_put, reduceIte, Nat.reduceEqDiff, Nat.reduceLT, zq, *]; first | done | rfl) (bi_app q1)) ?_
        clear q1 hp2 hbl2
        repeat first | refine G_seq ?_ | refine G_reg ?_ | refine N_seq ?_ | refine N_block ?_ | refine G_block ?_ | refine G_skip ?_ | refine G_cT ?_ | refine G_cF ?_ | refine G_ret ?_ | refine U_seq_ret ?_ | refine U_block_ret ?_ | refine U_nil ?_ | refine S_nil ?_ | refine S_auto ?_
        refine S_step wants0 (o_indexAddr (by simp only [aev_tmp, aev_const, aev_func, aev_global, at_put, at_none, n_put, reduceIte, Nat.reduceEqDiff, Nat.reduceLT, zq, *]; first | done | rfl) (by simp only [aev_tmp, aev_const, aev_func, aev_global, at_put, at_none, n_put, reduceIte, Nat.reduceEqDiff, Nat.reduceLT, zq, *]; first | done | rfl) i1) ?_
        repeat first | refine G_seq ?_ | refine G_reg ?_ | refine N_seq ?_ | refine N_block ?_ | refine G_block ?_ | refine G_skip ?_ | refine G_cT ?_ | refine G_cF ?_ | refine G_ret ?_ | refine U_seq_ret ?_ | refine U_block_ret ?_ | refine U_nil ?_ | refine S_nil ?_ | refine S_auto ?_
        refine S_step wants0 (o_ld (by simp only [aev_tmp, aev_const, aev_func, aev_global, at_put, at_none, n_put, reduceIte, Nat.reduceEqDiff, Nat.reduceLT, zq, *]; first | done | rfl) (TL rfl) rfl (rd_cells (by simp (disch := omega) only [get_set_self, get_new_self, get_set_ne, get_new_ne, get_bump, next_set, next_new, Nat.lt_irrefl, reduceIte, next_kill, next_bump, *]; first | done | rfl)) w0) ?_
        repeat first | refine G_seq ?_ | refine G_reg ?_ | refine N_seq ?_ | refine N_block ?_ | refine G_block ?_ | refine G_skip ?_ | refine G_cT ?_ | refine G_cF ?_ | refine G_ret ?_ | refine U_seq_ret ?_ | refine U_block_ret ?_ | refine U_nil ?_ | refine S_nil ?_ | refine S_auto ?_
        refine S_step wants0 (o_indexAddr (by simp only [aev_tmp, aev_const, aev_func, aev_global, at_put, at_none, n_put, reduceIte, Nat.reduceEqDiff, Nat.reduceLT, zq, *]; first | done | rfl) (by simp only [aev_tmp, aev_const, aev_func, aev_global, at_put, at_none, n_put, reduceIte, Nat.reduceEqDiff, Nat.reduceLT, zq, *]; first | done | rfl) i1) ?_
        repeat first | refine G_seq ?_ | refine G_reg ?_ | refine N_seq ?_ | refine N_block ?_ | refine G_block ?_ | refine G_skip ?_ | refine G_cT ?_ | refine G_cF ?_ | refine G_ret ?_ | refine U_seq_ret ?_ | refine U_block_ret ?_ | refine U_nil ?_ | refine S_nil ?_ | refine S_auto ?_
        refine S_step wants0 (o_ld (by simp only [aev_tmp, aev_const, aev_func, aev_global, at_put, at_none, n_put, reduceIte, Nat.reduceEqDiff, Nat.reduceLT, zq, *]; first | done | rfl) (TL rfl) rfl (rd_cells (by simp (disch := omega) only [get_set_self, get_new_self, get_set_ne, get_new_ne, get_bump, next_set, next_new, Nat.lt_irrefl, reduceIte, next_kill, next_bump, *]; first | done | rfl)) w1) ?_
        repeat first | refine G_seq ?_ | refine G_reg ?_ | refine N_seq ?_ | refine N_block ?_ | refine G_block ?_ | refine G_skip ?_ | refine G_cT ?_ | refine G_cF ?_ | refine G_ret ?_ | refine U_seq_ret ?_ | refine U_block_ret ?_ | refine U_nil ?_ | refine S_nil ?_ | refine S_auto ?_
        refine S_step wants0 (o_indexAddr (by simp only [aev_tmp, aev_const, aev_func, aev_global, at_put, at_none, n_put, reduceIte, Nat.reduceEqDiff, Nat.reduceLT, zq, *]; first | done | rfl) (by simp only [aev_tmp, aev_const, aev_func, aev_global, at_put, at_none, n_put, reduceIte, Nat.reduceEqDiff, Nat.reduceLT, zq, *]; first | done | rfl) i1) ?_
        refine S_auto ?_
        refine S_step wants0 (o_st1 (by simp only [aev_tmp, aev_const, aev_func, aev_global, at_put, at_none, n_put, reduceIte, Nat.reduceEqDiff, Nat.reduceLT, zq, *]; first | done | rfl) (by simp only [aev_tmp, aev_const, aev_func, aev_global, at_put, at_none, n_put, reduceIte, Nat.reduceEqDiff, Nat.reduceLT, zq, *]; first | done | rfl) (TL rfl) rfl ⟨rfl, rfl⟩ (by simp (disch := omega) only [get_set_self, get_new_self, get_set_ne, get_new_ne, get_bump, next_set, next_new, Nat.lt_irrefl, reduceIte, next_kill, next_bump, *]; first | done | rfl) hput) ?_
        repeat first | refine G_seq ?_ | refine G_reg ?_ | refine N_seq ?_ | refine N_block ?_ | refine G_block ?_ | refine G_skip ?_ | refine G_cT ?_ | refine G_cF ?_ | refine G_ret ?_ | refine U_seq_ret ?_ | refine U_block_ret ?_ | refine U_nil ?_ | refine S_nil ?_ | refine S_auto ?_
        refine S_step wants0 (o_indexAddr (by simp only [aev_tmp, aev_const, aev_func, aev_global, at_put, at_none, n_put, reduceIte, Nat.reduceEqDiff, Nat.reduceLT, zq, *]; first | done | rfl) (by simp only [aev_tmp, aev_const, aev_func, aev_global, at_put, at_none, n_put, reduceIte, Nat.reduceEqDiff, Nat.reduceLT, zq, *]; first | done | rfl) i1) ?_
        repeat first | refine G_seq ?_ | refine G_reg ?_ | refine N_seq ?_ | refine N_block ?_ | refine G_block ?_ | refine G_skip ?_ | refine G_cT ?_ | refine G_cF ?_ | refine G_ret ?_ | refine U_seq_ret ?_ | refine U_block_ret ?_ | refine U_nil ?_ | refine S_nil ?_ | refine S_auto ?_
        refine S_step wants0 (o_ld (by simp only [aev_tmp, aev_const, aev_func, aev_global, at_put, at_none, n_put, reduceIte, Nat.reduceEqDiff, Nat.reduceLT, zq, *]; first | done | rfl) (TL rfl) rfl (rd_cells (by simp (disch := omega) only [get_set_self, get_new_self, get_set_ne, get_new_ne, get_bump, next_set, next_new, Nat.lt_irrefl, reduceIte, next_kill, next_bump, *]; first | done | rfl)) w2) ?_
        have hcl : out.length + 1 + k ≤ K := by omega
        refine S_gen (fun a h4 => a.n = 97 ∧ a.at 0 = .pointer (some ⟨p, 0, none⟩) ∧ a.at 5 = .slice (some ⟨bl, 0, none⟩) lf.length (CAPX + kF.sz) ∧ a.at 6 = v3 ∧ a.at 7 = .int .i64 (i : Int) ∧ a.at 86 = .int .i64 (xw - g) ∧ h4.get p = some (.cells [.int .i64 q, .int .i64 (c - g), .int .i64 xc, .bool true] true) ∧ h4.get bl = some (.cells (kF.fl (lf.set i (xc, xw - g) ++ js)) true) ∧ h4.next = h3.next ∧ ∀ q, q ≠ p → q ≠ bl → h4.get q = h3.get q) ⟨by simp only [at_put, at_none, n_put, reduceIte, Nat.reduceEqDiff, Nat.reduceLT, zq, *]; first | done | rfl, by simp only [at_put, at_none, n_put, reduceIte, Nat.reduceEqDiff, Nat.reduceLT, zq, *]; first | done | rfl, by simp only [at_put, at_none, n_put, reduceIte, Nat.reduceEqDiff, Nat.reduceLT, zq, *]; first | done | rfl, by simp only [at_put, at_none, n_put, reduceIte, Nat.reduceEqDiff, Nat.reduceLT, zq, *]; first | done | rfl, by simp only [at_put, at_none, n_put, reduceIte, Nat.reduceEqDiff, Nat.reduceLT, zq, *]; first | done | rfl, by simp only [at_put, at_none, n_put, reduceIte, Nat.reduceEqDiff, Nat.reduceLT, zq, *]; first | done | rfl, by simp (disch := omega) only [get_set_self, get_new_self, get_set_ne, get_new_ne, get_bump, next_set, next_new, Nat.lt_irrefl, reduceIte, next_kill, next_bump, *]; first | done | rfl, by rw [← hset]; simp (disch := omega) only [get_set_self, get_new_self, get_set_ne, get_new_ne, get_bump, next_set, next_new, Nat.lt_irrefl, reduceIte, next_kill, next_bump, *]; first | done | rfl, rfl, fun q h8 h9 => by simp (disch := omega) only [get_set_self, get_new_self, get_set_ne, get_new_ne, get_bump, next_set, next_new, Nat.lt_irrefl, reduceIte, next_kill, next_bump, *]; first | done | rfl⟩ ?_
        clear hna e0 e5 e6 a hp3 hbl3 w0 w1 w2 hput hset
        rintro a h4 ⟨hna, e0, e5, e6, e7, e86, hp4, hbl4, hnx4, hoth4⟩
        have hkk4 : Keep h h4 [p] := ⟨by rw [hnx4]; exact hkk3.1, fun q hq hn => by
          have hqp : q ≠ p := by simpa using hn
          rw [hoth4 q hqp (by omega), hkk3.2 q hq hn]⟩
        have hout4 : RowAt kF h4 (out ++ [(xc, g)]) v3 O3 := hout3.keep fun q hq => hoth4 q (by have := hO3 q hq; omega) (hO3 q hq).2.2
        have hb4 : bl < h4.next := by rw [hnx4]; exact hb3
        have hO4 : ∀ q ∈ O3, h.next ≤ q ∧ q < h4.next ∧ q ≠ bl := fun q hq => by rw [hnx4]; exact hO3 q hq
        have hbO3 : bl ∉ O3 := fun hm => (hO3 bl hm).2.2 rfl
        clear hkk3 hout3 hoth4 hO3 hp3l hb3
        by_cases hz : xw - g = 0
        · have c3 : (xw - g = 0) = True := eq_true hz
          rw [if_pos hz] at hRs
          clear hz
          have hdel := delete_spec (n := m) (i := i) hbl4 hb4 (by rw [List.length_set]; exact hil) (by rw [List.length_set]; omega)
          rw [List.length_set] at hdel
          have hes : (lf.set i (xc, xw - g)).eraseIdx i = lf.eraseIdx i := by rw [List.eraseIdx_eq_take_drop_succ, List.eraseIdx_eq_take_drop_succ, List.take_set_of_le (Nat.le_refl _), List.drop_set_of_lt (Nat.lt_succ_self _)]
          rw [hes] at hdel
          repeat first | refine G_seq ?_ | refine G_reg ?_ | refine N_seq ?_ | refine N_block ?_ | refine G_block ?_ | refine G_skip ?_ | refine G_cT ?_ | refine G_cF ?_ | refine G_ret ?_ | refine U_seq_ret ?_ | refine U_block_ret ?_ | refine U_nil ?_ | refine S_nil ?_ | refine S_auto ?_
          refine S_call wants0 (by simp only [aev_tmp, aev_const, aev_func, aev_global, at_put, at_none, n_put, reduceIte, Nat.reduceEqDiff, Nat.reduceLT, zq, *]; first | done | rfl) (E_Y _) (by simp only [List.map, aev_tmp, aev_const, aev_func, aev_global, at_put, at_none, n_put, reduceIte, Nat.reduceEqDiff, Nat.reduceLT, zq, *]; first | done | rfl) ?_
          refine hdel.mono ?_
          rintro r h5 ⟨js5, rfl, hb5, hk5⟩
          have hp5 := (hk5.2 p (by have := hkk4.1; omega) (fun hm => hbp (List.mem_singleton.1 hm).symm)).trans hp4
          have hout5 : RowAt kF h5 (out ++ [(xc, g)]) v3 O3 := hout4.keep fun q hq => hk5.2 q (hO4 q hq).2.1 (fun hm => (hO4 q hq).2.2 (List.mem_singleton.1 hm))
          have hO5 : ∀ q ∈ O3, h.next ≤ q ∧ q < h5.next := fun q hq => ⟨(hO4 q hq).1, Nat.lt_of_lt_of_le (hO4 q hq).2.1 hk5.1⟩
          have hb5l : bl < h5.next := Nat.lt_of_lt_of_le hb4 hk5.1
          have hkk5 : Keep h h5 [p] := hkk4.trans hk5 fun q hq => .inr (by rw [List.mem_singleton.1 hq]; exact hb0)
          have hle := Nat.le_trans (List.length_eraseIdx_le lf i) hlf
          clear hdel hk5 hp4 hbl4 hkk4 hout4 hO4 c3
          repeat first | refine G_seq ?_ | refine G_reg ?_ | refine N_seq ?_ | refine N_block ?_ | refine G_block ?_ | refine G_skip ?_ | refine G_cT ?_ | refine G_cF ?_ | refine G_ret ?_ | refine U_seq_ret ?_ | refine U_block_ret ?_ | refine U_nil ?_ | refine S_nil ?_ | refine S_auto ?_
          refine N_nil ?_
          exact LQ_n k (by omega) ⟨c - g, xc, true, lf.eraseIdx i, out ++ [(xc, g)], _, v3, O3, by simp only [at_put, at_none, n_put, reduceIte, Nat.reduceEqDiff, Nat.reduceLT, zq, *]; first | done | rfl, by simp only [at_put, at_none, n_put, reduceIte, Nat.reduceEqDiff, Nat.reduceLT, zq, *]; first | done | rfl, by simp only [at_put, at_none, n_put, reduceIte, Nat.reduceEqDiff, Nat.reduceLT, zq, *]; first | done | rfl, by simp only [at_put, at_none, n_put, reduceIte, Nat.reduceEqDiff, Nat.reduceLT, zq, *]; first | done | rfl, hp5, .inr ⟨bl, js5, hb0, hb5l, hbO3, rfl, hb5⟩, hout5, hO5, hkk5, hRs.symm, by omega, by omega, by rw [List.length_append]; exact hcl, hwe, hle⟩
        · have c3 : (xw - g = 0) = False := eq_false hz
          rw [if_neg hz] at hRs
          have hws := hwm (xw - g) (by omega) (by omega)
          have hle : (lf.set i (xc, xw - g)).length ≤ 20 := by rw [List.length_set]; exact hlf
          have hO5 : ∀ q ∈ O3, h.next ≤ q ∧ q < h4.next := fun q hq => ⟨(hO4 q hq).1, (hO4 q hq).2.1⟩
          have hlv : Value.slice (some ⟨bl, 0, none⟩) lf.length (CAPX + kF.sz) = .slice (some ⟨bl, 0, none⟩) (lf.set i (xc, xw - g)).length (CAPX + kF.sz) := by rw [List.length_set]
          clear hz
          repeat first | refine G_seq ?_ | refine G_reg ?_ | refine N_seq ?_ | refine N_block ?_ | refine G_block ?_ | refine G_skip ?_ | refine G_cT ?_ | refine G_cF ?_ | refine G_ret ?_ | refine U_seq_ret ?_ | refine U_block_ret ?_ | refine U_nil ?_ | refine S_nil ?_ | refine S_auto ?_
          refine N_nil ?_
          exact LQ_n k (by omega) ⟨c - g, xc, true, lf.set i (xc, xw - g), out ++ [(xc, g)], .slice (some ⟨bl, 0, none⟩) lf.length (CAPX + kF.sz), v3, O3, by simp only [at_put, at_none, n_put, reduceIte, Nat.reduceEqDiff, Nat.reduceLT, zq, *]; first | done | rfl, by simp only [at_put, at_none, n_put, reduceIte, Nat.reduceEqDiff, Nat.reduceLT, zq, *]; first | done | rfl, by simp only [at_put, at_none, n_put, reduceIte, Nat.reduceEqDiff, Nat.reduceLT, zq, *]; first | done | rfl, by simp only [at_put, at_none, n_put, reduceIte, Nat.reduceEqDiff, Nat.reduceLT, zq, *]; first | done | rfl, hp4, .inr ⟨bl, js, hb0, hb4, hbO3, hlv, hbl4⟩, hout4, hO5, hkk4, hRs.symm, by omega, by omega, by rw [List.length_append]; exact hcl, hws, hle⟩
end
end Go.Proofs.Yteffhomollmpdaa.AM.SX

/- A law over a number and a row of flows: from the machine's run to the program's. -/
namespace Go.Proofs.Yteffhomollmpdaa.X
open Go Go.RowKit Go.Proofs.YteffhomollmpdaaW.PrintWords Go.Proofs.YteffhomollmpdaaW.PrintMore
set_option linter.unusedVariables false
end Go.Proofs.Yteffhomollmpdaa.X
namespace Go.Proofs.Yteffhomollmpdaa.AM.SX
open Go Go.RowKit Go.Proofs Go.Proofs.Yteffhomollmpdaa.X Go.Proofs.YteffhomollmpdaaW.PrintWords
set_option linter.unusedVariables false
set_option linter.unusedSimpArgs false
set_option maxRecDepth 100000
/-- a law's row of flows as the machine has it -/
def FlowsAt (h : AHeap) (l : List Fl) (sv : Value) (ids : List Nat) : Prop :=
  (l = [] ∧ sv = .chan (some 0) ∧ ids = []) ∨ ∃ b, sv = .slice (some ⟨b, 0, none⟩) l.length (CAPX + 1) ∧ h.get b = some (.ro (kF.fl l)) ∧ ids = [b]
theorem FlowsAt.keep {h h' : AHeap} {l : List Fl} {sv : Value} {ids : List Nat} (hs : FlowsAt h l sv ids) (hk : ∀ i ∈ ids, h'.get i = h.get i) : FlowsAt h' l sv ids := by
  rcases hs with hs | ⟨b, h1, h2, rfl⟩
  · exact .inl hs
  · exact .inr ⟨b, h1, by rw [hk b (.head _)]; exact h2, rfl⟩
@[reducible] def tokL (v : Value) (hv : v.oneCell' = true ∧ ∀ b, v ≠ .bool b) (low : Nat → Option Obj) : Tok where
  val := fun _ => v
  one := fun _ => hv.1
  nb := fun _ b => hv.2 b
  low := low
theorem slice_one {A : Option Addr} {n c : Nat} : (Value.slice A n c).oneCell' = true ∧ ∀ b, Value.slice A n c ≠ .bool b := ⟨rfl, fun b h => by cases h⟩
theorem tbL_ok {N c : Nat} {A : Option Addr} {low : Nat → Option Obj} : @TbOk (tokL (.slice A 0 c) slice_one low) Try.prog 0 N tbL := by
  letI := tokL (.slice A 0 c) slice_one low
  intro op vs v h o π g nx w ρ he hg hr hvs
  unfold tbL at h
  split at h
  · rename_i args ts
    cases hts : one29 ts with
    | false => rw [hts] at h; cases h
    | true =>
      rw [hts] at h
      have h : some (Value.int .i64 0) = some v := h
      obtain rfl := Option.some.inj h
      unfold one29 at hts
      have ho : o.op = .call ⟨.builtin .len, args, ts⟩ := he
      have hts' : ts[0]? = some 29 := by
        split at hts
        · rename_i t e
          rw [beqd, decide_eq_true_eq] at hts
          subst hts
          rw [← Array.getElem?_toList, e]; rfl
        · cases hts
      have hops : (Op.call ⟨.builtin .len, args, ts⟩).operands.toList.map ρ = args.toList.map ρ := by simp [Op.operands, Call.operands]
      rw [hops] at hvs
      have hx : args.map ρ = #[.slice A 0 c] := by
        have h1 : args.toList.map ρ = [.slice A 0 c] := by
          generalize args.toList.map ρ = z at hvs
          cases hvs with
          | cons h1 h2 =>
            cases h2
            have h3 := tok_inv h1
            rw [h3]; rfl
        apply Array.toList_inj.1
        simpa using h1
      refine ⟨.int .i64 0, ?_, .int _ _⟩
      have hexec : (execOp ρ o).run Try.prog w = (builtin .len ts o.type (args.map fun | .const _ => true | _ => false) (args.map ρ)).run Try.prog w := by
        unfold execOp
        rw [ho]
        rfl
      rw [hexec, hx]
      have hu : Try.prog.underlying 29 = some (.slice 47) := by kernel_rfl
      have hu2 := run_under (w := w) hu
      simp [builtin, Builtin.len_, hts', hu2, goInt, Sem.run_pure, Sem.run_bind, Result.andThen]
  · cases h
theorem X_ok [Tok] {N : Nat} : ∀ k x, XL k = some x → ∀ args h v h', x args h = some (v, h') → CallOk Try.prog 0 N k args h v h' := by
  refine trueX_ok (fun f hf h => ?_)
  obtain rfl := List.mem_singleton.1 hf
  obtain ⟨h', hrun⟩ := resB_some alive_run
  rw [callF_eq] at hrun
  exact closed_call (sound noX_ok noTb_ok 1000) hrun h
/-- a law's run from what the world holds -/
theorem law_calls_from [Tok] {n f : Nat} {args : List Value} {cargs : Array Value} {h0 h' : AHeap} {W : World} {π : Pi} (hc : CallsOk Try.prog 0 W.heap.size (acall EE n)) (hrun : acall EE n f args h0 = some (.bool true, h')) (hg : GR 0 π) (hr : HR π W.heap.size h0.get h0.next W) (hargs : VRs π args cargs.toList) (hown : ∀ b, ¬ Own π h0.get b) :
    Calls Try.prog f cargs W fun e W' => e = .returned (.bool true) ∧ Below W.heap.size W W' := by
  obtain ⟨_, hcall⟩ := hc f args h0 (.bool true) h' hrun
  refine (hcall π W cargs hg hr hargs).mono ?_
  rintro e w' ⟨π', v', rfl, hv, hst⟩
  have := hv.bool_inv
  subst this
  exact ⟨rfl, hst.os, hst.tape, hst.output, hst.size, fun b hb => hst.blk b hb (hown b)⟩
end Go.Proofs.Yteffhomollmpdaa.AM.SX

/- Robin: what stays true of flows and of a round. -/
namespace Go.Proofs.Yteffhomollmpdaa.AM.SX
open Go Go.Proofs.Yteffhomollmpdaa.X
set_option linter.unusedVariables false
set_option linter.unusedSimpArgs false
set_option maxRecDepth 100000
set_option maxHeartbeats 4000000
theorem insF_mem {S : List Fl} {x y : Fl} (h : y ∈ insF S x) : y = x ∨ y ∈ S := by
  unfold insF at h
  rcases List.mem_append.1 h with h1 | h1
  · exact .inr (List.mem_of_mem_take h1)
  · rcases List.mem_cons.1 h1 with h2 | h2
    · exact .inl h2
    · exact .inr (List.mem_of_mem_drop h2)
theorem foldl_mem : ∀ {l S : List Fl} {y : Fl}, y ∈ l.foldl insF S → y ∈ l ∨ y ∈ S
  | [], S, y, h => .inr h
  | x :: l, S, y, h => by
    rw [List.foldl_cons] at h
    rcases foldl_mem h with h1 | h1
    · exact .inl (.tail _ h1)
    · rcases insF_mem h1 with rfl | h2
      · exact .inl (.head _)
      · exact .inr h2
theorem sortF_mem {l : List Fl} {y : Fl} (h : y ∈ sortF l) : y ∈ l := by
  rcases foldl_mem h with h1 | h1
  · exact h1
  · cases h1
theorem compN_mem {l : List Fl} {y : Fl} : ∀ {k : Nat}, k ≤ l.length → y ∈ compN l k → y ∈ l
  | 0, _, h => by cases h
  | k + 1, hk, h => by
    have h : y ∈ compN l k ++ (if 0 < k ∧ (l.getD k (0, 0)).1 = (l.getD (k - 1) (0, 0)).1 then [] else [l.getD k (0, 0)]) := h
    rcases List.mem_append.1 h with h1 | h1
    · exact compN_mem (by omega) h1
    · split at h1
      · cases h1
      · rw [List.mem_singleton.1 h1, getD_at hk]
        exact List.getElem_mem _
theorem flowsF_mem {l : List Fl} {y : Fl} (h : y ∈ flowsF l) : y ∈ l ∧ 0 < y.2 := by
  unfold flowsF delF at h
  obtain ⟨h1, h2⟩ := List.mem_filter.1 h
  exact ⟨sortF_mem (compN_mem (Nat.le_refl _) h1), by simpa using h2⟩
theorem flowsF_wok {l : List Fl} (hb : ∀ x ∈ l, x.2 ≤ 1099511627776) : WOk (flowsF l) := fun x hx => ⟨(flowsF_mem hx).2, hb x (flowsF_mem hx).1⟩
end Go.Proofs.Yteffhomollmpdaa.AM.SX

/- RobinTurns: what a round grants to flows that want as much. -/
namespace Go.Proofs.Yteffhomollmpdaa.AM.SX
open Go Go.Proofs.Yteffhomollmpdaa.X
set_option linter.unusedVariables false
set_option linter.unusedSimpArgs false
set_option maxRecDepth 100000
set_option maxHeartbeats 4000000
/-! ### masks and reckoning -/
section
variable {T : Tr TI} {h : AHeap} {t : Nat} {x : Int}
theorem b_mask (k : Nat) (hk : k < 63) (M : Int) (hM : (BitVec.ofInt 64 M).toNat = 2 ^ k - 1) : abin T h .and t (.int .i64 x) (.int .i64 M) = some (.int .i64 (x % ((2 ^ k : Nat) : Int))) := by
  have key : (BitVec.ofInt 64 x &&& BitVec.ofInt 64 M).toNat = (x % ((2 ^ 64 : Nat) : Int)).toNat % 2 ^ k := by
    rw [BitVec.toNat_and, BitVec.toNat_ofInt, hM, Nat.and_two_pow_sub_one_eq_mod]
  have hp : (2 : Nat) ^ k ∣ 2 ^ 64 := Nat.pow_dvd_pow 2 (by omega)
  have hlt : (2 : Nat) ^ k ≤ 2 ^ 62 := Nat.pow_le_pow_right (by decide) (by omega)
  have h0 : 0 < (2 : Nat) ^ k := Nat.pow_pos (by decide)
  have hr : ((x % ((2 ^ 64 : Nat) : Int)).toNat % 2 ^ k : Nat) = (x % ((2 ^ k : Nat) : Int)).toNat := by
    have h1 : 0 ≤ x % ((2 ^ 64 : Nat) : Int) := Int.emod_nonneg _ (by decide)
    have h2 : 0 ≤ x % ((2 ^ k : Nat) : Int) := Int.emod_nonneg _ (by omega)
    have : (((x % ((2 ^ 64 : Nat) : Int)).toNat % 2 ^ k : Nat) : Int) = ((x % ((2 ^ k : Nat) : Int)).toNat : Int) := by
      rw [Int.natCast_emod, Int.toNat_of_nonneg h1, Int.toNat_of_nonneg h2]
      exact Int.emod_emod_of_dvd _ (Int.natCast_dvd_natCast.2 hp)
    exact Int.ofNat_inj.1 this
  have h2 : 0 ≤ x % ((2 ^ k : Nat) : Int) := Int.emod_nonneg _ (by omega)
  have h3 : x % ((2 ^ k : Nat) : Int) < ((2 ^ k : Nat) : Int) := Int.emod_lt_of_pos _ (by omega)
  have hv : IntKind.i64.wrap ((BitVec.ofInt 64 x &&& BitVec.ofInt 64 M).toNat : Nat) = x % ((2 ^ k : Nat) : Int) := by
    have h9 : ((2 ^ k : Nat) : Int) ≤ 4611686018427387904 := Int.le_trans (Int.ofNat_le.2 hlt) (by decide)
    rw [key, hr, Int.toNat_of_nonneg h2, wrap64 (by omega) (by omega)]
  simp only [abin, aint, if_true]
  exact congrArg (fun z => some (Value.int .i64 z)) hv
theorem b_mul {y : Int} (h1 : -9223372036854775808 ≤ x * y) (h2 : x * y ≤ 9223372036854775807) : abin T h .mul t (.int .i64 x) (.int .i64 y) = some (.int .i64 (x * y)) := by
  simp only [abin, aint, if_true, wrap64 h1 h2]
theorem b_quo64 (h1 : 0 ≤ x) (h2 : x ≤ 9223372036854775807) : abin T h .quo t (.int .i64 x) (.int .i64 64) = some (.int .i64 (x / 64)) := by
  have h3 : x.tdiv 64 = x / 64 := Int.tdiv_eq_ediv_of_nonneg h1
  have h4 : ¬ (64 : Int) = 0 := by decide
  simp only [abin, aint, if_true, if_neg h4, h3, wrap64 (x := x / 64) (by omega) (by omega)]
end
/-! ### turns -/
def laT (n T : Nat) : Int := if T = 0 then 0 else 7 * ((((T - 1) % n : Nat) : Int) + 1)
def anyT (T : Nat) : Bool := decide (0 < T)
def grT (n T t : Nat) : List Fl := (List.range t).map fun s => (7 * ((((T + s) % n : Nat) : Int) + 1), 64)
theorem grT_succ (n T t : Nat) : grT n T (t + 1) = (7 * (((T % n : Nat) : Int) + 1), 64) :: grT n (T + 1) t := by
  unfold grT
  rw [List.range_succ_eq_map, List.map_cons, List.map_map]
  congr 1
  refine List.map_congr_left fun s _ => ?_
  show (7 * ((((T + (s + 1)) % n : Nat) : Int) + 1), (64 : Int)) = _
  rw [show T + (s + 1) = T + 1 + s by omega]
theorem grT_len (n T t : Nat) : (grT n T t).length = t := by simp [grT]
theorem grT_at {n T t i : Nat} (hi : i < (grT n T t).length) : (grT n T t)[i] = (7 * ((((T + i) % n : Nat) : Int) + 1), 64) := by simp [grT]
structure TLf (n : Nat) (c : Int) (lf : List Fl) : Prop where
  len : lf.length = n
  conn : ∀ (i : Nat) (hi : i < lf.length), lf[i].1 = 7 * ((i : Int) + 1)
  want : ∀ (i : Nat) (hi : i < lf.length), c + 64 ≤ lf[i].2
theorem pick_T {n T : Nat} {c : Int} {lf : List Fl} (h : TLf n c lf) (hn : 0 < n) : pickI (laT n T) (anyT T) lf = T % n := by
  unfold pickI
  cases T with
  | zero =>
    have : (lf.findIdx? fun x => anyT 0 && decide (laT n 0 < x.1)) = none := by
      rw [List.findIdx?_eq_none_iff]
      intro x _
      rfl
    rw [this]; simp
  | succ S =>
    have hla : laT n (S + 1) = 7 * (((S % n : Nat) : Int) + 1) := by
      unfold laT; rw [if_neg (by omega)]; rfl
    have hany : anyT (S + 1) = true := by unfold anyT; simp
    have hP : ∀ (i : Nat) (hi : i < lf.length), (anyT (S + 1) && decide (laT n (S + 1) < lf[i].1)) = decide (S % n < i) := by
      intro i hi
      rw [hany, hla, h.conn i hi, Bool.true_and]
      refine decide_eq_decide.2 ⟨fun h => ?_, fun h => ?_⟩ <;> omega
    have hm : (S + 1) % n = (S % n + 1) % n := (Nat.mod_add_mod S n 1).symm
    have hlt := Nat.mod_lt S hn
    by_cases hs : S % n + 1 < n
    · have : (lf.findIdx? fun x => anyT (S + 1) && decide (laT n (S + 1) < x.1)) = some (S % n + 1) := by
        rw [List.findIdx?_eq_some_iff_getElem]
        refine ⟨by rw [h.len]; exact hs, by rw [hP]; simp, fun j hj => ?_⟩
        rw [hP]; simp; omega
      rw [this, hm, Nat.mod_eq_of_lt hs]; rfl
    · have : (lf.findIdx? fun x => anyT (S + 1) && decide (laT n (S + 1) < x.1)) = none := by
        rw [List.findIdx?_eq_none_iff]
        intro x hx
        obtain ⟨i, hi, rfl⟩ := List.mem_iff_getElem.1 hx
        rw [hP]
        have := h.len
        simp; omega
      rw [this, hm, show S % n + 1 = n by omega, Nat.mod_self]; rfl
theorem turns_round {n : Nat} (hn : 0 < n) : ∀ (K : Nat) (c : Int) (T : Nat) (lf out : List Fl), 0 ≤ c → c < K → TLf n c lf → ∃ t : Nat, roundL K c (laT n T) (anyT T) lf out = (c - 64 * t, laT n (T + t), anyT (T + t), out ++ grT n T t) ∧ 0 ≤ c - 64 * t ∧ c - 64 * t < 64
  | 0, c, T, lf, out, h0, hK, _ => absurd hK (by omega)
  | K + 1, c, T, lf, out, h0, hK, hL => by
    have hpk := pick_T (T := T) hL hn
    have hi : T % n < lf.length := by rw [hL.len]; exact Nat.mod_lt _ hn
    have hgd := getD_at hi
    have hw := hL.want _ hi
    have hcn := hL.conn _ hi
    have hmin : min (lf[T % n]).2 64 = 64 := by omega
    have hll : ¬ lf.length = 0 := by rw [hL.len]; omega
    unfold roundL
    rw [if_neg hll, hpk, hgd, hmin]
    by_cases hc : c < 64
    · rw [if_pos hc]
      exact ⟨0, by simp [grT], by simpa using h0, by simpa using hc⟩
    · rw [if_neg hc, if_neg (by omega)]
      have hL' : TLf n (c - 64) (lf.set (T % n) ((lf[T % n]).1, (lf[T % n]).2 - 64)) := by
        refine ⟨by rw [List.length_set]; exact hL.len, fun i hi' => ?_, fun i hi' => ?_⟩
        · rw [List.length_set] at hi'
          rw [List.getElem_set]
          split
          · rename_i e; subst e; exact hcn
          · exact hL.conn i hi'
        · rw [List.length_set] at hi'
          rw [List.getElem_set]
          split
          · show c - 64 + 64 ≤ (lf[T % n]).2 - 64; omega
          · have := hL.want i hi'; omega
      have hla : (lf[T % n]).1 = laT n (T + 1) := by rw [hcn]; unfold laT; rw [if_neg (by omega)]; rfl
      have hany : true = anyT (T + 1) := by unfold anyT; simp
      obtain ⟨t, h1, h2, h3⟩ := turns_round hn K (c - 64) (T + 1) _ (out ++ [((lf[T % n]).1, 64)]) (by omega) (by omega) hL'
      refine ⟨t + 1, ?_, by omega, by omega⟩
      rw [hla] at h1 ⊢
      rw [hany] at *
      rw [h1, grT_succ, List.append_assoc]
      have e1 : laT n (T + 1) = 7 * (((T % n : Nat) : Int) + 1) := by rw [← hla, hcn]
      rw [e1, show T + 1 + t = T + (t + 1) by omega, show c - 64 - 64 * (t : Int) = c - 64 * ((t + 1 : Nat) : Int) by omega]
      rfl
/-! ### how often -/
def cntT (n : Nat) : Nat → Nat → Nat
  | 0, _ => 0
  | T + 1, i => cntT n T i + (if T % n = i then 1 else 0)
theorem n8 {P : Nat → Prop} (h1 : P 1) (h2 : P 2) (h3 : P 3) (h4 : P 4) (h5 : P 5) (h6 : P 6) (h7 : P 7) (h8 : P 8) {n : Nat} (hn : 1 ≤ n ∧ n ≤ 8) : P n := by
  rcases (by omega : n = 1 ∨ n = 2 ∨ n = 3 ∨ n = 4 ∨ n = 5 ∨ n = 6 ∨ n = 7 ∨ n = 8) with rfl | rfl | rfl | rfl | rfl | rfl | rfl | rfl <;> assumption
theorem divmod_succ {n T : Nat} (hn : 0 < n) : ((T + 1) / n = T / n ∧ (T + 1) % n = T % n + 1 ∧ T % n + 1 < n) ∨ ((T + 1) / n = T / n + 1 ∧ (T + 1) % n = 0 ∧ T % n + 1 = n) := by
  have hlt := Nat.mod_lt T hn
  have hT : T + 1 = n * (T / n) + (T % n + 1) := by have := Nat.div_add_mod T n; omega
  by_cases h : T % n + 1 < n
  · refine .inl ⟨?_, ?_, h⟩
    · conv => lhs; rw [hT]
      rw [Nat.mul_add_div hn, Nat.div_eq_of_lt h, Nat.add_zero]
    · conv => lhs; rw [hT]
      rw [Nat.mul_add_mod, Nat.mod_eq_of_lt h]
  · have he : T % n + 1 = n := by omega
    refine .inr ⟨?_, ?_, he⟩
    · conv => lhs; rw [hT]
      rw [he, Nat.mul_add_div hn, Nat.div_self hn]
    · conv => lhs; rw [hT]
      rw [he, Nat.mul_add_mod, Nat.mod_self]
theorem cnt_eq {n : Nat} (hn : 0 < n) {i : Nat} (hi : i < n) : ∀ T, cntT n T i = T / n + (if i < T % n then 1 else 0)
  | 0 => by simp [cntT]
  | T + 1 => by
    have ih := cnt_eq hn hi T
    show cntT n T i + (if T % n = i then 1 else 0) = _
    rw [ih]
    rcases divmod_succ (T := T) hn with ⟨h1, h2, h3⟩ | ⟨h1, h2, h3⟩
    · rw [h1, h2]
      by_cases a : T % n = i
      · rw [if_pos a, if_neg (by omega), if_pos (by omega)]; try omega
      · rw [if_neg a]
        by_cases b : i < T % n
        · rw [if_pos b, if_pos (by omega)]; try omega
        · rw [if_neg b, if_neg (by omega)]; try omega
    · rw [h1, h2]
      by_cases a : T % n = i
      · rw [if_pos a, if_neg (by omega), if_neg (by omega)]; try omega
      · rw [if_neg a, if_pos (by omega), if_neg (by omega)]; try omega
theorem cnt_le {n : Nat} (hn : 0 < n) (T : Nat) {i : Nat} (hi : i < n) : T / n ≤ cntT n T i ∧ cntT n T i ≤ T / n + 1 := by
  rw [cnt_eq hn hi]
  split <;> omega
def sumT (n T : Nat) : Nat → Nat
  | 0 => 0
  | i + 1 => sumT n T i + cntT n T i
theorem sum_zero (n : Nat) : ∀ i, sumT n 0 i = 0
  | 0 => rfl
  | i + 1 => by show sumT n 0 i + 0 = 0; rw [sum_zero n i]
theorem sum_inc (n T : Nat) : ∀ i, sumT n (T + 1) i = sumT n T i + (if T % n < i then 1 else 0)
  | 0 => by simp [sumT]
  | i + 1 => by
    have ih := sum_inc n T i
    show sumT n (T + 1) i + (cntT n T i + (if T % n = i then 1 else 0)) = sumT n T i + cntT n T i + _
    rw [ih]
    by_cases a : T % n = i
    · rw [if_pos a, if_neg (by omega), if_pos (by omega)]; omega
    · rw [if_neg a]
      by_cases b : T % n < i
      · rw [if_pos b, if_pos (by omega)]; omega
      · rw [if_neg b, if_neg (by omega)]; omega
theorem sum_le (n : Nat) (i : Nat) : ∀ T, sumT n T i ≤ T
  | 0 => by rw [sum_zero]; exact Nat.le_refl _
  | T + 1 => by
    have := sum_le n i T
    rw [sum_inc]
    split <;> omega
theorem sum_all {n : Nat} (hn : 0 < n) : ∀ T, sumT n T n = T
  | 0 => sum_zero n n
  | T + 1 => by rw [sum_inc, sum_all hn T, if_pos (Nat.mod_lt _ hn)]
/-! ### the map -/
def kv (x : Int × Int) : Value × Value := (.int .i64 x.1, .int .i64 x.2)
def getI0 (l : List (Int × Int)) (k : Int) : Int := match l.find? fun x => x.1 == k with | some x => x.2 | none => 0
def putI (k v : Int) : List (Int × Int) → List (Int × Int)
  | [] => [(k, v)]
  | x :: l => if x.1 = k then (k, v) :: l else x :: putI k v l
theorem mget_kv (k : Int) : ∀ l : List (Int × Int), mget (l.map kv) (.int .i64 k) = some ((l.find? fun x => x.1 == k).map fun x => .int .i64 x.2)
  | [] => rfl
  | x :: l => by
    have e : keyEq (.int .i64 k) (.int .i64 x.1) = some (k == x.1) := by simp [keyEq]
    simp only [List.map_cons, kv, mget, e, List.find?_cons]
    by_cases h : k = x.1
    · subst h; simp
    · have h1 : (k == x.1) = false := by simpa using h
      have h2 : (x.1 == k) = false := by simpa using fun e => h e.symm
      rw [h1, h2]
      exact mget_kv k l
theorem mput_kv (k v : Int) : ∀ l : List (Int × Int), mput (l.map kv) (.int .i64 k) (.int .i64 v) = some ((putI k v l).map kv)
  | [] => rfl
  | x :: l => by
    have e : keyEq (.int .i64 k) (.int .i64 x.1) = some (k == x.1) := by simp [keyEq]
    simp only [List.map_cons, kv, mput, e, putI]
    by_cases h : x.1 = k
    · rw [if_pos h]
      have h1 : (k == x.1) = true := by simpa using h.symm
      rw [h1]
      rfl
    · have h1 : (k == x.1) = false := by simpa using fun e => h e.symm
      rw [h1, if_neg h]
      rw [mput_kv k v l]
      rfl
theorem getI0_put (k v j : Int) : ∀ l : List (Int × Int), getI0 (putI k v l) j = if j = k then v else getI0 l j
  | [] => by
    unfold getI0 putI
    by_cases h : j = k
    · subst h; simp
    · have : (k == j) = false := by simpa using fun e => h e.symm
      simp [this, h]
  | x :: l => by
    have ih := getI0_put k v j l
    unfold getI0 at ih ⊢
    unfold putI
    by_cases hx : x.1 = k
    · rw [if_pos hx]
      simp only [List.find?_cons]
      by_cases h : j = k
      · subst h; simp
      · have h1 : (k == j) = false := by simpa using fun e => h e.symm
        have h2 : (x.1 == j) = false := by rw [hx]; exact h1
        rw [h1, h2, if_neg h]
    · rw [if_neg hx]
      simp only [List.find?_cons]
      cases hj : x.1 == j with
      | true =>
        have : x.1 = j := by simpa using hj
        rw [if_neg (by rw [← this]; exact hx)]
      | false => exact ih
/-! ### the flows -/
def downF (n i : Nat) : List Fl := (List.range i).map fun s : Nat => (7 * ((n : Int) - (s : Int)), (1048576 : Int))
theorem downF_succ (n i : Nat) : downF n (i + 1) = downF n i ++ [(7 * ((n : Int) - i), 1048576)] := by
  unfold downF; rw [List.range_succ, List.map_append]; rfl
def upF (n : Nat) : List Fl := (List.range n).map fun s : Nat => (7 * ((s : Int) + 1), (1048576 : Int))
theorem flows_down {n : Nat} (hn : 1 ≤ n ∧ n ≤ 8) : flowsF (downF n n) = upF n :=
  n8 (P := fun n => flowsF (downF n n) = upF n) (by kernel_rfl) (by kernel_rfl) (by kernel_rfl) (by kernel_rfl) (by kernel_rfl) (by kernel_rfl) (by kernel_rfl) (by kernel_rfl) hn
theorem upF_TLf {n : Nat} {c : Int} (hc : c ≤ 1000000) : TLf n c (upF n) := by
  refine ⟨by simp [upF], fun i hi => by simp [upF], fun i hi => ?_⟩
  have : (upF n)[i].2 = 1048576 := by simp [upF]
  rw [this]; omega
theorem upF_len (n : Nat) : (upF n).length = n := by simp [upF]
end Go.Proofs.Yteffhomollmpdaa.AM.SX

/- RobinTurns on the machine. -/
namespace Go.Proofs.Yteffhomollmpdaa.AM.SX
open Go Go.Proofs.Yteffhomollmpdaa.X
set_option linter.unusedVariables false
set_option linter.unusedSimpArgs false
set_option maxRecDepth 100000
set_option maxHeartbeats 8000000
attribute [local irreducible] astep0 aev awants abin abuild
theorem lk_kv {h : AHeap} {mb : Nat} {lm : List (Int × Int)} {k : Int} (hg : h.get mb = some (.map (lm.map kv))) : alookup EE.T h 44 (.map (some mb)) (.int .i64 k) false = some (.int .i64 (getI0 lm k)) := by
  have hm := mget_kv k lm
  cases hf : lm.find? fun x => x.1 == k with
  | none =>
    rw [hf] at hm
    have := lk_none (T := EE.T) (t := 44) (key := .int .i64 k) (ok := false) (TL rfl) (TL rfl) (isKey_int (TL rfl)) hg hm
    rw [this]
    unfold getI0; rw [hf]; rfl
  | some x =>
    rw [hf] at hm
    have := lk_some (T := EE.T) (t := 44) (key := .int .i64 k) (ok := false) (TL rfl) (TL rfl) (isKey_int (TL rfl)) hg hm
    rw [this]
    unfold getI0; rw [hf]; rfl
theorem turns_run {n : Nat} (hn : 6000 ≤ n) (n0 q0 r0 : Int) (h0 : AHeap) : C EE (n + 1) 5 [.int .i64 n0, .int .i64 q0, .int .i64 r0] h0 fun v _ => v = .bool true := by
  refine C_in (E_X _) F_turns rfl rfl rfl ?_
  intro a hna hat
  have e0 := hat 0 _ rfl
  have e1 := hat 1 _ rfl
  have e2 := hat 2 _ rfl
  replace hna : a.n = 100 := hna
  clear hat
  obtain ⟨m, rfl⟩ : ∃ m, n = m + 1 := ⟨n - 1, by omega⟩
  repeat first | refine G_seq ?_ | refine G_reg ?_ | refine N_seq ?_ | refine N_block ?_ | refine G_block ?_ | refine G_skip ?_ | refine G_cT ?_ | refine G_cF ?_ | refine G_ret ?_ | refine U_seq_ret ?_ | refine U_block_ret ?_ | refine U_nil ?_ | refine S_nil ?_ | refine S_auto ?_
  refine S_call wants0 (by simp only [aev_tmp, aev_const, aev_func, aev_global, at_put, at_none, n_put, reduceIte, Nat.reduceEqDiff, Nat.reduceLT, zq, *]; first | done | rfl) (E_Y _) (by simp only [List.map, aev_tmp, aev_const, aev_func, aev_global, at_put, at_none, n_put, reduceIte, Nat.reduceEqDiff, Nat.reduceLT, zq, *]; first | done | rfl) ?_
  refine C_x E_Xl rfl ?_
  repeat first | refine G_seq ?_ | refine G_reg ?_ | refine N_seq ?_ | refine N_block ?_ | refine G_block ?_ | refine G_skip ?_ | refine G_cT ?_ | refine G_cF ?_ | refine G_ret ?_ | refine U_seq_ret ?_ | refine U_block_ret ?_ | refine U_nil ?_ | refine S_nil ?_ | refine S_auto ?_
  refine S_step wants0 (o_bin (by simp only [aev_tmp, aev_const, aev_func, aev_global, at_put, at_none, n_put, reduceIte, Nat.reduceEqDiff, Nat.reduceLT, zq, *]; first | done | rfl) (by simp only [aev_tmp, aev_const, aev_func, aev_global, at_put, at_none, n_put, reduceIte, Nat.reduceEqDiff, Nat.reduceLT, zq, *]; first | done | rfl) (b_mask 3 (by decide) 7 (by decide))) ?_
  rw [show ((2 ^ 3 : Nat) : Int) = 8 from rfl]
  have hm8 : 0 ≤ n0 % 8 ∧ n0 % 8 < 8 := ⟨Int.emod_nonneg _ (by decide), Int.emod_lt_of_pos _ (by decide)⟩
  obtain ⟨N, hN⟩ : ∃ N : Nat, 1 + n0 % 8 = (N : Int) := ⟨(1 + n0 % 8).toNat, by omega⟩
  have hNb : 1 ≤ N ∧ N ≤ 8 := by omega
  refine S_step wants0 (o_bin (by simp only [aev_tmp, aev_const, aev_func, aev_global, at_put, at_none, n_put, reduceIte, Nat.reduceEqDiff, Nat.reduceLT, zq, *]; first | done | rfl) (by simp only [aev_tmp, aev_const, aev_func, aev_global, at_put, at_none, n_put, reduceIte, Nat.reduceEqDiff, Nat.reduceLT, zq, *]; first | done | rfl) (b_add (by omega) (by omega))) ?_
  rw [hN]
  clear hm8 hN
  repeat first | refine G_seq ?_ | refine G_reg ?_ | refine N_seq ?_ | refine N_block ?_ | refine G_block ?_ | refine G_skip ?_ | refine G_cT ?_ | refine G_cF ?_ | refine G_ret ?_ | refine U_seq_ret ?_ | refine U_block_ret ?_ | refine U_nil ?_ | refine S_nil ?_ | refine S_auto ?_
  refine S_step wants0 (o_bin (by simp only [aev_tmp, aev_const, aev_func, aev_global, at_put, at_none, n_put, reduceIte, Nat.reduceEqDiff, Nat.reduceLT, zq, *]; first | done | rfl) (by simp only [aev_tmp, aev_const, aev_func, aev_global, at_put, at_none, n_put, reduceIte, Nat.reduceEqDiff, Nat.reduceLT, zq, *]; first | done | rfl) (b_mask 11 (by decide) 2047 (by decide))) ?_
  rw [show ((2 ^ 11 : Nat) : Int) = 2048 from rfl]
  have hm8 : 0 ≤ q0 % 2048 ∧ q0 % 2048 < 2048 := ⟨Int.emod_nonneg _ (by decide), Int.emod_lt_of_pos _ (by decide)⟩
  obtain ⟨q, hq⟩ : ∃ q : Int, 1 + q0 % 2048 = q := ⟨_, rfl⟩
  have hqb : 1 ≤ q ∧ q ≤ 2048 := by omega
  refine S_step wants0 (o_bin (by simp only [aev_tmp, aev_const, aev_func, aev_global, at_put, at_none, n_put, reduceIte, Nat.reduceEqDiff, Nat.reduceLT, zq, *]; first | done | rfl) (by simp only [aev_tmp, aev_const, aev_func, aev_global, at_put, at_none, n_put, reduceIte, Nat.reduceEqDiff, Nat.reduceLT, zq, *]; first | done | rfl) (b_add (by omega) (by omega))) ?_
  rw [hq]
  clear hm8 hq
  repeat first | refine G_seq ?_ | refine G_reg ?_ | refine N_seq ?_ | refine N_block ?_ | refine G_block ?_ | refine G_skip ?_ | refine G_cT ?_ | refine G_cF ?_ | refine G_ret ?_ | refine U_seq_ret ?_ | refine U_block_ret ?_ | refine U_nil ?_ | refine S_nil ?_ | refine S_auto ?_
  refine S_step wants0 (o_bin (by simp only [aev_tmp, aev_const, aev_func, aev_global, at_put, at_none, n_put, reduceIte, Nat.reduceEqDiff, Nat.reduceLT, zq, *]; first | done | rfl) (by simp only [aev_tmp, aev_const, aev_func, aev_global, at_put, at_none, n_put, reduceIte, Nat.reduceEqDiff, Nat.reduceLT, zq, *]; first | done | rfl) (b_mask 4 (by decide) 15 (by decide))) ?_
  rw [show ((2 ^ 4 : Nat) : Int) = 16 from rfl]
  have hm8 : 0 ≤ r0 % 16 ∧ r0 % 16 < 16 := ⟨Int.emod_nonneg _ (by decide), Int.emod_lt_of_pos _ (by decide)⟩
  obtain ⟨R, hR⟩ : ∃ R : Nat, r0 % 16 = (R : Int) := ⟨(r0 % 16).toNat, by omega⟩
  have hRb : R ≤ 15 := by omega
  rw [hR]
  clear hm8 hR
  repeat first | refine G_seq ?_ | refine G_reg ?_ | refine N_seq ?_ | refine N_block ?_ | refine G_block ?_ | refine G_skip ?_ | refine G_cT ?_ | refine G_cF ?_ | refine G_ret ?_ | refine U_seq_ret ?_ | refine U_block_ret ?_ | refine U_nil ?_ | refine S_nil ?_ | refine S_auto ?_
  refine S_call wants0 (by simp only [aev_tmp, aev_const, aev_func, aev_global, at_put, at_none, n_put, reduceIte, Nat.reduceEqDiff, Nat.reduceLT, zq, *]; first | done | rfl) (E_Y _) (by simp only [List.map, aev_tmp, aev_const, aev_func, aev_global, at_put, at_none, n_put, reduceIte, Nat.reduceEqDiff, Nat.reduceLT, zq, *]; first | done | rfl) ?_
  refine (new_spec q).mono ?_
  rintro r h1 ⟨rfl, rfl⟩
  rw [show min (max q 1) 1048576 = q by omega]
  repeat first | refine G_seq ?_ | refine G_reg ?_ | refine N_seq ?_ | refine N_block ?_ | refine G_block ?_ | refine G_skip ?_ | refine G_cT ?_ | refine G_cF ?_ | refine G_ret ?_ | refine U_seq_ret ?_ | refine U_block_ret ?_ | refine U_nil ?_ | refine S_nil ?_ | refine S_auto ?_
  refine S_step wants0 o_makeMap ?_
  repeat first | refine G_seq ?_ | refine G_reg ?_ | refine N_seq ?_ | refine N_block ?_ | refine G_block ?_ | refine G_skip ?_ | refine G_cT ?_ | refine G_cF ?_ | refine G_ret ?_ | refine U_seq_ret ?_ | refine U_block_ret ?_ | refine U_nil ?_ | refine S_nil ?_ | refine S_auto ?_
  have hN0 : 0 < N := hNb.1
  refine G_loop (fun j a h' => ∃ (k T : Nat) (s : Int) (lm : List (Int × Int)), k + j = R ∧ a.n = 100 ∧ a.at 0 = .int .i64 (N : Int) ∧ a.at 1 = .int .i64 q ∧ a.at 2 = .int .i64 (R : Int) ∧ a.at 7 = .pointer (some ⟨h0.next, 0, none⟩) ∧ a.at 8 = .map (some (h0.next + 1)) ∧ a.at 9 = .int .i64 (k : Int) ∧ s = k * q ∧ s ≤ 2048 * k ∧ 0 ≤ s - 64 * T ∧ s - 64 * T < 64 ∧ h'.get h0.next = some (.cells [.int .i64 q, .int .i64 (s - 64 * T), .int .i64 (laT N T), .bool (anyT T)] true) ∧ h'.get (h0.next + 1) = some (.map (lm.map kv)) ∧ h0.next + 2 ≤ h'.next ∧ ∀ i, i < N → getI0 lm (7 * ((i : Int) + 1)) = (cntT N T i : Nat)) R (by omega) ⟨0, 0, 0, [], by omega, by simp only [at_put, at_none, n_put, reduceIte, Nat.reduceEqDiff, Nat.reduceLT, zq, *]; first | done | rfl, by simp only [at_put, at_none, n_put, reduceIte, Nat.reduceEqDiff, Nat.reduceLT, zq, *]; first | done | rfl, by simp only [at_put, at_none, n_put, reduceIte, Nat.reduceEqDiff, Nat.reduceLT, zq, *]; first | done | rfl, by simp only [at_put, at_none, n_put, reduceIte, Nat.reduceEqDiff, Nat.reduceLT, zq, *]; first | done | rfl, by simp (disch := omega) only [at_put, at_none, n_put, reduceIte, Nat.reduceEqDiff, Nat.reduceLT, get_set_self, get_new_self, get_set_ne, get_new_ne, get_bump, next_set, next_new, Nat.lt_irrefl, next_kill, next_bump, cond_true, cond_false, *]; first | done | rfl, by simp (disch := omega) only [at_put, at_none, n_put, reduceIte, Nat.reduceEqDiff, Nat.reduceLT, get_set_self, get_new_self, get_set_ne, get_new_ne, get_bump, next_set, next_new, Nat.lt_irrefl, next_kill, next_bump, cond_true, cond_false, *]; first | done | rfl, by simp only [at_put, at_none, n_put, reduceIte, Nat.reduceEqDiff, Nat.reduceLT, zq, *]; first | done | rfl, by simp, by simp, by simp, by simp, by simp (disch := omega) only [get_set_self, get_new_self, get_set_ne, get_new_ne, get_bump, next_set, next_new, Nat.lt_irrefl, reduceIte, next_kill, next_bump, *]; first | done | rfl, by simp (disch := omega) only [get_set_self, get_new_self, get_set_ne, get_new_ne, get_bump, next_set, next_new, Nat.lt_irrefl, reduceIte, next_kill, next_bump, *]; first | done | rfl, by simp only [next_new, Nat.lt_irrefl, reduceIte]; omega, fun i hi => rfl⟩ ?_
  clear e0 e1 e2 hna
  generalize h0.next = p at *
  rintro j a h1 ⟨k, T, s, lm, hkj, hna, e0, e1, e2, e7, e8, e9, hs, hsb, hc0, hc1, hp, hmm, hnx, hcnt⟩
  by_cases hkR : k < R
  · have hkR' : ((k : Int) < (R : Int)) = True := eq_true (by omega)
    repeat first | refine G_seq ?_ | refine G_reg ?_ | refine N_seq ?_ | refine N_block ?_ | refine G_block ?_ | refine G_skip ?_ | refine G_cT ?_ | refine G_cF ?_ | refine G_ret ?_ | refine U_seq_ret ?_ | refine U_block_ret ?_ | refine U_nil ?_ | refine S_nil ?_ | refine S_auto ?_
    refine S_step wants0 (o_buildSlice (by simp only [List.map, aev_tmp, aev_const, aev_func, aev_global, at_put, at_none, n_put, reduceIte, Nat.reduceEqDiff, Nat.reduceLT, zq, *]; first | done | rfl) (bs_row0 (K := kF) (TL rfl) (TL rfl) ⟨rfl, rfl, by decide⟩)) ?_
    repeat first | refine G_seq ?_ | refine G_reg ?_ | refine N_seq ?_ | refine N_block ?_ | refine G_block ?_ | refine G_skip ?_ | refine G_cT ?_ | refine G_cF ?_ | refine G_ret ?_ | refine U_seq_ret ?_ | refine U_block_ret ?_ | refine U_nil ?_ | refine S_nil ?_ | refine S_auto ?_
    refine G_loop (fun j2 a h2 => ∃ (d : Nat) (rv : Value) (Or : List Nat), d + j2 = N ∧ a.n = 100 ∧ a.at 0 = .int .i64 (N : Int) ∧ a.at 1 = .int .i64 q ∧ a.at 2 = .int .i64 (R : Int) ∧ a.at 7 = .pointer (some ⟨p, 0, none⟩) ∧ a.at 8 = .map (some (p + 1)) ∧ a.at 9 = .int .i64 (k : Int) ∧ a.at 10 = rv ∧ a.at 11 = .int .i64 ((N : Int) - (d : Int)) ∧ RowAt kF h2 (downF N d) rv Or ∧ (∀ i ∈ Or, p + 2 ≤ i ∧ i < h2.next) ∧ h2.get p = some (.cells [.int .i64 q, .int .i64 (s - 64 * T), .int .i64 (laT N T), .bool (anyT T)] true) ∧ h2.get (p + 1) = some (.map (lm.map kv)) ∧ p + 2 ≤ h2.next) N (by omega) ⟨0, .slice (some ⟨h1.next, 0, none⟩) 0 0, [h1.next], by omega, by simp only [at_put, at_none, n_put, reduceIte, Nat.reduceEqDiff, Nat.reduceLT, zq, *]; first | done | rfl, by simp only [at_put, at_none, n_put, reduceIte, Nat.reduceEqDiff, Nat.reduceLT, zq, *]; first | done | rfl, by simp only [at_put, at_none, n_put, reduceIte, Nat.reduceEqDiff, Nat.reduceLT, zq, *]; first | done | rfl, by simp only [at_put, at_none, n_put, reduceIte, Nat.reduceEqDiff, Nat.reduceLT, zq, *]; first | done | rfl, by simp only [at_put, at_none, n_put, reduceIte, Nat.reduceEqDiff, Nat.reduceLT, zq, *]; first | done | rfl, by simp only [at_put, at_none, n_put, reduceIte, Nat.reduceEqDiff, Nat.reduceLT, zq, *]; first | done | rfl, by simp only [at_put, at_none, n_put, reduceIte, Nat.reduceEqDiff, Nat.reduceLT, zq, *]; first | done | rfl, by simp only [at_put, at_none, n_put, reduceIte, Nat.reduceEqDiff, Nat.reduceLT, zq, *]; first | done | rfl, by rw [Int.ofNat_zero, Int.sub_zero]; simp only [at_put, at_none, n_put, reduceIte, Nat.reduceEqDiff, Nat.reduceLT, zq, *]; first | done | rfl, row0 (get_new_self _ _ _), fun i hi => by rw [List.mem_singleton.1 hi, next_new_self]; omega, by simp (disch := omega) only [get_set_self, get_new_self, get_set_ne, get_new_ne, get_bump, next_set, next_new, Nat.lt_irrefl, reduceIte, next_kill, next_bump, *]; first | done | rfl, by simp (disch := omega) only [get_set_self, get_new_self, get_set_ne, get_new_ne, get_bump, next_set, next_new, Nat.lt_irrefl, reduceIte, next_kill, next_bump, *]; first | done | rfl, by rw [next_new_self]; omega⟩ ?_
    clear e0 e1 e2 e7 e8 e9 hna hp hmm hnx
    rintro j2 a h2 ⟨d, rv, Or, hdj, hna, e0, e1, e2, e7, e8, e9, e10, e11, hrow, hOr, hp, hmm, hnx⟩
    by_cases hdN : d < N
    · have hge : ((1 : Int) ≤ (N : Int) - (d : Int)) = True := eq_true (by omega)
      have hsub : (N : Int) - (d : Int) - 1 = (N : Int) - ((d + 1 : Nat) : Int) := by omega
      have hdl : (downF N d).length = d := by simp [downF]
      repeat first | refine G_seq ?_ | refine G_reg ?_ | refine N_seq ?_ | refine N_block ?_ | refine G_block ?_ | refine G_skip ?_ | refine G_cT ?_ | refine G_cF ?_ | refine G_ret ?_ | refine U_seq_ret ?_ | refine U_block_ret ?_ | refine U_nil ?_ | refine S_nil ?_ | refine S_auto ?_
      refine S_step wants0 (o_bin (by simp only [aev_tmp, aev_const, aev_func, aev_global, at_put, at_none, n_put, reduceIte, Nat.reduceEqDiff, Nat.reduceLT, zq, *]; first | done | rfl) (by simp only [aev_tmp, aev_const, aev_func, aev_global, at_put, at_none, n_put, reduceIte, Nat.reduceEqDiff, Nat.reduceLT, zq, *]; first | done | rfl) (b_mul (by omega) (by omega))) ?_
      repeat first | refine G_seq ?_ | refine G_reg ?_ | refine N_seq ?_ | refine N_block ?_ | refine G_block ?_ | refine G_skip ?_ | refine G_cT ?_ | refine G_cF ?_ | refine G_ret ?_ | refine U_seq_ret ?_ | refine U_block_ret ?_ | refine U_nil ?_ | refine S_nil ?_ | refine S_auto ?_
      obtain ⟨v3, h5, O3, q1, q2, q3, q4, q5⟩ := app_row (K := kF) (T := EE.T) (h := h2.new h2.next (.cells (kF.enc (7 * ((N : Int) - (d : Int)), 1048576)) true)) (st := 29) (xt := 29) (news := [((7 * ((N : Int) - (d : Int)), 1048576) : Fl)]) (x := .slice (some ⟨h2.next, 0, none⟩) 1 1) (TL rfl) (TL rfl) ⟨rfl, rfl, by decide⟩ (TL rfl) (hrow.keep fun q hq => by have := hOr q hq; rw [get_new_ne (by omega)]) (by simp) (src_row1 (K := kF) (get_new_self _ _ _)) (by rw [hdl]; simp; omega) (fun q hq => by have := hOr q hq; rw [next_new_self]; omega)
      have hnx5 := q3.1
      rw [next_new_self] at hnx5
      have hk5 : ∀ q, q < p + 2 → h5.get q = h2.get q := fun q hq => by
        rw [q3.2 q (by rw [next_new_self]; omega) (fun hm => by have := hOr q hm; omega), get_new_ne (by omega)]
      have hO3 : ∀ q ∈ O3, p + 2 ≤ q ∧ q < h5.next := fun q hq => ⟨by
        rcases q4 with rfl | rfl
        · exact (hOr q hq).1
        · rw [List.mem_singleton, next_new_self] at hq; omega, q5 q hq⟩
      have hp5 := (hk5 p (by omega)).trans hp
      have hm5 := (hk5 (p + 1) (by omega)).trans hmm
      rw [← downF_succ] at q2
      clear hrow hOr q3 q4 q5 hk5
      refine S_step wants0 (o_buildSlice (by simp only [List.map, aev_tmp, aev_const, aev_func, aev_global, at_put, at_none, n_put, reduceIte, Nat.reduceEqDiff, Nat.reduceLT, zq, *]; first | done | rfl) (bs_row1 (K := kF) (x := ((7 * ((N : Int) - (d : Int)), 1048576) : Fl)) (TL rfl) (TL rfl) ⟨rfl, rfl, by decide⟩ (by decide) rfl)) ?_
      refine S_step wants0 (o_builtin (by simp only [List.map, aev_tmp, aev_const, aev_func, aev_global, at_put, at_none, n_put, reduceIte, Nat.reduceEqDiff, Nat.reduceLT, zq, *]; first | done | rfl) (bi_app q1)) ?_
      clear q1 hp hmm
      repeat first | refine G_seq ?_ | refine G_reg ?_ | refine N_seq ?_ | refine N_block ?_ | refine G_block ?_ | refine G_skip ?_ | refine G_cT ?_ | refine G_cF ?_ | refine G_ret ?_ | refine U_seq_ret ?_ | refine U_block_ret ?_ | refine U_nil ?_ | refine S_nil ?_ | refine S_auto ?_
      refine N_nil ?_
      exact LQ_n (j2 - 1) (by omega) ⟨d + 1, v3, O3, by omega, by simp only [at_put, at_none, n_put, reduceIte, Nat.reduceEqDiff, Nat.reduceLT, zq, *]; first | done | rfl, by simp only [at_put, at_none, n_put, reduceIte, Nat.reduceEqDiff, Nat.reduceLT, zq, *]; first | done | rfl, by simp only [at_put, at_none, n_put, reduceIte, Nat.reduceEqDiff, Nat.reduceLT, zq, *]; first | done | rfl, by simp only [at_put, at_none, n_put, reduceIte, Nat.reduceEqDiff, Nat.reduceLT, zq, *]; first | done | rfl, by simp only [at_put, at_none, n_put, reduceIte, Nat.reduceEqDiff, Nat.reduceLT, zq, *]; first | done | rfl, by simp only [at_put, at_none, n_put, reduceIte, Nat.reduceEqDiff, Nat.reduceLT, zq, *]; first | done | rfl, by simp only [at_put, at_none, n_put, reduceIte, Nat.reduceEqDiff, Nat.reduceLT, zq, *]; first | done | rfl, by simp only [at_put, at_none, n_put, reduceIte, Nat.reduceEqDiff, Nat.reduceLT, zq, *]; first | done | rfl, by rw [← hsub]; simp only [at_put, at_none, n_put, reduceIte, Nat.reduceEqDiff, Nat.reduceLT, zq, *]; first | done | rfl, q2, hO3, hp5, hm5, by omega⟩
    · have hge : ((1 : Int) ≤ (N : Int) - (d : Int)) = False := eq_false (by omega)
      obtain rfl : d = N := by omega
      have hfl := flows_down hNb
      have hdl : (downF d d).length = d := by simp [downF]
      have hbd : ∀ x ∈ downF d d, x.2 ≤ 1099511627776 := fun x hx => by
        obtain ⟨y, _, rfl⟩ := List.mem_map.1 hx
        show (1048576 : Int) ≤ _; decide
      repeat first | refine G_seq ?_ | refine G_reg ?_ | refine N_seq ?_ | refine N_block ?_ | refine G_block ?_ | refine G_skip ?_ | refine G_cT ?_ | refine G_cF ?_ | refine G_ret ?_ | refine U_seq_ret ?_ | refine U_block_ret ?_ | refine U_nil ?_ | refine S_nil ?_ | refine S_auto ?_
      refine G_exit ?_
      repeat first | refine U_seq_exit ?_ | refine U_nil ?_ | refine LQ_exit ?_ | refine U_block_hit ?_
      repeat first | refine G_seq ?_ | refine G_reg ?_ | refine N_seq ?_ | refine N_block ?_ | refine G_block ?_ | refine G_skip ?_ | refine G_cT ?_ | refine G_cF ?_ | refine G_ret ?_ | refine U_seq_ret ?_ | refine U_block_ret ?_ | refine U_nil ?_ | refine S_nil ?_ | refine S_auto ?_
      refine S_call wants0 (by simp only [aev_tmp, aev_const, aev_func, aev_global, at_put, at_none, n_put, reduceIte, Nat.reduceEqDiff, Nat.reduceLT, zq, *]; first | done | rfl) (E_Y _) (by simp only [List.map, aev_tmp, aev_const, aev_func, aev_global, at_put, at_none, n_put, reduceIte, Nat.reduceEqDiff, Nat.reduceLT, zq, *]; first | done | rfl) ?_
      refine (round_spec (n := m) (K := 5000) hp (by omega) hrow (fun i hi => (hOr i hi).2) (by rw [hdl]; omega) (flowsF_wok hbd) (by rw [hfl, upF_len]; omega) ⟨hqb.1, by omega⟩ ⟨hc0, by omega⟩ (by omega) (by omega) (by decide)).mono ?_
      rintro gv h3 ⟨RR, Og, hRR, hgr, hOg, hp3, hk3⟩
      rw [hfl, if_neg (by rw [upF_len]; omega)] at hRR
      obtain ⟨t, ht1, ht2, ht3⟩ := turns_round hN0 5000 (s - 64 * T + q) T (upF d) [] (by omega) (by omega) (upF_TLf (by omega))
      rw [ht1] at hRR
      subst hRR
      replace hgr : RowAt kF h3 (grT d T t) gv Og := hgr
      replace hp3 : h3.get p = some (.cells [.int .i64 q, .int .i64 (s - 64 * T + q - 64 * t), .int .i64 (laT d (T + t)), .bool (anyT (T + t))] true) := hp3
      have hm3 := (hk3.2 (p + 1) (by omega) (fun hm => by have := List.mem_singleton.1 hm; omega)).trans hmm
      have hnx3 := hk3.1
      have hgl := grT_len d T t
      clear hrow hOr hp hmm hk3 ht1 hfl hdl hbd
      refine S_step wants0 (o_builtin (by simp only [List.map, aev_tmp, aev_const, aev_func, aev_global, at_put, at_none, n_put, reduceIte, Nat.reduceEqDiff, Nat.reduceLT, zq, *]; first | done | rfl) (hgr.lenB (TL rfl))) ?_
      rw [hgl]
      repeat first | refine G_seq ?_ | refine G_reg ?_ | refine N_seq ?_ | refine N_block ?_ | refine G_block ?_ | refine G_skip ?_ | refine G_cT ?_ | refine G_cF ?_ | refine G_ret ?_ | refine U_seq_ret ?_ | refine U_block_ret ?_ | refine U_nil ?_ | refine S_nil ?_ | refine S_auto ?_
      refine G_loop (fun j3 a h4 => ∃ (u : Nat) (lm' : List (Int × Int)), u + j3 = t ∧ a.n = 100 ∧ a.at 0 = .int .i64 (d : Int) ∧ a.at 1 = .int .i64 q ∧ a.at 2 = .int .i64 (R : Int) ∧ a.at 7 = .pointer (some ⟨p, 0, none⟩) ∧ a.at 8 = .map (some (p + 1)) ∧ a.at 9 = .int .i64 (k : Int) ∧ a.at 50 = gv ∧ a.at 51 = .int .i64 (t : Int) ∧ a.at 52 = .int .i64 (u : Int) ∧ RowAt kF h4 (grT d T t) gv Og ∧ h3.next ≤ h4.next ∧ h4.get p = some (.cells [.int .i64 q, .int .i64 (s - 64 * T + q - 64 * t), .int .i64 (laT d (T + t)), .bool (anyT (T + t))] true) ∧ h4.get (p + 1) = some (.map (lm'.map kv)) ∧ ∀ i, i < d → getI0 lm' (7 * ((i : Int) + 1)) = (cntT d (T + u) i : Nat)) t (by omega) ⟨0, lm, by omega, by simp only [at_put, at_none, n_put, reduceIte, Nat.reduceEqDiff, Nat.reduceLT, zq, *]; first | done | rfl, by simp only [at_put, at_none, n_put, reduceIte, Nat.reduceEqDiff, Nat.reduceLT, zq, *]; first | done | rfl, by simp only [at_put, at_none, n_put, reduceIte, Nat.reduceEqDiff, Nat.reduceLT, zq, *]; first | done | rfl, by simp only [at_put, at_none, n_put, reduceIte, Nat.reduceEqDiff, Nat.reduceLT, zq, *]; first | done | rfl, by simp only [at_put, at_none, n_put, reduceIte, Nat.reduceEqDiff, Nat.reduceLT, zq, *]; first | done | rfl, by simp only [at_put, at_none, n_put, reduceIte, Nat.reduceEqDiff, Nat.reduceLT, zq, *]; first | done | rfl, by simp only [at_put, at_none, n_put, reduceIte, Nat.reduceEqDiff, Nat.reduceLT, zq, *]; first | done | rfl, by simp only [at_put, at_none, n_put, reduceIte, Nat.reduceEqDiff, Nat.reduceLT, zq, *]; first | done | rfl, by simp only [at_put, at_none, n_put, reduceIte, Nat.reduceEqDiff, Nat.reduceLT, zq, *]; first | done | rfl, by simp only [at_put, at_none, n_put, reduceIte, Nat.reduceEqDiff, Nat.reduceLT, zq, *]; first | done | rfl, hgr, Nat.le_refl _, hp3, hm3, hcnt⟩ ?_
      clear e0 e1 e2 e7 e8 e9 e10 e11 hna hgr hp3 hm3 hcnt
      rintro j3 a h4 ⟨u, lm', huj, hna, e0, e1, e2, e7, e8, e9, e50, e51, e52, hgr, hnx4, hp4, hm4, hcnt⟩
      by_cases hut : u < t
      · have hut' : ((u : Int) < (t : Int)) = True := eq_true (by omega)
        obtain ⟨bk, cs, g1, g2, gm, gc, _⟩ := hgr.index (T := EE.T) (st := 36) (TL rfl) (TL rfl) ⟨rfl, rfl, by decide⟩ (i := u) (by rw [hgl]; exact hut)
        rw [grT_at] at gc
        have hbkl : bk < h3.next := (hOg bk gm).2
        generalize hcn : (7 * ((((T + u) % d : Nat) : Int) + 1) : Int) = cn at *
        have h64 : ((64 : Int) ≠ 64) = False := by simp
        have hlk := lk_kv (k := cn) hm4
        have hpt := mput_kv cn (getI0 lm' cn + 1) lm'
        have hcnn : cn = 7 * ((((T + u) % d : Nat) : Int) + 1) := hcn.symm
        have hcv : getI0 lm' cn = (cntT d (T + u) ((T + u) % d) : Nat) := by rw [hcnn]; exact hcnt _ (Nat.mod_lt _ hN0)
        have hcb : cntT d (T + u) ((T + u) % d) ≤ T + u + 1 := by
          have := (cnt_le hN0 (T + u) (Nat.mod_lt (T + u) hN0)).2
          have := Nat.div_le_self (T + u) d
          omega
        have hcnt' : ∀ i, i < d → getI0 (putI cn (getI0 lm' cn + 1) lm') (7 * ((i : Int) + 1)) = (cntT d (T + (u + 1)) i : Nat) := fun i hi => by
          rw [getI0_put]
          show _ = ((cntT d (T + u) i + (if (T + u) % d = i then 1 else 0) : Nat) : Int)
          by_cases hi2 : (T + u) % d = i
          · rw [if_pos (by rw [hcnn, hi2]), if_pos hi2, hcv, hi2]; omega
          · rw [if_neg (by rw [hcnn]; omega), if_neg hi2, hcnt i hi]; rfl
        have hsmall : getI0 lm' cn + 1 ≤ 9223372036854775807 ∧ -9223372036854775808 ≤ getI0 lm' cn + 1 := by rw [hcv]; omega
        clear hcnn hcv hcn hcnt
        repeat first | refine G_seq ?_ | refine G_reg ?_ | refine N_seq ?_ | refine N_block ?_ | refine G_block ?_ | refine G_skip ?_ | refine G_cT ?_ | refine G_cF ?_ | refine G_ret ?_ | refine U_seq_ret ?_ | refine U_block_ret ?_ | refine U_nil ?_ | refine S_nil ?_ | refine S_auto ?_
        refine S_step wants0 (o_indexAddr (by simp only [aev_tmp, aev_const, aev_func, aev_global, at_put, at_none, n_put, reduceIte, Nat.reduceEqDiff, Nat.reduceLT, zq, *]; first | done | rfl) (by simp only [aev_tmp, aev_const, aev_func, aev_global, at_put, at_none, n_put, reduceIte, Nat.reduceEqDiff, Nat.reduceLT, zq, *]; first | done | rfl) g1) ?_
        refine S_step wants0 (o_ldA (by simp only [aev_tmp, aev_const, aev_func, aev_global, at_put, at_none, n_put, reduceIte, Nat.reduceEqDiff, Nat.reduceLT, zq, *]; first | done | rfl) (TL rfl) rfl (rd_cells (by simp (disch := omega) only [get_set_self, get_new_self, get_set_ne, get_new_ne, get_bump, next_set, next_new, Nat.lt_irrefl, reduceIte, next_kill, next_bump, *]; first | done | rfl)) (gc.trans rfl)) ?_
        clear g1 g2 gc
        repeat first | refine G_seq ?_ | refine G_reg ?_ | refine N_seq ?_ | refine N_block ?_ | refine G_block ?_ | refine G_skip ?_ | refine G_cT ?_ | refine G_cF ?_ | refine G_ret ?_ | refine U_seq_ret ?_ | refine U_block_ret ?_ | refine U_nil ?_ | refine S_nil ?_ | refine S_auto ?_
        refine S_step wants0 (o_lookup (by simp only [aev_tmp, aev_const, aev_func, aev_global, at_put, at_none, n_put, reduceIte, Nat.reduceEqDiff, Nat.reduceLT, zq, *]; first | done | rfl) (by simp only [aev_tmp, aev_const, aev_func, aev_global, at_put, at_none, n_put, reduceIte, Nat.reduceEqDiff, Nat.reduceLT, zq, *]; first | done | rfl) (lk_kv (by simp (disch := omega) only [get_set_self, get_new_self, get_set_ne, get_new_ne, get_bump, next_set, next_new, Nat.lt_irrefl, reduceIte, next_kill, next_bump, *]; first | done | rfl))) ?_
        refine S_step wants0 (o_bin (by simp only [aev_tmp, aev_const, aev_func, aev_global, at_put, at_none, n_put, reduceIte, Nat.reduceEqDiff, Nat.reduceLT, zq, *]; first | done | rfl) (by simp only [aev_tmp, aev_const, aev_func, aev_global, at_put, at_none, n_put, reduceIte, Nat.reduceEqDiff, Nat.reduceLT, zq, *]; first | done | rfl) (b_add hsmall.2 hsmall.1)) ?_
        refine S_step wants0 (o_mapUpdate (by simp only [aev_tmp, aev_const, aev_func, aev_global, at_put, at_none, n_put, reduceIte, Nat.reduceEqDiff, Nat.reduceLT, zq, *]; first | done | rfl) (by simp only [aev_tmp, aev_const, aev_func, aev_global, at_put, at_none, n_put, reduceIte, Nat.reduceEqDiff, Nat.reduceLT, zq, *]; first | done | rfl) (by simp only [aev_tmp, aev_const, aev_func, aev_global, at_put, at_none, n_put, reduceIte, Nat.reduceEqDiff, Nat.reduceLT, zq, *]; first | done | rfl) (upd_ok (TL rfl) (isKey_int (TL rfl)) (by simp (disch := omega) only [get_set_self, get_new_self, get_set_ne, get_new_ne, get_bump, next_set, next_new, Nat.lt_irrefl, reduceIte, next_kill, next_bump, *]; first | done | rfl) hpt)) ?_
        clear hlk hpt hm4 hsmall
        repeat first | refine G_seq ?_ | refine G_reg ?_ | refine N_seq ?_ | refine N_block ?_ | refine G_block ?_ | refine G_skip ?_ | refine G_cT ?_ | refine G_cF ?_ | refine G_ret ?_ | refine U_seq_ret ?_ | refine U_block_ret ?_ | refine U_nil ?_ | refine S_nil ?_ | refine S_auto ?_
        refine N_nil ?_
        refine LQ_n (j3 - 1) (by omega) ⟨u + 1, putI cn (getI0 lm' cn + 1) lm', by omega, by simp only [at_put, at_none, n_put, reduceIte, Nat.reduceEqDiff, Nat.reduceLT, zq, *]; first | done | rfl, by simp only [at_put, at_none, n_put, reduceIte, Nat.reduceEqDiff, Nat.reduceLT, zq, *]; first | done | rfl, by simp only [at_put, at_none, n_put, reduceIte, Nat.reduceEqDiff, Nat.reduceLT, zq, *]; first | done | rfl, by simp only [at_put, at_none, n_put, reduceIte, Nat.reduceEqDiff, Nat.reduceLT, zq, *]; first | done | rfl, by simp only [at_put, at_none, n_put, reduceIte, Nat.reduceEqDiff, Nat.reduceLT, zq, *]; first | done | rfl, by simp only [at_put, at_none, n_put, reduceIte, Nat.reduceEqDiff, Nat.reduceLT, zq, *]; first | done | rfl, by simp only [at_put, at_none, n_put, reduceIte, Nat.reduceEqDiff, Nat.reduceLT, zq, *]; first | done | rfl, by simp only [at_put, at_none, n_put, reduceIte, Nat.reduceEqDiff, Nat.reduceLT, zq, *]; first | done | rfl, by simp only [at_put, at_none, n_put, reduceIte, Nat.reduceEqDiff, Nat.reduceLT, zq, *]; first | done | rfl, by rw [Int.natCast_add]; simp only [at_put, at_none, n_put, reduceIte, Nat.reduceEqDiff, Nat.reduceLT, zq, *]; first | done | rfl, ?_, by simp only [next_set, next_new, Nat.lt_irrefl, reduceIte]; omega, by simp (disch := omega) only [get_set_self, get_new_self, get_set_ne, get_new_ne, get_bump, next_set, next_new, Nat.lt_irrefl, reduceIte, next_kill, next_bump, *]; first | done | rfl, by simp (disch := omega) only [get_set_self, get_new_self, get_set_ne, get_new_ne, get_bump, next_set, next_new, Nat.lt_irrefl, reduceIte, next_kill, next_bump, *]; first | done | rfl, hcnt'⟩
        refine hgr.keep fun w hw => ?_
        have hw1 := hOg w hw
        have hwp : w ≠ p + 1 := by omega
        have hw4 : w < h4.next := by omega
        clear hp4
        simp (disch := omega) only [get_set_self, get_new_self, get_set_ne, get_new_ne, get_bump, next_set, next_new, Nat.lt_irrefl, reduceIte, next_kill, next_bump, *]; first | done | rfl
      · have hut' : ((u : Int) < (t : Int)) = False := eq_false (by omega)
        obtain rfl : u = t := by omega
        repeat first | refine G_seq ?_ | refine G_reg ?_ | refine N_seq ?_ | refine N_block ?_ | refine G_block ?_ | refine G_skip ?_ | refine G_cT ?_ | refine G_cF ?_ | refine G_ret ?_ | refine U_seq_ret ?_ | refine U_block_ret ?_ | refine U_nil ?_ | refine S_nil ?_ | refine S_auto ?_
        refine G_exit ?_
        repeat first | refine U_seq_exit ?_ | refine U_nil ?_ | refine LQ_exit ?_ | refine U_block_hit ?_
        repeat first | refine G_seq ?_ | refine G_reg ?_ | refine N_seq ?_ | refine N_block ?_ | refine G_block ?_ | refine G_skip ?_ | refine G_cT ?_ | refine G_cF ?_ | refine G_ret ?_ | refine U_seq_ret ?_ | refine U_block_ret ?_ | refine U_nil ?_ | refine S_nil ?_ | refine S_auto ?_
        refine N_nil ?_
        have hce : s + q - 64 * ((T + u : Nat) : Int) = s - 64 * T + q - 64 * u := by omega
        exact LQ_n (j - 1) (by omega) ⟨k + 1, T + u, s + q, lm', by omega, by simp only [at_put, at_none, n_put, reduceIte, Nat.reduceEqDiff, Nat.reduceLT, zq, *]; first | done | rfl, by simp only [at_put, at_none, n_put, reduceIte, Nat.reduceEqDiff, Nat.reduceLT, zq, *]; first | done | rfl, by simp only [at_put, at_none, n_put, reduceIte, Nat.reduceEqDiff, Nat.reduceLT, zq, *]; first | done | rfl, by simp only [at_put, at_none, n_put, reduceIte, Nat.reduceEqDiff, Nat.reduceLT, zq, *]; first | done | rfl, by simp only [at_put, at_none, n_put, reduceIte, Nat.reduceEqDiff, Nat.reduceLT, zq, *]; first | done | rfl, by simp only [at_put, at_none, n_put, reduceIte, Nat.reduceEqDiff, Nat.reduceLT, zq, *]; first | done | rfl, by rw [Int.natCast_add]; simp only [at_put, at_none, n_put, reduceIte, Nat.reduceEqDiff, Nat.reduceLT, zq, *]; first | done | rfl, by rw [hs, Int.natCast_add, Int.add_mul]; omega, by omega, by omega, by omega, by rw [hce]; exact hp4, hm4, by omega, hcnt⟩
  · have hkR' : ((k : Int) < (R : Int)) = False := eq_false (by omega)
    obtain rfl : k = R := by omega
    have hTb : (T : Int) ≤ 500 := by omega
    obtain ⟨D, hD⟩ : ∃ D, D = T / N := ⟨_, rfl⟩
    have hDT : D ≤ T := by rw [hD]; exact Nat.div_le_self T N
    repeat first | refine G_seq ?_ | refine G_reg ?_ | refine N_seq ?_ | refine N_block ?_ | refine G_block ?_ | refine G_skip ?_ | refine G_cT ?_ | refine G_cF ?_ | refine G_ret ?_ | refine U_seq_ret ?_ | refine U_block_ret ?_ | refine U_nil ?_ | refine S_nil ?_ | refine S_auto ?_
    refine G_exit ?_
    repeat first | refine U_seq_exit ?_ | refine U_nil ?_ | refine LQ_exit ?_ | refine U_block_hit ?_
    repeat first | refine G_seq ?_ | refine G_reg ?_ | refine N_seq ?_ | refine N_block ?_ | refine G_block ?_ | refine G_skip ?_ | refine G_cT ?_ | refine G_cF ?_ | refine G_ret ?_ | refine U_seq_ret ?_ | refine U_block_ret ?_ | refine U_nil ?_ | refine S_nil ?_ | refine S_auto ?_
    refine G_loop (fun j2 a h2 => ∃ (i : Nat) (le mo : Int), i + j2 = N ∧ h2 = h1 ∧ a.n = 100 ∧ a.at 0 = .int .i64 (N : Int) ∧ a.at 1 = .int .i64 q ∧ a.at 2 = .int .i64 (k : Int) ∧ a.at 8 = .map (some (p + 1)) ∧ a.at 14 = .int .i64 le ∧ a.at 15 = .int .i64 mo ∧ a.at 16 = .int .i64 (sumT N T i : Nat) ∧ a.at 17 = .int .i64 ((i : Int) + 1) ∧ (D : Int) ≤ le ∧ le ≤ 1073741824 ∧ 0 ≤ mo ∧ mo ≤ (D : Int) + 1) N (by omega) ⟨0, 1073741824, 0, by omega, rfl, by simp only [at_put, at_none, n_put, reduceIte, Nat.reduceEqDiff, Nat.reduceLT, zq, *]; first | done | rfl, by simp only [at_put, at_none, n_put, reduceIte, Nat.reduceEqDiff, Nat.reduceLT, zq, *]; first | done | rfl, by simp only [at_put, at_none, n_put, reduceIte, Nat.reduceEqDiff, Nat.reduceLT, zq, *]; first | done | rfl, by simp only [at_put, at_none, n_put, reduceIte, Nat.reduceEqDiff, Nat.reduceLT, zq, *]; first | done | rfl, by simp only [at_put, at_none, n_put, reduceIte, Nat.reduceEqDiff, Nat.reduceLT, zq, *]; first | done | rfl, by simp only [at_put, at_none, n_put, reduceIte, Nat.reduceEqDiff, Nat.reduceLT, zq, *]; first | done | rfl, by simp only [at_put, at_none, n_put, reduceIte, Nat.reduceEqDiff, Nat.reduceLT, zq, *]; first | done | rfl, by simp only [at_put, at_none, n_put, reduceIte, Nat.reduceEqDiff, Nat.reduceLT, zq, *]; first | done | rfl, by simp only [at_put, at_none, n_put, reduceIte, Nat.reduceEqDiff, Nat.reduceLT, zq, *]; first | done | rfl, by omega, by omega, by omega, by omega⟩ ?_
    clear e0 e1 e2 e7 e8 e9 hna
    rintro j2 a h2 ⟨i, le, mo, hij, rfl, hna, e0, e1, e2, e8, e14, e15, e16, e17, hl1, hl2, hl3, hl4⟩
    have hsl := sum_le N i T
    by_cases hiN : i < N
    · have hiN' : ((i : Int) + 1 ≤ (N : Int)) = True := eq_true (by omega)
      have hci := hcnt i hiN
      have hcb := cnt_le hN0 T hiN
      rw [← hD] at hcb
      have hlk := lk_kv (k := 7 * ((i : Int) + 1)) hmm
      rw [hci] at hlk
      repeat first | refine G_seq ?_ | refine G_reg ?_ | refine N_seq ?_ | refine N_block ?_ | refine G_block ?_ | refine G_skip ?_ | refine G_cT ?_ | refine G_cF ?_ | refine G_ret ?_ | refine U_seq_ret ?_ | refine U_block_ret ?_ | refine U_nil ?_ | refine S_nil ?_ | refine S_auto ?_
      refine S_step wants0 (o_bin (by simp only [aev_tmp, aev_const, aev_func, aev_global, at_put, at_none, n_put, reduceIte, Nat.reduceEqDiff, Nat.reduceLT, zq, *]; first | done | rfl) (by simp only [aev_tmp, aev_const, aev_func, aev_global, at_put, at_none, n_put, reduceIte, Nat.reduceEqDiff, Nat.reduceLT, zq, *]; first | done | rfl) (b_mul (by omega) (by omega))) ?_
      refine S_step wants0 (o_lookup (by simp only [aev_tmp, aev_const, aev_func, aev_global, at_put, at_none, n_put, reduceIte, Nat.reduceEqDiff, Nat.reduceLT, zq, *]; first | done | rfl) (by simp only [aev_tmp, aev_const, aev_func, aev_global, at_put, at_none, n_put, reduceIte, Nat.reduceEqDiff, Nat.reduceLT, zq, *]; first | done | rfl) hlk) ?_
      refine S_step wants0 (o_builtin (by simp only [List.map, aev_tmp, aev_const, aev_func, aev_global, at_put, at_none, n_put, reduceIte, Nat.reduceEqDiff, Nat.reduceLT, zq, *]; first | done | rfl) bi_min) ?_
      repeat first | refine G_seq ?_ | refine G_reg ?_ | refine N_seq ?_ | refine N_block ?_ | refine G_block ?_ | refine G_skip ?_ | refine G_cT ?_ | refine G_cF ?_ | refine G_ret ?_ | refine U_seq_ret ?_ | refine U_block_ret ?_ | refine U_nil ?_ | refine S_nil ?_ | refine S_auto ?_
      refine S_step wants0 (o_bin (by simp only [aev_tmp, aev_const, aev_func, aev_global, at_put, at_none, n_put, reduceIte, Nat.reduceEqDiff, Nat.reduceLT, zq, *]; first | done | rfl) (by simp only [aev_tmp, aev_const, aev_func, aev_global, at_put, at_none, n_put, reduceIte, Nat.reduceEqDiff, Nat.reduceLT, zq, *]; first | done | rfl) (b_mul (by omega) (by omega))) ?_
      refine S_step wants0 (o_lookup (by simp only [aev_tmp, aev_const, aev_func, aev_global, at_put, at_none, n_put, reduceIte, Nat.reduceEqDiff, Nat.reduceLT, zq, *]; first | done | rfl) (by simp only [aev_tmp, aev_const, aev_func, aev_global, at_put, at_none, n_put, reduceIte, Nat.reduceEqDiff, Nat.reduceLT, zq, *]; first | done | rfl) hlk) ?_
      refine S_step wants0 (o_builtin (by simp only [List.map, aev_tmp, aev_const, aev_func, aev_global, at_put, at_none, n_put, reduceIte, Nat.reduceEqDiff, Nat.reduceLT, zq, *]; first | done | rfl) bi_max) ?_
      repeat first | refine G_seq ?_ | refine G_reg ?_ | refine N_seq ?_ | refine N_block ?_ | refine G_block ?_ | refine G_skip ?_ | refine G_cT ?_ | refine G_cF ?_ | refine G_ret ?_ | refine U_seq_ret ?_ | refine U_block_ret ?_ | refine U_nil ?_ | refine S_nil ?_ | refine S_auto ?_
      refine S_step wants0 (o_bin (by simp only [aev_tmp, aev_const, aev_func, aev_global, at_put, at_none, n_put, reduceIte, Nat.reduceEqDiff, Nat.reduceLT, zq, *]; first | done | rfl) (by simp only [aev_tmp, aev_const, aev_func, aev_global, at_put, at_none, n_put, reduceIte, Nat.reduceEqDiff, Nat.reduceLT, zq, *]; first | done | rfl) (b_mul (by omega) (by omega))) ?_
      refine S_step wants0 (o_lookup (by simp only [aev_tmp, aev_const, aev_func, aev_global, at_put, at_none, n_put, reduceIte, Nat.reduceEqDiff, Nat.reduceLT, zq, *]; first | done | rfl) (by simp only [aev_tmp, aev_const, aev_func, aev_global, at_put, at_none, n_put, reduceIte, Nat.reduceEqDiff, Nat.reduceLT, zq, *]; first | done | rfl) hlk) ?_
      refine S_step wants0 (o_bin (by simp only [aev_tmp, aev_const, aev_func, aev_global, at_put, at_none, n_put, reduceIte, Nat.reduceEqDiff, Nat.reduceLT, zq, *]; first | done | rfl) (by simp only [aev_tmp, aev_const, aev_func, aev_global, at_put, at_none, n_put, reduceIte, Nat.reduceEqDiff, Nat.reduceLT, zq, *]; first | done | rfl) (b_add (by omega) (by omega))) ?_
      clear hlk hci
      repeat first | refine G_seq ?_ | refine G_reg ?_ | refine N_seq ?_ | refine N_block ?_ | refine G_block ?_ | refine G_skip ?_ | refine G_cT ?_ | refine G_cF ?_ | refine G_ret ?_ | refine U_seq_ret ?_ | refine U_block_ret ?_ | refine U_nil ?_ | refine S_nil ?_ | refine S_auto ?_
      refine N_nil ?_
      exact LQ_n (j2 - 1) (by omega) ⟨i + 1, min le (cntT N T i : Nat), max mo (cntT N T i : Nat), by omega, rfl, by simp only [at_put, at_none, n_put, reduceIte, Nat.reduceEqDiff, Nat.reduceLT, zq, *]; first | done | rfl, by simp only [at_put, at_none, n_put, reduceIte, Nat.reduceEqDiff, Nat.reduceLT, zq, *]; first | done | rfl, by simp only [at_put, at_none, n_put, reduceIte, Nat.reduceEqDiff, Nat.reduceLT, zq, *]; first | done | rfl, by simp only [at_put, at_none, n_put, reduceIte, Nat.reduceEqDiff, Nat.reduceLT, zq, *]; first | done | rfl, by simp only [at_put, at_none, n_put, reduceIte, Nat.reduceEqDiff, Nat.reduceLT, zq, *]; first | done | rfl, by simp only [at_put, at_none, n_put, reduceIte, Nat.reduceEqDiff, Nat.reduceLT, zq, *]; first | done | rfl, by simp only [at_put, at_none, n_put, reduceIte, Nat.reduceEqDiff, Nat.reduceLT, zq, *]; first | done | rfl, by show _ = Value.int .i64 ((sumT N T i + cntT N T i : Nat) : Int); rw [Int.natCast_add]; simp only [at_put, at_none, n_put, reduceIte, Nat.reduceEqDiff, Nat.reduceLT, zq, *]; first | done | rfl, by rw [Int.natCast_add]; simp only [at_put, at_none, n_put, reduceIte, Nat.reduceEqDiff, Nat.reduceLT, zq, *]; first | done | rfl, by omega, by omega, by omega, by omega⟩
    · have hiN' : ((i : Int) + 1 ≤ (N : Int)) = False := eq_false (by omega)
      obtain rfl : i = N := by omega
      have hsa := sum_all hN0 T
      rw [hsa] at e16
      have hle1 : (mo - le ≤ 1) = True := eq_true (by omega)
      have hTe : ((T : Int) = s / 64) = True := eq_true (by omega)
      have hks : (k : Int) * q = s := hs.symm
      clear hsa hsl hs hD
      repeat first | refine G_seq ?_ | refine G_reg ?_ | refine N_seq ?_ | refine N_block ?_ | refine G_block ?_ | refine G_skip ?_ | refine G_cT ?_ | refine G_cF ?_ | refine G_ret ?_ | refine U_seq_ret ?_ | refine U_block_ret ?_ | refine U_nil ?_ | refine S_nil ?_ | refine S_auto ?_
      refine G_exit ?_
      repeat first | refine U_seq_exit ?_ | refine U_nil ?_ | refine LQ_exit ?_ | refine U_block_hit ?_
      repeat first | refine G_seq ?_ | refine G_reg ?_ | refine N_seq ?_ | refine N_block ?_ | refine G_block ?_ | refine G_skip ?_ | refine G_cT ?_ | refine G_cF ?_ | refine G_ret ?_ | refine U_seq_ret ?_ | refine U_block_ret ?_ | refine U_nil ?_ | refine S_nil ?_ | refine S_noG ?_ | refine S_auto ?_
      refine S_step (by first | exact wants0 | exact (wantsG rfl rfl (by simp only [n_put, *]; decide) (by simp only [at_put, at_none, n_put, reduceIte, Nat.reduceEqDiff, Nat.reduceLT, cond_true, cond_false, ne_eq, not_true_eq_false, not_false_eq_true, decide_true, decide_false, Bool.not_true, Bool.not_false, eq_self, Int.lt_irrefl, Int.le_refl, *]; first | done | rfl)).trans rfl) (o_bin (by simp only [aev_tmp, aev_const, aev_func, aev_global, at_put, at_none, n_put, reduceIte, Nat.reduceEqDiff, Nat.reduceLT, zq, *]; first | done | rfl) (by simp only [aev_tmp, aev_const, aev_func, aev_global, at_put, at_none, n_put, reduceIte, Nat.reduceEqDiff, Nat.reduceLT, zq, *]; first | done | rfl) (b_mul (by rw [hks]; omega) (by rw [hks]; omega))) ?_
      rw [hks]
      refine S_step (by first | exact wants0 | exact (wantsG rfl rfl (by simp only [n_put, *]; decide) (by simp only [at_put, at_none, n_put, reduceIte, Nat.reduceEqDiff, Nat.reduceLT, cond_true, cond_false, ne_eq, not_true_eq_false, not_false_eq_true, decide_true, decide_false, Bool.not_true, Bool.not_false, eq_self, Int.lt_irrefl, Int.le_refl, *]; first | done | rfl)).trans rfl) (o_bin (by simp only [aev_tmp, aev_const, aev_func, aev_global, at_put, at_none, n_put, reduceIte, Nat.reduceEqDiff, Nat.reduceLT, zq, *]; first | done | rfl) (by simp only [aev_tmp, aev_const, aev_func, aev_global, at_put, at_none, n_put, reduceIte, Nat.reduceEqDiff, Nat.reduceLT, zq, *]; first | done | rfl) (b_quo64 (by omega) (by omega))) ?_
      repeat first | refine G_seq ?_ | refine G_reg ?_ | refine N_seq ?_ | refine N_block ?_ | refine G_block ?_ | refine G_skip ?_ | refine G_cT ?_ | refine G_cF ?_ | refine G_ret ?_ | refine U_seq_ret ?_ | refine U_block_ret ?_ | refine U_nil ?_ | refine S_nil ?_ | refine S_noG ?_ | refine S_auto ?_
      refine FQ_in (by first | exact .inr rfl | exact .inl rfl) (by first | exact ares1 (by simp only [at_put, at_none, n_put, reduceIte, Nat.reduceEqDiff, Nat.reduceLT, zq, *]; first | done | rfl) | exact ares2 (by simp only [at_put, at_none, n_put, reduceIte, Nat.reduceEqDiff, Nat.reduceLT, zq, *]; first | done | rfl) (by simp only [at_put, at_none, n_put, reduceIte, Nat.reduceEqDiff, Nat.reduceLT, zq, *]; first | done | rfl)) ?_
      rfl
end Go.Proofs.Yteffhomollmpdaa.AM.SX
