import Derived.Test.YteffhomollmpdaaQZ1
import Derived.Test.YteffhomollmpdaaXChg
/- Robin: a round. -/
namespace Go.Proofs.Yteffhomollmpdaa.AM.SX
open Go
set_option linter.unusedVariables false
set_option linter.unusedSimpArgs false
set_option maxRecDepth 100000
set_option maxHeartbeats 8000000
attribute [local irreducible] astep0 aev awants abin abuild
theorem S_gen {E : Env} {cf : CallF} {ops : Array Oper} {os : List Oper} {a : AAct} {h : AHeap} {Q : AAct → AHeap → Prop} (P : AAct → AHeap → Prop) (hp : P a h) (hh : ∀ a h, P a h → S E cf ops os a h Q) : S E cf ops os a h Q := hh a h hp
def pickI (la : Int) (any : Bool) (lf : List Fl) : Nat := (lf.findIdx? fun x => any && decide (la < x.1)).getD 0
def roundL : Nat → Int → Int → Bool → List Fl → List Fl → Int × Int × Bool × List Fl
  | 0, c, la, any, lf, out => (c, la, any, out)
  | k + 1, c, la, any, lf, out =>
    if lf.length = 0 then (0, la, any, out)
    else if c < min (lf.getD (pickI la any lf) (0, 0)).2 64 then (c, la, any, out)
    else roundL k (c - min (lf.getD (pickI la any lf) (0, 0)).2 64) (lf.getD (pickI la any lf) (0, 0)).1 true
      (if (lf.getD (pickI la any lf) (0, 0)).2 - min (lf.getD (pickI la any lf) (0, 0)).2 64 = 0 then lf.eraseIdx (pickI la any lf) else lf.set (pickI la any lf) ((lf.getD (pickI la any lf) (0, 0)).1, (lf.getD (pickI la any lf) (0, 0)).2 - min (lf.getD (pickI la any lf) (0, 0)).2 64))
      (out ++ [((lf.getD (pickI la any lf) (0, 0)).1, min (lf.getD (pickI la any lf) (0, 0)).2 64)])
theorem idxR_pick {P : Fl → Bool} {l : List Fl} {i : Int} (h : IdxR P l i) : max i 0 = ((l.findIdx? P).getD 0 : Nat) := by
  cases h with
  | none hq =>
    have : l.findIdx? P = none := by
      rw [List.findIdx?_eq_none_iff]
      intro x hx
      obtain ⟨i, hi, rfl⟩ := List.mem_iff_getElem.1 hx
      exact hq i hi
    rw [this]; rfl
  | some i hi he hq =>
    have : l.findIdx? P = some i := by
      rw [List.findIdx?_eq_some_iff_getElem]
      exact ⟨hi, he, fun j hj => by simp [hq j (by omega) hj]⟩
    rw [this]
    show max (i : Int) 0 = (i : Int)
    omega
theorem pickI_lt {la : Int} {any : Bool} {lf : List Fl} (h : 0 < lf.length) : pickI la any lf < lf.length := by
  unfold pickI
  cases hf : lf.findIdx? fun x => any && decide (la < x.1) with
  | none => exact h
  | some i => exact (List.findIdx?_eq_some_iff_getElem.1 hf).1
/-- what is left: its value -/
def LeftAt (base : Nat) (O : List Nat) (h : AHeap) (lf : List Fl) (v : Value) : Prop :=
  (lf = [] ∧ ∃ A c, v = .slice A 0 c) ∨ ∃ bl js, base ≤ bl ∧ bl < h.next ∧ bl ∉ O ∧ v = .slice (some ⟨bl, 0, none⟩) lf.length (CAPX + kF.sz) ∧ h.get bl = some (.cells (kF.fl (lf ++ js)) true)
theorem LeftAt.len {base : Nat} {O : List Nat} {h : AHeap} {lf : List Fl} {v : Value} (hv : LeftAt base O h lf v) : ∃ A c, v = .slice A lf.length c := by
  rcases hv with ⟨rfl, A, c, rfl⟩ | ⟨bl, js, _, _, _, rfl, _⟩
  · exact ⟨A, c, rfl⟩
  · exact ⟨_, _, rfl⟩
def WOk (lf : List Fl) : Prop := ∀ x ∈ lf, 0 < x.2 ∧ x.2 ≤ 1099511627776
section
variable {n : Nat} {h : AHeap}
theorem new_spec (q : Int) : C EE (n + 1) 8 [.int .i64 q] h fun r h' => r = .pointer (some ⟨h.next, 0, none⟩) ∧ h' = h.new h.next (.cells [.int .i64 (min (max q 1) 1048576), .int .i64 0, .int .i64 0, .bool false] true) := by
  refine C_in (E_X _) F_new rfl rfl rfl ?_
  intro a hna hat
  have e0 := hat 0 _ rfl
  replace hna : a.n = 8 := hna
  clear hat
  repeat first | refine G_seq ?_ | refine G_reg ?_ | refine N_seq ?_ | refine N_block ?_ | refine G_block ?_ | refine G_skip ?_ | refine G_cT ?_ | refine G_cF ?_ | refine G_ret ?_ | refine U_seq_ret ?_ | refine U_block_ret ?_ | refine U_nil ?_ | refine S_nil ?_ | refine S_auto ?_
  refine S_step wants0 (o_builtin (by simp only [List.map, aev_tmp, aev_const, aev_func, aev_global, at_put, at_none, n_put, reduceIte, Nat.reduceEqDiff, Nat.reduceLT, zq, *]; first | done | rfl) bi_max) ?_
  refine S_step wants0 (o_builtin (by simp only [List.map, aev_tmp, aev_const, aev_func, aev_global, at_put, at_none, n_put, reduceIte, Nat.reduceEqDiff, Nat.reduceLT, zq, *]; first | done | rfl) bi_min) ?_
  repeat first | refine G_seq ?_ | refine G_reg ?_ | refine N_seq ?_ | refine N_block ?_ | refine G_block ?_ | refine G_skip ?_ | refine G_cT ?_ | refine G_cF ?_ | refine G_ret ?_ | refine U_seq_ret ?_ | refine U_block_ret ?_ | refine U_nil ?_ | refine S_nil ?_ | refine S_auto ?_
  refine FQ_in (by first | exact .inr rfl | exact .inl rfl) (by first | exact ares1 (by simp only [at_put, at_none, n_put, reduceIte, Nat.reduceEqDiff, Nat.reduceLT, zq, *]; first | done | rfl) | exact ares2 (by simp only [at_put, at_none, n_put, reduceIte, Nat.reduceEqDiff, Nat.reduceLT, zq, *]; first | done | rfl) (by simp only [at_put, at_none, n_put, reduceIte, Nat.reduceEqDiff, Nat.reduceLT, zq, *]; first | done | rfl)) ?_
  exact ⟨rfl, rfl⟩
theorem credit_spec {p : Nat} {q c la : Int} {any z : Bool} (hp : h.get p = some (.cells [.int .i64 q, .int .i64 c, .int .i64 la, .bool any] z)) : C EE (n + 1) 15 [.pointer (some ⟨p, 0, none⟩)] h fun r h' => r = .int .i64 c ∧ h' = h := by
  refine C_in (E_X _) F_credit rfl rfl rfl ?_
  intro a hna hat
  have e0 := hat 0 _ rfl
  replace hna : a.n = 7 := hna
  clear hat
  repeat first | refine G_seq ?_ | refine G_reg ?_ | refine N_seq ?_ | refine N_block ?_ | refine G_block ?_ | refine G_skip ?_ | refine G_cT ?_ | refine G_cF ?_ | refine G_ret ?_ | refine U_seq_ret ?_ | refine U_block_ret ?_ | refine U_nil ?_ | refine S_nil ?_ | refine S_auto ?_
  refine FQ_in (by first | exact .inr rfl | exact .inl rfl) (by first | exact ares1 (by simp only [at_put, at_none, n_put, reduceIte, Nat.reduceEqDiff, Nat.reduceLT, zq, *]; first | done | rfl) | exact ares2 (by simp only [at_put, at_none, n_put, reduceIte, Nat.reduceEqDiff, Nat.reduceLT, zq, *]; first | done | rfl) (by simp only [at_put, at_none, n_put, reduceIte, Nat.reduceEqDiff, Nat.reduceLT, zq, *]; first | done | rfl)) ?_
  exact ⟨rfl, rfl⟩
theorem round_spec {p K : Nat} {q c la : Int} {any : Bool} {l : List Fl} {v : Value} {O : List Nat} (hp : h.get p = some (.cells [.int .i64 q, .int .i64 c, .int .i64 la, .bool any] true)) (hpl : p < h.next) (hv : RowAt kF h l v O) (hO : ∀ i ∈ O, i < h.next) (hl : l.length ≤ 20) (hw : WOk (flowsF l)) (hlf : (flowsF l).length ≤ 20) (hq : 1 ≤ q ∧ q ≤ 1048576) (hc : 0 ≤ c ∧ c ≤ 1048576) (hK : c + q < K) (hKn : K + 100 ≤ n) (hKb : K ≤ 4000000) :
    C EE (n + 1) 14 [.pointer (some ⟨p, 0, none⟩), v] h fun r h' => ∃ R O', R = roundL K (if (flowsF l).length = 0 then c else c + q) la any (flowsF l) [] ∧ RowAt kF h' R.2.2.2 r O' ∧ (∀ i ∈ O', h.next ≤ i ∧ i < h'.next) ∧ h'.get p = some (.cells [.int .i64 q, .int .i64 R.1, .int .i64 R.2.1, .bool R.2.2.1] true) ∧ Keep h h' [p] := by
  refine C_in (E_X _) F_round rfl rfl rfl ?_
  intro a hna hat
  have e0 := hat 0 _ rfl
  have e1 := hat 1 _ rfl
  replace hna : a.n = 97 := hna
  clear hat
  obtain ⟨m, rfl⟩ : ∃ m, n = m + 1 := ⟨n - 1, by omega⟩
  obtain ⟨hq1, hq2⟩ := hq
  obtain ⟨hc1, hc2⟩ := hc
  refine G_seq ?_
  refine G_reg ?_
  repeat first | refine S_nil ?_ | refine S_auto ?_
  refine N_seq ?_
  refine G_seq ?_
  refine G_reg ?_
  repeat first | refine S_nil ?_ | refine S_auto ?_
  refine S_call wants0 (by simp only [aev_tmp, aev_const, aev_func, aev_global, at_put, at_none, n_put, reduceIte, Nat.reduceEqDiff, Nat.reduceLT, zq, *]; first | done | rfl) (E_Y _) (by simp only [List.map, aev_tmp, aev_const, aev_func, aev_global, at_put, at_none, n_put, reduceIte, Nat.reduceEqDiff, Nat.reduceLT, zq, *]; first | done | rfl) ?_
  refine (flows_spec (n := m) hv hO hl (by omega)).mono ?_
  rintro r h1 ⟨hk1, hres⟩
  generalize hlfe : flowsF l = lf at *
  have hLeft : LeftAt h.next [] h1 lf r := by
    rcases hres with ⟨h2, h3⟩ | ⟨b, js, h2, h3, h4, h5⟩
    · exact .inl ⟨h2, h3⟩
    · exact .inr ⟨b, js, h2, h3, by simp, h4, h5⟩
  have hp1 := (hk1.2 p hpl (by simp)).trans hp
  clear hres hv hO hp
  obtain ⟨A, cc, hre⟩ := hLeft.len
  repeat first | refine S_nil ?_ | refine S_auto ?_
  refine N_seq ?_
  refine G_seq ?_
  refine G_join (fun a h2 => a.n = 97 ∧ a.at 0 = .pointer (some ⟨p, 0, none⟩) ∧ a.at 5 = r ∧ h2.get p = some (.cells [.int .i64 q, .int .i64 (if lf.length = 0 then c else c + q), .int .i64 la, .bool any] true) ∧ LeftAt h.next [] h2 lf r ∧ Keep h h2 [p]) ?_ ?_
  · subst hre
    by_cases h0 : lf.length = 0
    · have cz : ((0 : Int) < (lf.length : Int)) = False := eq_false (by omega)
      rw [if_pos h0]
      have hk1p : Keep h h1 [p] := hk1.mono fun i hi => by cases hi
      clear h0
      repeat first | refine G_seq ?_ | refine G_reg ?_ | refine N_seq ?_ | refine N_block ?_ | refine G_block ?_ | refine G_skip ?_ | refine G_cT ?_ | refine G_cF ?_ | refine G_ret ?_ | refine U_seq_ret ?_ | refine U_block_ret ?_ | refine U_nil ?_ | refine S_nil ?_ | refine S_auto ?_
      refine S_step wants0 (o_builtin (by simp only [List.map, aev_tmp, aev_const, aev_func, aev_global, at_put, at_none, n_put, reduceIte, Nat.reduceEqDiff, Nat.reduceLT, zq, *]; first | done | rfl) (lenS (TL rfl))) ?_
      repeat first | refine G_seq ?_ | refine G_reg ?_ | refine N_seq ?_ | refine N_block ?_ | refine G_block ?_ | refine G_skip ?_ | refine G_cT ?_ | refine G_cF ?_ | refine G_ret ?_ | refine U_seq_ret ?_ | refine U_block_ret ?_ | refine U_nil ?_ | refine S_nil ?_ | refine S_auto ?_
      refine N_nil ?_
      exact JQ_n ⟨by simp only [at_put, at_none, n_put, reduceIte, Nat.reduceEqDiff, Nat.reduceLT, zq, *]; first | done | rfl, by simp only [at_put, at_none, n_put, reduceIte, Nat.reduceEqDiff, Nat.reduceLT, zq, *]; first | done | rfl, by simp only [at_put, at_none, n_put, reduceIte, Nat.reduceEqDiff, Nat.reduceLT, zq, *]; first | done | rfl, hp1, hLeft, hk1p⟩
    · have cz : ((0 : Int) < (lf.length : Int)) = True := eq_true (by omega)
      rw [if_neg h0]
      repeat first | refine G_seq ?_ | refine G_reg ?_ | refine N_seq ?_ | refine N_block ?_ | refine G_block ?_ | refine G_skip ?_ | refine G_cT ?_ | refine G_cF ?_ | refine G_ret ?_ | refine U_seq_ret ?_ | refine U_block_ret ?_ | refine U_nil ?_ | refine S_nil ?_ | refine S_auto ?_
      refine S_step wants0 (o_builtin (by simp only [List.map, aev_tmp, aev_const, aev_func, aev_global, at_put, at_none, n_put, reduceIte, Nat.reduceEqDiff, Nat.reduceLT, zq, *]; first | done | rfl) (lenS (TL rfl))) ?_
      repeat first | refine G_seq ?_ | refine G_reg ?_ | refine N_seq ?_ | refine N_block ?_ | refine G_block ?_ | refine G_skip ?_ | refine G_cT ?_ | refine G_cF ?_ | refine G_ret ?_ | refine U_seq_ret ?_ | refine U_block_ret ?_ | refine U_nil ?_ | refine S_nil ?_ | refine S_auto ?_
      refine G_draw [] [] (by kernel_rfl) ?_
      repeat first | refine D1_nil0 ?_ | refine D2_nil ?_ | refine D_pure ?_ | refine D_rd ?_ | refine D2_pure' ?_
      refine D1_wr0 wants0 rfl (o_st (by simp only [aev_tmp, aev_const, aev_func, aev_global, at_put, at_none, n_put, reduceIte, Nat.reduceEqDiff, Nat.reduceLT, zq, *]; first | done | rfl) (by simp only [aev_tmp, aev_const, aev_func, aev_global, at_put, at_none, n_put, reduceIte, Nat.reduceEqDiff, Nat.reduceLT, zq, *]; first | done | rfl) (TL rfl) rfl (by simp (disch := omega) only [get_set_self, get_new_self, get_set_ne, get_new_ne, get_bump, next_set, next_new, Nat.lt_irrefl, reduceIte, next_kill, next_bump, *]; first | done | rfl) rfl rfl) .nil ?_
      repeat first | refine D1_nil0 ?_ | refine D2_nil ?_ | refine D_pure ?_ | refine D_rd ?_ | refine D2_pure' ?_
      refine N_nil ?_
      refine JQ_n ⟨by simp only [at_put, at_none, n_put, reduceIte, Nat.reduceEqDiff, Nat.reduceLT, zq, *]; first | done | rfl, by simp only [at_put, at_none, n_put, reduceIte, Nat.reduceEqDiff, Nat.reduceLT, zq, *]; first | done | rfl, by simp only [at_put, at_none, n_put, reduceIte, Nat.reduceEqDiff, Nat.reduceLT, zq, *]; first | done | rfl, by simp (disch := omega) only [get_set_self, get_new_self, get_set_ne, get_new_ne, get_bump, next_set, next_new, Nat.lt_irrefl, reduceIte, next_kill, next_bump, *]; first | done | rfl, ?_, by rw [next_set, next_bump]; have := hk1.1; omega, fun i hi hn => by rw [get_set_ne (by simpa using hn), get_bump, hk1.2 i hi (by simp)]⟩
      rcases hLeft with ⟨h2, h3⟩ | ⟨b, js, h2, h3, h4, h5, h6⟩
      · exact .inl ⟨h2, h3⟩
      · exact .inr ⟨b, js, h2, by rw [next_set, next_bump]; omega, h4, h5, by rw [get_set_ne (by omega)]; exact h6⟩
  · clear hna e0 e1 a hLeft hre hp1 hk1 h1 hlfe
    rintro a h1 ⟨hna, e0, e5, hp1, hLeft, hk1⟩
    have hcb : 0 ≤ (if lf.length = 0 then c else c + q) ∧ (if lf.length = 0 then c else c + q) < K := by split <;> omega
    generalize (if lf.length = 0 then c else c + q) = c0 at *
    clear hc1 hc2 hK c
    repeat first | refine G_seq ?_ | refine G_reg ?_ | refine N_seq ?_ | refine N_block ?_ | refine G_block ?_ | refine G_skip ?_ | refine G_cT ?_ | refine G_cF ?_ | refine G_ret ?_ | refine U_seq_ret ?_ | refine U_block_ret ?_ | refine U_nil ?_ | refine S_nil ?_ | refine S_auto ?_
    generalize hRe : roundL K c0 la any lf [] = R at *
    refine G_loop (fun j a h' => ∃ (c la : Int) (any : Bool) (lf out : List Fl) (lv ov : Value) (Oo : List Nat), a.n = 97 ∧ a.at 0 = .pointer (some ⟨p, 0, none⟩) ∧ a.at 5 = lv ∧ a.at 6 = ov ∧ h'.get p = some (.cells [.int .i64 q, .int .i64 c, .int .i64 la, .bool any] true) ∧ LeftAt h.next Oo h' lf lv ∧ RowAt kF h' out ov Oo ∧ (∀ i ∈ Oo, h.next ≤ i ∧ i < h'.next) ∧ Keep h h' [p] ∧ roundL j c la any lf out = R ∧ 0 ≤ c ∧ c < j ∧ out.length + j ≤ K ∧ WOk lf ∧ lf.length ≤ 20) K (by omega) ⟨c0, la, any, lf, [], r, .slice none 0 0, [], by simp only [at_put, at_none, n_put, reduceIte, Nat.reduceEqDiff, Nat.reduceLT, zq, *]; first | done | rfl, by simp only [at_put, at_none, n_put, reduceIte, Nat.reduceEqDiff, Nat.reduceLT, zq, *]; first | done | rfl, by simp only [at_put, at_none, n_put, reduceIte, Nat.reduceEqDiff, Nat.reduceLT, zq, *]; first | done | rfl, by simp only [at_put, at_none, n_put, reduceIte, Nat.reduceEqDiff, Nat.reduceLT, zq, *]; first | done | rfl, hp1, hLeft, .inl ⟨rfl, rfl, rfl⟩, fun i hi => (by cases hi), hk1, hRe, hcb.1, hcb.2, by simp, hw, hlf⟩ ?_
    clear e0 e5 hna a hLeft hp1 hk1 h1 hRe hcb hw hlf lf r A cc c0 la any
    rintro j a h1 ⟨c, la, any, lf, out, lv, ov, Oo, hna, e0, e5, e6, hp1, hLeft, hout, hOo, hk1, hRe, hc0, hcj, hoj, hw, hlf⟩
    obtain ⟨k, rfl⟩ : ∃ k, j = k + 1 := ⟨j - 1, by omega⟩
    obtain ⟨A, cc, hre⟩ := hLeft.len
    have hp1l : p < h1.next := Nat.lt_of_lt_of_le hpl hk1.1
    by_cases h0 : lf.length = 0
    · have cz : ((0 : Int) < (lf.length : Int)) = False := eq_false (by omega)
      have hR2 : R = (0, la, any, out) := by rw [← hRe]; unfold roundL; rw [if_pos h0]
      subst hre
      clear h0 hRe hLeft
      repeat first | refine G_seq ?_ | refine G_reg ?_ | refine N_seq ?_ | refine N_block ?_ | refine G_block ?_ | refine G_skip ?_ | refine G_cT ?_ | refine G_cF ?_ | refine G_ret ?_ | refine U_seq_ret ?_ | refine U_block_ret ?_ | refine U_nil ?_ | refine S_nil ?_ | refine S_auto ?_
      refine S_step wants0 (o_builtin (by simp only [List.map, aev_tmp, aev_const, aev_func, aev_global, at_put, at_none, n_put, reduceIte, Nat.reduceEqDiff, Nat.reduceLT, zq, *]; first | done | rfl) (lenS (TL rfl))) ?_
      repeat first | refine G_seq ?_ | refine G_reg ?_ | refine N_seq ?_ | refine N_block ?_ | refine G_block ?_ | refine G_skip ?_ | refine G_cT ?_ | refine G_cF ?_ | refine G_ret ?_ | refine U_seq_ret ?_ | refine U_block_ret ?_ | refine U_nil ?_ | refine S_nil ?_ | refine S_auto ?_
      refine G_exit ?_
      repeat first | refine U_seq_exit ?_ | refine U_nil ?_ | refine LQ_exit ?_ | refine U_block_hit ?_
      repeat first | refine G_seq ?_ | refine G_reg ?_ | refine N_seq ?_ | refine N_block ?_ | refine G_block ?_ | refine G_skip ?_ | refine G_cT ?_ | refine G_cF ?_ | refine G_ret ?_ | refine U_seq_ret ?_ | refine U_block_ret ?_ | refine U_nil ?_ | refine S_nil ?_ | refine S_auto ?_
      refine FQ_in (by first | exact .inr rfl | exact .inl rfl) (by first | exact ares1 (by simp only [at_put, at_none, n_put, reduceIte, Nat.reduceEqDiff, Nat.reduceLT, zq, *]; first | done | rfl) | exact ares2 (by simp only [at_put, at_none, n_put, reduceIte, Nat.reduceEqDiff, Nat.reduceLT, zq, *]; first | done | rfl) (by simp only [at_put, at_none, n_put, reduceIte, Nat.reduceEqDiff, Nat.reduceLT, zq, *]; first | done | rfl)) ?_
      refine ⟨R, Oo, rfl, by rw [hR2]; exact hout.keep fun i hi => get_set_ne (by have := hOo i hi; omega), fun i hi => by have := hOo i hi; rw [next_set]; exact this, by rw [hR2]; simp (disch := omega) only [get_set_self, get_new_self, get_set_ne, get_new_ne, get_bump, next_set, next_new, Nat.lt_irrefl, reduceIte, next_kill, next_bump, *]; first | done | rfl, by rw [next_set]; exact hk1.1, fun i hi hn => by rw [get_set_ne (by simpa using hn), hk1.2 i hi hn]⟩
    · have cz : ((0 : Int) < (lf.length : Int)) = True := eq_true (by omega)
      obtain ⟨bl, js, hb0, hb1, hbO, rfl, hbl⟩ : ∃ bl js, h.next ≤ bl ∧ bl < h1.next ∧ bl ∉ Oo ∧ lv = .slice (some ⟨bl, 0, none⟩) lf.length (CAPX + kF.sz) ∧ h1.get bl = some (.cells (kF.fl (lf ++ js)) true) := by
        rcases hLeft with ⟨h2, _⟩ | h2
        · exact absurd (by rw [h2]; rfl) h0
        · exact h2
      clear hLeft hre
      have hx := next_spec (n := m - 1) hp1 hp1l (l := lf) (v := .slice (some ⟨bl, 0, none⟩) lf.length (CAPX + kF.sz)) (O := [bl]) (.inr (.inr ⟨bl, js, rfl, hbl, rfl⟩)) (fun i hi => by rw [List.mem_singleton.1 hi]; exact hb1) (by omega) (by omega)
      repeat first | refine G_seq ?_ | refine G_reg ?_ | refine N_seq ?_ | refine N_block ?_ | refine G_block ?_ | refine G_skip ?_ | refine G_cT ?_ | refine G_cF ?_ | refine G_ret ?_ | refine U_seq_ret ?_ | refine U_block_ret ?_ | refine U_nil ?_ | refine S_nil ?_ | refine S_auto ?_
      refine S_step wants0 (o_builtin (by simp only [List.map, aev_tmp, aev_const, aev_func, aev_global, at_put, at_none, n_put, reduceIte, Nat.reduceEqDiff, Nat.reduceLT, zq, *]; first | done | rfl) (lenS (TL rfl))) ?_
      repeat first | refine G_seq ?_ | refine G_reg ?_ | refine N_seq ?_ | refine N_block ?_ | refine G_block ?_ | refine G_skip ?_ | refine G_cT ?_ | refine G_cF ?_ | refine G_ret ?_ | refine U_seq_ret ?_ | refine U_block_ret ?_ | refine U_nil ?_ | refine S_nil ?_ | refine S_auto ?_
      refine S_call wants0 (by simp only [aev_tmp, aev_const, aev_func, aev_global, at_put, at_none, n_put, reduceIte, Nat.reduceEqDiff, Nat.reduceLT, zq, *]; first | done | rfl) (E_Y _) (by simp only [List.map, aev_tmp, aev_const, aev_func, aev_global, at_put, at_none, n_put, reduceIte, Nat.reduceEqDiff, Nat.reduceLT, zq, *]; first | done | rfl) ?_
      refine C_le (show m - 1 + 2 = m + 1 by omega) ?_
      refine hx.mono ?_
      rintro r h2 ⟨ii, rfl, hidx, hk2⟩
      clear hx
      have hpi : max ii 0 = ((pickI la any lf : Nat) : Int) := idxR_pick hidx
      have hil := pickI_lt (la := la) (any := any) (lf := lf) (by omega)
      rw [hpi]
      clear hidx hpi
      obtain ⟨xc, xw, hxe⟩ : ∃ xc xw, lf[pickI la any lf] = (xc, xw) := ⟨_, _, rfl⟩
      have hgd : lf.getD (pickI la any lf) (0, 0) = (xc, xw) := by rw [getD_at hil, hxe]
      have hRs : R = if c < min xw 64 then (c, la, any, out) else roundL k (c - min xw 64) xc true (if xw - min xw 64 = 0 then lf.eraseIdx (pickI la any lf) else lf.set (pickI la any lf) (xc, xw - min xw 64)) (out ++ [(xc, min xw 64)]) := by
        rw [← hRe]
        show (if lf.length = 0 then _ else _) = _
        rw [if_neg h0]
        simp only [hgd]
      clear hRe hgd
      generalize pickI la any lf = i at *
      have hw1 := hw (xc, xw) (by rw [← hxe]; exact List.getElem_mem _)
      replace hw1 : 0 < xw ∧ xw ≤ 1099511627776 := hw1
      obtain ⟨hw0, hwb⟩ := hw1
      have hg1 : 1 ≤ min xw 64 ∧ min xw 64 ≤ 64 ∧ min xw 64 ≤ xw := by omega
      have hij : i < (lf ++ js).length := by rw [List.length_append]; omega
      have hxj : (lf ++ js)[i] = (xc, xw) := by rw [List.getElem_append_left hil]; exact hxe
      have i1 : aindexAddr EE.T 29 (.slice (some ⟨bl, 0, none⟩) lf.length (CAPX + kF.sz)) (.int .i64 (i : Int)) = some (.pointer (some ⟨bl, i * kF.sz, none⟩)) := ix_row0 (TL rfl) (TL rfl) ⟨rfl, rfl, by decide⟩ hil
      have w0 : (kF.fl (lf ++ js))[i * kF.sz + 0]? = some (.int .i64 xc) := by rw [kF.fl_get hij (show 0 < kF.sz by decide), hxj]; rfl
      have w1 : (kF.fl (lf ++ js))[i * kF.sz + 1]? = some (.int .i64 xw) := by rw [kF.fl_get hij (show 1 < kF.sz by decide), hxj]; rfl
      have hput := put_fld (K := kF) (l := lf ++ js) (i := i) (j := 1) (x := (xc, xw - min xw 64)) (v := .int .i64 (xw - min xw 64)) hij (by decide) (by rw [hxj]; rfl)
      have w2 : (kF.fl ((lf ++ js).set i (xc, xw - min xw 64)))[i * kF.sz + 1]? = some (.int .i64 (xw - min xw 64)) := by rw [kF.fl_get (by rw [List.length_set]; exact hij) (show 1 < kF.sz by decide), List.getElem_set_self]; rfl
      have hset : (lf ++ js).set i (xc, xw - min xw 64) = lf.set i (xc, xw - min xw 64) ++ js := List.set_append_left _ _ hil
      have hwm : ∀ y, 0 < y → y ≤ xw → WOk (lf.set i (xc, y)) := fun y h1 h2 z hz => by
        rcases List.mem_or_eq_of_mem_set hz with h3 | h3
        · exact hw z h3
        · rw [h3]; exact ⟨h1, by show y ≤ _; omega⟩
      have hwe : WOk (lf.eraseIdx i) := fun z hz => hw z (List.mem_of_mem_eraseIdx hz)
      generalize hge : min xw 64 = g at *
      obtain ⟨hg1, hg2, hg3⟩ := hg1
      have hp2 := (hk2.2 p hp1l (by simp)).trans hp1
      have hbl2 := (hk2.2 bl hb1 (by simp)).trans hbl
      have hout2 : RowAt kF h2 out ov Oo := hout.keep fun q hq => hk2.2 q (hOo q hq).2 (by simp)
      have hOo2 : ∀ q ∈ Oo, h.next ≤ q ∧ q < h2.next := fun q hq => ⟨(hOo q hq).1, Nat.lt_of_lt_of_le (hOo q hq).2 hk2.1⟩
      have hkk2 : Keep h h2 [p] := hk1.trans hk2 fun i hi => (by cases hi)
      have hp2l : p < h2.next := Nat.lt_of_lt_of_le hp1l hk2.1
      have hb2 : bl < h2.next := Nat.lt_of_lt_of_le hb1 hk2.1
      clear hk2 hp1 hbl hout hOo hk1 hxe hxj hij h0 hw hp1l hb1
      repeat first | refine G_seq ?_ | refine G_reg ?_ | refine N_seq ?_ | refine N_block ?_ | refine G_block ?_ | refine G_skip ?_ | refine G_cT ?_ | refine G_cF ?_ | refine G_ret ?_ | refine U_seq_ret ?_ | refine U_block_ret ?_ | refine U_nil ?_ | refine S_nil ?_ | refine S_auto ?_
      refine S_step wants0 (o_indexAddr (by simp only [aev_tmp, aev_const, aev_func, aev_global, at_put, at_none, n_put, reduceIte, Nat.reduceEqDiff, Nat.reduceLT, zq, *]; first | done | rfl) (by simp only [aev_tmp, aev_const, aev_func, aev_global, at_put, at_none, n_put, reduceIte, Nat.reduceEqDiff, Nat.reduceLT, zq, *]; first | done | rfl) i1) ?_
      repeat first | refine G_seq ?_ | refine G_reg ?_ | refine N_seq ?_ | refine N_block ?_ | refine G_block ?_ | refine G_skip ?_ | refine G_cT ?_ | refine G_cF ?_ | refine G_ret ?_ | refine U_seq_ret ?_ | refine U_block_ret ?_ | refine U_nil ?_ | refine S_nil ?_ | refine S_auto ?_
      refine S_step wants0 (o_ld (by simp only [aev_tmp, aev_const, aev_func, aev_global, at_put, at_none, n_put, reduceIte, Nat.reduceEqDiff, Nat.reduceLT, zq, *]; first | done | rfl) (TL rfl) rfl (rd_cells (by simp (disch := omega) only [get_set_self, get_new_self, get_set_ne, get_new_ne, get_bump, next_set, next_new, Nat.lt_irrefl, reduceIte, next_kill, next_bump, *]; first | done | rfl)) w1) ?_
      refine S_step wants0 (o_builtin (by simp only [List.map, aev_tmp, aev_const, aev_func, aev_global, at_put, at_none, n_put, reduceIte, Nat.reduceEqDiff, Nat.reduceLT, zq, *]; first | done | rfl) bi_min) ?_
      rw [hge]
      by_cases hcg : c < g
      · have hR2 : R = (c, la, any, out) := by rw [hRs, if_pos hcg]
        clear hRs w0 w1 w2 hput i1 hset hwm hwe hge
        repeat first | refine G_seq ?_ | refine G_reg ?_ | refine N_seq ?_ | refine N_block ?_ | refine G_block ?_ | refine G_skip ?_ | refine G_cT ?_ | refine G_cF ?_ | refine G_ret ?_ | refine U_seq_ret ?_ | refine U_block_ret ?_ | refine U_nil ?_ | refine S_nil ?_ | refine S_auto ?_
        refine LQ_ret ?_
        repeat first | refine G_seq ?_ | refine G_reg ?_ | refine N_seq ?_ | refine N_block ?_ | refine G_block ?_ | refine G_skip ?_ | refine G_cT ?_ | refine G_cF ?_ | refine G_ret ?_ | refine U_seq_ret ?_ | refine U_block_ret ?_ | refine U_nil ?_ | refine S_nil ?_ | refine S_auto ?_
        refine FQ_in (by first | exact .inr rfl | exact .inl rfl) (by first | exact ares1 (by simp only [at_put, at_none, n_put, reduceIte, Nat.reduceEqDiff, Nat.reduceLT, zq, *]; first | done | rfl) | exact ares2 (by simp only [at_put, at_none, n_put, reduceIte, Nat.reduceEqDiff, Nat.reduceLT, zq, *]; first | done | rfl) (by simp only [at_put, at_none, n_put, reduceIte, Nat.reduceEqDiff, Nat.reduceLT, zq, *]; first | done | rfl)) ?_
        exact ⟨R, Oo, rfl, by rw [hR2]; exact hout2, hOo2, by rw [hR2]; exact hp2, hkk2⟩
      · rw [if_neg hcg] at hRs
        obtain ⟨v3, h3, O3, q1, q2, q3, q4, q5⟩ := app_rowX (K := kF) (T := EE.T) (h := h2.new h2.next (.cells (kF.enc (xc, g)) true)) (st := 36) (xt := 36) (news := [((xc, g) : Fl)]) (x := .slice (some ⟨h2.next, 0, none⟩) 1 1) (TL rfl) (TL rfl) ⟨rfl, rfl, by decide⟩ (TL rfl) (hout2.keep fun q hq => by have := hOo2 q hq; simp (disch := omega) only [get_set_self, get_new_self, get_set_ne, get_new_ne, get_bump, next_set, next_new, Nat.lt_irrefl, reduceIte, next_kill, next_bump, *]; first | done | rfl) (by simp) (src_row1 (K := kF) (by simp (disch := omega) only [get_set_self, get_new_self, get_set_ne, get_new_ne, get_bump, next_set, next_new, Nat.lt_irrefl, reduceIte, next_kill, next_bump, *]; first | done | rfl)) (by simp; omega) (fun q hq => by have := hOo2 q hq; simp only [next_bump, next_set, next_new, Nat.lt_irrefl, reduceIte]; omega)
        have hK : Keep h2 h3 Oo := ⟨by have := q3.1; simp only [next_new, Nat.lt_irrefl, reduceIte] at this; omega, fun q hq hn => by rw [q3.2 q (by simp only [next_bump, next_set, next_new, Nat.lt_irrefl, reduceIte]; omega) hn]; simp (disch := omega) only [get_set_self, get_new_self, get_set_ne, get_new_ne, get_bump, next_set, next_new, Nat.lt_irrefl, reduceIte, next_kill, next_bump, *]; first | done | rfl⟩
        have hp3 := (hK.2 p hp2l (fun hm => by have := hOo2 p hm; omega)).trans hp2
        have hbl3 := (hK.2 bl hb2 hbO).trans hbl2
        have hp3l : p < h3.next := Nat.lt_of_lt_of_le hp2l hK.1
        have hb3 : bl < h3.next := Nat.lt_of_lt_of_le hb2 hK.1
        have hO3 : ∀ q ∈ O3, h.next ≤ q ∧ q < h3.next ∧ q ≠ bl := fun q hq => by
          rcases q4 with rfl | rfl
          · exact ⟨(hOo2 q hq).1, q5 q hq, fun e => hbO (e ▸ hq)⟩
          · have h9 := q5 q hq
            simp only [List.mem_singleton, next_new, Nat.lt_irrefl, reduceIte] at hq
            exact ⟨by omega, h9, by omega⟩
        have hkk3 : Keep h h3 [p] := hkk2.trans hK fun q hq => .inr (hOo2 q hq).1
        have hout3 : RowAt kF h3 (out ++ [(xc, g)]) v3 O3 := .inr (.inr q2)
        have hbp : bl ≠ p := by omega
        clear q2 q3 q4 q5 hK hkk2 hOo2 hout2
        repeat first | refine G_seq ?_ | refine G_reg ?_ | refine N_seq ?_ | refine N_block ?_ | refine G_block ?_ | refine G_skip ?_ | refine G_cT ?_ | refine G_cF ?_ | refine G_ret ?_ | refine U_seq_ret ?_ | refine U_block_ret ?_ | refine U_nil ?_ | refine S_nil ?_ | refine S_auto ?_
        refine S_step wants0 (o_indexAddr (by simp only [aev_tmp, aev_const, aev_func, aev_global, at_put, at_none, n_put, reduceIte, Nat.reduceEqDiff, Nat.reduceLT, zq, *]; first | done | rfl) (by simp only [aev_tmp, aev_const, aev_func, aev_global, at_put, at_none, n_put, reduceIte, Nat.reduceEqDiff, Nat.reduceLT, zq, *]; first | done | rfl) i1) ?_
        repeat first | refine G_seq ?_ | refine G_reg ?_ | refine N_seq ?_ | refine N_block ?_ | refine G_block ?_ | refine G_skip ?_ | refine G_cT ?_ | refine G_cF ?_ | refine G_ret ?_ | refine U_seq_ret ?_ | refine U_block_ret ?_ | refine U_nil ?_ | refine S_nil ?_ | refine S_auto ?_
        refine S_step wants0 (o_ld (by simp only [aev_tmp, aev_const, aev_func, aev_global, at_put, at_none, n_put, reduceIte, Nat.reduceEqDiff, Nat.reduceLT, zq, *]; first | done | rfl) (TL rfl) rfl (rd_cells (by simp (disch := omega) only [get_set_self, get_new_self, get_set_ne, get_new_ne, get_bump, next_set, next_new, Nat.lt_irrefl, reduceIte, next_kill, next_bump, *]; first | done | rfl)) w0) ?_
        repeat first | refine G_seq ?_ | refine G_reg ?_ | refine N_seq ?_ | refine N_block ?_ | refine G_block ?_ | refine G_skip ?_ | refine G_cT ?_ | refine G_cF ?_ | refine G_ret ?_ | refine U_seq_ret ?_ | refine U_block_ret ?_ | refine U_nil ?_ | refine S_nil ?_ | refine S_auto ?_
        refine S_step wants0 (o_buildSlice (by simp only [List.map, aev_tmp, aev_const, aev_func, aev_global, at_put, at_none, n_put, reduceIte, Nat.reduceEqDiff, Nat.reduceLT, zq, *]; first | done | rfl) (bs_row1 (K := kF) (x := ((xc, g) : Fl)) (TL rfl) (TL rfl) ⟨rfl, rfl, by decide⟩ (by decide) rfl)) ?_
        refine S_step wants0 (o_builtin (by simp only [List.map, aev_tmp, aev_const, aev_func, aev_global, at_put, at_none, n_put, reduceIte, Nat.reduceEqDiff, Nat.reduceLT, zq, *]; first | done | rfl) (bi_app q1)) ?_
        clear q1 hp2 hbl2
        repeat first | refine G_seq ?_ | refine G_reg ?_ | refine N_seq ?_ | refine N_block ?_ | refine G_block ?_ | refine G_skip ?_ | refine G_cT ?_ | refine G_cF ?_ | refine G_ret ?_ | refine U_seq_ret ?_ | refine U_block_ret ?_ | refine U_nil ?_ | refine S_nil ?_ | refine S_auto ?_
        refine S_step wants0 (o_indexAddr (by simp only [aev_tmp, aev_const, aev_func, aev_global, at_put, at_none, n_put, reduceIte, Nat.reduceEqDiff, Nat.reduceLT, zq, *]; first | done | rfl) (by simp only [aev_tmp, aev_const, aev_func, aev_global, at_put, at_none, n_put, reduceIte, Nat.reduceEqDiff, Nat.reduceLT, zq, *]; first | done | rfl) i1) ?_
        repeat first | refine G_seq ?_ | refine G_reg ?_ | refine N_seq ?_ | refine N_block ?_ | refine G_block ?_ | refine G_skip ?_ | refine G_cT ?_ | refine G_cF ?_ | refine G_ret ?_ | refine U_seq_ret ?_ | refine U_block_ret ?_ | refine U_nil ?_ | refine S_nil ?_ | refine S_auto ?_
        refine S_step wants0 (o_ld (by simp only [aev_tmp, aev_const, aev_func, aev_global, at_put, at_none, n_put, reduceIte, Nat.reduceEqDiff, Nat.reduceLT, zq, *]; first | done | rfl) (TL rfl) rfl (rd_cells (by simp (disch := omega) only [get_set_self, get_new_self, get_set_ne, get_new_ne, get_bump, next_set, next_new, Nat.lt_irrefl, reduceIte, next_kill, next_bump, *]; first | done | rfl)) w0) ?_
        repeat first | refine G_seq ?_ | refine G_reg ?_ | refine N_seq ?_ | refine N_block ?_ | refine G_block ?_ | refine G_skip ?_ | refine G_cT ?_ | refine G_cF ?_ | refine G_ret ?_ | refine U_seq_ret ?_ | refine U_block_ret ?_ | refine U_nil ?_ | refine S_nil ?_ | refine S_auto ?_
        refine S_step wants0 (o_indexAddr (by simp only [aev_tmp, aev_const, aev_func, aev_global, at_put, at_none, n_put, reduceIte, Nat.reduceEqDiff, Nat.reduceLT, zq, *]; first | done | rfl) (by simp only [aev_tmp, aev_const, aev_func, aev_global, at_put, at_none, n_put, reduceIte, Nat.reduceEqDiff, Nat.reduceLT, zq, *]; first | done | rfl) i1) ?_
        repeat first | refine G_seq ?_ | refine G_reg ?_ | refine N_seq ?_ | refine N_block ?_ | refine G_block ?_ | refine G_skip ?_ | refine G_cT ?_ | refine G_cF ?_ | refine G_ret ?_ | refine U_seq_ret ?_ | refine U_block_ret ?_ | refine U_nil ?_ | refine S_nil ?_ | refine S_auto ?_
        refine S_step wants0 (o_ld (by simp only [aev_tmp, aev_const, aev_func, aev_global, at_put, at_none, n_put, reduceIte, Nat.reduceEqDiff, Nat.reduceLT, zq, *]; first | done | rfl) (TL rfl) rfl (rd_cells (by simp (disch := omega) only [get_set_self, get_new_self, get_set_ne, get_new_ne, get_bump, next_set, next_new, Nat.lt_irrefl, reduceIte, next_kill, next_bump, *]; first | done | rfl)) w1) ?_
        repeat first | refine G_seq ?_ | refine G_reg ?_ | refine N_seq ?_ | refine N_block ?_ | refine G_block ?_ | refine G_skip ?_ | refine G_cT ?_ | refine G_cF ?_ | refine G_ret ?_ | refine U_seq_ret ?_ | refine U_block_ret ?_ | refine U_nil ?_ | refine S_nil ?_ | refine S_auto ?_
        refine S_step wants0 (o_indexAddr (by simp only [aev_tmp, aev_const, aev_func, aev_global, at_put, at_none, n_put, reduceIte, Nat.reduceEqDiff, Nat.reduceLT, zq, *]; first | done | rfl) (by simp only [aev_tmp, aev_const, aev_func, aev_global, at_put, at_none, n_put, reduceIte, Nat.reduceEqDiff, Nat.reduceLT, zq, *]; first | done | rfl) i1) ?_
        refine S_auto ?_
        refine S_step wants0 (o_st1 (by simp only [aev_tmp, aev_const, aev_func, aev_global, at_put, at_none, n_put, reduceIte, Nat.reduceEqDiff, Nat.reduceLT, zq, *]; first | done | rfl) (by simp only [aev_tmp, aev_const, aev_func, aev_global, at_put, at_none, n_put, reduceIte, Nat.reduceEqDiff, Nat.reduceLT, zq, *]; first | done | rfl) (TL rfl) rfl ⟨rfl, rfl⟩ (by simp (disch := omega) only [get_set_self, get_new_self, get_set_ne, get_new_ne, get_bump, next_set, next_new, Nat.lt_irrefl, reduceIte, next_kill, next_bump, *]; first | done | rfl) hput) ?_
        repeat first | refine G_seq ?_ | refine G_reg ?_ | refine N_seq ?_ | refine N_block ?_ | refine G_block ?_ | refine G_skip ?_ | refine G_cT ?_ | refine G_cF ?_ | refine G_ret ?_ | refine U_seq_ret ?_ | refine U_block_ret ?_ | refine U_nil ?_ | refine S_nil ?_ | refine S_auto ?_
        refine S_step wants0 (o_indexAddr (by simp only [aev_tmp, aev_const, aev_func, aev_global, at_put, at_none, n_put, reduceIte, Nat.reduceEqDiff, Nat.reduceLT, zq, *]; first | done | rfl) (by simp only [aev_tmp, aev_const, aev_func, aev_global, at_put, at_none, n_put, reduceIte, Nat.reduceEqDiff, Nat.reduceLT, zq, *]; first | done | rfl) i1) ?_
        repeat first | refine G_seq ?_ | refine G_reg ?_ | refine N_seq ?_ | refine N_block ?_ | refine G_block ?_ | refine G_skip ?_ | refine G_cT ?_ | refine G_cF ?_ | refine G_ret ?_ | refine U_seq_ret ?_ | refine U_block_ret ?_ | refine U_nil ?_ | refine S_nil ?_ | refine S_auto ?_
        refine S_step wants0 (o_ld (by simp only [aev_tmp, aev_const, aev_func, aev_global, at_put, at_none, n_put, reduceIte, Nat.reduceEqDiff, Nat.reduceLT, zq, *]; first | done | rfl) (TL rfl) rfl (rd_cells (by simp (disch := omega) only [get_set_self, get_new_self, get_set_ne, get_new_ne, get_bump, next_set, next_new, Nat.lt_irrefl, reduceIte, next_kill, next_bump, *]; first | done | rfl)) w2) ?_
        have hcl : out.length + 1 + k ≤ K := by omega
        refine S_gen (fun a h4 => a.n = 97 ∧ a.at 0 = .pointer (some ⟨p, 0, none⟩) ∧ a.at 5 = .slice (some ⟨bl, 0, none⟩) lf.length (CAPX + kF.sz) ∧ a.at 6 = v3 ∧ a.at 7 = .int .i64 (i : Int) ∧ a.at 86 = .int .i64 (xw - g) ∧ h4.get p = some (.cells [.int .i64 q, .int .i64 (c - g), .int .i64 xc, .bool true] true) ∧ h4.get bl = some (.cells (kF.fl (lf.set i (xc, xw - g) ++ js)) true) ∧ h4.next = h3.next ∧ ∀ q, q ≠ p → q ≠ bl → h4.get q = h3.get q) ⟨by simp only [at_put, at_none, n_put, reduceIte, Nat.reduceEqDiff, Nat.reduceLT, zq, *]; first | done | rfl, by simp only [at_put, at_none, n_put, reduceIte, Nat.reduceEqDiff, Nat.reduceLT, zq, *]; first | done | rfl, by simp only [at_put, at_none, n_put, reduceIte, Nat.reduceEqDiff, Nat.reduceLT, zq, *]; first | done | rfl, by simp only [at_put, at_none, n_put, reduceIte, Nat.reduceEqDiff, Nat.reduceLT, zq, *]; first | done | rfl, by simp only [at_put, at_none, n_put, reduceIte, Nat.reduceEqDiff, Nat.reduceLT, zq, *]; first | done | rfl, by simp only [at_put, at_none, n_put, reduceIte, Nat.reduceEqDiff, Nat.reduceLT, zq, *]; first | done | rfl, by simp (disch := omega) only [get_set_self, get_new_self, get_set_ne, get_new_ne, get_bump, next_set, next_new, Nat.lt_irrefl, reduceIte, next_kill, next_bump, *]; first | done | rfl, by rw [← hset]; simp (disch := omega) only [get_set_self, get_new_self, get_set_ne, get_new_ne, get_bump, next_set, next_new, Nat.lt_irrefl, reduceIte, next_kill, next_bump, *]; first | done | rfl, rfl, fun q h8 h9 => by simp (disch := omega) only [get_set_self, get_new_self, get_set_ne, get_new_ne, get_bump, next_set, next_new, Nat.lt_irrefl, reduceIte, next_kill, next_bump, *]; first | done | rfl⟩ ?_
        clear hna e0 e5 e6 a hp3 hbl3 w0 w1 w2 hput hset
        rintro a h4 ⟨hna, e0, e5, e6, e7, e86, hp4, hbl4, hnx4, hoth4⟩
        have hkk4 : Keep h h4 [p] := ⟨by rw [hnx4]; exact hkk3.1, fun q hq hn => by
          have hqp : q ≠ p := by simpa using hn
          rw [hoth4 q hqp (by omega), hkk3.2 q hq hn]⟩
        have hout4 : RowAt kF h4 (out ++ [(xc, g)]) v3 O3 := hout3.keep fun q hq => hoth4 q (by have := hO3 q hq; omega) (hO3 q hq).2.2
        have hb4 : bl < h4.next := by rw [hnx4]; exact hb3
        have hO4 : ∀ q ∈ O3, h.next ≤ q ∧ q < h4.next ∧ q ≠ bl := fun q hq => by rw [hnx4]; exact hO3 q hq
        have hbO3 : bl ∉ O3 := fun hm => (hO3 bl hm).2.2 rfl
        clear hkk3 hout3 hoth4 hO3 hp3l hb3
        by_cases hz : xw - g = 0
        · have c3 : (xw - g = 0) = True := eq_true hz
          rw [if_pos hz] at hRs
          clear hz
          have hdel := delete_spec (n := m) (i := i) hbl4 hb4 (by rw [List.length_set]; exact hil) (by rw [List.length_set]; omega)
          rw [List.length_set] at hdel
          have hes : (lf.set i (xc, xw - g)).eraseIdx i = lf.eraseIdx i := by rw [List.eraseIdx_eq_take_drop_succ, List.eraseIdx_eq_take_drop_succ, List.take_set_of_le (Nat.le_refl _), List.drop_set_of_lt (Nat.lt_succ_self _)]
          rw [hes] at hdel
          repeat first | refine G_seq ?_ | refine G_reg ?_ | refine N_seq ?_ | refine N_block ?_ | refine G_block ?_ | refine G_skip ?_ | refine G_cT ?_ | refine G_cF ?_ | refine G_ret ?_ | refine U_seq_ret ?_ | refine U_block_ret ?_ | refine U_nil ?_ | refine S_nil ?_ | refine S_auto ?_
          refine S_call wants0 (by simp only [aev_tmp, aev_const, aev_func, aev_global, at_put, at_none, n_put, reduceIte, Nat.reduceEqDiff, Nat.reduceLT, zq, *]; first | done | rfl) (E_Y _) (by simp only [List.map, aev_tmp, aev_const, aev_func, aev_global, at_put, at_none, n_put, reduceIte, Nat.reduceEqDiff, Nat.reduceLT, zq, *]; first | done | rfl) ?_
          refine hdel.mono ?_
          rintro r h5 ⟨js5, rfl, hb5, hk5⟩
          have hp5 := (hk5.2 p (by have := hkk4.1; omega) (fun hm => hbp (List.mem_singleton.1 hm).symm)).trans hp4
          have hout5 : RowAt kF h5 (out ++ [(xc, g)]) v3 O3 := hout4.keep fun q hq => hk5.2 q (hO4 q hq).2.1 (fun hm => (hO4 q hq).2.2 (List.mem_singleton.1 hm))
          have hO5 : ∀ q ∈ O3, h.next ≤ q ∧ q < h5.next := fun q hq => ⟨(hO4 q hq).1, Nat.lt_of_lt_of_le (hO4 q hq).2.1 hk5.1⟩
          have hb5l : bl < h5.next := Nat.lt_of_lt_of_le hb4 hk5.1
          have hkk5 : Keep h h5 [p] := hkk4.trans hk5 fun q hq => .inr (by rw [List.mem_singleton.1 hq]; exact hb0)
          have hle := Nat.le_trans (List.length_eraseIdx_le lf i) hlf
          clear hdel hk5 hp4 hbl4 hkk4 hout4 hO4 c3
          repeat first | refine G_seq ?_ | refine G_reg ?_ | refine N_seq ?_ | refine N_block ?_ | refine G_block ?_ | refine G_skip ?_ | refine G_cT ?_ | refine G_cF ?_ | refine G_ret ?_ | refine U_seq_ret ?_ | refine U_block_ret ?_ | refine U_nil ?_ | refine S_nil ?_ | refine S_auto ?_
          refine N_nil ?_
          exact LQ_n k (by omega) ⟨c - g, xc, true, lf.eraseIdx i, out ++ [(xc, g)], _, v3, O3, by simp only [at_put, at_none, n_put, reduceIte, Nat.reduceEqDiff, Nat.reduceLT, zq, *]; first | done | rfl, by simp only [at_put, at_none, n_put, reduceIte, Nat.reduceEqDiff, Nat.reduceLT, zq, *]; first | done | rfl, by simp only [at_put, at_none, n_put, reduceIte, Nat.reduceEqDiff, Nat.reduceLT, zq, *]; first | done | rfl, by simp only [at_put, at_none, n_put, reduceIte, Nat.reduceEqDiff, Nat.reduceLT, zq, *]; first | done | rfl, hp5, .inr ⟨bl, js5, hb0, hb5l, hbO3, rfl, hb5⟩, hout5, hO5, hkk5, hRs.symm, by omega, by omega, by rw [List.length_append]; exact hcl, hwe, hle⟩
        · have c3 : (xw - g = 0) = False := eq_false hz
          rw [if_neg hz] at hRs
          have hws := hwm (xw - g) (by omega) (by omega)
          have hle : (lf.set i (xc, xw - g)).length ≤ 20 := by rw [List.length_set]; exact hlf
          have hO5 : ∀ q ∈ O3, h.next ≤ q ∧ q < h4.next := fun q hq => ⟨(hO4 q hq).1, (hO4 q hq).2.1⟩
          have hlv : Value.slice (some ⟨bl, 0, none⟩) lf.length (CAPX + kF.sz) = .slice (some ⟨bl, 0, none⟩) (lf.set i (xc, xw - g)).length (CAPX + kF.sz) := by rw [List.length_set]
          clear hz
          repeat first | refine G_seq ?_ | refine G_reg ?_ | refine N_seq ?_ | refine N_block ?_ | refine G_block ?_ | refine G_skip ?_ | refine G_cT ?_ | refine G_cF ?_ | refine G_ret ?_ | refine U_seq_ret ?_ | refine U_block_ret ?_ | refine U_nil ?_ | refine S_nil ?_ | refine S_auto ?_
          refine N_nil ?_
          exact LQ_n k (by omega) ⟨c - g, xc, true, lf.set i (xc, xw - g), out ++ [(xc, g)], .slice (some ⟨bl, 0, none⟩) lf.length (CAPX + kF.sz), v3, O3, by simp only [at_put, at_none, n_put, reduceIte, Nat.reduceEqDiff, Nat.reduceLT, zq, *]; first | done | rfl, by simp only [at_put, at_none, n_put, reduceIte, Nat.reduceEqDiff, Nat.reduceLT, zq, *]; first | done | rfl, by simp only [at_put, at_none, n_put, reduceIte, Nat.reduceEqDiff, Nat.reduceLT, zq, *]; first | done | rfl, by simp only [at_put, at_none, n_put, reduceIte, Nat.reduceEqDiff, Nat.reduceLT, zq, *]; first | done | rfl, hp4, .inr ⟨bl, js, hb0, hb4, hbO3, hlv, hbl4⟩, hout4, hO5, hkk4, hRs.symm, by omega, by omega, by rw [List.length_append]; exact hcl, hws, hle⟩
end
end Go.Proofs.Yteffhomollmpdaa.AM.SX

/- A law over a number and a row of flows: from the machine's run to the program's. -/
namespace Go.Proofs.Yteffhomollmpdaa.X
open Go Go.RowKit Go.Proofs.YteffhomollmpdaaW.PrintWords Go.Proofs.YteffhomollmpdaaW.PrintMore
set_option linter.unusedVariables false
end Go.Proofs.Yteffhomollmpdaa.X
namespace Go.Proofs.Yteffhomollmpdaa.AM.SX
open Go Go.RowKit Go.Proofs Go.Proofs.Yteffhomollmpdaa.X Go.Proofs.YteffhomollmpdaaW.PrintWords
set_option linter.unusedVariables false
set_option linter.unusedSimpArgs false
set_option maxRecDepth 100000
/-- a law's row of flows as the machine has it -/
def FlowsAt (h : AHeap) (l : List Fl) (sv : Value) (ids : List Nat) : Prop :=
  (l = [] ∧ sv = .chan (some 0) ∧ ids = []) ∨ ∃ b, sv = .slice (some ⟨b, 0, none⟩) l.length (CAPX + 1) ∧ h.get b = some (.ro (kF.fl l)) ∧ ids = [b]
theorem FlowsAt.keep {h h' : AHeap} {l : List Fl} {sv : Value} {ids : List Nat} (hs : FlowsAt h l sv ids) (hk : ∀ i ∈ ids, h'.get i = h.get i) : FlowsAt h' l sv ids := by
  rcases hs with hs | ⟨b, h1, h2, rfl⟩
  · exact .inl hs
  · exact .inr ⟨b, h1, by rw [hk b (.head _)]; exact h2, rfl⟩
@[reducible] def tokL (v : Value) (hv : v.oneCell' = true ∧ ∀ b, v ≠ .bool b) (low : Nat → Option Obj) : Tok where
  val := fun _ => v
  one := fun _ => hv.1
  nb := fun _ b => hv.2 b
  low := low
theorem slice_one {A : Option Addr} {n c : Nat} : (Value.slice A n c).oneCell' = true ∧ ∀ b, Value.slice A n c ≠ .bool b := ⟨rfl, fun b h => by cases h⟩
theorem tbL_ok {N c : Nat} {A : Option Addr} {low : Nat → Option Obj} : @TbOk (tokL (.slice A 0 c) slice_one low) Try.prog 0 N tbL := by
  letI := tokL (.slice A 0 c) slice_one low
  intro op vs v h o π g nx w ρ he hg hr hvs
  unfold tbL at h
  split at h
  · rename_i args ts i
    cases hts : lenTy ts with
    | false => rw [hts] at h; cases h
    | true =>
      rw [hts] at h
      have h : some (Value.int .i64 0) = some v := h
      obtain rfl := Option.some.inj h
      unfold lenTy at hts
      have ho : o.op = .call ⟨.builtin .len, args, ts⟩ := he
      have hts' : ts[0]? = some 29 ∨ ts[0]? = some 45 := by
        split at hts
        · rename_i t e
          simp only [Bool.or_eq_true, beqd, decide_eq_true_eq] at hts
          rcases hts with rfl | rfl
          · exact .inl (by rw [← Array.getElem?_toList, e]; rfl)
          · exact .inr (by rw [← Array.getElem?_toList, e]; rfl)
        · cases hts
      have hops : (Op.call ⟨.builtin .len, args, ts⟩).operands.toList.map ρ = args.toList.map ρ := by simp [Op.operands, Call.operands]
      rw [hops] at hvs
      have hx : args.map ρ = #[.slice A 0 c] := by
        have h1 : args.toList.map ρ = [.slice A 0 c] := by
          generalize args.toList.map ρ = z at hvs
          cases hvs with
          | cons h1 h2 =>
            cases h2
            have h3 := tok_inv h1
            rw [h3]; rfl
        apply Array.toList_inj.1
        simpa using h1
      refine ⟨.int .i64 0, ?_, .int _ _⟩
      have hexec : (execOp ρ o).run Try.prog w = (builtin .len ts o.type (args.map fun | .const _ => true | _ => false) (args.map ρ)).run Try.prog w := by
        unfold execOp
        rw [ho]
        rfl
      rw [hexec, hx]
      have hu : Try.prog.underlying 29 = some (.slice 47) := by kernel_rfl
      have hu2 := run_under (w := w) hu
      have hv : Try.prog.underlying 45 = some (.slice 3) := by kernel_rfl
      have hv2 := run_under (w := w) hv
      rcases hts' with hts' | hts'
      · simp [builtin, Builtin.len_, hts', hu2, goInt, Sem.run_pure, Sem.run_bind, Result.andThen]
      · simp [builtin, Builtin.len_, hts', hv2, goInt, Sem.run_pure, Sem.run_bind, Result.andThen]
  · cases h
theorem X_ok [Tok] {N : Nat} : ∀ k x, XL k = some x → ∀ args h v h', x args h = some (v, h') → CallOk Try.prog 0 N k args h v h' := by
  refine trueX_ok (fun f hf h => ?_)
  obtain rfl := List.mem_singleton.1 hf
  obtain ⟨h', hrun⟩ := resB_some alive_run
  rw [callF_eq] at hrun
  exact closed_call (sound noX_ok noTb_ok 1000) hrun h
/-- a law's run from what the world holds -/
theorem law_calls_from [Tok] {n f : Nat} {args : List Value} {cargs : Array Value} {h0 h' : AHeap} {W : World} {π : Pi} (hc : CallsOk Try.prog 0 W.heap.size (acall EE n)) (hrun : acall EE n f args h0 = some (.bool true, h')) (hg : GR 0 π) (hr : HR π W.heap.size h0.get h0.next W) (hargs : VRs π args cargs.toList) (hown : ∀ b, ¬ Own π h0.get b) :
    Calls Try.prog f cargs W fun e W' => e = .returned (.bool true) ∧ Below W.heap.size W W' := by
  obtain ⟨_, hcall⟩ := hc f args h0 (.bool true) h' hrun
  refine (hcall π W cargs hg hr hargs).mono ?_
  rintro e w' ⟨π', v', rfl, hv, hst⟩
  have := hv.bool_inv
  subst this
  exact ⟨rfl, hst.os, hst.tape, hst.output, hst.size, fun b hb => hst.blk b hb (hown b)⟩
/-- a law's row of numbers as the machine has it -/
def NumsAt (h : AHeap) (l : List Int) (sv : Value) (ids : List Nat) : Prop :=
  (l = [] ∧ sv = .chan (some 0) ∧ ids = []) ∨ ∃ b, sv = .slice (some ⟨b, 0, none⟩) l.length (CAPX + 1) ∧ h.get b = some (.ro (ints l)) ∧ ids = [b]
theorem NumsAt.keep {h h' : AHeap} {l : List Int} {sv : Value} {ids : List Nat} (hs : NumsAt h l sv ids) (hk : ∀ i ∈ ids, h'.get i = h.get i) : NumsAt h' l sv ids := by
  rcases hs with hs | ⟨b, h1, h2, rfl⟩
  · exact .inl hs
  · exact .inr ⟨b, h1, by rw [hk b (.head _)]; exact h2, rfl⟩
theorem nums_cells {W : World} {A : Option Addr} {l : List Int} (hr : Kd.C (Kd.int .i64) W A l.length l) (h0 : 0 < l.length) : ∃ bk of ds t fr, A = some ⟨bk, of, none⟩ ∧ W.heap[bk]? = some (.cells ds t fr) ∧ ∀ (i : Nat) (hi : i < l.length), ds[of + i]? = some (.int .i64 l[i]) := by
  have key : ∀ (i : Nat) (hi : i < l.length), ∃ ad, A = some ad ∧ W.cell? (ad.add i) = some (.int .i64 l[i]) := by
    intro i hi
    obtain ⟨ad, c, e, _, hK, hc0⟩ := Kd.C_get hr (0 : Int) (i : Int) (by omega) (by omega)
    have hg : l.getD (i : Int).toNat 0 = l[i] := by simp [List.getD, hi]
    rw [hg] at hK
    have hK : c = [.int .i64 l[i]] := hK
    subst hK
    have := hc0 0 _ rfl
    refine ⟨ad, e, ?_⟩
    have h2 : (i : Int).toNat * (Kd.int .i64).sz + 0 = i := by show i * 1 + 0 = i; omega
    rw [h2] at this; exact this
  obtain ⟨ad, e, h1⟩ := key 0 h0
  have h3 : W.cell? ad = some (.int .i64 (l[0]'h0)) := h1
  obtain ⟨bk, of, sp⟩ := ad
  unfold World.cell? at h3
  split at h3
  · rename_i ds t fr hb
    have hsp : sp = none := by
      cases sp with
      | none => rfl
      | some q => simp at h3
    subst hsp
    refine ⟨bk, of, ds, t, fr, e, hb, fun i hi => ?_⟩
    obtain ⟨ad', e', h4⟩ := key i hi
    rw [e] at e'
    obtain rfl := Option.some.inj e'
    have hadd : (⟨bk, of, none⟩ : Addr).add i = ⟨bk, of + i, none⟩ := by
      unfold Addr.add
      split
      · rename_i hz; rw [hz]; rfl
      · rfl
    rw [hadd] at h4
    unfold World.cell? at h4
    simpa [hb] using h4
  · cases h3
/-- the whole: a law over a number, a row of numbers, two numbers -/
theorem law_nums {n f : Nat} {q x y : Int} {W : World} {A : Option Addr} {c : Nat} {l : List Int} (hr : Kd.C (Kd.int .i64) W A l.length l) (hlc : l.length ≤ c)
    (run : ∀ (h0 : AHeap) (sv : Value) (ids : List Nat), NumsAt h0 l sv ids → (∀ i ∈ ids, i < h0.next) → C EE n f [.int .i64 q, sv, .int .i64 x, .int .i64 y] h0 fun v _ => v = .bool true) :
    Calls Try.prog f #[.int .i64 q, .slice A l.length c, .int .i64 x, .int .i64 y] W fun e W' => e = .returned (.bool true) ∧ Below W.heap.size W W' := by
  by_cases hl : l.length = 0
  · have hnil := List.eq_nil_of_length_eq_zero hl
    subst hnil
    letI := tokL (.slice A 0 c) slice_one (fun b => W.heap[b]?)
    obtain ⟨v, h', h1, rfl⟩ := C_out (run ⟨.nil, 0⟩ (.chan (some 0)) [] (.inl ⟨rfl, rfl, rfl⟩) (fun i hi => by cases hi))
    refine law_calls_from (sound X_ok tbL_ok n) h1 piG_gr (hr_nil (fun id hid => if_neg (Nat.not_lt.2 hid)) ⟨Nat.le_refl _, fun b _ => rfl⟩) ?_ (fun b => own_nil)
    exact .cons (.int _ _) (.cons (VR.tok 0) (.cons (.int _ _) (.cons (.int _ _) .nil)))
  · obtain ⟨bk, of, ds, t, fr, rfl, hb, hcell⟩ := nums_cells hr (by omega)
    letI := tokL (.slice none 0 0) slice_one (fun b => W.heap[b]?)
    obtain ⟨v, h', h1, rfl⟩ := C_out (run ⟨(Tr.nil).put 0 (some (.ro (ints l))), 0 + 1⟩ (.slice (some ⟨0, 0, none⟩) l.length (CAPX + 1)) [0] (.inr ⟨0, rfl, by show Tr.get _ _ = _; rw [Tr.get_put, if_pos rfl], rfl⟩) (fun i hi => by rw [List.mem_singleton.1 hi]; exact Nat.lt_succ_self _))
    have hbl : bk < W.heap.size := (Array.getElem?_eq_some_iff.1 hb).1
    let π : Pi := fun id => if id < 0 then some ⟨id, 0, 0⟩ else if id = 0 then some ⟨bk, of, of + c⟩ else none
    have hπ : π 0 = some ⟨bk, of, of + c⟩ := by simp [π]
    have hgs : ∀ id o, AHeap.get ⟨(Tr.nil).put 0 (some (.ro (ints l))), 0 + 1⟩ id = some o → id = 0 ∧ o = .ro (ints l) := by
      intro id o h
      have h : Tr.get ((Tr.nil).put 0 (some (.ro (ints l)))) id = some o := h
      rw [Tr.get_put] at h
      split at h
      · rename_i e; exact ⟨e, (Option.some.inj h).symm⟩
      · cases h
    refine law_calls_from (π := π) (sound X_ok tbL_ok n) h1 (fun g hg => ⟨0, by show (if g < 0 then _ else _) = _; rw [if_pos hg]⟩) ⟨fun id o h => ?_, fun i j o p L M hi hj hor => ?_, fun id hid => ?_, ⟨Nat.le_refl _, fun b _ => rfl⟩⟩ ?_ (fun b => ?_)
    · obtain ⟨rfl, rfl⟩ := hgs id o h
      refine ⟨_, hπ, hbl, ds, t, fr, hb, fun j v hj => ?_⟩
      rw [ints_get] at hj
      obtain ⟨k, hk, rfl⟩ := Option.map_eq_some_iff.1 hj
      obtain ⟨hjl, rfl⟩ := List.getElem?_eq_some_iff.1 hk
      exact ⟨_, hcell j hjl, .int _ _⟩
    · obtain ⟨_, rfl⟩ := hgs i o hi
      cases hor
    · have hid : 0 + 1 ≤ id := hid
      simp only [π]
      rw [if_neg (by omega), if_neg (by omega)]
    · refine .cons (.int _ _) (.cons ?_ (.cons (.int _ _) (.cons (.int _ _) .nil)))
      have := VR.slice (π := π) (id := 0) (o := 0) (len := l.length) (cap := CAPX + 1) (cap' := c) hπ (.inr ⟨1, rfl, by omega, by simp, hlc⟩)
      exact this
    · rintro ⟨id, o, L, h, hor, _⟩
      obtain ⟨_, rfl⟩ := hgs id o h
      cases hor
end Go.Proofs.Yteffhomollmpdaa.AM.SX

/- Robin: what stays true of flows and of a round. -/
namespace Go.Proofs.Yteffhomollmpdaa.AM.SX
open Go Go.Proofs.Yteffhomollmpdaa.X
set_option linter.unusedVariables false
set_option linter.unusedSimpArgs false
set_option maxRecDepth 100000
set_option maxHeartbeats 4000000
theorem insF_mem {S : List Fl} {x y : Fl} (h : y ∈ insF S x) : y = x ∨ y ∈ S := by
  unfold insF at h
  rcases List.mem_append.1 h with h1 | h1
  · exact .inr (List.mem_of_mem_take h1)
  · rcases List.mem_cons.1 h1 with h2 | h2
    · exact .inl h2
    · exact .inr (List.mem_of_mem_drop h2)
theorem foldl_mem : ∀ {l S : List Fl} {y : Fl}, y ∈ l.foldl insF S → y ∈ l ∨ y ∈ S
  | [], S, y, h => .inr h
  | x :: l, S, y, h => by
    rw [List.foldl_cons] at h
    rcases foldl_mem h with h1 | h1
    · exact .inl (.tail _ h1)
    · rcases insF_mem h1 with rfl | h2
      · exact .inl (.head _)
      · exact .inr h2
theorem sortF_mem {l : List Fl} {y : Fl} (h : y ∈ sortF l) : y ∈ l := by
  rcases foldl_mem h with h1 | h1
  · exact h1
  · cases h1
theorem compN_mem {l : List Fl} {y : Fl} : ∀ {k : Nat}, k ≤ l.length → y ∈ compN l k → y ∈ l
  | 0, _, h => by cases h
  | k + 1, hk, h => by
    have h : y ∈ compN l k ++ (if 0 < k ∧ (l.getD k (0, 0)).1 = (l.getD (k - 1) (0, 0)).1 then [] else [l.getD k (0, 0)]) := h
    rcases List.mem_append.1 h with h1 | h1
    · exact compN_mem (by omega) h1
    · split at h1
      · cases h1
      · rw [List.mem_singleton.1 h1, getD_at hk]
        exact List.getElem_mem _
theorem flowsF_mem {l : List Fl} {y : Fl} (h : y ∈ flowsF l) : y ∈ l ∧ 0 < y.2 := by
  unfold flowsF delF at h
  obtain ⟨h1, h2⟩ := List.mem_filter.1 h
  exact ⟨sortF_mem (compN_mem (Nat.le_refl _) h1), by simpa using h2⟩
theorem flowsF_len (l : List Fl) : (flowsF l).length ≤ l.length := by
  refine Nat.le_trans (List.length_filter_le _ _) (Nat.le_trans (compF_len _) ?_)
  rw [sortF_len]; exact Nat.le_refl _
theorem flowsF_wok {l : List Fl} (hb : ∀ x ∈ l, x.2 ≤ 1099511627776) : WOk (flowsF l) := fun x hx => ⟨(flowsF_mem hx).2, hb x (flowsF_mem hx).1⟩
theorem roundL_c : ∀ (k : Nat) (c la : Int) (any : Bool) (lf out : List Fl), 0 ≤ c → WOk lf → 0 ≤ (roundL k c la any lf out).1 ∧ (roundL k c la any lf out).1 ≤ c
  | 0, c, la, any, lf, out, hc, hw => ⟨hc, Int.le_refl _⟩
  | k + 1, c, la, any, lf, out, hc, hw => by
    unfold roundL
    by_cases h0 : lf.length = 0
    · rw [if_pos h0]; exact ⟨Int.le_refl _, hc⟩
    · rw [if_neg h0]
      have hil := pickI_lt (la := la) (any := any) (lf := lf) (by omega)
      have hgd := getD_at hil
      have hx := hw _ (List.getElem_mem hil)
      rw [hgd]
      generalize lf[pickI la any lf] = x at *
      by_cases hcg : c < min x.2 64
      · rw [if_pos hcg]; exact ⟨hc, Int.le_refl _⟩
      · rw [if_neg hcg]
        have hw' : WOk (if x.2 - min x.2 64 = 0 then lf.eraseIdx (pickI la any lf) else lf.set (pickI la any lf) (x.1, x.2 - min x.2 64)) := by
          split
          · exact fun z hz => hw z (List.mem_of_mem_eraseIdx hz)
          · intro z hz
            rcases List.mem_or_eq_of_mem_set hz with h3 | h3
            · exact hw z h3
            · rw [h3]; exact ⟨by show 0 < x.2 - min x.2 64; omega, by show x.2 - min x.2 64 ≤ _; omega⟩
        have := roundL_c k (c - min x.2 64) x.1 true _ (out ++ [(x.1, min x.2 64)]) (by omega) hw'
        omega
end Go.Proofs.Yteffhomollmpdaa.AM.SX

/- RobinOrder: the order in which flows are told doesn't matter. -/
namespace Go.Proofs.Yteffhomollmpdaa.AM.SX
open Go Go.Proofs.Yteffhomollmpdaa.X
set_option linter.unusedVariables false
set_option linter.unusedSimpArgs false
theorem insF_perm (S : List Fl) (x : Fl) : (insF S x).Perm (x :: S) := by
  unfold insF
  have h := List.perm_middle (a := x) (l₁ := S.take (insAt S x S.length)) (l₂ := S.drop (insAt S x S.length))
  rwa [List.take_append_drop] at h
theorem foldl_perm : ∀ (l S : List Fl), (l.foldl insF S).Perm (l ++ S)
  | [], S => .refl _
  | x :: l, S => by
    rw [List.foldl_cons]
    refine (foldl_perm l _).trans ?_
    refine ((insF_perm S x).append_left l).trans ?_
    exact List.perm_middle
theorem sortF_perm (l : List Fl) : (sortF l).Perm l := by
  have := foldl_perm l []
  rwa [List.append_nil] at this
/-- by rising connections -/
def Up (l : List Fl) : Prop := l.Pairwise fun a b => a.1 ≤ b.1
theorem insAt_spec {S : List Fl} (hS : Up S) (x : Fl) : ∀ j, j ≤ S.length → (∀ (q : Nat) (hq : q < S.length), j ≤ q → x.1 ≤ S[q].1) → (∀ (q : Nat) (hq : q < S.length), insAt S x j ≤ q → x.1 ≤ S[q].1) ∧ (∀ (q : Nat) (hq : q < S.length), q < insAt S x j → S[q].1 ≤ x.1) ∧ insAt S x j ≤ j
  | 0, _, h => ⟨h, fun q _ h => absurd h (Nat.not_lt_zero _), Nat.le_refl _⟩
  | j + 1, hj, h => by
    have hjl : j < S.length := hj
    unfold insAt
    rw [getD_at hjl]
    by_cases hx : x.1 < S[j].1
    · rw [if_pos hx]
      obtain ⟨h1, h2, h3⟩ := insAt_spec hS x j (by omega) (fun q hq hjq => by
        rcases Nat.lt_or_ge j q with h4 | h4
        · exact h q hq h4
        · obtain rfl : q = j := by omega
          omega)
      exact ⟨h1, h2, by omega⟩
    · rw [if_neg hx]
      refine ⟨h, fun q hq hqj => ?_, Nat.le_refl _⟩
      rcases Nat.lt_or_ge q j with h4 | h4
      · have := List.pairwise_iff_getElem.1 hS q j hq hjl h4
        omega
      · obtain rfl : q = j := by omega
        omega
theorem insF_up {S : List Fl} (hS : Up S) (x : Fl) : Up (insF S x) := by
  obtain ⟨h1, h2, h3⟩ := insAt_spec hS x S.length (Nat.le_refl _) (fun q hq h => absurd hq (by omega))
  unfold insF Up
  generalize insAt S x S.length = p at *
  have hta : ∀ a ∈ S.take p, a.1 ≤ x.1 := fun a ha => by
    obtain ⟨i, hi, rfl⟩ := List.mem_iff_getElem.1 ha
    rw [List.length_take] at hi
    rw [List.getElem_take]
    exact h2 i (by omega) (by omega)
  have htb : ∀ b ∈ S.drop p, x.1 ≤ b.1 := fun b hb => by
    obtain ⟨i, hi, rfl⟩ := List.mem_iff_getElem.1 hb
    rw [List.length_drop] at hi
    rw [List.getElem_drop]
    exact h1 _ (by omega) (by omega)
  refine List.pairwise_append.2 ⟨hS.sublist (List.take_sublist _ _), List.pairwise_cons.2 ⟨htb, hS.sublist (List.drop_sublist _ _)⟩, fun a ha b hb => ?_⟩
  rcases List.mem_cons.1 hb with rfl | hb
  · exact hta a ha
  · have := hta a ha; have := htb b hb; omega
theorem foldl_up : ∀ (l S : List Fl), Up S → Up (l.foldl insF S)
  | [], S, h => h
  | x :: l, S, h => foldl_up l _ (insF_up h x)
theorem sortF_up (l : List Fl) : Up (sortF l) := foldl_up l [] .nil
/-- unlike connections -/
def Di (l : List Fl) : Prop := (l.map (·.1)).Nodup
theorem Di.perm {l m : List Fl} (h : Di l) (hp : l.Perm m) : Di m := (hp.map (fun x : Fl => x.1)).nodup_iff.1 h
theorem compF_di {l : List Fl} (h : Di l) : compF l = l := by
  unfold compF
  rw [compN_take (Nat.le_refl _) (fun q hq _ e => ?_), List.take_length]
  have := List.pairwise_iff_getElem.1 h q (q + 1) (by simp; omega) (by simpa using hq) (by omega)
  simp only [List.getElem_map] at this
  exact this e.symm
/-- rows by rising, unlike connections that hold the same are the same -/
theorem up_eq : ∀ {l m : List Fl}, Up l → Up m → Di l → Di m → l.Perm m → l = m
  | [], m, _, _, _, _, hp => (List.Perm.nil_eq hp)
  | x :: l, [], _, _, _, _, hp => absurd hp.symm.nil_eq (by simp)
  | x :: l, y :: m, hl, hm, dl, dm, hp => by
    have hxy : x = y := by
      have hx : x ∈ y :: m := hp.subset (.head _)
      have hy : y ∈ x :: l := hp.symm.subset (.head _)
      rcases List.mem_cons.1 hx with h | hx
      · exact h
      · rcases List.mem_cons.1 hy with h | hy
        · exact h.symm
        · have h1 := (List.pairwise_cons.1 hm).1 x hx
          have h2 := (List.pairwise_cons.1 hl).1 y hy
          have h3 : y.1 ∉ m.map (·.1) := (List.nodup_cons.1 dm).1
          exact absurd (List.mem_map_of_mem (f := (·.1)) hx) (by rw [show x.1 = y.1 by omega]; exact h3)
    subst hxy
    rw [up_eq (List.pairwise_cons.1 hl).2 (List.pairwise_cons.1 hm).2 (List.nodup_cons.1 dl).2 (List.nodup_cons.1 dm).2 (List.Perm.cons_inv hp)]
theorem delF_sub (l : List Fl) : (delF l).Sublist l := List.filter_sublist
theorem flowsF_di {l : List Fl} (h : Di l) : flowsF l = delF (sortF l) := by
  unfold flowsF; rw [compF_di (h.perm (sortF_perm l).symm)]
/-- of unlike connections the flows that count are the same, in whatever order they are told -/
theorem flowsF_order {l m : List Fl} (dl : Di l) (dm : Di m) (hp : (delF l).Perm (delF m)) : flowsF l = flowsF m := by
  rw [flowsF_di dl, flowsF_di dm]
  have hs : ∀ {l : List Fl}, Di l → Up (delF (sortF l)) ∧ Di (delF (sortF l)) ∧ (delF (sortF l)).Perm (delF l) := fun {l} d =>
    ⟨(sortF_up l).sublist (delF_sub _), (d.perm (sortF_perm l).symm).sublist ((delF_sub _).map _), (sortF_perm l).filter _⟩
  obtain ⟨a1, a2, a3⟩ := hs dl
  obtain ⟨b1, b2, b3⟩ := hs dm
  exact up_eq a1 b1 a2 b2 (a3.trans (hp.trans b3.symm))
end Go.Proofs.Yteffhomollmpdaa.AM.SX

/- RobinOrder: rows of parts; what a round grants, and to whom. -/
namespace Go.Proofs.Yteffhomollmpdaa.AM.SX
open Go Go.Proofs.Yteffhomollmpdaa.X
set_option linter.unusedVariables false
set_option linter.unusedSimpArgs false
set_option maxRecDepth 100000
section
variable {α : Type} {K : Enc α} {T : Tr TI} {st e sz b : Nat} {z : Value} {ei : TI} {h : AHeap}
/-- a row of two records, just laid -/
theorem bs_row2 {nid : Nat} {x y : α} (hst : T.get st = some ⟨.slice e, sz, b, z⟩) (he : T.get e = some ei) (hs : K.Ok ei) (hk : K.sz ≤ 1000) (ha : afill (fun j => some (j * ei.size, ei.size)) (reps ei.zero.cells.toList 2) [(0, .agg ⟨K.enc x⟩), (1, .agg ⟨K.enc y⟩)] = some (K.fl [x, y])) : abuildSlice T h nid st 2 [(0, .agg ⟨K.enc x⟩), (1, .agg ⟨K.enc y⟩)] = some (.slice (some ⟨nid, 0, none⟩) 2 2, h.new nid (.cells (K.fl [x, y]) true)) := by
  have h1 : Nat.ble (2 * ei.size) 16777216 = true := by rw [bled, decide_eq_true_eq, hs.size]; omega
  have h2 : Nat.ble 2 16777216 = true := rfl
  have h3 : Nat.beq ei.zero.cells.toList.length ei.size = true := by rw [hs.zero, hs.size, beqd]; simp
  simp only [abuildSlice, hst, he, h1, h2, h3, ha, K.fl_ones, cond_true, Bool.and_self]
/-- what a part of a row holds -/
theorem src_part {bk i n c : Nat} {l : List α} {w : Bool} (hb : h.get bk = some (.cells (K.fl l) w)) (hi : i + n ≤ l.length) : srcCells h K.sz (.slice (some ⟨bk, i * K.sz, none⟩) n c) = some (n, K.fl ((l.drop i).take n)) := by
  simp only [srcCells, rd_cells hb, K.fl_cutm hi]
/-- nothing is appended -/
theorem app_none {xt xe xs xb : Nat} {xz : Value} {A : Addr} {m c : Nat} {x : Value} (hst : T.get st = some ⟨.slice e, sz, b, z⟩) (he : T.get e = some ei) (hs : K.Ok ei) (hxt : T.get xt = some ⟨.slice xe, xs, xb, xz⟩) (hA : A.spot = none) (hsrc : srcCells h K.sz x = some (0, [])) : aappend T h h.next [st, xt] (.slice (some A) m c) x = some (.slice (some A) m c, h) := by
  obtain ⟨ek, es, eb, ez⟩ := ei
  obtain ⟨e1, e2, e3⟩ := hs
  replace e1 : es = K.sz := e1
  subst e1
  replace e2 : ez.cells.toList.length = K.sz := e2
  have hp := K.pos
  have c0 : Nat.beq K.sz 0 = false := by rw [beqd, decide_eq_false_iff_not]; omega
  have c1 : Nat.beq ez.cells.toList.length K.sz = true := by rw [e2, beqd]; simp
  have c2 : Nat.beq 0 0 = true := rfl
  have c3 : ones ([] : List Value) = true := rfl
  obtain ⟨i, o, w⟩ := A
  replace hA : w = none := hA
  subst hA
  simp only [aappend, hst, hxt, he, hsrc, c0, c1, c2, c3, cond_true, cond_false, Bool.not_true]
end
/-- the connections of a row -/
theorem roundL_out : ∀ (k : Nat) (c la : Int) (any : Bool) (lf out : List Fl) (P : Int → Prop), WOk lf → (∀ x ∈ lf, P x.1) → (∀ g ∈ out, P g.1 ∧ 1 ≤ g.2 ∧ g.2 ≤ 64) → (∀ g ∈ (roundL k c la any lf out).2.2.2, P g.1 ∧ 1 ≤ g.2 ∧ g.2 ≤ 64) ∧ (roundL k c la any lf out).2.2.2.length ≤ out.length + k
  | 0, c, la, any, lf, out, P, hw, hl, ho => ⟨ho, Nat.le_refl _⟩
  | k + 1, c, la, any, lf, out, P, hw, hl, ho => by
    unfold roundL
    by_cases h0 : lf.length = 0
    · rw [if_pos h0]; exact ⟨ho, by show out.length ≤ _; omega⟩
    · rw [if_neg h0]
      have hil := pickI_lt (la := la) (any := any) (lf := lf) (by omega)
      have hgd := getD_at hil
      have hx := hw _ (List.getElem_mem hil)
      have hxP := hl _ (List.getElem_mem hil)
      rw [hgd]
      generalize lf[pickI la any lf] = x at *
      by_cases hcg : c < min x.2 64
      · rw [if_pos hcg]; exact ⟨ho, by show out.length ≤ _; omega⟩
      · rw [if_neg hcg]
        have hm : ∀ z ∈ (if x.2 - min x.2 64 = 0 then lf.eraseIdx (pickI la any lf) else lf.set (pickI la any lf) (x.1, x.2 - min x.2 64)), (0 < z.2 ∧ z.2 ≤ 1099511627776) ∧ P z.1 := by
          intro z hz
          split at hz
          · exact ⟨hw z (List.mem_of_mem_eraseIdx hz), hl z (List.mem_of_mem_eraseIdx hz)⟩
          · rcases List.mem_or_eq_of_mem_set hz with h3 | h3
            · exact ⟨hw z h3, hl z h3⟩
            · rw [h3]; exact ⟨⟨by show 0 < x.2 - min x.2 64; omega, by show x.2 - min x.2 64 ≤ _; omega⟩, hxP⟩
        have := roundL_out k (c - min x.2 64) x.1 true _ (out ++ [(x.1, min x.2 64)]) P (fun z hz => (hm z hz).1) (fun z hz => (hm z hz).2) (fun g hg => by
          rcases List.mem_append.1 hg with h | h
          · exact ho g h
          · rw [List.mem_singleton.1 h]; exact ⟨hxP, by show 1 ≤ min x.2 64; omega, by show min x.2 64 ≤ 64; omega⟩)
        refine ⟨this.1, ?_⟩
        have h2 := this.2
        rw [List.length_append, List.length_singleton] at h2
        omega
/-! ### the flows of RobinOrder -/
/-- connections 0, 3, 6, ..; wants within bounds -/
structure OF (lo : Int) (l : List Fl) : Prop where
  conn : ∀ (i : Nat) (hi : i < l.length), l[i].1 = 3 * (i : Int)
  want : ∀ (i : Nat) (hi : i < l.length), lo ≤ l[i].2 ∧ l[i].2 ≤ 1023
theorem OF.up {lo : Int} {l : List Fl} (h : OF lo l) : Up l := List.pairwise_iff_getElem.2 fun i j hi hj hij => by
  rw [h.conn i hi, h.conn j hj]; omega
theorem OF.di {lo : Int} {l : List Fl} (h : OF lo l) : Di l := List.pairwise_iff_getElem.2 fun i j hi hj hij => by
  rw [List.getElem_map, List.getElem_map, h.conn i (by simpa using hi), h.conn j (by simpa using hj)]; omega
theorem OF.mem {lo : Int} {l : List Fl} (h : OF lo l) {x : Fl} (hx : x ∈ l) : ∃ i, i < l.length ∧ x.1 = 3 * (i : Int) ∧ lo ≤ x.2 ∧ x.2 ≤ 1023 := by
  obtain ⟨i, hi, rfl⟩ := List.mem_iff_getElem.1 hx
  exact ⟨i, hi, h.conn i hi, (h.want i hi).1, (h.want i hi).2⟩
def otherF (l : List Fl) (k : Nat) : List Fl := [(1, 0), (-7, -5)] ++ l.drop k ++ l.take k
theorem otherF_len (l : List Fl) (k : Nat) : (otherF l k).length = l.length + 2 := by
  unfold otherF; simp only [List.length_append, List.length_cons, List.length_nil, List.length_drop, List.length_take]; omega
theorem rot_perm (l : List Fl) (k : Nat) : (l.drop k ++ l.take k).Perm l := by
  refine List.perm_append_comm.trans ?_
  rw [List.take_append_drop]
theorem OF.other {lo : Int} {l : List Fl} (h : OF lo l) (k : Nat) : flowsF (otherF l k) = flowsF l := by
  have hd : Di (otherF l k) := by
    unfold otherF Di
    rw [List.append_assoc, List.map_append]
    refine List.nodup_append.2 ⟨by decide, (h.di.perm (rot_perm l k).symm), fun a ha b hb => ?_⟩
    obtain ⟨x, hx, rfl⟩ := List.mem_map.1 hb
    obtain ⟨i, _, hi, _⟩ := h.mem ((rot_perm l k).subset hx)
    have ha2 : a = 1 ∨ a = -7 := by simpa using ha
    rcases ha2 with rfl | rfl <;> omega
  refine flowsF_order hd h.di ?_
  have : delF (otherF l k) = delF (l.drop k ++ l.take k) := by
    unfold otherF delF
    rw [List.append_assoc, List.filter_append]
    rfl
  rw [this]
  exact (rot_perm l k).filter _
/-- of a row the part that a grant takes -/
def subF (l : List Fl) (g : Fl) : List Fl := l.set (g.1 / 3).toNat (g.1, (l.getD (g.1 / 3).toNat (0, 0)).2 - g.2)
theorem OF.sub {lo : Int} {l : List Fl} (h : OF lo l) {g : Fl} {i : Nat} (hi : i < l.length) (hg : g.1 = 3 * (i : Int)) (hn : 1 ≤ g.2 ∧ g.2 ≤ 64) : OF (lo - 64) (subF l g) ∧ (subF l g).length = l.length ∧ (g.1 / 3).toNat = i := by
  have hgi : (g.1 / 3).toNat = i := by rw [hg]; omega
  have hs : subF l g = l.set i (3 * (i : Int), l[i].2 - g.2) := by unfold subF; rw [hgi, getD_at hi, hg]
  refine ⟨⟨fun j hj => ?_, fun j hj => ?_⟩, by unfold subF; rw [List.length_set], hgi⟩
  · simp only [hs, List.length_set] at hj
    simp only [hs, List.getElem_set]
    split
    · rename_i e; subst e; rfl
    · exact h.conn j hj
  · simp only [hs, List.length_set] at hj
    simp only [hs, List.getElem_set]
    have h1 := h.want j hj
    split
    · rename_i e; subst e
      show lo - 64 ≤ l[i].2 - g.2 ∧ l[i].2 - g.2 ≤ 1023
      omega
    · omega
end Go.Proofs.Yteffhomollmpdaa.AM.SX

/- RobinOrder on the machine. -/
namespace Go.Proofs.Yteffhomollmpdaa.AM.SX
open Go Go.Proofs.Yteffhomollmpdaa.X
set_option linter.unusedVariables false
set_option linter.unusedSimpArgs false
set_option maxRecDepth 100000
set_option maxHeartbeats 8000000
attribute [local irreducible] astep0 aev awants abin abuild
theorem b_maskP {T : Tr TI} {h : AHeap} {t : Nat} {x : Int} (k : Nat) (hk : k < 63) (M : Int) (hM : (BitVec.ofInt 64 M).toNat = 2 ^ k - 1) : abin T h .and t (.int .i64 x) (.int .i64 M) = some (.int .i64 (x % ((2 ^ k : Nat) : Int))) := by
  have key : (BitVec.ofInt 64 x &&& BitVec.ofInt 64 M).toNat = (x % ((2 ^ 64 : Nat) : Int)).toNat % 2 ^ k := by
    rw [BitVec.toNat_and, BitVec.toNat_ofInt, hM, Nat.and_two_pow_sub_one_eq_mod]
  have hp : (2 : Nat) ^ k ∣ 2 ^ 64 := Nat.pow_dvd_pow 2 (by omega)
  have hlt : (2 : Nat) ^ k ≤ 2 ^ 62 := Nat.pow_le_pow_right (by decide) (by omega)
  have h0 : 0 < (2 : Nat) ^ k := Nat.pow_pos (by decide)
  have hr : ((x % ((2 ^ 64 : Nat) : Int)).toNat % 2 ^ k : Nat) = (x % ((2 ^ k : Nat) : Int)).toNat := by
    have h1 : 0 ≤ x % ((2 ^ 64 : Nat) : Int) := Int.emod_nonneg _ (by decide)
    have h2 : 0 ≤ x % ((2 ^ k : Nat) : Int) := Int.emod_nonneg _ (by omega)
    have : (((x % ((2 ^ 64 : Nat) : Int)).toNat % 2 ^ k : Nat) : Int) = ((x % ((2 ^ k : Nat) : Int)).toNat : Int) := by
      rw [Int.natCast_emod, Int.toNat_of_nonneg h1, Int.toNat_of_nonneg h2]
      exact Int.emod_emod_of_dvd _ (Int.natCast_dvd_natCast.2 hp)
    exact Int.ofNat_inj.1 this
  have h2 : 0 ≤ x % ((2 ^ k : Nat) : Int) := Int.emod_nonneg _ (by omega)
  have h3 : x % ((2 ^ k : Nat) : Int) < ((2 ^ k : Nat) : Int) := Int.emod_lt_of_pos _ (by omega)
  have hv : IntKind.i64.wrap ((BitVec.ofInt 64 x &&& BitVec.ofInt 64 M).toNat : Nat) = x % ((2 ^ k : Nat) : Int) := by
    have h9 : ((2 ^ k : Nat) : Int) ≤ 4611686018427387904 := Int.le_trans (Int.ofNat_le.2 hlt) (by decide)
    rw [key, hr, Int.toNat_of_nonneg h2, wrap64 (by omega) (by omega)]
  simp only [abin, aint, if_true]
  exact congrArg (fun z => some (Value.int .i64 z)) hv
theorem b_rem {T : Tr TI} {h : AHeap} {t : Nat} {x : Int} {m : Nat} (hx : 0 ≤ x) (hm : 0 < m) : abin T h .rem t (.int .i64 x) (.int .i64 (m : Int)) = some (.int .i64 (x % (m : Int))) := by
  have h4 : ¬ ((m : Int) = 0) := by omega
  simp only [abin, aint, if_true, if_neg h4, Int.tmod_eq_emod_of_nonneg hx]
theorem len_nums {n : Nat} {ops : Array Oper} {os : List Oper} {a : AAct} {h : AHeap} {Q : AAct → AHeap → Prop} {dst : Option Nat} {ty : Nat} {pos : String} {aft : Array Edge} {g : Option (Nat × Bool)} {args : Array Operand} {l : List Int} {sv : Value} {ids : List Nat} (hs : NumsAt h l sv ids) (hw : awants ops a ⟨dst, .call ⟨.builtin .len, args, #[45]⟩, ty, pos, aft, g⟩ = true) (hl : args.toList.map (aev a) = [sv]) (hh : S EE (acall EE n) ops os (a.put dst (.int .i64 (l.length : Int))) h Q) : S EE (acall EE n) ops (⟨dst, .call ⟨.builtin .len, args, #[45]⟩, ty, pos, aft, g⟩ :: os) a h Q := by
  rcases hs with ⟨rfl, rfl, _⟩ | ⟨b, rfl, _, _⟩
  · refine S_tb hw ?_ rfl (l := [.chan (some 0)]) ?_ rfl hh
    · have hT : EE.T.get 45 = _ := TL rfl
      simp only [astep0, hl]
      simp only [abuiltin, alen, hT]
    · simpa [Op.operands, Call.operands] using hl
  · exact S_step hw (o_builtin hl (lenS (TL rfl))) hh
/-- the flows of the wants -/
def wantF (l : List Int) : List Fl := l.zipIdx.map fun p => (3 * (p.2 : Int), p.1 % 1024)
theorem wantF_take {l : List Int} {i : Nat} (hi : i < l.length) : wantF (l.take (i + 1)) = wantF (l.take i) ++ [(3 * (i : Int), l[i] % 1024)] := by
  unfold wantF
  rw [List.take_succ_eq_append_getElem hi, List.zipIdx_append, List.map_append]
  simp [Nat.min_eq_left (Nat.le_of_lt hi)]
theorem wantF_len (l : List Int) : (wantF l).length = l.length := by simp [wantF]
theorem wantF_OF (l : List Int) : OF 0 (wantF l) := by
  refine ⟨fun i hi => ?_, fun i hi => ?_⟩
  · simp [wantF]
  · have : (wantF l)[i].2 = l[i]'(by simpa [wantF] using hi) % 1024 := by simp [wantF]
    rw [this]
    have h1 := Int.emod_nonneg (l[i]'(by simpa [wantF] using hi)) (show (1024 : Int) ≠ 0 by decide)
    have h2 := Int.emod_lt_of_pos (l[i]'(by simpa [wantF] using hi)) (show (0 : Int) < 1024 by decide)
    omega
/-- the beginning of a row is appended behind another one -/
theorem app_part {h : AHeap} {b3 bf kk : Nat} {l3 js3 fs js : List Fl} (hb3 : h.get b3 = some (.cells (kF.fl (l3 ++ js3)) true)) (hb3l : b3 < h.next) (hbf : h.get bf = some (.cells (kF.fl (fs ++ js)) true)) (hk : kk ≤ fs.length) (hl : l3.length + fs.length ≤ 1000) :
    ∃ h4 b4 js4, aappend EE.T h h.next [29, 29] (.slice (some ⟨b3, 0, none⟩) l3.length (CAPX + kF.sz)) (.slice (some ⟨bf, 0, none⟩) kk (CAPX + kF.sz)) = some (.slice (some ⟨b4, 0, none⟩) (l3 ++ fs.take kk).length (CAPX + kF.sz), h4) ∧ h4.get b4 = some (.cells (kF.fl ((l3 ++ fs.take kk) ++ js4)) true) ∧ h.next ≤ h4.next ∧ (b4 = b3 ∨ h.next ≤ b4) ∧ b4 < h4.next ∧ ∀ w, w < h.next → w ≠ b3 → h4.get w = h.get w := by
  have hsrc := src_part (K := kF) (i := 0) (n := kk) (c := CAPX + kF.sz) hbf (by rw [List.length_append]; omega)
  rw [Nat.zero_mul, List.drop_zero, List.take_append_of_le_length hk] at hsrc
  by_cases hk0 : kk = 0
  · subst hk0
    refine ⟨h, b3, js3, ?_, by rw [List.take_zero, List.append_nil]; exact hb3, Nat.le_refl _, .inl rfl, hb3l, fun _ _ _ => rfl⟩
    rw [List.take_zero, List.append_nil]
    exact app_none (K := kF) (TL rfl) (TL rfl) ⟨rfl, rfl, by decide⟩ (TL rfl) rfl hsrc
  · have hkl : (fs.take kk).length = kk := by rw [List.length_take]; omega
    have hsrc' : srcCells h kF.sz (.slice (some ⟨bf, 0, none⟩) kk (CAPX + kF.sz)) = some ((fs.take kk).length, kF.fl (fs.take kk)) := by rw [hkl]; exact hsrc
    obtain ⟨v4, h4, O4, q1, ⟨b4, js4, rfl, hb4, rfl⟩, q3, q4, q5⟩ := app_rowX (K := kF) (T := EE.T) (h := h) (st := 29) (xt := 29) (l := l3) (v := .slice (some ⟨b3, 0, none⟩) l3.length (CAPX + kF.sz)) (O := [b3]) (news := fs.take kk) (TL rfl) (TL rfl) ⟨rfl, rfl, by decide⟩ (TL rfl) (.inr (.inr ⟨b3, js3, rfl, hb3, rfl⟩)) (by intro e; rw [e] at hkl; exact hk0 hkl.symm) hsrc' (by rw [hkl]; omega) (fun w hw => by rw [List.mem_singleton.1 hw]; exact hb3l)
    refine ⟨h4, b4, js4, q1, hb4, q3.1, ?_, q5 b4 (.head _), fun w hw hn => q3.2 w hw (by simpa using hn)⟩
    rcases q4 with h9 | h9
    · exact .inl (List.singleton_inj.1 h9)
    · exact .inr (by rw [List.singleton_inj.1 h9]; exact Nat.le_refl _)
end Go.Proofs.Yteffhomollmpdaa.AM.SX

/- RobinOrder on the machine: the run. -/
namespace Go.Proofs.Yteffhomollmpdaa.AM.SX
open Go Go.Proofs.Yteffhomollmpdaa.X
set_option linter.unusedVariables false
set_option linter.unusedSimpArgs false
set_option maxRecDepth 100000
set_option maxHeartbeats 8000000
attribute [local irreducible] astep0 aev awants abin abuild
theorem b_mul3 {T : Tr TI} {h : AHeap} {t : Nat} {x y : Int} (h1 : -9223372036854775808 ≤ x * y) (h2 : x * y ≤ 9223372036854775807) : abin T h .mul t (.int .i64 x) (.int .i64 y) = some (.int .i64 (x * y)) := by
  simp only [abin, aint, if_true, wrap64 h1 h2]
theorem b_neqG {h : AHeap} {x : Fl} : abin EE.T h .neq 40 (.agg ⟨kF.enc x⟩) (.agg ⟨kF.enc x⟩) = some (.bool false) := by
  have h0 : aeq EE.T h 40 (.agg ⟨kF.enc x⟩) (.agg ⟨kF.enc x⟩) = some ((x.1 == x.1) && ((x.2 == x.2) && true)) := by
    simp only [aeq, TL (t := 40) rfl]
    show eqCells EE.T _ [.int .i64 x.1, .int .i64 x.2] [.int .i64 x.1, .int .i64 x.2] = _
    simp only [eqCells, TL (t := 3) rfl, eqCell, if_true]
  simp only [abin, h0, beq_self_eq_true, Bool.and_self, Option.map, Bool.not_true]
theorem b_quo3 {T : Tr TI} {h : AHeap} {t : Nat} {i : Nat} (hi : i < 1000) : abin T h .quo t (.int .i64 (3 * (i : Int))) (.int .i64 3) = some (.int .i64 (i : Int)) := by
  have h3 : (3 * (i : Int)).tdiv 3 = (i : Int) := by rw [Int.tdiv_eq_ediv_of_nonneg (by omega)]; omega
  have h4 : ¬ (3 : Int) = 0 := by decide
  simp only [abin, aint, if_true, if_neg h4, h3, wrap64 (x := (i : Int)) (by omega) (by omega)]
theorem roundL_lt64 : ∀ (k : Nat) (c la : Int) (any : Bool) (lf out : List Fl), 0 ≤ c → c < k → WOk lf → (roundL k c la any lf out).1 < 64
  | 0, c, la, any, lf, out, h0, hk, hw => by omega
  | k + 1, c, la, any, lf, out, h0, hk, hw => by
    unfold roundL
    by_cases hl : lf.length = 0
    · rw [if_pos hl]; show (0 : Int) < 64; decide
    · rw [if_neg hl]
      have hil := pickI_lt (la := la) (any := any) (lf := lf) (by omega)
      have hgd := getD_at hil
      have hx := hw _ (List.getElem_mem hil)
      rw [hgd]
      generalize lf[pickI la any lf] = x at *
      by_cases hcg : c < min x.2 64
      · rw [if_pos hcg]; show c < 64; omega
      · rw [if_neg hcg]
        refine roundL_lt64 k _ _ _ _ _ (by omega) (by omega) fun z hz => ?_
        split at hz
        · exact hw z (List.mem_of_mem_eraseIdx hz)
        · rcases List.mem_or_eq_of_mem_set hz with h3 | h3
          · exact hw z h3
          · rw [h3]; exact ⟨by show 0 < x.2 - min x.2 64; omega, by show x.2 - min x.2 64 ≤ _; omega⟩
theorem order_run {n K : Nat} (hK : 2097152 < K ∧ K ≤ 2200000) (hn : K + 400 ≤ n) (q0 t0 r0 : Int) (l : List Int) (h0 : AHeap) (sv : Value) (ids : List Nat) (hs : NumsAt h0 l sv ids) (hlt : ∀ i ∈ ids, i < h0.next) : C EE (n + 1) 7 [.int .i64 q0, sv, .int .i64 t0, .int .i64 r0] h0 fun v _ => v = .bool true := by
  obtain ⟨hK1, hK2⟩ := hK
  refine C_in (E_X _) F_order rfl rfl rfl ?_
  intro a hna hat
  have e0 := hat 0 _ rfl
  have e1 := hat 1 _ rfl
  have e2 := hat 2 _ rfl
  have e3 := hat 3 _ rfl
  replace hna : a.n = 128 := hna
  clear hat
  obtain ⟨m, rfl⟩ : ∃ m, n = m + 1 := ⟨n - 1, by omega⟩
  repeat first | refine G_seq ?_ | refine G_reg ?_ | refine N_seq ?_ | refine N_block ?_ | refine G_block ?_ | refine G_skip ?_ | refine G_cT ?_ | refine G_cF ?_ | refine G_ret ?_ | refine U_seq_ret ?_ | refine U_block_ret ?_ | refine U_nil ?_ | refine S_nil ?_ | refine S_auto ?_
  refine S_call wants0 (by simp only [aev_tmp, aev_const, aev_func, aev_global, at_put, at_none, n_put, reduceIte, Nat.reduceEqDiff, Nat.reduceLT, zq, *]; first | done | rfl) (E_Y _) (by simp only [List.map, aev_tmp, aev_const, aev_func, aev_global, at_put, at_none, n_put, reduceIte, Nat.reduceEqDiff, Nat.reduceLT, zq, *]; first | done | rfl) ?_
  refine (new_spec q0).mono ?_
  rintro r h1 ⟨rfl, rfl⟩
  repeat first | refine G_seq ?_ | refine G_reg ?_ | refine N_seq ?_ | refine N_block ?_ | refine G_block ?_ | refine G_skip ?_ | refine G_cT ?_ | refine G_cF ?_ | refine G_ret ?_ | refine U_seq_ret ?_ | refine U_block_ret ?_ | refine U_nil ?_ | refine S_nil ?_ | refine S_auto ?_
  refine S_call wants0 (by simp only [aev_tmp, aev_const, aev_func, aev_global, at_put, at_none, n_put, reduceIte, Nat.reduceEqDiff, Nat.reduceLT, zq, *]; first | done | rfl) (E_Y _) (by simp only [List.map, aev_tmp, aev_const, aev_func, aev_global, at_put, at_none, n_put, reduceIte, Nat.reduceEqDiff, Nat.reduceLT, zq, *]; first | done | rfl) ?_
  refine (new_spec q0).mono ?_
  rintro r h2 ⟨rfl, rfl⟩
  rw [next_new_self]
  have hq : 1 ≤ min (max q0 1) 1048576 ∧ min (max q0 1) 1048576 ≤ 1048576 := by omega
  generalize min (max q0 1) 1048576 = q at *
  repeat first | refine G_seq ?_ | refine G_reg ?_ | refine N_seq ?_ | refine N_block ?_ | refine G_block ?_ | refine G_skip ?_ | refine G_cT ?_ | refine G_cF ?_ | refine G_ret ?_ | refine U_seq_ret ?_ | refine U_block_ret ?_ | refine U_nil ?_ | refine S_nil ?_ | refine S_auto ?_
  refine S_step wants0 (o_bin (by simp only [aev_tmp, aev_const, aev_func, aev_global, at_put, at_none, n_put, reduceIte, Nat.reduceEqDiff, Nat.reduceLT, zq, *]; first | done | rfl) (by simp only [aev_tmp, aev_const, aev_func, aev_global, at_put, at_none, n_put, reduceIte, Nat.reduceEqDiff, Nat.reduceLT, zq, *]; first | done | rfl) (b_nilP (TL rfl))) ?_
  repeat first | refine G_seq ?_ | refine G_reg ?_ | refine N_seq ?_ | refine N_block ?_ | refine G_block ?_ | refine G_skip ?_ | refine G_cT ?_ | refine G_cF ?_ | refine G_ret ?_ | refine U_seq_ret ?_ | refine U_block_ret ?_ | refine U_nil ?_ | refine S_nil ?_ | refine S_noG ?_ | refine S_auto ?_
  refine S_step (by first | exact wants0 | exact (wantsG rfl rfl (by simp only [n_put, *]; decide) (by simp only [at_put, at_none, n_put, reduceIte, Nat.reduceEqDiff, Nat.reduceLT, cond_true, cond_false, ne_eq, not_true_eq_false, not_false_eq_true, decide_true, decide_false, Bool.not_true, Bool.not_false, eq_self, Int.lt_irrefl, Int.le_refl, *]; first | done | rfl)).trans rfl) (o_bin (by simp only [aev_tmp, aev_const, aev_func, aev_global, at_put, at_none, n_put, reduceIte, Nat.reduceEqDiff, Nat.reduceLT, zq, *]; first | done | rfl) (by simp only [aev_tmp, aev_const, aev_func, aev_global, at_put, at_none, n_put, reduceIte, Nat.reduceEqDiff, Nat.reduceLT, zq, *]; first | done | rfl) (b_nilP (TL rfl))) ?_
  repeat first | refine G_seq ?_ | refine G_reg ?_ | refine N_seq ?_ | refine N_block ?_ | refine G_block ?_ | refine G_skip ?_ | refine G_cT ?_ | refine G_cF ?_ | refine G_ret ?_ | refine U_seq_ret ?_ | refine U_block_ret ?_ | refine U_nil ?_ | refine S_nil ?_ | refine S_noG ?_ | refine S_auto ?_
  refine S_call (by first | exact wants0 | exact (wantsG rfl rfl (by simp only [n_put, *]; decide) (by simp only [at_put, at_none, n_put, reduceIte, Nat.reduceEqDiff, Nat.reduceLT, cond_true, cond_false, ne_eq, not_true_eq_false, not_false_eq_true, decide_true, decide_false, Bool.not_true, Bool.not_false, eq_self, Int.lt_irrefl, Int.le_refl, *]; first | done | rfl)).trans rfl) (by simp only [aev_tmp, aev_const, aev_func, aev_global, at_put, at_none, n_put, reduceIte, Nat.reduceEqDiff, Nat.reduceLT, zq, *]; first | done | rfl) (E_Y _) (by simp only [List.map, aev_tmp, aev_const, aev_func, aev_global, at_put, at_none, n_put, reduceIte, Nat.reduceEqDiff, Nat.reduceLT, zq, *]; first | done | rfl) ?_
  refine C_x E_Xl rfl ?_
  repeat first | refine G_seq ?_ | refine G_reg ?_ | refine N_seq ?_ | refine N_block ?_ | refine G_block ?_ | refine G_skip ?_ | refine G_cT ?_ | refine G_cF ?_ | refine G_ret ?_ | refine U_seq_ret ?_ | refine U_block_ret ?_ | refine U_nil ?_ | refine S_nil ?_ | refine S_noG ?_ | refine S_auto ?_
  have hs2 : NumsAt ((h0.new h0.next (.cells [.int .i64 q, .int .i64 0, .int .i64 0, .bool false] true)).new (h0.next + 1) (.cells [.int .i64 q, .int .i64 0, .int .i64 0, .bool false] true)) l sv ids := hs.keep fun i hi => by have := hlt i hi; rw [get_new_ne (by omega), get_new_ne (by omega)]
  refine len_nums hs2 wants0 (by simp only [List.map, aev_tmp, aev_const, aev_func, aev_global, at_put, at_none, n_put, reduceIte, Nat.reduceEqDiff, Nat.reduceLT, zq, *]; first | done | rfl) ?_
  by_cases h12 : (12 : Int) < (l.length : Int)
  · repeat first | refine G_seq ?_ | refine G_reg ?_ | refine N_seq ?_ | refine N_block ?_ | refine G_block ?_ | refine G_skip ?_ | refine G_cT ?_ | refine G_cF ?_ | refine G_ret ?_ | refine U_seq_ret ?_ | refine U_block_ret ?_ | refine U_nil ?_ | refine S_nil ?_ | refine S_noG ?_ | refine S_auto ?_
    refine FQ_in (by first | exact .inr rfl | exact .inl rfl) (by first | exact ares1 (by simp only [at_put, at_none, n_put, reduceIte, Nat.reduceEqDiff, Nat.reduceLT, zq, *]; first | done | rfl) | exact ares2 (by simp only [at_put, at_none, n_put, reduceIte, Nat.reduceEqDiff, Nat.reduceLT, zq, *]; first | done | rfl) (by simp only [at_put, at_none, n_put, reduceIte, Nat.reduceEqDiff, Nat.reduceLT, zq, *]; first | done | rfl)) ?_
    rfl
  repeat first | refine G_seq ?_ | refine G_reg ?_ | refine N_seq ?_ | refine N_block ?_ | refine G_block ?_ | refine G_skip ?_ | refine G_cT ?_ | refine G_cF ?_ | refine G_ret ?_ | refine U_seq_ret ?_ | refine U_block_ret ?_ | refine U_nil ?_ | refine S_nil ?_ | refine S_noG ?_ | refine S_auto ?_
  refine len_nums hs2 (by first | exact wants0 | exact (wantsG rfl rfl (by simp only [n_put, *]; decide) (by simp only [at_put, at_none, n_put, reduceIte, Nat.reduceEqDiff, Nat.reduceLT, cond_true, cond_false, ne_eq, not_true_eq_false, not_false_eq_true, decide_true, decide_false, Bool.not_true, Bool.not_false, eq_self, Int.lt_irrefl, Int.le_refl, *]; first | done | rfl)).trans rfl) (by simp only [List.map, aev_tmp, aev_const, aev_func, aev_global, at_put, at_none, n_put, reduceIte, Nat.reduceEqDiff, Nat.reduceLT, zq, *]; first | done | rfl) ?_
  by_cases hl0 : (l.length : Int) = 0
  · have cl : ((l.length : Int) = 0) = True := eq_true hl0
    clear hl0
    repeat first | refine G_seq ?_ | refine G_reg ?_ | refine N_seq ?_ | refine N_block ?_ | refine G_block ?_ | refine G_skip ?_ | refine G_cT ?_ | refine G_cF ?_ | refine G_ret ?_ | refine U_seq_ret ?_ | refine U_block_ret ?_ | refine U_nil ?_ | refine S_nil ?_ | refine S_noG ?_ | refine S_auto ?_
    refine FQ_in (by first | exact .inr rfl | exact .inl rfl) (by first | exact ares1 (by simp only [at_put, at_none, n_put, reduceIte, Nat.reduceEqDiff, Nat.reduceLT, zq, *]; first | done | rfl) | exact ares2 (by simp only [at_put, at_none, n_put, reduceIte, Nat.reduceEqDiff, Nat.reduceLT, zq, *]; first | done | rfl) (by simp only [at_put, at_none, n_put, reduceIte, Nat.reduceEqDiff, Nat.reduceLT, zq, *]; first | done | rfl)) ?_
    rfl
  have cl : ((l.length : Int) = 0) = False := eq_false hl0
  clear hl0
  repeat first | refine G_seq ?_ | refine G_reg ?_ | refine N_seq ?_ | refine N_block ?_ | refine G_block ?_ | refine G_skip ?_ | refine G_cT ?_ | refine G_cF ?_ | refine G_ret ?_ | refine U_seq_ret ?_ | refine U_block_ret ?_ | refine U_nil ?_ | refine S_nil ?_ | refine S_noG ?_ | refine S_auto ?_
  have hlp : 0 < l.length := Nat.pos_of_ne_zero fun h => by rw [h] at cl; exact Eq.mp cl rfl
  have hl12 : l.length ≤ 12 := by omega
  refine S_step wants0 (o_buildSlice (by simp only [List.map, aev_tmp, aev_const, aev_func, aev_global, at_put, at_none, n_put, reduceIte, Nat.reduceEqDiff, Nat.reduceLT, zq, *]; first | done | rfl) (bs_row0 (K := kF) (TL rfl) (TL rfl) ⟨rfl, rfl, by decide⟩)) ?_
  repeat first | refine G_seq ?_ | refine G_reg ?_ | refine N_seq ?_ | refine N_block ?_ | refine G_block ?_ | refine G_skip ?_ | refine G_cT ?_ | refine G_cF ?_ | refine G_ret ?_ | refine U_seq_ret ?_ | refine U_block_ret ?_ | refine U_nil ?_ | refine S_nil ?_ | refine S_auto ?_
  obtain ⟨h1, hh1⟩ : ∃ h1, h1 = (h0.new h0.next (.cells [.int .i64 q, .int .i64 0, .int .i64 0, .bool false] true)).new (h0.next + 1) (.cells [.int .i64 q, .int .i64 0, .int .i64 0, .bool false] true) := ⟨_, rfl⟩
  have hn1 : h1.next = h0.next + 2 := by rw [hh1]; simp only [next_new, Nat.lt_irrefl, reduceIte]
  have hpa : h1.get h0.next = some (.cells [.int .i64 q, .int .i64 0, .int .i64 0, .bool false] true) := by rw [hh1]; simp (disch := omega) only [get_set_self, get_new_self, get_set_ne, get_new_ne, get_bump, next_set, next_new, Nat.lt_irrefl, reduceIte, next_kill, next_bump, *]; first | done | rfl
  have hpb : h1.get (h0.next + 1) = some (.cells [.int .i64 q, .int .i64 0, .int .i64 0, .bool false] true) := by rw [hh1]; simp (disch := omega) only [get_set_self, get_new_self, get_set_ne, get_new_ne, get_bump, next_set, next_new, Nat.lt_irrefl, reduceIte, next_kill, next_bump, *]; first | done | rfl
  rw [← hh1] at hs2 ⊢
  clear hh1 hs
  have hs3 : NumsAt (h1.new h1.next (.cells [] true)) l sv ids := hs2.keep fun i hi => get_new_ne (by have := hlt i hi; omega)
  refine len_nums hs3 wants0 (by simp only [List.map, aev_tmp, aev_const, aev_func, aev_global, at_put, at_none, n_put, reduceIte, Nat.reduceEqDiff, Nat.reduceLT, zq, *]; first | done | rfl) ?_
  repeat first | refine G_seq ?_ | refine G_reg ?_ | refine N_seq ?_ | refine N_block ?_ | refine G_block ?_ | refine G_skip ?_ | refine G_cT ?_ | refine G_cF ?_ | refine G_ret ?_ | refine U_seq_ret ?_ | refine U_block_ret ?_ | refine U_nil ?_ | refine S_nil ?_ | refine S_auto ?_
  generalize hpe : h0.next = p at *
  refine G_loop (fun j a h' => ∃ (i : Nat) (rv : Value) (Or : List Nat), i + j = l.length ∧ a.n = 128 ∧ a.at 2 = .int .i64 t0 ∧ a.at 3 = .int .i64 r0 ∧ a.at 9 = .pointer (some ⟨p, 0, none⟩) ∧ a.at 10 = .pointer (some ⟨p + 1, 0, none⟩) ∧ a.at 11 = rv ∧ a.at 44 = sv ∧ a.at 45 = .int .i64 (l.length : Int) ∧ a.at 46 = .int .i64 (i : Int) ∧ NumsAt h' l sv ids ∧ (i = 0 ∨ ∃ bf js, rv = .slice (some ⟨bf, 0, none⟩) (wantF (l.take i)).length (CAPX + kF.sz) ∧ h'.get bf = some (.cells (kF.fl (wantF (l.take i) ++ js)) true) ∧ Or = [bf]) ∧ RowAt kF h' (wantF (l.take i)) rv Or ∧ (∀ w ∈ Or, p + 2 ≤ w ∧ w < h'.next) ∧ h'.get p = some (.cells [.int .i64 q, .int .i64 0, .int .i64 0, .bool false] true) ∧ h'.get (p + 1) = some (.cells [.int .i64 q, .int .i64 0, .int .i64 0, .bool false] true) ∧ p + 2 ≤ h'.next) l.length (by omega) ⟨0, .slice (some ⟨h1.next, 0, none⟩) 0 0, [h1.next], by omega, by simp only [at_put, at_none, n_put, reduceIte, Nat.reduceEqDiff, Nat.reduceLT, zq, *]; first | done | rfl, by simp only [at_put, at_none, n_put, reduceIte, Nat.reduceEqDiff, Nat.reduceLT, zq, *]; first | done | rfl, by simp only [at_put, at_none, n_put, reduceIte, Nat.reduceEqDiff, Nat.reduceLT, zq, *]; first | done | rfl, by simp only [at_put, at_none, n_put, reduceIte, Nat.reduceEqDiff, Nat.reduceLT, zq, *]; first | done | rfl, by simp only [at_put, at_none, n_put, reduceIte, Nat.reduceEqDiff, Nat.reduceLT, zq, *]; first | done | rfl, by simp (disch := omega) only [at_put, at_none, n_put, reduceIte, Nat.reduceEqDiff, Nat.reduceLT, get_set_self, get_new_self, get_set_ne, get_new_ne, get_bump, next_set, next_new, Nat.lt_irrefl, next_kill, next_bump, cond_true, cond_false, *]; first | done | rfl, by simp only [at_put, at_none, n_put, reduceIte, Nat.reduceEqDiff, Nat.reduceLT, zq, *]; first | done | rfl, by simp only [at_put, at_none, n_put, reduceIte, Nat.reduceEqDiff, Nat.reduceLT, zq, *]; first | done | rfl, by simp only [at_put, at_none, n_put, reduceIte, Nat.reduceEqDiff, Nat.reduceLT, zq, *]; first | done | rfl, hs3, .inl rfl, row0 (get_new_self _ _ _), fun i hi => by rw [List.mem_singleton.1 hi, next_new_self]; omega, by rw [get_new_ne (by omega)]; exact hpa, by rw [get_new_ne (by omega)]; exact hpb, by rw [next_new_self]; omega⟩ ?_
  clear e0 e1 e2 e3 hna hs2 hs3 hpa hpb
  rintro j a h2 ⟨i, rv, Or, hij, hna, e2, e3, e9, e10, e11, e44, e45, e46, hs, htf, hrow, hOr, hpa, hpb, hnx⟩
  by_cases hil : i < l.length
  · have hil' : ((i : Int) < (l.length : Int)) = True := eq_true (by omega)
    obtain ⟨b, rfl, hgb, rfl⟩ : ∃ b, sv = .slice (some ⟨b, 0, none⟩) l.length (CAPX + 1) ∧ h2.get b = some (.ro (ints l)) ∧ ids = [b] := by
      rcases hs with ⟨rfl, _, _⟩ | hh
      · exact absurd hil (Nat.not_lt_zero _)
      · exact hh
    have hbl : b < p := hlt b (.head _)
    have i1 : aindexAddr EE.T 45 (.slice (some ⟨b, 0, none⟩) l.length (CAPX + 1)) (.int .i64 (i : Int)) = some (.pointer (some ⟨b, i, none⟩)) := by
      simp only [aindexAddr, TL (t := 45) rfl, TL (t := 3) rfl]
      rw [if_pos ⟨Int.natCast_nonneg _, by omega⟩]
      simp
    have hv1 : (ints l)[i]? = some (.int .i64 l[i]) := by rw [ints_get, List.getElem?_eq_getElem hil]; rfl
    have hwt := wantF_take hil
    have hwl := wantF_len (l.take i)
    rw [List.length_take] at hwl
    repeat first | refine G_seq ?_ | refine G_reg ?_ | refine N_seq ?_ | refine N_block ?_ | refine G_block ?_ | refine G_skip ?_ | refine G_cT ?_ | refine G_cF ?_ | refine G_ret ?_ | refine U_seq_ret ?_ | refine U_block_ret ?_ | refine U_nil ?_ | refine S_nil ?_ | refine S_auto ?_
    refine S_step wants0 (o_indexAddr (by simp only [aev_tmp, aev_const, aev_func, aev_global, at_put, at_none, n_put, reduceIte, Nat.reduceEqDiff, Nat.reduceLT, zq, *]; first | done | rfl) (by simp only [aev_tmp, aev_const, aev_func, aev_global, at_put, at_none, n_put, reduceIte, Nat.reduceEqDiff, Nat.reduceLT, zq, *]; first | done | rfl) i1) ?_
    refine S_step wants0 (o_ld (by simp only [aev_tmp, aev_const, aev_func, aev_global, at_put, at_none, n_put, reduceIte, Nat.reduceEqDiff, Nat.reduceLT, zq, *]; first | done | rfl) (TL rfl) rfl (rd_ro hgb) hv1) ?_
    clear i1 hv1
    repeat first | refine G_seq ?_ | refine G_reg ?_ | refine N_seq ?_ | refine N_block ?_ | refine G_block ?_ | refine G_skip ?_ | refine G_cT ?_ | refine G_cF ?_ | refine G_ret ?_ | refine U_seq_ret ?_ | refine U_block_ret ?_ | refine U_nil ?_ | refine S_nil ?_ | refine S_auto ?_
    refine S_step wants0 (o_bin (by simp only [aev_tmp, aev_const, aev_func, aev_global, at_put, at_none, n_put, reduceIte, Nat.reduceEqDiff, Nat.reduceLT, zq, *]; first | done | rfl) (by simp only [aev_tmp, aev_const, aev_func, aev_global, at_put, at_none, n_put, reduceIte, Nat.reduceEqDiff, Nat.reduceLT, zq, *]; first | done | rfl) (b_mul3 (by omega) (by omega))) ?_
    repeat first | refine G_seq ?_ | refine G_reg ?_ | refine N_seq ?_ | refine N_block ?_ | refine G_block ?_ | refine G_skip ?_ | refine G_cT ?_ | refine G_cF ?_ | refine G_ret ?_ | refine U_seq_ret ?_ | refine U_block_ret ?_ | refine U_nil ?_ | refine S_nil ?_ | refine S_auto ?_
    refine S_step wants0 (o_bin (by simp only [aev_tmp, aev_const, aev_func, aev_global, at_put, at_none, n_put, reduceIte, Nat.reduceEqDiff, Nat.reduceLT, zq, *]; first | done | rfl) (by simp only [aev_tmp, aev_const, aev_func, aev_global, at_put, at_none, n_put, reduceIte, Nat.reduceEqDiff, Nat.reduceLT, zq, *]; first | done | rfl) (b_maskP 10 (by decide) 1023 (by decide))) ?_
    rw [show ((2 ^ 10 : Nat) : Int) = 1024 from rfl]
    obtain ⟨v3, h5, O3, q1, q2, q3, q4, q5⟩ := app_rowX (K := kF) (T := EE.T) (h := h2.new h2.next (.cells (kF.enc (3 * (i : Int), l[i] % 1024)) true)) (st := 29) (xt := 29) (news := [((3 * (i : Int), l[i] % 1024) : Fl)]) (x := .slice (some ⟨h2.next, 0, none⟩) 1 1) (TL rfl) (TL rfl) ⟨rfl, rfl, by decide⟩ (TL rfl) (hrow.keep fun w hw => by have := hOr w hw; rw [get_new_ne (by omega)]) (by simp) (src_row1 (K := kF) (get_new_self _ _ _)) (by rw [hwl]; simp; omega) (fun w hw => by have := hOr w hw; rw [next_new_self]; omega)
    have hnx5 := q3.1
    rw [next_new_self] at hnx5
    have hk5 : ∀ w, w < p + 2 → h5.get w = h2.get w := fun w hw => by
      rw [q3.2 w (by rw [next_new_self]; omega) (fun hm => by have := hOr w hm; omega), get_new_ne (by omega)]
    have hO3 : ∀ w ∈ O3, p + 2 ≤ w ∧ w < h5.next := fun w hw => ⟨by
      rcases q4 with rfl | rfl
      · exact (hOr w hw).1
      · rw [List.mem_singleton, next_new_self] at hw; omega, q5 w hw⟩
    have hpa5 := (hk5 p (by omega)).trans hpa
    have hpb5 := (hk5 (p + 1) (by omega)).trans hpb
    have hs5 : NumsAt h5 l (.slice (some ⟨b, 0, none⟩) l.length (CAPX + 1)) [b] := .inr ⟨b, rfl, (hk5 b (by omega)).trans hgb, rfl⟩
    rw [← hwt] at q2
    have q2r : RowAt kF h5 (wantF (l.take (i + 1))) v3 O3 := .inr (.inr q2)
    clear hwt hrow hOr q3 q4 q5 hk5 hs htf
    repeat first | refine G_seq ?_ | refine G_reg ?_ | refine N_seq ?_ | refine N_block ?_ | refine G_block ?_ | refine G_skip ?_ | refine G_cT ?_ | refine G_cF ?_ | refine G_ret ?_ | refine U_seq_ret ?_ | refine U_block_ret ?_ | refine U_nil ?_ | refine S_nil ?_ | refine S_auto ?_
    refine S_step wants0 (o_buildSlice (by simp only [List.map, aev_tmp, aev_const, aev_func, aev_global, at_put, at_none, n_put, reduceIte, Nat.reduceEqDiff, Nat.reduceLT, zq, *]; first | done | rfl) (bs_row1 (K := kF) (x := ((3 * (i : Int), l[i] % 1024) : Fl)) (TL rfl) (TL rfl) ⟨rfl, rfl, by decide⟩ (by decide) rfl)) ?_
    refine S_step wants0 (o_builtin (by simp only [List.map, aev_tmp, aev_const, aev_func, aev_global, at_put, at_none, n_put, reduceIte, Nat.reduceEqDiff, Nat.reduceLT, zq, *]; first | done | rfl) (bi_app q1)) ?_
    clear q1 hpa hpb hgb
    repeat first | refine G_seq ?_ | refine G_reg ?_ | refine N_seq ?_ | refine N_block ?_ | refine G_block ?_ | refine G_skip ?_ | refine G_cT ?_ | refine G_cF ?_ | refine G_ret ?_ | refine U_seq_ret ?_ | refine U_block_ret ?_ | refine U_nil ?_ | refine S_nil ?_ | refine S_auto ?_
    refine N_nil ?_
    exact LQ_n (j - 1) (by omega) ⟨i + 1, v3, O3, by omega, by simp only [at_put, at_none, n_put, reduceIte, Nat.reduceEqDiff, Nat.reduceLT, zq, *]; first | done | rfl, by simp only [at_put, at_none, n_put, reduceIte, Nat.reduceEqDiff, Nat.reduceLT, zq, *]; first | done | rfl, by simp only [at_put, at_none, n_put, reduceIte, Nat.reduceEqDiff, Nat.reduceLT, zq, *]; first | done | rfl, by simp only [at_put, at_none, n_put, reduceIte, Nat.reduceEqDiff, Nat.reduceLT, zq, *]; first | done | rfl, by simp only [at_put, at_none, n_put, reduceIte, Nat.reduceEqDiff, Nat.reduceLT, zq, *]; first | done | rfl, by simp only [at_put, at_none, n_put, reduceIte, Nat.reduceEqDiff, Nat.reduceLT, zq, *]; first | done | rfl, by simp only [at_put, at_none, n_put, reduceIte, Nat.reduceEqDiff, Nat.reduceLT, zq, *]; first | done | rfl, by simp only [at_put, at_none, n_put, reduceIte, Nat.reduceEqDiff, Nat.reduceLT, zq, *]; first | done | rfl, by rw [Int.natCast_add]; simp only [at_put, at_none, n_put, reduceIte, Nat.reduceEqDiff, Nat.reduceLT, zq, *]; first | done | rfl, hs5, .inr q2, q2r, hO3, hpa5, hpb5, by omega⟩
  · have hil' : ((i : Int) < (l.length : Int)) = False := eq_false (by omega)
    obtain rfl : i = l.length := by omega
    rw [List.take_length] at hrow htf
    obtain ⟨bf, js, rfl, hbf, rfl⟩ := htf.resolve_left (by omega)
    clear htf
    have hOF := wantF_OF l
    have hwl := wantF_len l
    have hm8 : 0 ≤ t0 % 1024 ∧ t0 % 1024 < 1024 := ⟨Int.emod_nonneg _ (by decide), Int.emod_lt_of_pos _ (by decide)⟩
    have hlz : ((wantF l).length : Int) = (l.length : Int) := by rw [hwl]
    obtain ⟨kk, hkk⟩ : ∃ kk : Nat, t0 % 1024 % (l.length : Int) = (kk : Int) := ⟨(t0 % 1024 % (l.length : Int)).toNat, by have := Int.emod_nonneg (t0 % 1024) (show (l.length : Int) ≠ 0 by omega); omega⟩
    have hkl : kk < l.length := by have := Int.emod_lt_of_pos (t0 % 1024) (show (0 : Int) < (l.length : Int) by omega); omega
    have hr8 : 0 ≤ r0 % 8 ∧ r0 % 8 < 8 := ⟨Int.emod_nonneg _ (by decide), Int.emod_lt_of_pos _ (by decide)⟩
    repeat first | refine G_seq ?_ | refine G_reg ?_ | refine N_seq ?_ | refine N_block ?_ | refine G_block ?_ | refine G_skip ?_ | refine G_cT ?_ | refine G_cF ?_ | refine G_ret ?_ | refine U_seq_ret ?_ | refine U_block_ret ?_ | refine U_nil ?_ | refine S_nil ?_ | refine S_auto ?_
    refine G_exit ?_
    repeat first | refine U_seq_exit ?_ | refine U_nil ?_ | refine LQ_exit ?_ | refine U_block_hit ?_
    repeat first | refine G_seq ?_ | refine G_reg ?_ | refine N_seq ?_ | refine N_block ?_ | refine G_block ?_ | refine G_skip ?_ | refine G_cT ?_ | refine G_cF ?_ | refine G_ret ?_ | refine U_seq_ret ?_ | refine U_block_ret ?_ | refine U_nil ?_ | refine S_nil ?_ | refine S_auto ?_
    refine S_step wants0 (o_bin (by simp only [aev_tmp, aev_const, aev_func, aev_global, at_put, at_none, n_put, reduceIte, Nat.reduceEqDiff, Nat.reduceLT, zq, *]; first | done | rfl) (by simp only [aev_tmp, aev_const, aev_func, aev_global, at_put, at_none, n_put, reduceIte, Nat.reduceEqDiff, Nat.reduceLT, zq, *]; first | done | rfl) (b_maskP 10 (by decide) 1023 (by decide))) ?_
    rw [show ((2 ^ 10 : Nat) : Int) = 1024 from rfl]
    repeat first | refine G_seq ?_ | refine G_reg ?_ | refine N_seq ?_ | refine N_block ?_ | refine G_block ?_ | refine G_skip ?_ | refine G_cT ?_ | refine G_cF ?_ | refine G_ret ?_ | refine U_seq_ret ?_ | refine U_block_ret ?_ | refine U_nil ?_ | refine S_nil ?_ | refine S_auto ?_
    refine S_step wants0 (o_builtin (by simp only [List.map, aev_tmp, aev_const, aev_func, aev_global, at_put, at_none, n_put, reduceIte, Nat.reduceEqDiff, Nat.reduceLT, zq, *]; first | done | rfl) (hrow.lenB (TL rfl))) ?_
    rw [hwl]
    refine S_step wants0 (o_bin (by simp only [aev_tmp, aev_const, aev_func, aev_global, at_put, at_none, n_put, reduceIte, Nat.reduceEqDiff, Nat.reduceLT, zq, *]; first | done | rfl) (by simp only [aev_tmp, aev_const, aev_func, aev_global, at_put, at_none, n_put, reduceIte, Nat.reduceEqDiff, Nat.reduceLT, zq, *]; first | done | rfl) (b_rem hm8.1 hlp)) ?_
    rw [hkk]
    clear hkk hlz hm8
    repeat first | refine G_seq ?_ | refine G_reg ?_ | refine N_seq ?_ | refine N_block ?_ | refine G_block ?_ | refine G_skip ?_ | refine G_cT ?_ | refine G_cF ?_ | refine G_ret ?_ | refine U_seq_ret ?_ | refine U_block_ret ?_ | refine U_nil ?_ | refine S_nil ?_ | refine S_auto ?_
    generalize wantF l = fs0 at *
    obtain ⟨M, hM⟩ : ∃ M : Nat, 1 + r0 % 8 = (M : Int) := ⟨(1 + r0 % 8).toNat, by omega⟩
    have hMb : 1 ≤ M ∧ M ≤ 8 := by omega
    refine G_loop (fun j a h' => ∃ (i : Nat) (c la : Int) (any : Bool) (fs js : List Fl), i + j = M ∧ a.n = 128 ∧ a.at 3 = .int .i64 r0 ∧ a.at 9 = .pointer (some ⟨p, 0, none⟩) ∧ a.at 10 = .pointer (some ⟨p + 1, 0, none⟩) ∧ a.at 11 = .slice (some ⟨bf, 0, none⟩) l.length (CAPX + kF.sz) ∧ a.at 14 = .int .i64 (kk : Int) ∧ a.at 15 = .int .i64 (i : Int) ∧ h'.get p = some (.cells [.int .i64 q, .int .i64 c, .int .i64 la, .bool any] true) ∧ h'.get (p + 1) = some (.cells [.int .i64 q, .int .i64 c, .int .i64 la, .bool any] true) ∧ 0 ≤ c ∧ c ≤ 1048576 ∧ OF (-140800000 * (i : Int)) fs ∧ fs.length = l.length ∧ h'.get bf = some (.cells (kF.fl (fs ++ js)) true) ∧ bf < h'.next ∧ p + 2 ≤ h'.next) M (by omega) ⟨0, 0, 0, false, fs0, js, by omega, by simp only [at_put, at_none, n_put, reduceIte, Nat.reduceEqDiff, Nat.reduceLT, zq, *]; first | done | rfl, by simp only [at_put, at_none, n_put, reduceIte, Nat.reduceEqDiff, Nat.reduceLT, zq, *]; first | done | rfl, by simp only [at_put, at_none, n_put, reduceIte, Nat.reduceEqDiff, Nat.reduceLT, zq, *]; first | done | rfl, by simp only [at_put, at_none, n_put, reduceIte, Nat.reduceEqDiff, Nat.reduceLT, zq, *]; first | done | rfl, by simp only [at_put, at_none, n_put, reduceIte, Nat.reduceEqDiff, Nat.reduceLT, zq, *]; first | done | rfl, by simp only [at_put, at_none, n_put, reduceIte, Nat.reduceEqDiff, Nat.reduceLT, zq, *]; first | done | rfl, by simp only [at_put, at_none, n_put, reduceIte, Nat.reduceEqDiff, Nat.reduceLT, zq, *]; first | done | rfl, hpa, hpb, by omega, by omega, by simpa using hOF, hwl, hbf, (hOr bf (.head _)).2, hnx⟩ ?_
    have hbfp : p + 2 ≤ bf := (hOr bf (.head _)).1
    clear e2 e3 e9 e10 e11 e44 e45 e46 hna hpa hpb hs hrow hOr hnx hOF hwl hbf fs0 js
    rintro j a h2 ⟨i, c, la, any, fs, js, hij, hna, e3, e9, e10, e11, e14, e15, hpa, hpb, hc0, hc1, hOF, hfl, hbf, hbfl, hnx⟩
    repeat first | refine G_seq ?_ | refine G_reg ?_ | refine N_seq ?_ | refine N_block ?_ | refine G_block ?_ | refine G_skip ?_ | refine G_cT ?_ | refine G_cF ?_ | refine G_ret ?_ | refine U_seq_ret ?_ | refine U_block_ret ?_ | refine U_nil ?_ | refine S_nil ?_ | refine S_auto ?_
    refine S_step wants0 (o_bin (by simp only [aev_tmp, aev_const, aev_func, aev_global, at_put, at_none, n_put, reduceIte, Nat.reduceEqDiff, Nat.reduceLT, zq, *]; first | done | rfl) (by simp only [aev_tmp, aev_const, aev_func, aev_global, at_put, at_none, n_put, reduceIte, Nat.reduceEqDiff, Nat.reduceLT, zq, *]; first | done | rfl) (b_maskP 3 (by decide) 7 (by decide))) ?_
    rw [show ((2 ^ 3 : Nat) : Int) = 8 from rfl]
    refine S_step wants0 (o_bin (by simp only [aev_tmp, aev_const, aev_func, aev_global, at_put, at_none, n_put, reduceIte, Nat.reduceEqDiff, Nat.reduceLT, zq, *]; first | done | rfl) (by simp only [aev_tmp, aev_const, aev_func, aev_global, at_put, at_none, n_put, reduceIte, Nat.reduceEqDiff, Nat.reduceLT, zq, *]; first | done | rfl) (b_add (by omega) (by omega))) ?_
    rw [hM]
    by_cases hiM : i < M
    · have hiM' : ((i : Int) < (M : Int)) = True := eq_true (by omega)
      clear hM
      repeat first | refine G_seq ?_ | refine G_reg ?_ | refine N_seq ?_ | refine N_block ?_ | refine G_block ?_ | refine G_skip ?_ | refine G_cT ?_ | refine G_cF ?_ | refine G_ret ?_ | refine U_seq_ret ?_ | refine U_block_ret ?_ | refine U_nil ?_ | refine S_nil ?_ | refine S_auto ?_
      refine S_step wants0 (o_buildSlice (by simp only [List.map, aev_tmp, aev_const, aev_func, aev_global, at_put, at_none, n_put, reduceIte, Nat.reduceEqDiff, Nat.reduceLT, zq, *]; first | done | rfl) (bs_row2 (K := kF) (x := ((1, 0) : Fl)) (y := ((-7, -5) : Fl)) (TL rfl) (TL rfl) ⟨rfl, rfl, by decide⟩ (by decide) rfl)) ?_
      repeat first | refine G_seq ?_ | refine G_reg ?_ | refine N_seq ?_ | refine N_block ?_ | refine G_block ?_ | refine G_skip ?_ | refine G_cT ?_ | refine G_cF ?_ | refine G_ret ?_ | refine U_seq_ret ?_ | refine U_block_ret ?_ | refine U_nil ?_ | refine S_nil ?_ | refine S_auto ?_
      refine S_step wants0 (o_slice (by simp only [aev_tmp, aev_const, aev_func, aev_global, at_put, at_none, n_put, reduceIte, Nat.reduceEqDiff, Nat.reduceLT, zq, *]; first | done | rfl) (by simp only [Option.map, aev_tmp, aev_const, at_put, at_none, n_put, reduceIte, Nat.reduceEqDiff, Nat.reduceLT, zq, *]; first | done | rfl) (by simp only [Option.map, aev_tmp, aev_const, at_put, at_none, n_put, reduceIte, Nat.reduceEqDiff, Nat.reduceLT, zq, *]; first | done | rfl) (by simp only [Option.map, aev_tmp, aev_const, at_put, at_none, n_put, reduceIte, Nat.reduceEqDiff, Nat.reduceLT, zq, *]; first | done | rfl) (sl_row (K := kF) (TL rfl) (TL rfl) ⟨rfl, rfl, by decide⟩ (optNat_int _ _) (optNat_none _) (Nat.le_of_lt hkl) (Nat.le_refl _))) ?_
      have hbf2 : (h2.new h2.next (.cells (kF.fl [((1, 0) : Fl), ((-7, -5) : Fl)]) true)).get bf = some (.cells (kF.fl (fs ++ js)) true) := by rw [get_new_ne (by omega)]; exact hbf
      have hsrc1 := src_part (K := kF) (i := kk) (n := l.length - kk) (c := CAPX + kF.sz) hbf2 (by rw [List.length_append, hfl]; omega)
      have hpart : ((fs ++ js).drop kk).take (l.length - kk) = fs.drop kk := by
        rw [List.drop_append_of_le_length (by omega), List.take_append_of_le_length (by rw [List.length_drop]; omega), List.take_of_length_le (by rw [List.length_drop]; omega)]
      rw [hpart, show l.length - kk = (fs.drop kk).length by rw [List.length_drop, hfl]] at hsrc1
      obtain ⟨v3, h3, O3, q1, q2, q3, q4, q5⟩ := app_rowX (K := kF) (T := EE.T) (h := h2.new h2.next (.cells (kF.fl [((1, 0) : Fl), ((-7, -5) : Fl)]) true)) (st := 29) (xt := 29) (l := [((1, 0) : Fl), ((-7, -5) : Fl)]) (v := .slice (some ⟨h2.next, 0, none⟩) 2 2) (O := [h2.next]) (news := fs.drop kk) (TL rfl) (TL rfl) ⟨rfl, rfl, by decide⟩ (TL rfl) (.inr (.inl ⟨h2.next, rfl, get_new_self _ _ _, rfl, by decide⟩)) (by intro e; have := congrArg List.length e; rw [List.length_drop, hfl] at this; simp at this; omega) hsrc1 (by rw [List.length_drop, hfl]; simp; omega) (fun w hw => by rw [List.mem_singleton.1 hw, next_new_self]; omega)
      rw [show (fs.drop kk).length = l.length - kk by rw [List.length_drop, hfl]] at q1
      refine S_step wants0 (o_builtin (by simp only [List.map, aev_tmp, aev_const, aev_func, aev_global, at_put, at_none, n_put, reduceIte, Nat.reduceEqDiff, Nat.reduceLT, zq, *]; first | done | rfl) (bi_app q1)) ?_
      clear q1
      obtain ⟨b3, js3, rfl, hb3, rfl⟩ := q2
      have hnx3 := q3.1
      rw [next_new_self] at hnx3
      have hk3 : ∀ w, w < h2.next → h3.get w = h2.get w := fun w hw => by
        rw [q3.2 w (by rw [next_new_self]; omega) (fun hm => by rw [List.mem_singleton.1 hm] at hw; omega), get_new_ne (by omega)]
      have hb3l : b3 < h3.next := q5 b3 (.head _)
      have hb3g : h2.next ≤ b3 := by
        rcases q4 with h9 | h9
        · rw [List.singleton_inj.1 h9]; exact Nat.le_refl _
        · rw [List.singleton_inj.1 h9, next_new_self]; omega
      have hpa3 := (hk3 p (by omega)).trans hpa
      have hpb3 := (hk3 (p + 1) (by omega)).trans hpb
      have hbf3 := (hk3 bf hbfl).trans hbf
      clear q3 q4 q5 hk3 hbf2 hsrc1 hpart hpa hpb hbf
      repeat first | refine G_seq ?_ | refine G_reg ?_ | refine N_seq ?_ | refine N_block ?_ | refine G_block ?_ | refine G_skip ?_ | refine G_cT ?_ | refine G_cF ?_ | refine G_ret ?_ | refine U_seq_ret ?_ | refine U_block_ret ?_ | refine U_nil ?_ | refine S_nil ?_ | refine S_auto ?_
      refine S_step wants0 (o_slice (by simp only [aev_tmp, aev_const, aev_func, aev_global, at_put, at_none, n_put, reduceIte, Nat.reduceEqDiff, Nat.reduceLT, zq, *]; first | done | rfl) (by simp only [Option.map, aev_tmp, aev_const, at_put, at_none, n_put, reduceIte, Nat.reduceEqDiff, Nat.reduceLT, zq, *]; first | done | rfl) (by simp only [Option.map, aev_tmp, aev_const, at_put, at_none, n_put, reduceIte, Nat.reduceEqDiff, Nat.reduceLT, zq, *]; first | done | rfl) (by simp only [Option.map, aev_tmp, aev_const, at_put, at_none, n_put, reduceIte, Nat.reduceEqDiff, Nat.reduceLT, zq, *]; first | done | rfl) (sl_rowZ (K := kF) (TL rfl) (TL rfl) ⟨rfl, rfl, by decide⟩ (Nat.le_of_lt hkl))) ?_
      obtain ⟨h4, b4, js4, r1, r2, r3, r4, r5, r6⟩ := app_part (h := h3) (kk := kk) hb3 hb3l hbf3 (by rw [hfl]; omega) (by rw [List.length_append, List.length_drop, hfl]; simp; omega)
      refine S_step wants0 (o_builtin (by simp only [List.map, aev_tmp, aev_const, aev_func, aev_global, at_put, at_none, n_put, reduceIte, Nat.reduceEqDiff, Nat.reduceLT, zq, *]; first | done | rfl) (bi_app r1)) ?_
      clear r1
      rw [show ([((1, 0) : Fl), ((-7, -5) : Fl)] ++ fs.drop kk ++ fs.take kk) = otherF fs kk from rfl] at r2 ⊢
      have hp4 := (r6 p (by omega) (by omega)).trans hpa3
      have hq4 := (r6 (p + 1) (by omega) (by omega)).trans hpb3
      have hf4 := (r6 bf (by omega) (by omega)).trans hbf3
      have hb4g : p + 2 ≤ b4 ∧ b4 ≠ bf := by
        rcases r4 with h9 | h9 <;> omega
      have hn4 : p + 2 ≤ h4.next ∧ bf < h4.next := by omega
      clear r3 r4 r6 hpa3 hpb3 hbf3 hb3 hb3l hb3g hnx3 hnx hbfl
      have hfl20 : (flowsF fs).length ≤ 12 := Nat.le_trans (flowsF_len fs) (by omega)
      have hwok : WOk (flowsF fs) := flowsF_wok fun x hx => by
        obtain ⟨_, _, _, _, h9⟩ := hOF.mem hx
        omega
      have hfo := hOF.other kk
      repeat first | refine G_seq ?_ | refine G_reg ?_ | refine N_seq ?_ | refine N_block ?_ | refine G_block ?_ | refine G_skip ?_ | refine G_cT ?_ | refine G_cF ?_ | refine G_ret ?_ | refine U_seq_ret ?_ | refine U_block_ret ?_ | refine U_nil ?_ | refine S_nil ?_ | refine S_auto ?_
      refine S_call wants0 (by simp only [aev_tmp, aev_const, aev_func, aev_global, at_put, at_none, n_put, reduceIte, Nat.reduceEqDiff, Nat.reduceLT, zq, *]; first | done | rfl) (E_Y _) (by simp only [List.map, aev_tmp, aev_const, aev_func, aev_global, at_put, at_none, n_put, reduceIte, Nat.reduceEqDiff, Nat.reduceLT, zq, *]; first | done | rfl) ?_
      refine (round_spec (n := m) (K := K) (l := fs) (O := [bf]) hp4 (by omega) (.inr (.inr ⟨bf, js, by rw [hfl], hf4, rfl⟩)) (fun w hw => by rw [List.mem_singleton.1 hw]; exact hn4.2) (by omega) hwok (by omega) hq ⟨hc0, hc1⟩ (by omega) (by omega) (by omega)).mono ?_
      rintro gx h5 ⟨RR, Ox, hRR, hgx, hOx, hp5, hk5⟩
      have hq5 := (hk5.2 (p + 1) (by omega) (fun hm => by have := List.mem_singleton.1 hm; omega)).trans hq4
      have hf5 := (hk5.2 bf hn4.2 (fun hm => by have := List.mem_singleton.1 hm; omega)).trans hf4
      have ho5 := (hk5.2 b4 r5 (fun hm => by have := List.mem_singleton.1 hm; omega)).trans r2
      have hn5 := hk5.1
      clear hk5 hp4 hq4 hf4 r2
      have hcK : 0 ≤ (if (flowsF fs).length = 0 then c else c + q) := by split <;> omega
      have hRc := roundL_c K (if (flowsF fs).length = 0 then c else c + q) la any (flowsF fs) [] hcK hwok
      have hRo := roundL_out K (if (flowsF fs).length = 0 then c else c + q) la any (flowsF fs) [] (fun z => ∃ i, i < l.length ∧ z = 3 * (i : Int)) hwok (fun x hx => by
        obtain ⟨i, h7, h8, _⟩ := hOF.mem (flowsF_mem hx).1
        exact ⟨i, by omega, h8⟩) (fun g hg => (by cases hg))
      have hR64 := roundL_lt64 K (if (flowsF fs).length = 0 then c else c + q) la any (flowsF fs) [] hcK (by split <;> omega) hwok
      rw [← hRR] at hRc hRo hR64
      repeat first | refine G_seq ?_ | refine G_reg ?_ | refine N_seq ?_ | refine N_block ?_ | refine G_block ?_ | refine G_skip ?_ | refine G_cT ?_ | refine G_cF ?_ | refine G_ret ?_ | refine U_seq_ret ?_ | refine U_block_ret ?_ | refine U_nil ?_ | refine S_nil ?_ | refine S_auto ?_
      refine S_call wants0 (by simp only [aev_tmp, aev_const, aev_func, aev_global, at_put, at_none, n_put, reduceIte, Nat.reduceEqDiff, Nat.reduceLT, zq, *]; first | done | rfl) (E_Y _) (by simp only [List.map, aev_tmp, aev_const, aev_func, aev_global, at_put, at_none, n_put, reduceIte, Nat.reduceEqDiff, Nat.reduceLT, zq, *]; first | done | rfl) ?_
      refine (round_spec (n := m) (K := K) (l := otherF fs kk) (O := [b4]) hq5 (by omega) (.inr (.inr ⟨b4, js4, rfl, ho5, rfl⟩)) (fun w hw => by rw [List.mem_singleton.1 hw]; omega) (by rw [otherF_len]; omega) (by rw [hfo]; exact hwok) (by rw [hfo]; omega) hq ⟨hc0, hc1⟩ (by omega) (by omega) (by omega)).mono ?_
      rintro gy h6 ⟨R2, Oy, hR2, hgy, hOy, hq6, hk6⟩
      rw [hfo, ← hRR] at hR2
      subst hR2
      have hp6 := (hk6.2 p (by omega) (fun hm => by have := List.mem_singleton.1 hm; omega)).trans hp5
      have hf6 := (hk6.2 bf (by omega) (fun hm => by have := List.mem_singleton.1 hm; omega)).trans hf5
      have hgx6 : RowAt kF h6 R2.2.2.2 gx Ox := hgx.keep fun w hw => hk6.2 w (hOx w hw).2 (fun hm => by have := List.mem_singleton.1 hm; have := hOx w hw; omega)
      have hn6 := hk6.1
      have hO6 : (∀ w ∈ Ox, p + 2 ≤ w ∧ w < h6.next ∧ w ≠ bf) ∧ (∀ w ∈ Oy, p + 2 ≤ w ∧ w < h6.next ∧ w ≠ bf) := ⟨fun w hw => by have := hOx w hw; omega, fun w hw => by have := hOy w hw; omega⟩
      have hbf6 : bf < h6.next := by omega
      have hp26 : p + 2 ≤ h6.next := by omega
      clear hgx hOx hOy hk6 hp5 hf5 hq5 ho5 hn4 hwok hfo hfl20 hb4g r5
      have hcKb : (if (flowsF fs).length = 0 then c else c + q) ≤ 2097152 := by split <;> omega
      obtain ⟨c', la', any', out⟩ := R2
      replace hRc : 0 ≤ c' ∧ c' ≤ (if (flowsF fs).length = 0 then c else c + q) := hRc
      replace hR64 : c' < 64 := hR64
      have hc0' := hRc.1
      clear hRR hRc hcK hcKb hc0 hc1
      replace hRo : (∀ g ∈ out, (∃ i, i < l.length ∧ g.1 = 3 * (i : Int)) ∧ 1 ≤ g.2 ∧ g.2 ≤ 64) ∧ out.length ≤ 0 + K := hRo
      obtain ⟨hRo, hol⟩ := hRo
      replace hgx6 : RowAt kF h6 out gx Ox := hgx6
      replace hgy : RowAt kF h6 out gy Oy := hgy
      replace hp6 : h6.get p = some (.cells [.int .i64 q, .int .i64 c', .int .i64 la', .bool any'] true) := hp6
      replace hq6 : h6.get (p + 1) = some (.cells [.int .i64 q, .int .i64 c', .int .i64 la', .bool any'] true) := hq6
      have hnn : ((out.length : Int) ≠ (out.length : Int)) = False := by simp
      have hcc : (c' ≠ c') = False := by simp
      repeat first | refine G_seq ?_ | refine G_reg ?_ | refine N_seq ?_ | refine N_block ?_ | refine G_block ?_ | refine G_skip ?_ | refine G_cT ?_ | refine G_cF ?_ | refine G_ret ?_ | refine U_seq_ret ?_ | refine U_block_ret ?_ | refine U_nil ?_ | refine S_nil ?_ | refine S_auto ?_
      refine S_step wants0 (o_builtin (by simp only [List.map, aev_tmp, aev_const, aev_func, aev_global, at_put, at_none, n_put, reduceIte, Nat.reduceEqDiff, Nat.reduceLT, zq, *]; first | done | rfl) (hgx6.lenB (TL rfl))) ?_
      repeat first | refine G_seq ?_ | refine G_reg ?_ | refine N_seq ?_ | refine N_block ?_ | refine G_block ?_ | refine G_skip ?_ | refine G_cT ?_ | refine G_cF ?_ | refine G_ret ?_ | refine U_seq_ret ?_ | refine U_block_ret ?_ | refine U_nil ?_ | refine S_nil ?_ | refine S_auto ?_
      refine S_step wants0 (o_builtin (by simp only [List.map, aev_tmp, aev_const, aev_func, aev_global, at_put, at_none, n_put, reduceIte, Nat.reduceEqDiff, Nat.reduceLT, zq, *]; first | done | rfl) (hgy.lenB (TL rfl))) ?_
      repeat first | refine G_seq ?_ | refine G_reg ?_ | refine N_seq ?_ | refine N_block ?_ | refine G_block ?_ | refine G_skip ?_ | refine G_cT ?_ | refine G_cF ?_ | refine G_ret ?_ | refine U_seq_ret ?_ | refine U_block_ret ?_ | refine U_nil ?_ | refine S_nil ?_ | refine S_auto ?_
      repeat first | refine G_seq ?_ | refine G_reg ?_ | refine N_seq ?_ | refine N_block ?_ | refine G_block ?_ | refine G_skip ?_ | refine G_cT ?_ | refine G_cF ?_ | refine G_ret ?_ | refine U_seq_ret ?_ | refine U_block_ret ?_ | refine U_nil ?_ | refine S_nil ?_ | refine S_noG ?_ | refine S_auto ?_
      refine S_call (by first | exact wants0 | exact (wantsG rfl rfl (by simp only [n_put, *]; decide) (by simp only [at_put, at_none, n_put, reduceIte, Nat.reduceEqDiff, Nat.reduceLT, cond_true, cond_false, ne_eq, not_true_eq_false, not_false_eq_true, decide_true, decide_false, Bool.not_true, Bool.not_false, eq_self, Int.lt_irrefl, Int.le_refl, *]; first | done | rfl)).trans rfl) (by simp only [aev_tmp, aev_const, aev_func, aev_global, at_put, at_none, n_put, reduceIte, Nat.reduceEqDiff, Nat.reduceLT, zq, *]; first | done | rfl) (E_Y _) (by simp only [List.map, aev_tmp, aev_const, aev_func, aev_global, at_put, at_none, n_put, reduceIte, Nat.reduceEqDiff, Nat.reduceLT, zq, *]; first | done | rfl) ?_
      refine (credit_spec (n := m) hp6).mono ?_
      rintro _ h9 ⟨rfl, he9⟩
      rw [he9]
      clear he9 h9
      repeat first | refine G_seq ?_ | refine G_reg ?_ | refine N_seq ?_ | refine N_block ?_ | refine G_block ?_ | refine G_skip ?_ | refine G_cT ?_ | refine G_cF ?_ | refine G_ret ?_ | refine U_seq_ret ?_ | refine U_block_ret ?_ | refine U_nil ?_ | refine S_nil ?_ | refine S_noG ?_ | refine S_auto ?_
      refine S_call (by first | exact wants0 | exact (wantsG rfl rfl (by simp only [n_put, *]; decide) (by simp only [at_put, at_none, n_put, reduceIte, Nat.reduceEqDiff, Nat.reduceLT, cond_true, cond_false, ne_eq, not_true_eq_false, not_false_eq_true, decide_true, decide_false, Bool.not_true, Bool.not_false, eq_self, Int.lt_irrefl, Int.le_refl, *]; first | done | rfl)).trans rfl) (by simp only [aev_tmp, aev_const, aev_func, aev_global, at_put, at_none, n_put, reduceIte, Nat.reduceEqDiff, Nat.reduceLT, zq, *]; first | done | rfl) (E_Y _) (by simp only [List.map, aev_tmp, aev_const, aev_func, aev_global, at_put, at_none, n_put, reduceIte, Nat.reduceEqDiff, Nat.reduceLT, zq, *]; first | done | rfl) ?_
      refine (credit_spec (n := m) hq6).mono ?_
      rintro _ h9 ⟨rfl, he9⟩
      rw [he9]
      clear he9 h9
      repeat first | refine G_seq ?_ | refine G_reg ?_ | refine N_seq ?_ | refine N_block ?_ | refine G_block ?_ | refine G_skip ?_ | refine G_cT ?_ | refine G_cF ?_ | refine G_ret ?_ | refine U_seq_ret ?_ | refine U_block_ret ?_ | refine U_nil ?_ | refine S_nil ?_ | refine S_noG ?_ | refine S_auto ?_
      refine S_step (by first | exact wants0 | exact (wantsG rfl rfl (by simp only [n_put, *]; decide) (by simp only [at_put, at_none, n_put, reduceIte, Nat.reduceEqDiff, Nat.reduceLT, cond_true, cond_false, ne_eq, not_true_eq_false, not_false_eq_true, decide_true, decide_false, Bool.not_true, Bool.not_false, eq_self, Int.lt_irrefl, Int.le_refl, *]; first | done | rfl)).trans rfl) (o_builtin (by simp only [List.map, aev_tmp, aev_const, aev_func, aev_global, at_put, at_none, n_put, reduceIte, Nat.reduceEqDiff, Nat.reduceLT, zq, *]; first | done | rfl) (hgx6.lenB (TL rfl))) ?_
      repeat first | refine G_seq ?_ | refine G_reg ?_ | refine N_seq ?_ | refine N_block ?_ | refine G_block ?_ | refine G_skip ?_ | refine G_cT ?_ | refine G_cF ?_ | refine G_ret ?_ | refine U_seq_ret ?_ | refine U_block_ret ?_ | refine U_nil ?_ | refine S_nil ?_ | refine S_noG ?_ | refine S_auto ?_
      clear hnn hcc
      refine G_loop (fun j3 a h' => ∃ (u : Nat) (fs' : List Fl), u + j3 = out.length ∧ a.n = 128 ∧ a.at 3 = .int .i64 r0 ∧ a.at 9 = .pointer (some ⟨p, 0, none⟩) ∧ a.at 10 = .pointer (some ⟨p + 1, 0, none⟩) ∧ a.at 11 = .slice (some ⟨bf, 0, none⟩) l.length (CAPX + kF.sz) ∧ a.at 14 = .int .i64 (kk : Int) ∧ a.at 15 = .int .i64 (i : Int) ∧ a.at 18 = gy ∧ a.at 102 = gx ∧ a.at 103 = .int .i64 (out.length : Int) ∧ a.at 104 = .int .i64 (u : Int) ∧ h'.get p = some (.cells [.int .i64 q, .int .i64 c', .int .i64 la', .bool any'] true) ∧ h'.get (p + 1) = some (.cells [.int .i64 q, .int .i64 c', .int .i64 la', .bool any'] true) ∧ OF (-140800000 * (i : Int) - 64 * (u : Int)) fs' ∧ fs'.length = l.length ∧ h'.get bf = some (.cells (kF.fl (fs' ++ js)) true) ∧ RowAt kF h' out gx Ox ∧ RowAt kF h' out gy Oy ∧ h6.next ≤ h'.next) out.length (by omega) ⟨0, fs, by omega, by simp only [at_put, at_none, n_put, reduceIte, Nat.reduceEqDiff, Nat.reduceLT, zq, *]; first | done | rfl, by simp only [at_put, at_none, n_put, reduceIte, Nat.reduceEqDiff, Nat.reduceLT, zq, *]; first | done | rfl, by simp only [at_put, at_none, n_put, reduceIte, Nat.reduceEqDiff, Nat.reduceLT, zq, *]; first | done | rfl, by simp only [at_put, at_none, n_put, reduceIte, Nat.reduceEqDiff, Nat.reduceLT, zq, *]; first | done | rfl, by simp only [at_put, at_none, n_put, reduceIte, Nat.reduceEqDiff, Nat.reduceLT, zq, *]; first | done | rfl, by simp only [at_put, at_none, n_put, reduceIte, Nat.reduceEqDiff, Nat.reduceLT, zq, *]; first | done | rfl, by simp only [at_put, at_none, n_put, reduceIte, Nat.reduceEqDiff, Nat.reduceLT, zq, *]; first | done | rfl, by simp only [at_put, at_none, n_put, reduceIte, Nat.reduceEqDiff, Nat.reduceLT, zq, *]; first | done | rfl, by simp only [at_put, at_none, n_put, reduceIte, Nat.reduceEqDiff, Nat.reduceLT, zq, *]; first | done | rfl, by simp only [at_put, at_none, n_put, reduceIte, Nat.reduceEqDiff, Nat.reduceLT, zq, *]; first | done | rfl, by simp only [at_put, at_none, n_put, reduceIte, Nat.reduceEqDiff, Nat.reduceLT, zq, *]; first | done | rfl, hp6, hq6, by simpa using hOF, hfl, hf6, hgx6, hgy, Nat.le_refl _⟩ ?_
      clear e3 e9 e10 e11 e14 e15 hna hp6 hq6 hf6 hgx6 hgy hOF hfl fs a
      rintro j3 a h7 ⟨u, fs, huj, hna, e3, e9, e10, e11, e14, e15, e18, e102, e103, e104, hp7, hq7, hOF, hfl, hf7, hgx, hgy, hn7⟩
      by_cases hut : u < out.length
      · have hut' : ((u : Int) < (out.length : Int)) = True := eq_true (by omega)
        obtain ⟨bx, cs, g1, g2, gm, gc, _⟩ := hgx.index (T := EE.T) (st := 36) (TL rfl) (TL rfl) ⟨rfl, rfl, by decide⟩ hut
        obtain ⟨bz, ds, g3, g4, gn, gd, _⟩ := hgy.index (T := EE.T) (st := 36) (TL rfl) (TL rfl) ⟨rfl, rfl, by decide⟩ hut
        have hbx := hO6.1 bx gm
        have hbz := hO6.2 bz gn
        obtain ⟨⟨gi, hgi, hge⟩, hgn⟩ := hRo _ (List.getElem_mem hut)
        obtain ⟨gcn, gnn, hgx2⟩ : ∃ gcn gnn, out[u] = (gcn, gnn) := ⟨_, _, rfl⟩
        rw [hgx2] at gc gd hge hgn
        replace hge : gcn = 3 * (gi : Int) := hge
        subst hge
        replace hgn : 1 ≤ gnn ∧ gnn ≤ 64 := hgn
        have hsub := hOF.sub (g := (3 * (gi : Int), gnn)) (i := gi) (by omega) rfl hgn
        have hgil : gi < (fs ++ js).length := by rw [List.length_append]; omega
        have hw0 := hOF.want gi (by omega)
        have hcn := hOF.conn gi (by omega)
        have hxj : (fs ++ js)[gi] = fs[gi]'(by omega) := List.getElem_append_left (by omega)
        obtain ⟨w, hw⟩ : ∃ w, fs[gi]'(by omega) = ((3 * (gi : Int), w) : Fl) := ⟨(fs[gi]'(by omega)).2, by rw [← hcn]⟩
        have hse : subF fs (3 * (gi : Int), gnn) = fs.set gi (3 * (gi : Int), w - gnn) := by
          unfold subF; rw [hsub.2.2, getD_at (by omega), hw]
        rw [hse] at hsub
        have i1 : aindexAddr EE.T 29 (.slice (some ⟨bf, 0, none⟩) l.length (CAPX + kF.sz)) (.int .i64 (gi : Int)) = some (.pointer (some ⟨bf, gi * kF.sz, none⟩)) := ix_row0 (TL rfl) (TL rfl) ⟨rfl, rfl, by decide⟩ hgi
        have w1 : (kF.fl (fs ++ js))[gi * kF.sz + 1]? = some (.int .i64 w) := by rw [kF.fl_get hgil (show 1 < kF.sz by decide), hxj, hw]; rfl
        have hput := put_fld (K := kF) (l := fs ++ js) (i := gi) (j := 1) (x := ((3 * (gi : Int), w - gnn) : Fl)) (v := .int .i64 (w - gnn)) hgil (by decide) (by rw [hxj, hw]; rfl)
        have hset : (fs ++ js).set gi ((3 * (gi : Int), w - gnn) : Fl) = fs.set gi (3 * (gi : Int), w - gnn) ++ js := List.set_append_left _ _ (by omega)
        rw [hset] at hput
        rw [hw] at hw0
        replace hw0 : -140800000 * (i : Int) - 64 * (u : Int) ≤ w ∧ w ≤ 1023 := hw0
        have hbfn : bf < h7.next := by omega
        have hvx : veq (.agg ⟨kF.enc (3 * (gi : Int), gnn)⟩) (.agg ⟨kF.enc (3 * (gi : Int), gnn)⟩) = true := veq_self rfl
        clear hset hxj hgil hcn hw hse hgx2
        repeat first | refine G_seq ?_ | refine G_reg ?_ | refine N_seq ?_ | refine N_block ?_ | refine G_block ?_ | refine G_skip ?_ | refine G_cT ?_ | refine G_cF ?_ | refine G_ret ?_ | refine U_seq_ret ?_ | refine U_block_ret ?_ | refine U_nil ?_ | refine S_nil ?_ | refine S_auto ?_
        refine S_step wants0 (o_indexAddr (by simp only [aev_tmp, aev_const, aev_func, aev_global, at_put, at_none, n_put, reduceIte, Nat.reduceEqDiff, Nat.reduceLT, zq, *]; first | done | rfl) (by simp only [aev_tmp, aev_const, aev_func, aev_global, at_put, at_none, n_put, reduceIte, Nat.reduceEqDiff, Nat.reduceLT, zq, *]; first | done | rfl) g1) ?_
        refine S_step wants0 (o_ldA (by simp only [aev_tmp, aev_const, aev_func, aev_global, at_put, at_none, n_put, reduceIte, Nat.reduceEqDiff, Nat.reduceLT, zq, *]; first | done | rfl) (TL rfl) rfl (rd_cells (by simp (disch := omega) only [get_set_self, get_new_self, get_set_ne, get_new_ne, get_bump, next_set, next_new, Nat.lt_irrefl, reduceIte, next_kill, next_bump, *]; first | done | rfl)) (gc.trans rfl)) ?_
        repeat first | refine G_seq ?_ | refine G_reg ?_ | refine N_seq ?_ | refine N_block ?_ | refine G_block ?_ | refine G_skip ?_ | refine G_cT ?_ | refine G_cF ?_ | refine G_ret ?_ | refine U_seq_ret ?_ | refine U_block_ret ?_ | refine U_nil ?_ | refine S_nil ?_ | refine S_auto ?_
        clear g1 g2 gc
        refine G_draw [] [] (by kernel_rfl) ?_
        repeat first | refine D1_nil0 ?_ | refine D2_nil ?_ | refine D_pure ?_ | refine D_rd ?_ | refine D2_pure' ?_
        refine D1_pure wants0 rfl rfl (fun _ _ => o_indexAddr (by simp only [aev_tmp, aev_const, aev_func, aev_global, at_put, at_none, n_put, reduceIte, Nat.reduceEqDiff, Nat.reduceLT, zq, *]; first | done | rfl) (by simp only [aev_tmp, aev_const, aev_func, aev_global, at_put, at_none, n_put, reduceIte, Nat.reduceEqDiff, Nat.reduceLT, zq, *]; first | done | rfl) g3) ?_
        refine D1_rd wants0 rfl rfl (fun _ => o_ldA (by simp only [aev_tmp, aev_const, aev_func, aev_global, at_put, at_none, n_put, reduceIte, Nat.reduceEqDiff, Nat.reduceLT, zq, *]; first | done | rfl) (TL rfl) rfl (rd_cells (by simp (disch := omega) only [get_set_self, get_new_self, get_set_ne, get_new_ne, get_bump, next_set, next_new, Nat.lt_irrefl, reduceIte, next_kill, next_bump, *]; first | done | rfl)) gd) hvx ?_
        repeat first | refine D1_nil0 ?_ | refine D2_nil ?_ | refine D_pure ?_ | refine D_rd ?_ | refine D2_pure' ?_
        refine D1_rd wants0 rfl rfl (fun _ => o_bin (by simp only [aev_tmp, aev_const, aev_func, aev_global, at_put, at_none, n_put, reduceIte, Nat.reduceEqDiff, Nat.reduceLT, zq, *]; first | done | rfl) (by simp only [aev_tmp, aev_const, aev_func, aev_global, at_put, at_none, n_put, reduceIte, Nat.reduceEqDiff, Nat.reduceLT, zq, *]; first | done | rfl) b_neqG) (by first | exact veq_self rfl | assumption) ?_
        clear g3 g4 gd hvx
        repeat first | refine D1_nil0 ?_ | refine D2_nil ?_ | refine D_pure ?_ | refine D_rd ?_ | refine D2_pure' ?_
        refine N_seq ?_
        refine G_condF (by simp only [aev_tmp, aev_const, aev_func, aev_global, at_put, at_none, n_put, reduceIte, Nat.reduceEqDiff, Nat.reduceLT, zq, *]; first | done | rfl) ?_
        refine G_skip ?_
        refine N_seq ?_
        refine G_draw [] [] (by kernel_rfl) ?_
        repeat first | refine D1_nil0 ?_ | refine D2_nil ?_ | refine D_pure ?_ | refine D_rd ?_ | refine D2_pure' ?_
        refine D1_rd wants0 rfl rfl (fun _ => o_bin (by simp only [aev_tmp, aev_const, aev_func, aev_global, at_put, at_none, n_put, reduceIte, Nat.reduceEqDiff, Nat.reduceLT, zq, *]; first | done | rfl) (by simp only [aev_tmp, aev_const, aev_func, aev_global, at_put, at_none, n_put, reduceIte, Nat.reduceEqDiff, Nat.reduceLT, zq, *]; first | done | rfl) (b_quo3 (by omega))) (by first | exact veq_self rfl | assumption) ?_
        refine D1_pure wants0 rfl rfl (fun _ _ => o_indexAddr (by simp only [aev_tmp, aev_const, aev_func, aev_global, at_put, at_none, n_put, reduceIte, Nat.reduceEqDiff, Nat.reduceLT, zq, *]; first | done | rfl) (by simp only [aev_tmp, aev_const, aev_func, aev_global, at_put, at_none, n_put, reduceIte, Nat.reduceEqDiff, Nat.reduceLT, zq, *]; first | done | rfl) i1) ?_
        repeat first | refine D1_nil0 ?_ | refine D2_nil ?_ | refine D_pure ?_ | refine D_rd ?_ | refine D2_pure' ?_
        refine D1_rd wants0 rfl rfl (fun _ => o_ld (by simp only [aev_tmp, aev_const, aev_func, aev_global, at_put, at_none, n_put, reduceIte, Nat.reduceEqDiff, Nat.reduceLT, zq, *]; first | done | rfl) (TL rfl) rfl (rd_cells (by simp (disch := omega) only [get_set_self, get_new_self, get_set_ne, get_new_ne, get_bump, next_set, next_new, Nat.lt_irrefl, reduceIte, next_kill, next_bump, *]; first | done | rfl)) w1) (by first | exact veq_self rfl | assumption) ?_
        repeat first | refine D1_nil0 ?_ | refine D2_nil ?_ | refine D_pure ?_ | refine D_rd ?_ | refine D2_pure' ?_
        refine D1_pure wants0 rfl rfl (fun _ _ => o_indexAddr (by simp only [aev_tmp, aev_const, aev_func, aev_global, at_put, at_none, n_put, reduceIte, Nat.reduceEqDiff, Nat.reduceLT, zq, *]; first | done | rfl) (by simp only [aev_tmp, aev_const, aev_func, aev_global, at_put, at_none, n_put, reduceIte, Nat.reduceEqDiff, Nat.reduceLT, zq, *]; first | done | rfl) i1) ?_
        repeat first | refine D1_nil0 ?_ | refine D2_nil ?_ | refine D_pure ?_ | refine D_rd ?_ | refine D2_pure' ?_
        refine D1_wr0 wants0 rfl (o_st1 (by simp only [aev_tmp, aev_const, aev_func, aev_global, at_put, at_none, n_put, reduceIte, Nat.reduceEqDiff, Nat.reduceLT, zq, *]; first | done | rfl) (by simp only [aev_tmp, aev_const, aev_func, aev_global, at_put, at_none, n_put, reduceIte, Nat.reduceEqDiff, Nat.reduceLT, zq, *]; first | done | rfl) (TL rfl) rfl ⟨rfl, rfl⟩ (by simp (disch := omega) only [get_set_self, get_new_self, get_set_ne, get_new_ne, get_bump, next_set, next_new, Nat.lt_irrefl, reduceIte, next_kill, next_bump, *]; first | done | rfl) hput) .nil ?_
        clear i1 w1 hput
        repeat first | refine D1_nil0 ?_ | refine D2_nil ?_ | refine D_pure ?_ | refine D_rd ?_ | refine D2_pure' ?_
        repeat first | refine G_seq ?_ | refine G_reg ?_ | refine N_seq ?_ | refine N_block ?_ | refine G_block ?_ | refine G_skip ?_ | refine G_cT ?_ | refine G_cF ?_ | refine G_ret ?_ | refine U_seq_ret ?_ | refine U_block_ret ?_ | refine U_nil ?_ | refine S_nil ?_ | refine S_auto ?_
        refine N_nil ?_
        exact LQ_n (j3 - 1) (by omega) ⟨u + 1, fs.set gi (3 * (gi : Int), w - gnn), by omega, by simp only [at_put, at_none, n_put, reduceIte, Nat.reduceEqDiff, Nat.reduceLT, zq, *]; first | done | rfl, by simp only [at_put, at_none, n_put, reduceIte, Nat.reduceEqDiff, Nat.reduceLT, zq, *]; first | done | rfl, by simp only [at_put, at_none, n_put, reduceIte, Nat.reduceEqDiff, Nat.reduceLT, zq, *]; first | done | rfl, by simp only [at_put, at_none, n_put, reduceIte, Nat.reduceEqDiff, Nat.reduceLT, zq, *]; first | done | rfl, by simp only [at_put, at_none, n_put, reduceIte, Nat.reduceEqDiff, Nat.reduceLT, zq, *]; first | done | rfl, by simp only [at_put, at_none, n_put, reduceIte, Nat.reduceEqDiff, Nat.reduceLT, zq, *]; first | done | rfl, by simp only [at_put, at_none, n_put, reduceIte, Nat.reduceEqDiff, Nat.reduceLT, zq, *]; first | done | rfl, by simp only [at_put, at_none, n_put, reduceIte, Nat.reduceEqDiff, Nat.reduceLT, zq, *]; first | done | rfl, by simp only [at_put, at_none, n_put, reduceIte, Nat.reduceEqDiff, Nat.reduceLT, zq, *]; first | done | rfl, by simp only [at_put, at_none, n_put, reduceIte, Nat.reduceEqDiff, Nat.reduceLT, zq, *]; first | done | rfl, by rw [Int.natCast_add]; simp only [at_put, at_none, n_put, reduceIte, Nat.reduceEqDiff, Nat.reduceLT, zq, *]; first | done | rfl, by simp (disch := omega) only [get_set_self, get_new_self, get_set_ne, get_new_ne, get_bump, next_set, next_new, Nat.lt_irrefl, reduceIte, next_kill, next_bump, *]; first | done | rfl, by simp (disch := omega) only [get_set_self, get_new_self, get_set_ne, get_new_ne, get_bump, next_set, next_new, Nat.lt_irrefl, reduceIte, next_kill, next_bump, *]; first | done | rfl, by rw [show -140800000 * (i : Int) - 64 * ((u + 1 : Nat) : Int) = -140800000 * (i : Int) - 64 * (u : Int) - 64 by omega]; exact hsub.1, hsub.2.1.trans hfl, by simp (disch := omega) only [get_set_self, get_new_self, get_set_ne, get_new_ne, get_bump, next_set, next_new, Nat.lt_irrefl, reduceIte, next_kill, next_bump, *]; first | done | rfl, hgx.keep fun w hw => by have := hO6.1 w hw; clear hp7 hq7; simp (disch := omega) only [get_set_self, get_new_self, get_set_ne, get_new_ne, get_bump, next_set, next_new, Nat.lt_irrefl, reduceIte, next_kill, next_bump, *]; first | done | rfl, hgy.keep fun w hw => by have := hO6.2 w hw; clear hp7 hq7; simp (disch := omega) only [get_set_self, get_new_self, get_set_ne, get_new_ne, get_bump, next_set, next_new, Nat.lt_irrefl, reduceIte, next_kill, next_bump, *]; first | done | rfl, by simp only [next_set, next_bump, next_new, Nat.lt_irrefl, reduceIte]; omega⟩
      · have hut' : ((u : Int) < (out.length : Int)) = False := eq_false (by omega)
        obtain rfl : u = out.length := by omega
        repeat first | refine G_seq ?_ | refine G_reg ?_ | refine N_seq ?_ | refine N_block ?_ | refine G_block ?_ | refine G_skip ?_ | refine G_cT ?_ | refine G_cF ?_ | refine G_ret ?_ | refine U_seq_ret ?_ | refine U_block_ret ?_ | refine U_nil ?_ | refine S_nil ?_ | refine S_auto ?_
        refine G_exit ?_
        repeat first | refine U_seq_exit ?_ | refine U_nil ?_ | refine LQ_exit ?_ | refine U_block_hit ?_
        repeat first | refine G_seq ?_ | refine G_reg ?_ | refine N_seq ?_ | refine N_block ?_ | refine G_block ?_ | refine G_skip ?_ | refine G_cT ?_ | refine G_cF ?_ | refine G_ret ?_ | refine U_seq_ret ?_ | refine U_block_ret ?_ | refine U_nil ?_ | refine S_nil ?_ | refine S_auto ?_
        refine N_nil ?_
        exact LQ_n (j - 1) (by omega) ⟨i + 1, c', la', any', fs, js, by omega, by simp only [at_put, at_none, n_put, reduceIte, Nat.reduceEqDiff, Nat.reduceLT, zq, *]; first | done | rfl, by simp only [at_put, at_none, n_put, reduceIte, Nat.reduceEqDiff, Nat.reduceLT, zq, *]; first | done | rfl, by simp only [at_put, at_none, n_put, reduceIte, Nat.reduceEqDiff, Nat.reduceLT, zq, *]; first | done | rfl, by simp only [at_put, at_none, n_put, reduceIte, Nat.reduceEqDiff, Nat.reduceLT, zq, *]; first | done | rfl, by simp only [at_put, at_none, n_put, reduceIte, Nat.reduceEqDiff, Nat.reduceLT, zq, *]; first | done | rfl, by simp only [at_put, at_none, n_put, reduceIte, Nat.reduceEqDiff, Nat.reduceLT, zq, *]; first | done | rfl, by rw [Int.natCast_add]; simp only [at_put, at_none, n_put, reduceIte, Nat.reduceEqDiff, Nat.reduceLT, zq, *]; first | done | rfl, hp7, hq7, hc0', by omega, ⟨hOF.conn, fun i hi => by have := hOF.want i hi; omega⟩, hfl, hf7, by omega, by omega⟩
    · have hiM' : ((i : Int) < (M : Int)) = False := eq_false (by omega)
      clear hM
      repeat first | refine G_seq ?_ | refine G_reg ?_ | refine N_seq ?_ | refine N_block ?_ | refine G_block ?_ | refine G_skip ?_ | refine G_cT ?_ | refine G_cF ?_ | refine G_ret ?_ | refine U_seq_ret ?_ | refine U_block_ret ?_ | refine U_nil ?_ | refine S_nil ?_ | refine S_auto ?_
      refine G_exit ?_
      repeat first | refine U_seq_exit ?_ | refine U_nil ?_ | refine LQ_exit ?_ | refine U_block_hit ?_
      repeat first | refine G_seq ?_ | refine G_reg ?_ | refine N_seq ?_ | refine N_block ?_ | refine G_block ?_ | refine G_skip ?_ | refine G_cT ?_ | refine G_cF ?_ | refine G_ret ?_ | refine U_seq_ret ?_ | refine U_block_ret ?_ | refine U_nil ?_ | refine S_nil ?_ | refine S_auto ?_
      refine FQ_in (by first | exact .inr rfl | exact .inl rfl) (by first | exact ares1 (by simp only [at_put, at_none, n_put, reduceIte, Nat.reduceEqDiff, Nat.reduceLT, zq, *]; first | done | rfl) | exact ares2 (by simp only [at_put, at_none, n_put, reduceIte, Nat.reduceEqDiff, Nat.reduceLT, zq, *]; first | done | rfl) (by simp only [at_put, at_none, n_put, reduceIte, Nat.reduceEqDiff, Nat.reduceLT, zq, *]; first | done | rfl)) ?_
      rfl
end Go.Proofs.Yteffhomollmpdaa.AM.SX
