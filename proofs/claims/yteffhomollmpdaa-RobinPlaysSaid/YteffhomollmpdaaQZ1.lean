import Derived.Test.YteffhomollmpdaaSXA
import Derived.Test.YteffhomollmpdaaSXQ
/- Robin: what compares flows. -/
namespace Go.Proofs.Yteffhomollmpdaa.AM.SX
open Go
set_option linter.unusedVariables false
set_option linter.unusedSimpArgs false
set_option maxRecDepth 100000
set_option maxHeartbeats 4000000
attribute [local irreducible] astep0 aev awants abin abuild
/-- a flow: its connection, what it wants; a grant: its connection, how much -/
abbrev Fl := Int × Int
def kF : Enc Fl := ⟨2, fun x => [.int .i64 x.1, .int .i64 x.2], fun _ => rfl, by decide, fun _ => rfl⟩
def cmpI (x y : Int) : Int := if x < y then -1 else if y < x then 1 else 0
theorem Keep.fresh {h h' h'' : AHeap} {O : List Nat} (k : Keep h h' []) (k' : Keep h' h'' O) (ho : ∀ i ∈ O, h.next ≤ i) : Keep h h'' [] := k.trans k' fun i hi => .inr (ho i hi)
section
variable {n : Nat} {h : AHeap}
theorem isNaN_spec (x : Int) : C EE (n + 1) 33 [.int .i64 x] h fun r h' => r = .bool false ∧ h' = h := by
  refine C_in (E_X _) F_isNaN rfl rfl rfl ?_
  intro a hn hat
  have e0 := hat 0 _ rfl
  replace hn : a.n = 6 := hn
  clear hat
  repeat first | refine G_seq ?_ | refine G_reg ?_ | refine N_seq ?_ | refine N_block ?_ | refine G_block ?_ | refine G_skip ?_ | refine G_cT ?_ | refine G_cF ?_ | refine G_ret ?_ | refine U_seq_ret ?_ | refine U_block_ret ?_ | refine U_nil ?_ | refine S_nil ?_ | refine S_auto ?_
  refine FQ_in (by first | exact .inr rfl | exact .inl rfl) (by first | exact ares1 (by simp only [at_put, at_none, n_put, reduceIte, Nat.reduceEqDiff, Nat.reduceLT, zq, *]; first | done | rfl) | exact ares2 (by simp only [at_put, at_none, n_put, reduceIte, Nat.reduceEqDiff, Nat.reduceLT, zq, *]; first | done | rfl) (by simp only [at_put, at_none, n_put, reduceIte, Nat.reduceEqDiff, Nat.reduceLT, zq, *]; first | done | rfl)) ?_
  exact ⟨by simp [oneOf], rfl⟩
theorem compare_spec (x y : Int) : C EE (n + 2) 25 [.int .i64 x, .int .i64 y] h fun r h' => r = .int .i64 (cmpI x y) ∧ h' = h := by
  refine C_in (E_X _) F_compare rfl rfl rfl ?_
  intro a hn hat
  have e0 := hat 0 _ rfl
  have e1 := hat 1 _ rfl
  replace hn : a.n = 20 := hn
  clear hat
  repeat first | refine G_seq ?_ | refine G_reg ?_ | refine N_seq ?_ | refine N_block ?_ | refine G_block ?_ | refine G_skip ?_ | refine G_cT ?_ | refine G_cF ?_ | refine G_ret ?_ | refine U_seq_ret ?_ | refine U_block_ret ?_ | refine U_nil ?_ | refine S_nil ?_ | refine S_auto ?_
  refine S_call wants0 (by simp only [aev_tmp, aev_const, aev_func, aev_global, at_put, at_none, n_put, reduceIte, Nat.reduceEqDiff, Nat.reduceLT, zq, *]; first | done | rfl) (E_Y _) (by simp only [List.map, aev_tmp, aev_const, aev_func, aev_global, at_put, at_none, n_put, reduceIte, Nat.reduceEqDiff, Nat.reduceLT, zq, *]; first | done | rfl) ?_
  refine (isNaN_spec x).mono ?_
  rintro r h' ⟨rfl, rfl⟩
  repeat first | refine G_seq ?_ | refine G_reg ?_ | refine N_seq ?_ | refine N_block ?_ | refine G_block ?_ | refine G_skip ?_ | refine G_cT ?_ | refine G_cF ?_ | refine G_ret ?_ | refine U_seq_ret ?_ | refine U_block_ret ?_ | refine U_nil ?_ | refine S_nil ?_ | refine S_auto ?_
  refine S_call wants0 (by simp only [aev_tmp, aev_const, aev_func, aev_global, at_put, at_none, n_put, reduceIte, Nat.reduceEqDiff, Nat.reduceLT, zq, *]; first | done | rfl) (E_Y _) (by simp only [List.map, aev_tmp, aev_const, aev_func, aev_global, at_put, at_none, n_put, reduceIte, Nat.reduceEqDiff, Nat.reduceLT, zq, *]; first | done | rfl) ?_
  refine (isNaN_spec y).mono ?_
  rintro r h' ⟨rfl, rfl⟩
  unfold cmpI
  by_cases h1 : x < y
  · repeat first | refine G_seq ?_ | refine G_reg ?_ | refine N_seq ?_ | refine N_block ?_ | refine G_block ?_ | refine G_skip ?_ | refine G_cT ?_ | refine G_cF ?_ | refine G_ret ?_ | refine U_seq_ret ?_ | refine U_block_ret ?_ | refine U_nil ?_ | refine S_nil ?_ | refine S_auto ?_
    refine FQ_in (by first | exact .inr rfl | exact .inl rfl) (by first | exact ares1 (by simp only [at_put, at_none, n_put, reduceIte, Nat.reduceEqDiff, Nat.reduceLT, zq, *]; first | done | rfl) | exact ares2 (by simp only [at_put, at_none, n_put, reduceIte, Nat.reduceEqDiff, Nat.reduceLT, zq, *]; first | done | rfl) (by simp only [at_put, at_none, n_put, reduceIte, Nat.reduceEqDiff, Nat.reduceLT, zq, *]; first | done | rfl)) ?_
    exact ⟨by rw [if_pos h1]; rfl, rfl⟩
  · by_cases h2 : y < x
    · repeat first | refine G_seq ?_ | refine G_reg ?_ | refine N_seq ?_ | refine N_block ?_ | refine G_block ?_ | refine G_skip ?_ | refine G_cT ?_ | refine G_cF ?_ | refine G_ret ?_ | refine U_seq_ret ?_ | refine U_block_ret ?_ | refine U_nil ?_ | refine S_nil ?_ | refine S_auto ?_
      refine FQ_in (by first | exact .inr rfl | exact .inl rfl) (by first | exact ares1 (by simp only [at_put, at_none, n_put, reduceIte, Nat.reduceEqDiff, Nat.reduceLT, zq, *]; first | done | rfl) | exact ares2 (by simp only [at_put, at_none, n_put, reduceIte, Nat.reduceEqDiff, Nat.reduceLT, zq, *]; first | done | rfl) (by simp only [at_put, at_none, n_put, reduceIte, Nat.reduceEqDiff, Nat.reduceLT, zq, *]; first | done | rfl)) ?_
      exact ⟨by rw [if_neg h1, if_pos h2]; rfl, rfl⟩
    · repeat first | refine G_seq ?_ | refine G_reg ?_ | refine N_seq ?_ | refine N_block ?_ | refine G_block ?_ | refine G_skip ?_ | refine G_cT ?_ | refine G_cF ?_ | refine G_ret ?_ | refine U_seq_ret ?_ | refine U_block_ret ?_ | refine U_nil ?_ | refine S_nil ?_ | refine S_auto ?_
      refine FQ_in (by first | exact .inr rfl | exact .inl rfl) (by first | exact ares1 (by simp only [at_put, at_none, n_put, reduceIte, Nat.reduceEqDiff, Nat.reduceLT, zq, *]; first | done | rfl) | exact ares2 (by simp only [at_put, at_none, n_put, reduceIte, Nat.reduceEqDiff, Nat.reduceLT, zq, *]; first | done | rfl) (by simp only [at_put, at_none, n_put, reduceIte, Nat.reduceEqDiff, Nat.reduceLT, zq, *]; first | done | rfl)) ?_
      exact ⟨by rw [if_neg h1, if_neg h2]; rfl, rfl⟩
theorem flows1_spec (x y : Fl) : C EE (n + 3) 24 [.agg ⟨kF.enc x⟩, .agg ⟨kF.enc y⟩] h fun r h' => r = .int .i64 (cmpI x.1 y.1) ∧ Keep h h' [] := by
  obtain ⟨x1, x2⟩ := x
  obtain ⟨y1, y2⟩ := y
  refine C_in (E_X _) F_flows1 rfl rfl rfl ?_
  intro a hn hat
  have e0 := hat 0 _ rfl
  have e1 := hat 1 _ rfl
  replace hn : a.n = 10 := hn
  replace e0 : a.at 0 = .agg ⟨[.int .i64 x1, .int .i64 x2]⟩ := e0
  replace e1 : a.at 1 = .agg ⟨[.int .i64 y1, .int .i64 y2]⟩ := e1
  clear hat
  repeat first | refine G_seq ?_ | refine G_reg ?_ | refine N_seq ?_ | refine N_block ?_ | refine G_block ?_ | refine G_skip ?_ | refine G_cT ?_ | refine G_cF ?_ | refine G_ret ?_ | refine U_seq_ret ?_ | refine U_block_ret ?_ | refine U_nil ?_ | refine S_nil ?_ | refine S_auto ?_
  refine S_call wants0 (by simp only [aev_tmp, aev_const, aev_func, aev_global, at_put, at_none, n_put, reduceIte, Nat.reduceEqDiff, Nat.reduceLT, zq, *]; first | done | rfl) (E_Y _) (by simp only [List.map, aev_tmp, aev_const, aev_func, aev_global, at_put, at_none, n_put, reduceIte, Nat.reduceEqDiff, Nat.reduceLT, zq, *]; first | done | rfl) ?_
  refine (compare_spec x1 y1).mono ?_
  rintro r h' ⟨rfl, rfl⟩
  repeat first | refine G_seq ?_ | refine G_reg ?_ | refine N_seq ?_ | refine N_block ?_ | refine G_block ?_ | refine G_skip ?_ | refine G_cT ?_ | refine G_cF ?_ | refine G_ret ?_ | refine U_seq_ret ?_ | refine U_block_ret ?_ | refine U_nil ?_ | refine S_nil ?_ | refine S_auto ?_
  refine FQ_in (by first | exact .inr rfl | exact .inl rfl) (by first | exact ares1 (by simp only [at_put, at_none, n_put, reduceIte, Nat.reduceEqDiff, Nat.reduceLT, zq, *]; first | done | rfl) | exact ares2 (by simp only [at_put, at_none, n_put, reduceIte, Nat.reduceEqDiff, Nat.reduceLT, zq, *]; first | done | rfl) (by simp only [at_put, at_none, n_put, reduceIte, Nat.reduceEqDiff, Nat.reduceLT, zq, *]; first | done | rfl)) ?_
  refine ⟨rfl, ?_, fun q hq _ => by simp (disch := omega) only [get_set_self, get_new_self, get_set_ne, get_new_ne, get_bump, next_set, next_new, Nat.lt_irrefl, reduceIte, next_kill, next_bump, *]; first | done | rfl⟩
  simp only [next_new, Nat.lt_irrefl, reduceIte]; omega
theorem flows2_spec (x y : Fl) : C EE (n + 1) 27 [.agg ⟨kF.enc x⟩, .agg ⟨kF.enc y⟩] h fun r h' => r = .bool (decide (x.1 = y.1)) ∧ Keep h h' [] := by
  obtain ⟨x1, x2⟩ := x
  obtain ⟨y1, y2⟩ := y
  refine C_in (E_X _) F_flows2 rfl rfl rfl ?_
  intro a hn hat
  have e0 := hat 0 _ rfl
  have e1 := hat 1 _ rfl
  replace hn : a.n = 10 := hn
  replace e0 : a.at 0 = .agg ⟨[.int .i64 x1, .int .i64 x2]⟩ := e0
  replace e1 : a.at 1 = .agg ⟨[.int .i64 y1, .int .i64 y2]⟩ := e1
  clear hat
  repeat first | refine G_seq ?_ | refine G_reg ?_ | refine N_seq ?_ | refine N_block ?_ | refine G_block ?_ | refine G_skip ?_ | refine G_cT ?_ | refine G_cF ?_ | refine G_ret ?_ | refine U_seq_ret ?_ | refine U_block_ret ?_ | refine U_nil ?_ | refine S_nil ?_ | refine S_auto ?_
  refine FQ_in (by first | exact .inr rfl | exact .inl rfl) (by first | exact ares1 (by simp only [at_put, at_none, n_put, reduceIte, Nat.reduceEqDiff, Nat.reduceLT, zq, *]; first | done | rfl) | exact ares2 (by simp only [at_put, at_none, n_put, reduceIte, Nat.reduceEqDiff, Nat.reduceLT, zq, *]; first | done | rfl) (by simp only [at_put, at_none, n_put, reduceIte, Nat.reduceEqDiff, Nat.reduceLT, zq, *]; first | done | rfl)) ?_
  refine ⟨rfl, ?_, fun q hq _ => by simp (disch := omega) only [get_set_self, get_new_self, get_set_ne, get_new_ne, get_bump, next_set, next_new, Nat.lt_irrefl, reduceIte, next_kill, next_bump, *]; first | done | rfl⟩
  simp only [next_new, Nat.lt_irrefl, reduceIte]; omega
theorem flows3_spec (x : Fl) : C EE (n + 1) 29 [.agg ⟨kF.enc x⟩] h fun r h' => r = .bool (decide (x.2 ≤ 0)) ∧ Keep h h' [] := by
  obtain ⟨x1, x2⟩ := x
  refine C_in (E_X _) F_flows3 rfl rfl rfl ?_
  intro a hn hat
  have e0 := hat 0 _ rfl
  replace hn : a.n = 6 := hn
  replace e0 : a.at 0 = .agg ⟨[.int .i64 x1, .int .i64 x2]⟩ := e0
  clear hat
  repeat first | refine G_seq ?_ | refine G_reg ?_ | refine N_seq ?_ | refine N_block ?_ | refine G_block ?_ | refine G_skip ?_ | refine G_cT ?_ | refine G_cF ?_ | refine G_ret ?_ | refine U_seq_ret ?_ | refine U_block_ret ?_ | refine U_nil ?_ | refine S_nil ?_ | refine S_auto ?_
  refine FQ_in (by first | exact .inr rfl | exact .inl rfl) (by first | exact ares1 (by simp only [at_put, at_none, n_put, reduceIte, Nat.reduceEqDiff, Nat.reduceLT, zq, *]; first | done | rfl) | exact ares2 (by simp only [at_put, at_none, n_put, reduceIte, Nat.reduceEqDiff, Nat.reduceLT, zq, *]; first | done | rfl) (by simp only [at_put, at_none, n_put, reduceIte, Nat.reduceEqDiff, Nat.reduceLT, zq, *]; first | done | rfl)) ?_
  exact ⟨rfl, Keep.new _ _ _⟩
theorem next1_spec {bx p : Nat} {q c la : Int} {any z1 z2 : Bool} (hb : h.get bx = some (.cells [.pointer (some ⟨p, 0, none⟩)] z1)) (hp : h.get p = some (.cells [.int .i64 q, .int .i64 c, .int .i64 la, .bool any] z2)) (hl : bx < h.next ∧ p < h.next) (x : Fl) : C EE (n + 1) 31 [.agg ⟨kF.enc x⟩, .pointer (some ⟨bx, 0, none⟩)] h fun r h' => r = .bool (any && decide (la < x.1)) ∧ Keep h h' [] := by
  obtain ⟨x1, x2⟩ := x
  obtain ⟨hl1, hl2⟩ := hl
  refine C_in (E_X _) F_next1 rfl rfl rfl ?_
  intro a hn hat
  have e0 := hat 0 _ rfl
  have e1 := hat 1 _ rfl
  replace hn : a.n = 17 := hn
  replace e0 : a.at 0 = .agg ⟨[.int .i64 x1, .int .i64 x2]⟩ := e0
  clear hat
  repeat first | refine G_seq ?_ | refine G_reg ?_ | refine N_seq ?_ | refine N_block ?_ | refine G_block ?_ | refine G_skip ?_ | refine G_cT ?_ | refine G_cF ?_ | refine G_ret ?_ | refine U_seq_ret ?_ | refine U_block_ret ?_ | refine U_nil ?_ | refine S_nil ?_ | refine S_auto ?_
  refine G_draw [] [] (by kernel_rfl) ?_
  cases any with
  | true =>
    repeat first | refine D1_nil0 ?_ | refine D2_nil ?_ | refine D_noG ?_ | refine D_pure ?_ | refine D_rd ?_ | refine D2_pure' ?_
    repeat first | refine G_seq ?_ | refine G_reg ?_ | refine N_seq ?_ | refine N_block ?_ | refine G_block ?_ | refine G_skip ?_ | refine G_cT ?_ | refine G_cF ?_ | refine G_ret ?_ | refine U_seq_ret ?_ | refine U_block_ret ?_ | refine U_nil ?_ | refine S_nil ?_ | refine S_auto ?_
    refine FQ_in (by first | exact .inr rfl | exact .inl rfl) (by first | exact ares1 (by simp only [at_put, at_none, n_put, reduceIte, Nat.reduceEqDiff, Nat.reduceLT, zq, *]; first | done | rfl) | exact ares2 (by simp only [at_put, at_none, n_put, reduceIte, Nat.reduceEqDiff, Nat.reduceLT, zq, *]; first | done | rfl) (by simp only [at_put, at_none, n_put, reduceIte, Nat.reduceEqDiff, Nat.reduceLT, zq, *]; first | done | rfl)) ?_
    refine ⟨rfl, ?_, fun q hq _ => by simp (disch := omega) only [get_set_self, get_new_self, get_set_ne, get_new_ne, get_bump, next_set, next_new, Nat.lt_irrefl, reduceIte, next_kill, next_bump, *]; first | done | rfl⟩
    simp only [next_bump, next_new, Nat.lt_irrefl, reduceIte]; omega
  | false =>
    repeat first | refine D1_nil0 ?_ | refine D2_nil ?_ | refine D_noG ?_ | refine D_pure ?_ | refine D_rd ?_ | refine D2_pure' ?_
    repeat first | refine G_seq ?_ | refine G_reg ?_ | refine N_seq ?_ | refine N_block ?_ | refine G_block ?_ | refine G_skip ?_ | refine G_cT ?_ | refine G_cF ?_ | refine G_ret ?_ | refine U_seq_ret ?_ | refine U_block_ret ?_ | refine U_nil ?_ | refine S_nil ?_ | refine S_auto ?_
    refine FQ_in (by first | exact .inr rfl | exact .inl rfl) (by first | exact ares1 (by simp only [at_put, at_none, n_put, reduceIte, Nat.reduceEqDiff, Nat.reduceLT, zq, *]; first | done | rfl) | exact ares2 (by simp only [at_put, at_none, n_put, reduceIte, Nat.reduceEqDiff, Nat.reduceLT, zq, *]; first | done | rfl) (by simp only [at_put, at_none, n_put, reduceIte, Nat.reduceEqDiff, Nat.reduceLT, zq, *]; first | done | rfl)) ?_
    refine ⟨rfl, ?_, fun q hq _ => by simp (disch := omega) only [get_set_self, get_new_self, get_set_ne, get_new_ne, get_bump, next_set, next_new, Nat.lt_irrefl, reduceIte, next_kill, next_bump, *]; first | done | rfl⟩
    simp only [next_bump, next_new, Nat.lt_irrefl, reduceIte]; omega
end
end Go.Proofs.Yteffhomollmpdaa.AM.SX

/- Robin: flows are sorted. -/
namespace Go.Proofs.Yteffhomollmpdaa.AM.SX
open Go
set_option linter.unusedVariables false
set_option linter.unusedSimpArgs false
set_option maxRecDepth 100000
set_option maxHeartbeats 4000000
attribute [local irreducible] astep0 aev awants abin abuild
def insAt (S : List Fl) (x : Fl) : Nat → Nat
  | 0 => 0
  | j + 1 => if x.1 < (S.getD j (0, 0)).1 then insAt S x j else j + 1
def insF (S : List Fl) (x : Fl) : List Fl := S.take (insAt S x S.length) ++ (x :: S.drop (insAt S x S.length))
def sortF (l : List Fl) : List Fl := l.foldl insF []
theorem insF_len (S : List Fl) (x : Fl) : (insF S x).length = S.length + 1 := by
  unfold insF; simp only [List.length_append, List.length_cons, List.length_take, List.length_drop]; omega
theorem foldl_len : ∀ (l S : List Fl), (l.foldl insF S).length = S.length + l.length
  | [], S => rfl
  | x :: l, S => by rw [List.foldl_cons, foldl_len l, insF_len, List.length_cons]; omega
theorem sortF_len (l : List Fl) : (sortF l).length = l.length := by unfold sortF; rw [foldl_len]; simp
theorem sortF_take {l : List Fl} {i : Nat} (hi : i < l.length) : sortF (l.take (i + 1)) = insF (sortF (l.take i)) l[i] := by
  unfold sortF; rw [List.take_succ_eq_append_getElem hi, List.foldl_append]; rfl
theorem ix_row0 {α : Type} {K : Enc α} {T : Tr TI} {st e sz b : Nat} {z : Value} {ei : TI} {bk L c i : Nat} (hst : T.get st = some ⟨.slice e, sz, b, z⟩) (he : T.get e = some ei) (hs : K.Ok ei) (hi : i < L) : aindexAddr T st (.slice (some ⟨bk, 0, none⟩) L c) (.int .i64 (i : Int)) = some (.pointer (some ⟨bk, i * K.sz, none⟩)) := by
  rw [ix_row hst he hs hi, Nat.zero_add]
theorem cut_at {l : List Fl} {i : Nat} {x : Fl} (h : l[i]? = some x) : cut (kF.fl l) (i * kF.sz) kF.sz = some (kF.enc x) := by
  obtain ⟨hi, rfl⟩ := List.getElem?_eq_some_iff.1 h
  exact kF.fl_cut hi
theorem swap_row {S rest : List Fl} {x : Fl} {j : Nat} (hj : j < S.length) : ((S.take (j + 1) ++ (x :: (S.drop (j + 1) ++ rest))).set (j + 1) S[j]).set j x = S.take j ++ (x :: (S.drop j ++ rest)) := by
  have hA : (S.take j).length = j := by simp; omega
  rw [List.take_succ_eq_append_getElem hj, List.drop_eq_getElem_cons hj, List.append_assoc]
  rw [List.set_append_right _ _ (by omega), hA, List.set_append_right _ _ (by omega), hA]
  simp only [Nat.add_sub_cancel_left, Nat.sub_self, List.singleton_append, List.set_cons_succ, List.set_cons_zero, List.cons_append, List.nil_append]
section
variable {n : Nat} {h : AHeap}
theorem ins_spec {bk : Nat} {l js : List Fl} (hb : h.get bk = some (.cells (kF.fl (l ++ js)) true)) (hbl : bk < h.next) (hn : l.length + 6 ≤ n) (hl : l.length < 1000000) : C EE (n + 1) 34 [.slice (some ⟨bk, 0, none⟩) l.length (CAPX + kF.sz), .int .i64 0, .int .i64 (l.length : Int), .func (.func 24) #[] #[]] h fun r h' => r = .tuple #[] ∧ h'.get bk = some (.cells (kF.fl (sortF l ++ js)) true) ∧ Keep h h' [bk] := by
  refine C_in (E_X _) F_insertion rfl rfl rfl ?_
  intro a hna hat
  have e0 := hat 0 _ rfl
  have e1 := hat 1 _ rfl
  have e2 := hat 2 _ rfl
  have e3 := hat 3 _ rfl
  replace hna : a.n = 53 := hna
  clear hat
  obtain ⟨n', rfl⟩ : ∃ n', n = n' + 3 := ⟨n - 3, by omega⟩
  repeat first | refine G_seq ?_ | refine G_reg ?_ | refine N_seq ?_ | refine N_block ?_ | refine G_block ?_ | refine G_skip ?_ | refine G_cT ?_ | refine G_cF ?_ | refine G_ret ?_ | refine U_seq_ret ?_ | refine U_block_ret ?_ | refine U_nil ?_ | refine S_nil ?_ | refine S_auto ?_
  have hsf : sortF (l.take 1) ++ (l.drop 1 ++ js) = l ++ js := by
    cases l with
    | nil => rfl
    | cons x l => rfl
  refine G_loop (fun j a h' => ∃ i : Nat, i + j = l.length + 1 ∧ 1 ≤ i ∧ a.n = 53 ∧ a.at 0 = .slice (some ⟨bk, 0, none⟩) l.length (CAPX + kF.sz) ∧ a.at 1 = .int .i64 0 ∧ a.at 2 = .int .i64 (l.length : Int) ∧ a.at 3 = .func (.func 24) #[] #[] ∧ a.at 8 = .int .i64 (i : Int) ∧ h'.get bk = some (.cells (kF.fl (sortF (l.take i) ++ (l.drop i ++ js))) true) ∧ Keep h h' [bk]) l.length (by omega) ⟨1, by omega, Nat.le_refl _, by simp only [at_put, at_none, n_put, reduceIte, Nat.reduceEqDiff, Nat.reduceLT, zq, *]; first | done | rfl, by simp only [at_put, at_none, n_put, reduceIte, Nat.reduceEqDiff, Nat.reduceLT, zq, *]; first | done | rfl, by simp only [at_put, at_none, n_put, reduceIte, Nat.reduceEqDiff, Nat.reduceLT, zq, *]; first | done | rfl, by simp only [at_put, at_none, n_put, reduceIte, Nat.reduceEqDiff, Nat.reduceLT, zq, *]; first | done | rfl, by simp only [at_put, at_none, n_put, reduceIte, Nat.reduceEqDiff, Nat.reduceLT, zq, *]; first | done | rfl, by simp only [at_put, at_none, n_put, reduceIte, Nat.reduceEqDiff, Nat.reduceLT, zq, *]; first | done | rfl, by rw [hsf]; exact hb, Keep.refl _ _⟩ ?_
  clear e0 e1 e2 e3 hna a hsf
  rintro j a h' ⟨i, hij, hi1, hna, e0, e1, e2, e3, e8, hrow, hk⟩
  by_cases hil : i < l.length
  · have hil' : (i : Int) < (l.length : Int) := by omega
    have hSl : (sortF (l.take i)).length = i := by rw [sortF_len]; simp; omega
    have hst := sortF_take hil
    have hdr : l.drop i = l[i] :: l.drop (i + 1) := List.drop_eq_getElem_cons hil
    rw [hdr] at hrow
    generalize hS : sortF (l.take i) = S at *
    generalize hx : l[i] = x at *
    generalize hrest : l.drop (i + 1) = rest at *
    have hbl' : bk < h'.next := Nat.lt_of_lt_of_le hbl hk.1
    repeat first | refine G_seq ?_ | refine G_reg ?_ | refine N_seq ?_ | refine N_block ?_ | refine G_block ?_ | refine G_skip ?_ | refine G_cT ?_ | refine G_cF ?_ | refine G_ret ?_ | refine U_seq_ret ?_ | refine U_block_ret ?_ | refine U_nil ?_ | refine S_nil ?_ | refine S_auto ?_
    refine G_loop (fun j2 a h2 => j2 ≤ i ∧ a.n = 53 ∧ a.at 0 = .slice (some ⟨bk, 0, none⟩) l.length (CAPX + kF.sz) ∧ a.at 1 = .int .i64 0 ∧ a.at 2 = .int .i64 (l.length : Int) ∧ a.at 3 = .func (.func 24) #[] #[] ∧ a.at 8 = .int .i64 (i : Int) ∧ a.at 9 = .int .i64 (j2 : Int) ∧ insAt S x i = insAt S x j2 ∧ h2.get bk = some (.cells (kF.fl (S.take j2 ++ (x :: (S.drop j2 ++ (rest ++ js))))) true) ∧ Keep h' h2 [bk]) i (by omega) ⟨Nat.le_refl _, by simp only [at_put, at_none, n_put, reduceIte, Nat.reduceEqDiff, Nat.reduceLT, zq, *]; first | done | rfl, by simp only [at_put, at_none, n_put, reduceIte, Nat.reduceEqDiff, Nat.reduceLT, zq, *]; first | done | rfl, by simp only [at_put, at_none, n_put, reduceIte, Nat.reduceEqDiff, Nat.reduceLT, zq, *]; first | done | rfl, by simp only [at_put, at_none, n_put, reduceIte, Nat.reduceEqDiff, Nat.reduceLT, zq, *]; first | done | rfl, by simp only [at_put, at_none, n_put, reduceIte, Nat.reduceEqDiff, Nat.reduceLT, zq, *]; first | done | rfl, by simp only [at_put, at_none, n_put, reduceIte, Nat.reduceEqDiff, Nat.reduceLT, zq, *]; first | done | rfl, by simp only [at_put, at_none, n_put, reduceIte, Nat.reduceEqDiff, Nat.reduceLT, zq, *]; first | done | rfl, rfl, by rw [hrow, ← hSl, List.take_length, List.drop_length]; rfl, Keep.refl _ _⟩ ?_
    clear e0 e1 e2 e3 e8 hna a hrow
    rintro j2 a h2 ⟨hj2, hna, e0, e1, e2, e3, e8, e9, hia, hrow, hk2⟩
    have hbl2 : bk < h2.next := Nat.lt_of_lt_of_le hbl' hk2.1
    have hfin : ∀ h3 : AHeap, Keep h2 h3 [] → insAt S x i = j2 → h3.get bk = some (.cells (kF.fl (sortF (l.take (i + 1)) ++ (l.drop (i + 1) ++ js))) true) ∧ Keep h h3 [bk] := by
      intro h3 hk3 hp
      refine ⟨?_, (hk.trans hk2 fun q hq => .inl hq).trans hk3 fun q hq => (by cases hq)⟩
      rw [hk3.2 bk hbl2 (by simp), hrow, hst, hrest]
      unfold insF
      rw [hSl, hp]
      simp only [List.append_assoc, List.cons_append]
    repeat first | refine G_seq ?_ | refine G_reg ?_ | refine N_seq ?_ | refine N_block ?_ | refine G_block ?_ | refine G_skip ?_ | refine G_cT ?_ | refine G_cF ?_ | refine G_ret ?_ | refine U_seq_ret ?_ | refine U_block_ret ?_ | refine U_nil ?_ | refine S_nil ?_ | refine S_auto ?_
    refine G_draw [] [15, 16] (by kernel_rfl) ?_
    repeat first | refine D1_nil0 ?_ | refine D2_nil ?_ | refine D_noG ?_ | refine D_pure ?_ | refine D_rd ?_ | refine D2_pure' ?_
    cases j2 with
    | zero =>
      have c1 : ((0 : Int) < ((0 : Nat) : Int)) = False := by simp
      have hf := hfin (bump h2 17) (Keep.bump _ _ _) hia
      clear hfin hrow
      repeat first | refine D1_nil0 ?_ | refine D2_nil ?_ | refine D_noG ?_ | refine D_pure ?_ | refine D_rd ?_ | refine D2_pure' ?_
      refine D1_lo wants0 rfl rfl (fun _ => o_pickF (by first | (simp only [aev_tmp, aev_const, at_put, at_none, n_put, reduceIte, Nat.reduceEqDiff, Nat.reduceLT, cond_true, cond_false, ne_eq, not_true_eq_false, not_false_eq_true, decide_true, decide_false, Bool.not_true, Bool.not_false, eq_self, Int.lt_irrefl, Int.le_refl, *]; done) | (simp only [aev_tmp, aev_const, at_put, at_none, n_put, reduceIte, Nat.reduceEqDiff, Nat.reduceLT, cond_true, cond_false, ne_eq, not_true_eq_false, not_false_eq_true, decide_true, decide_false, Bool.not_true, Bool.not_false, eq_self, Int.lt_irrefl, Int.le_refl, *]; rfl)) (by simp only [aev_tmp, aev_const, aev_func, aev_global, at_put, at_none, n_put, reduceIte, Nat.reduceEqDiff, Nat.reduceLT, zq, *]; first | done | rfl)) (by first | exact veq_self rfl | assumption) ?_
      repeat first | refine D1_nil0 ?_ | refine D2_nil ?_ | refine D_noG ?_ | refine D_pure ?_ | refine D_rd ?_ | refine D2_pure' ?_
      repeat first | refine G_seq ?_ | refine G_reg ?_ | refine N_seq ?_ | refine N_block ?_ | refine G_block ?_ | refine G_skip ?_ | refine G_cT ?_ | refine G_cF ?_ | refine G_ret ?_ | refine U_seq_ret ?_ | refine U_block_ret ?_ | refine U_nil ?_ | refine S_nil ?_ | refine S_auto ?_
      refine G_exit ?_
      repeat first | refine U_seq_exit ?_ | refine U_nil ?_ | refine LQ_exit ?_ | refine U_block_hit ?_
      repeat first | refine G_seq ?_ | refine G_reg ?_ | refine N_seq ?_ | refine N_block ?_ | refine G_block ?_ | refine G_skip ?_ | refine G_cT ?_ | refine G_cF ?_ | refine G_ret ?_ | refine U_seq_ret ?_ | refine U_block_ret ?_ | refine U_nil ?_ | refine S_nil ?_ | refine S_auto ?_
      refine N_nil ?_
      exact LQ_n (j - 1) (by omega) ⟨i + 1, by omega, by omega, by simp only [at_put, at_none, n_put, reduceIte, Nat.reduceEqDiff, Nat.reduceLT, zq, *]; first | done | rfl, by simp only [at_put, at_none, n_put, reduceIte, Nat.reduceEqDiff, Nat.reduceLT, zq, *]; first | done | rfl, by simp only [at_put, at_none, n_put, reduceIte, Nat.reduceEqDiff, Nat.reduceLT, zq, *]; first | done | rfl, by simp only [at_put, at_none, n_put, reduceIte, Nat.reduceEqDiff, Nat.reduceLT, zq, *]; first | done | rfl, by simp only [at_put, at_none, n_put, reduceIte, Nat.reduceEqDiff, Nat.reduceLT, zq, *]; first | done | rfl, by rw [Int.natCast_add]; simp only [at_put, at_none, n_put, reduceIte, Nat.reduceEqDiff, Nat.reduceLT, zq, *]; first | done | rfl, hf.1, hf.2⟩
    | succ j2 =>
      have c1 : ((0 : Int) < ((j2 + 1 : Nat) : Int)) = True := eq_true (by omega)
      have hsub : ((j2 + 1 : Nat) : Int) - 1 = (j2 : Int) := by omega
      have hj2S : j2 < S.length := by omega
      have hcl : (S.take (j2 + 1) ++ (x :: (S.drop (j2 + 1) ++ (rest ++ js)))).length = (l ++ js).length := by
        rw [← hrest]; simp; omega
      have hg1 : (S.take (j2 + 1) ++ (x :: (S.drop (j2 + 1) ++ (rest ++ js))))[j2 + 1]? = some x := by
        rw [List.getElem?_append_right (by simp; omega)]; simp only [List.length_take]; rw [show j2 + 1 - min (j2 + 1) S.length = 0 by omega]; rfl
      have hg0 : (S.take (j2 + 1) ++ (x :: (S.drop (j2 + 1) ++ (rest ++ js))))[j2]? = some S[j2] := by
        rw [List.getElem?_append_left (by simp; omega), List.getElem?_take_of_lt (by omega), List.getElem?_eq_getElem hj2S]
      have hc1 := cut_at hg1
      have hc0 := cut_at hg0
      have i1 : aindexAddr EE.T 29 (.slice (some ⟨bk, 0, none⟩) l.length (CAPX + kF.sz)) (.int .i64 ((j2 + 1 : Nat) : Int)) = some (.pointer (some ⟨bk, (j2 + 1) * kF.sz, none⟩)) := ix_row0 (TL rfl) (TL rfl) ⟨rfl, rfl, by decide⟩ (by omega)
      have i0 : aindexAddr EE.T 29 (.slice (some ⟨bk, 0, none⟩) l.length (CAPX + kF.sz)) (.int .i64 (j2 : Int)) = some (.pointer (some ⟨bk, j2 * kF.sz, none⟩)) := ix_row0 (TL rfl) (TL rfl) ⟨rfl, rfl, by decide⟩ (by omega)
      have hins : insAt S x (j2 + 1) = if x.1 < S[j2].1 then insAt S x j2 else j2 + 1 := by
        show (if x.1 < (S.getD j2 (0, 0)).1 then insAt S x j2 else j2 + 1) = _
        rw [List.getD_eq_getElem?_getD, List.getElem?_eq_getElem hj2S]; rfl
      have hvx : veq (.agg ⟨kF.enc x⟩) (.agg ⟨kF.enc x⟩) = true := veq_self rfl
      have hvy : veq (.agg ⟨kF.enc S[j2]⟩) (.agg ⟨kF.enc S[j2]⟩) = true := veq_self rfl
      repeat first | refine D1_nil0 ?_ | refine D2_nil ?_ | refine D_noG ?_ | refine D_pure ?_ | refine D_rd ?_ | refine D2_pure' ?_
      refine D1_pure (by first | exact wants0 | exact (wantsG rfl rfl (by simp only [n_put, *]; decide) (by simp only [at_put, at_none, n_put, reduceIte, Nat.reduceEqDiff, Nat.reduceLT, cond_true, cond_false, ne_eq, not_true_eq_false, not_false_eq_true, decide_true, decide_false, Bool.not_true, Bool.not_false, eq_self, Int.lt_irrefl, Int.le_refl, *]; first | done | rfl)).trans rfl) rfl rfl (fun _ _ => o_indexAddr (by simp only [aev_tmp, aev_const, aev_func, aev_global, at_put, at_none, n_put, reduceIte, Nat.reduceEqDiff, Nat.reduceLT, zq, *]; first | done | rfl) (by simp only [aev_tmp, aev_const, aev_func, aev_global, at_put, at_none, n_put, reduceIte, Nat.reduceEqDiff, Nat.reduceLT, zq, *]; first | done | rfl) i1) ?_
      refine D1_rd (by first | exact wants0 | exact (wantsG rfl rfl (by simp only [n_put, *]; decide) (by simp only [at_put, at_none, n_put, reduceIte, Nat.reduceEqDiff, Nat.reduceLT, cond_true, cond_false, ne_eq, not_true_eq_false, not_false_eq_true, decide_true, decide_false, Bool.not_true, Bool.not_false, eq_self, Int.lt_irrefl, Int.le_refl, *]; first | done | rfl)).trans rfl) rfl rfl (fun _ => o_ldA (by simp only [aev_tmp, aev_const, aev_func, aev_global, at_put, at_none, n_put, reduceIte, Nat.reduceEqDiff, Nat.reduceLT, zq, *]; first | done | rfl) (TL rfl) rfl (rd_cells (by simp (disch := omega) only [get_set_self, get_new_self, get_set_ne, get_new_ne, get_bump, next_set, next_new, Nat.lt_irrefl, reduceIte, next_kill, next_bump, *]; first | done | rfl)) hc1) (by first | exact veq_self rfl | assumption) ?_
      repeat first | refine D1_nil0 ?_ | refine D2_nil ?_ | refine D_noG ?_ | refine D_pure ?_ | refine D_rd ?_ | refine D2_pure' ?_
      rw [hsub]
      refine D1_pure (by first | exact wants0 | exact (wantsG rfl rfl (by simp only [n_put, *]; decide) (by simp only [at_put, at_none, n_put, reduceIte, Nat.reduceEqDiff, Nat.reduceLT, cond_true, cond_false, ne_eq, not_true_eq_false, not_false_eq_true, decide_true, decide_false, Bool.not_true, Bool.not_false, eq_self, Int.lt_irrefl, Int.le_refl, *]; first | done | rfl)).trans rfl) rfl rfl (fun _ _ => o_indexAddr (by simp only [aev_tmp, aev_const, aev_func, aev_global, at_put, at_none, n_put, reduceIte, Nat.reduceEqDiff, Nat.reduceLT, zq, *]; first | done | rfl) (by simp only [aev_tmp, aev_const, aev_func, aev_global, at_put, at_none, n_put, reduceIte, Nat.reduceEqDiff, Nat.reduceLT, zq, *]; first | done | rfl) i0) ?_
      refine D1_rd (by first | exact wants0 | exact (wantsG rfl rfl (by simp only [n_put, *]; decide) (by simp only [at_put, at_none, n_put, reduceIte, Nat.reduceEqDiff, Nat.reduceLT, cond_true, cond_false, ne_eq, not_true_eq_false, not_false_eq_true, decide_true, decide_false, Bool.not_true, Bool.not_false, eq_self, Int.lt_irrefl, Int.le_refl, *]; first | done | rfl)).trans rfl) rfl rfl (fun _ => o_ldA (by simp only [aev_tmp, aev_const, aev_func, aev_global, at_put, at_none, n_put, reduceIte, Nat.reduceEqDiff, Nat.reduceLT, zq, *]; first | done | rfl) (TL rfl) rfl (rd_cells (by simp (disch := omega) only [get_set_self, get_new_self, get_set_ne, get_new_ne, get_bump, next_set, next_new, Nat.lt_irrefl, reduceIte, next_kill, next_bump, *]; first | done | rfl)) hc0) (by first | exact veq_self rfl | assumption) ?_
      refine D1_call (by first | exact wants0 | exact (wantsG rfl rfl (by simp only [n_put, *]; decide) (by simp only [at_put, at_none, n_put, reduceIte, Nat.reduceEqDiff, Nat.reduceLT, cond_true, cond_false, ne_eq, not_true_eq_false, not_false_eq_true, decide_true, decide_false, Bool.not_true, Bool.not_false, eq_self, Int.lt_irrefl, Int.le_refl, *]; first | done | rfl)).trans rfl) rfl (by simp only [aev_tmp, aev_const, aev_func, aev_global, at_put, at_none, n_put, reduceIte, Nat.reduceEqDiff, Nat.reduceLT, zq, *]; first | done | rfl) (E_Y _) (by simp only [List.map, aev_tmp, aev_const, aev_func, aev_global, at_put, at_none, n_put, reduceIte, Nat.reduceEqDiff, Nat.reduceLT, zq, *]; first | done | rfl) ?_
      refine (flows1_spec x S[j2]).mono ?_
      rintro r g1 ⟨rfl, hkg⟩
      refine ⟨.nil, ?_⟩
      have hkg2 : Keep h2 g1 [] := (Keep.bump h2 17 []).trans hkg fun q hq => .inl hq
      refine D2_rd (by first | exact wants0 | exact (wantsG rfl rfl (by simp only [n_put, *]; decide) (by simp only [at_put, at_none, n_put, reduceIte, Nat.reduceEqDiff, Nat.reduceLT, cond_true, cond_false, ne_eq, not_true_eq_false, not_false_eq_true, decide_true, decide_false, Bool.not_true, Bool.not_false, eq_self, Int.lt_irrefl, Int.le_refl, *]; first | done | rfl)).trans rfl) rfl rfl (fun _ _ _ => o_bin (by simp only [aev_tmp, aev_const, aev_func, aev_global, at_put, at_none, n_put, reduceIte, Nat.reduceEqDiff, Nat.reduceLT, zq, *]; first | done | rfl) (by simp only [aev_tmp, aev_const, aev_func, aev_global, at_put, at_none, n_put, reduceIte, Nat.reduceEqDiff, Nat.reduceLT, zq, *]; first | done | rfl) b_lss) (by first | exact veq_self rfl | assumption) ?_
      by_cases hlt : x.1 < S[j2].1
      · have hcm : (cmpI x.1 S[j2].1 < 0) = True := by unfold cmpI; rw [if_pos hlt]; decide
        rw [if_pos hlt] at hins
        have hsw := swap_row (x := x) (rest := rest ++ js) hj2S
        have gb1 : g1.get bk = some (.cells (kF.fl (S.take (j2 + 1) ++ (x :: (S.drop (j2 + 1) ++ (rest ++ js))))) true) := (hkg2.2 bk hbl2 (by simp)).trans hrow
        have hp1 := put_row (K := kF) (x := S[j2]) (l := S.take (j2 + 1) ++ (x :: (S.drop (j2 + 1) ++ (rest ++ js)))) (i := j2 + 1) (by rw [hcl]; simp; omega)
        have hp2 := put_row (K := kF) (x := x) (l := (S.take (j2 + 1) ++ (x :: (S.drop (j2 + 1) ++ (rest ++ js)))).set (j2 + 1) S[j2]) (i := j2) (by rw [List.length_set, hcl]; simp; omega)
        rw [hsw] at hp2
        clear hfin hrow hkg hg1 hg0 hsw
        refine D2_rd wants0 rfl rfl (fun _ _ _ => o_pickT (by first | (simp only [aev_tmp, aev_const, at_put, at_none, n_put, reduceIte, Nat.reduceEqDiff, Nat.reduceLT, cond_true, cond_false, ne_eq, not_true_eq_false, not_false_eq_true, decide_true, decide_false, Bool.not_true, Bool.not_false, eq_self, Int.lt_irrefl, Int.le_refl, *]; done) | (simp only [aev_tmp, aev_const, at_put, at_none, n_put, reduceIte, Nat.reduceEqDiff, Nat.reduceLT, cond_true, cond_false, ne_eq, not_true_eq_false, not_false_eq_true, decide_true, decide_false, Bool.not_true, Bool.not_false, eq_self, Int.lt_irrefl, Int.le_refl, *]; rfl)) (by simp only [aev_tmp, aev_const, aev_func, aev_global, at_put, at_none, n_put, reduceIte, Nat.reduceEqDiff, Nat.reduceLT, zq, *]; first | done | rfl)) (by first | exact veq_self rfl | assumption) ?_
        repeat first | refine D1_nil0 ?_ | refine D2_nil ?_ | refine D_noG ?_ | refine D_pure ?_ | refine D_rd ?_ | refine D2_pure' ?_
        repeat first | refine G_seq ?_ | refine G_reg ?_ | refine N_seq ?_ | refine N_block ?_ | refine G_block ?_ | refine G_skip ?_ | refine G_cT ?_ | refine G_cF ?_ | refine G_ret ?_ | refine U_seq_ret ?_ | refine U_block_ret ?_ | refine U_nil ?_ | refine S_nil ?_ | refine S_auto ?_
        refine G_draw [] [4] (by kernel_rfl) ?_
        repeat first | refine D1_nil0 ?_ | refine D2_nil ?_ | refine D_pure ?_ | refine D_rd ?_ | refine D2_pure' ?_
        refine D1_lo wants0 rfl rfl (fun _ => o_bin (by simp only [aev_tmp, aev_const, aev_func, aev_global, at_put, at_none, n_put, reduceIte, Nat.reduceEqDiff, Nat.reduceLT, zq, *]; first | done | rfl) (by simp only [aev_tmp, aev_const, aev_func, aev_global, at_put, at_none, n_put, reduceIte, Nat.reduceEqDiff, Nat.reduceLT, zq, *]; first | done | rfl) (b_sub (by omega) (by omega))) (by first | exact veq_self rfl | assumption) ?_
        repeat first | refine D1_nil0 ?_ | refine D2_nil ?_ | refine D_pure ?_ | refine D_rd ?_ | refine D2_pure' ?_
        rw [hsub]
        refine D1_pure wants0 rfl rfl (fun _ _ => o_indexAddr (by simp only [aev_tmp, aev_const, aev_func, aev_global, at_put, at_none, n_put, reduceIte, Nat.reduceEqDiff, Nat.reduceLT, zq, *]; first | done | rfl) (by simp only [aev_tmp, aev_const, aev_func, aev_global, at_put, at_none, n_put, reduceIte, Nat.reduceEqDiff, Nat.reduceLT, zq, *]; first | done | rfl) i0) ?_
        refine D1_rd wants0 rfl rfl (fun _ => o_ldA (by simp only [aev_tmp, aev_const, aev_func, aev_global, at_put, at_none, n_put, reduceIte, Nat.reduceEqDiff, Nat.reduceLT, zq, *]; first | done | rfl) (TL rfl) rfl (rd_cells (by simp (disch := omega) only [get_set_self, get_new_self, get_set_ne, get_new_ne, get_bump, next_set, next_new, Nat.lt_irrefl, reduceIte, next_kill, next_bump, *]; first | done | rfl)) hc0) (by first | exact veq_self rfl | assumption) ?_
        repeat first | refine D1_nil0 ?_ | refine D2_nil ?_ | refine D_pure ?_ | refine D_rd ?_ | refine D2_pure' ?_
        refine D1_pure wants0 rfl rfl (fun _ _ => o_indexAddr (by simp only [aev_tmp, aev_const, aev_func, aev_global, at_put, at_none, n_put, reduceIte, Nat.reduceEqDiff, Nat.reduceLT, zq, *]; first | done | rfl) (by simp only [aev_tmp, aev_const, aev_func, aev_global, at_put, at_none, n_put, reduceIte, Nat.reduceEqDiff, Nat.reduceLT, zq, *]; first | done | rfl) i1) ?_
        refine D1_rd wants0 rfl rfl (fun _ => o_ldA (by simp only [aev_tmp, aev_const, aev_func, aev_global, at_put, at_none, n_put, reduceIte, Nat.reduceEqDiff, Nat.reduceLT, zq, *]; first | done | rfl) (TL rfl) rfl (rd_cells (by simp (disch := omega) only [get_set_self, get_new_self, get_set_ne, get_new_ne, get_bump, next_set, next_new, Nat.lt_irrefl, reduceIte, next_kill, next_bump, *]; first | done | rfl)) hc1) (by first | exact veq_self rfl | assumption) ?_
        refine D1_pure wants0 rfl rfl (fun _ _ => o_indexAddr (by simp only [aev_tmp, aev_const, aev_func, aev_global, at_put, at_none, n_put, reduceIte, Nat.reduceEqDiff, Nat.reduceLT, zq, *]; first | done | rfl) (by simp only [aev_tmp, aev_const, aev_func, aev_global, at_put, at_none, n_put, reduceIte, Nat.reduceEqDiff, Nat.reduceLT, zq, *]; first | done | rfl) i1) ?_
        refine D1_wr0 wants0 rfl (o_st (by simp only [aev_tmp, aev_const, aev_func, aev_global, at_put, at_none, n_put, reduceIte, Nat.reduceEqDiff, Nat.reduceLT, zq, *]; first | done | rfl) (by simp only [aev_tmp, aev_const, aev_func, aev_global, at_put, at_none, n_put, reduceIte, Nat.reduceEqDiff, Nat.reduceLT, zq, *]; first | done | rfl) (TL rfl) rfl (by simp (disch := omega) only [get_set_self, get_new_self, get_set_ne, get_new_ne, get_bump, next_set, next_new, Nat.lt_irrefl, reduceIte, next_kill, next_bump, *]; first | done | rfl) rfl hp1) (.cons (fun _ => o_bin (by simp only [aev_tmp, aev_const, aev_func, aev_global, at_put, at_none, n_put, reduceIte, Nat.reduceEqDiff, Nat.reduceLT, zq, *]; first | done | rfl) (by simp only [aev_tmp, aev_const, aev_func, aev_global, at_put, at_none, n_put, reduceIte, Nat.reduceEqDiff, Nat.reduceLT, zq, *]; first | done | rfl) (by rw [← hsub]; exact b_sub (by omega) (by omega))) .nil) ?_
        refine D2_pure wants0 rfl rfl (fun _ _ => o_indexAddr (by simp only [aev_tmp, aev_const, aev_func, aev_global, at_put, at_none, n_put, reduceIte, Nat.reduceEqDiff, Nat.reduceLT, zq, *]; first | done | rfl) (by simp only [aev_tmp, aev_const, aev_func, aev_global, at_put, at_none, n_put, reduceIte, Nat.reduceEqDiff, Nat.reduceLT, zq, *]; first | done | rfl) i0) ?_
        refine D2_wr wants0 rfl (o_st (by simp only [aev_tmp, aev_const, aev_func, aev_global, at_put, at_none, n_put, reduceIte, Nat.reduceEqDiff, Nat.reduceLT, zq, *]; first | done | rfl) (by simp only [aev_tmp, aev_const, aev_func, aev_global, at_put, at_none, n_put, reduceIte, Nat.reduceEqDiff, Nat.reduceLT, zq, *]; first | done | rfl) (TL rfl) rfl (by simp (disch := omega) only [get_set_self, get_new_self, get_set_ne, get_new_ne, get_bump, next_set, next_new, Nat.lt_irrefl, reduceIte, next_kill, next_bump, *]; first | done | rfl) rfl hp2) (.cons (fun _ => o_bin (by simp only [aev_tmp, aev_const, aev_func, aev_global, at_put, at_none, n_put, reduceIte, Nat.reduceEqDiff, Nat.reduceLT, zq, *]; first | done | rfl) (by simp only [aev_tmp, aev_const, aev_func, aev_global, at_put, at_none, n_put, reduceIte, Nat.reduceEqDiff, Nat.reduceLT, zq, *]; first | done | rfl) (by rw [← hsub]; exact b_sub (by omega) (by omega))) .nil) ?_
        repeat first | refine D1_nil0 ?_ | refine D2_nil ?_ | refine D_pure ?_ | refine D_rd ?_ | refine D2_pure' ?_
        repeat first | refine G_seq ?_ | refine G_reg ?_ | refine N_seq ?_ | refine N_block ?_ | refine G_block ?_ | refine G_skip ?_ | refine G_cT ?_ | refine G_cF ?_ | refine G_ret ?_ | refine U_seq_ret ?_ | refine U_block_ret ?_ | refine U_nil ?_ | refine S_nil ?_ | refine S_auto ?_
        refine N_nil ?_
        refine LQ_n j2 (by omega) ⟨by omega, by simp only [at_put, at_none, n_put, reduceIte, Nat.reduceEqDiff, Nat.reduceLT, zq, *]; first | done | rfl, by simp only [at_put, at_none, n_put, reduceIte, Nat.reduceEqDiff, Nat.reduceLT, zq, *]; first | done | rfl, by simp only [at_put, at_none, n_put, reduceIte, Nat.reduceEqDiff, Nat.reduceLT, zq, *]; first | done | rfl, by simp only [at_put, at_none, n_put, reduceIte, Nat.reduceEqDiff, Nat.reduceLT, zq, *]; first | done | rfl, by simp only [at_put, at_none, n_put, reduceIte, Nat.reduceEqDiff, Nat.reduceLT, zq, *]; first | done | rfl, by simp only [at_put, at_none, n_put, reduceIte, Nat.reduceEqDiff, Nat.reduceLT, zq, *]; first | done | rfl, by simp only [at_put, at_none, n_put, reduceIte, Nat.reduceEqDiff, Nat.reduceLT, zq, *]; first | done | rfl, by rw [hia, hins], by simp (disch := omega) only [get_set_self, get_new_self, get_set_ne, get_new_ne, get_bump, next_set, next_new, Nat.lt_irrefl, reduceIte, next_kill, next_bump, *]; first | done | rfl, ?_⟩
        refine ⟨by simp only [next_set, next_bump]; have := hkg2.1; have := hk2.1; omega, fun q hq hn => ?_⟩
        have hn' : q ≠ bk := by simpa using hn
        have h8 := hk2.2 q hq hn
        have h9 := hkg2.2 q (Nat.lt_of_lt_of_le hq hk2.1) (by simp)
        rw [← h8, ← h9]
        simp (disch := omega) only [get_set_self, get_new_self, get_set_ne, get_new_ne, get_bump, next_set, next_new, Nat.lt_irrefl, reduceIte, next_kill, next_bump, *]; first | done | rfl
      · have hcm : (cmpI x.1 S[j2].1 < 0) = False := by unfold cmpI; rw [if_neg hlt]; split <;> simp
        rw [if_neg hlt] at hins
        have hf := hfin g1 hkg2 (hia.trans hins)
        clear hfin hrow hkg hg1 hg0
        refine D2_rd wants0 rfl rfl (fun _ _ _ => o_pickT (by first | (simp only [aev_tmp, aev_const, at_put, at_none, n_put, reduceIte, Nat.reduceEqDiff, Nat.reduceLT, cond_true, cond_false, ne_eq, not_true_eq_false, not_false_eq_true, decide_true, decide_false, Bool.not_true, Bool.not_false, eq_self, Int.lt_irrefl, Int.le_refl, *]; done) | (simp only [aev_tmp, aev_const, at_put, at_none, n_put, reduceIte, Nat.reduceEqDiff, Nat.reduceLT, cond_true, cond_false, ne_eq, not_true_eq_false, not_false_eq_true, decide_true, decide_false, Bool.not_true, Bool.not_false, eq_self, Int.lt_irrefl, Int.le_refl, *]; rfl)) (by simp only [aev_tmp, aev_const, aev_func, aev_global, at_put, at_none, n_put, reduceIte, Nat.reduceEqDiff, Nat.reduceLT, zq, *]; first | done | rfl)) (by first | exact veq_self rfl | assumption) ?_
        repeat first | refine D1_nil0 ?_ | refine D2_nil ?_ | refine D_noG ?_ | refine D_pure ?_ | refine D_rd ?_ | refine D2_pure' ?_
        repeat first | refine G_seq ?_ | refine G_reg ?_ | refine N_seq ?_ | refine N_block ?_ | refine G_block ?_ | refine G_skip ?_ | refine G_cT ?_ | refine G_cF ?_ | refine G_ret ?_ | refine U_seq_ret ?_ | refine U_block_ret ?_ | refine U_nil ?_ | refine S_nil ?_ | refine S_auto ?_
        refine G_exit ?_
        repeat first | refine U_seq_exit ?_ | refine U_nil ?_ | refine LQ_exit ?_ | refine U_block_hit ?_
        repeat first | refine G_seq ?_ | refine G_reg ?_ | refine N_seq ?_ | refine N_block ?_ | refine G_block ?_ | refine G_skip ?_ | refine G_cT ?_ | refine G_cF ?_ | refine G_ret ?_ | refine U_seq_ret ?_ | refine U_block_ret ?_ | refine U_nil ?_ | refine S_nil ?_ | refine S_auto ?_
        refine N_nil ?_
        exact LQ_n (j - 1) (by omega) ⟨i + 1, by omega, by omega, by simp only [at_put, at_none, n_put, reduceIte, Nat.reduceEqDiff, Nat.reduceLT, zq, *]; first | done | rfl, by simp only [at_put, at_none, n_put, reduceIte, Nat.reduceEqDiff, Nat.reduceLT, zq, *]; first | done | rfl, by simp only [at_put, at_none, n_put, reduceIte, Nat.reduceEqDiff, Nat.reduceLT, zq, *]; first | done | rfl, by simp only [at_put, at_none, n_put, reduceIte, Nat.reduceEqDiff, Nat.reduceLT, zq, *]; first | done | rfl, by simp only [at_put, at_none, n_put, reduceIte, Nat.reduceEqDiff, Nat.reduceLT, zq, *]; first | done | rfl, by rw [Int.natCast_add]; simp only [at_put, at_none, n_put, reduceIte, Nat.reduceEqDiff, Nat.reduceLT, zq, *]; first | done | rfl, hf.1, hf.2⟩
  · have hil' : ¬ (i : Int) < (l.length : Int) := by omega
    have hfin : sortF (l.take i) ++ (l.drop i ++ js) = sortF l ++ js := by
      rw [List.take_of_length_le (by omega), List.drop_of_length_le (by omega)]; rfl
    rw [hfin] at hrow
    repeat first | refine G_seq ?_ | refine G_reg ?_ | refine N_seq ?_ | refine N_block ?_ | refine G_block ?_ | refine G_skip ?_ | refine G_cT ?_ | refine G_cF ?_ | refine G_ret ?_ | refine U_seq_ret ?_ | refine U_block_ret ?_ | refine U_nil ?_ | refine S_nil ?_ | refine S_auto ?_
    refine G_exit ?_
    repeat first | refine U_seq_exit ?_ | refine U_nil ?_ | refine LQ_exit ?_ | refine U_block_hit ?_
    refine N_nil ?_
    exact FQ_in (.inl rfl) rfl ⟨rfl, hrow, hk⟩
end
end Go.Proofs.Yteffhomollmpdaa.AM.SX

/- Robin: the sort, the clone, the index. -/
namespace Go.Proofs.Yteffhomollmpdaa.AM.SX
open Go
set_option linter.unusedVariables false
set_option linter.unusedSimpArgs false
set_option maxRecDepth 100000
set_option maxHeartbeats 4000000
attribute [local irreducible] astep0 aev awants abin abuild
section
variable {n : Nat} {h : AHeap}
theorem ins0_spec {v f : Value} (hn : 1 ≤ n) (k : Nat) (hk : k < 1000000) : C EE (n + 1) 34 [v, .int .i64 (k : Int), .int .i64 (k : Int), f] h fun r h' => r = .tuple #[] ∧ h' = h := by
  refine C_in (E_X _) F_insertion rfl rfl rfl ?_
  intro a hna hat
  have e0 := hat 0 _ rfl
  have e1 := hat 1 _ rfl
  have e2 := hat 2 _ rfl
  have e3 := hat 3 _ rfl
  replace hna : a.n = 53 := hna
  clear hat
  repeat first | refine G_seq ?_ | refine G_reg ?_ | refine N_seq ?_ | refine N_block ?_ | refine G_block ?_ | refine G_skip ?_ | refine G_cT ?_ | refine G_cF ?_ | refine G_ret ?_ | refine U_seq_ret ?_ | refine U_block_ret ?_ | refine U_nil ?_ | refine S_nil ?_ | refine S_auto ?_
  refine G_loop (fun j a h' => h' = h ∧ a.n = 53 ∧ a.at 2 = .int .i64 (k : Int) ∧ a.at 8 = .int .i64 ((k : Int) + 1)) 0 (by omega) ⟨rfl, by simp only [at_put, at_none, n_put, reduceIte, Nat.reduceEqDiff, Nat.reduceLT, zq, *]; first | done | rfl, by simp only [at_put, at_none, n_put, reduceIte, Nat.reduceEqDiff, Nat.reduceLT, zq, *]; first | done | rfl, by simp only [at_put, at_none, n_put, reduceIte, Nat.reduceEqDiff, Nat.reduceLT, zq, *]; first | done | rfl⟩ ?_
  clear e0 e1 e2 e3 hna a
  rintro j a h' ⟨rfl, hna, e2, e8⟩
  have c1 : ((k : Int) + 1 < (k : Int)) = False := eq_false (by omega)
  repeat first | refine G_seq ?_ | refine G_reg ?_ | refine N_seq ?_ | refine N_block ?_ | refine G_block ?_ | refine G_skip ?_ | refine G_cT ?_ | refine G_cF ?_ | refine G_ret ?_ | refine U_seq_ret ?_ | refine U_block_ret ?_ | refine U_nil ?_ | refine S_nil ?_ | refine S_auto ?_
  refine G_exit ?_
  repeat first | refine U_seq_exit ?_ | refine U_nil ?_ | refine LQ_exit ?_ | refine U_block_hit ?_
  refine N_nil ?_
  exact FQ_in (.inl rfl) rfl ⟨rfl, rfl⟩
theorem stable0_spec {v f : Value} (hn : 3 ≤ n) : C EE (n + 1) 32 [v, .int .i64 0, f] h fun r h' => r = .tuple #[] ∧ h' = h := by
  refine C_in (E_X _) F_stable rfl rfl rfl ?_
  intro a hna hat
  have e0 := hat 0 _ rfl
  have e1 := hat 1 _ rfl
  have e2 := hat 2 _ rfl
  replace hna : a.n = 63 := hna
  clear hat
  obtain ⟨n', rfl⟩ : ∃ n', n = n' + 1 := ⟨n - 1, by omega⟩
  repeat first | refine G_seq ?_ | refine G_reg ?_ | refine N_seq ?_ | refine N_block ?_ | refine G_block ?_ | refine G_skip ?_ | refine G_cT ?_ | refine G_cF ?_ | refine G_ret ?_ | refine U_seq_ret ?_ | refine U_block_ret ?_ | refine U_nil ?_ | refine S_nil ?_ | refine S_auto ?_
  refine G_loop (fun j a h' => h' = h ∧ a.n = 63 ∧ a.at 0 = v ∧ a.at 1 = .int .i64 0 ∧ a.at 2 = f ∧ a.at 6 = .int .i64 20 ∧ a.at 7 = .int .i64 0 ∧ a.at 8 = .int .i64 20) 0 (by omega) ⟨rfl, by simp only [at_put, at_none, n_put, reduceIte, Nat.reduceEqDiff, Nat.reduceLT, zq, *]; first | done | rfl, by simp only [at_put, at_none, n_put, reduceIte, Nat.reduceEqDiff, Nat.reduceLT, zq, *]; first | done | rfl, by simp only [at_put, at_none, n_put, reduceIte, Nat.reduceEqDiff, Nat.reduceLT, zq, *]; first | done | rfl, by simp only [at_put, at_none, n_put, reduceIte, Nat.reduceEqDiff, Nat.reduceLT, zq, *]; first | done | rfl, by simp only [at_put, at_none, n_put, reduceIte, Nat.reduceEqDiff, Nat.reduceLT, zq, *]; first | done | rfl, by simp only [at_put, at_none, n_put, reduceIte, Nat.reduceEqDiff, Nat.reduceLT, zq, *]; first | done | rfl, by simp only [at_put, at_none, n_put, reduceIte, Nat.reduceEqDiff, Nat.reduceLT, zq, *]; first | done | rfl⟩ ?_
  clear e0 e1 e2 hna a
  rintro j a h' ⟨rfl, hna, e0, e1, e2, e6, e7, e8⟩
  have c1 : ((20 : Int) ≤ 0) = False := by simp
  have c2 : ((20 : Int) < 0) = False := by simp
  repeat first | refine G_seq ?_ | refine G_reg ?_ | refine N_seq ?_ | refine N_block ?_ | refine G_block ?_ | refine G_skip ?_ | refine G_cT ?_ | refine G_cF ?_ | refine G_ret ?_ | refine U_seq_ret ?_ | refine U_block_ret ?_ | refine U_nil ?_ | refine S_nil ?_ | refine S_auto ?_
  refine G_exit ?_
  repeat first | refine U_seq_exit ?_ | refine U_nil ?_ | refine LQ_exit ?_ | refine U_block_hit ?_
  repeat first | refine G_seq ?_ | refine G_reg ?_ | refine N_seq ?_ | refine N_block ?_ | refine G_block ?_ | refine G_skip ?_ | refine G_cT ?_ | refine G_cF ?_ | refine G_ret ?_ | refine U_seq_ret ?_ | refine U_block_ret ?_ | refine U_nil ?_ | refine S_nil ?_ | refine S_auto ?_
  refine S_call wants0 (by simp only [aev_tmp, aev_const, aev_func, aev_global, at_put, at_none, n_put, reduceIte, Nat.reduceEqDiff, Nat.reduceLT, zq, *]; first | done | rfl) (E_Y _) (by simp only [List.map, aev_tmp, aev_const, aev_func, aev_global, at_put, at_none, n_put, reduceIte, Nat.reduceEqDiff, Nat.reduceLT, zq, *]; first | done | rfl) ?_
  refine (ins0_spec (n := n') (by omega) 0 (by omega)).mono ?_
  rintro r h2 ⟨rfl, rfl⟩
  repeat first | refine G_seq ?_ | refine G_reg ?_ | refine N_seq ?_ | refine N_block ?_ | refine G_block ?_ | refine G_skip ?_ | refine G_cT ?_ | refine G_cF ?_ | refine G_ret ?_ | refine U_seq_ret ?_ | refine U_block_ret ?_ | refine U_nil ?_ | refine S_nil ?_ | refine S_auto ?_
  refine G_loop (fun j a h' => h' = h2 ∧ a.n = 63 ∧ a.at 1 = .int .i64 0 ∧ a.at 6 = .int .i64 20) 0 (by omega) ⟨rfl, by simp only [at_put, at_none, n_put, reduceIte, Nat.reduceEqDiff, Nat.reduceLT, zq, *]; first | done | rfl, by simp only [at_put, at_none, n_put, reduceIte, Nat.reduceEqDiff, Nat.reduceLT, zq, *]; first | done | rfl, by simp only [at_put, at_none, n_put, reduceIte, Nat.reduceEqDiff, Nat.reduceLT, zq, *]; first | done | rfl⟩ ?_
  clear e0 e1 e2 e6 e7 e8 hna a
  rintro j a h' ⟨rfl, hna, e1, e6⟩
  repeat first | refine G_seq ?_ | refine G_reg ?_ | refine N_seq ?_ | refine N_block ?_ | refine G_block ?_ | refine G_skip ?_ | refine G_cT ?_ | refine G_cF ?_ | refine G_ret ?_ | refine U_seq_ret ?_ | refine U_block_ret ?_ | refine U_nil ?_ | refine S_nil ?_ | refine S_auto ?_
  refine G_exit ?_
  repeat first | refine U_seq_exit ?_ | refine U_nil ?_ | refine LQ_exit ?_ | refine U_block_hit ?_
  refine N_nil ?_
  exact FQ_in (.inl rfl) rfl ⟨rfl, rfl⟩
theorem stable_spec {bk : Nat} {l js : List Fl} (hb : h.get bk = some (.cells (kF.fl (l ++ js)) true)) (hbl : bk < h.next) (hn : 40 ≤ n) (hl : l.length ≤ 20) : C EE (n + 1) 32 [.slice (some ⟨bk, 0, none⟩) l.length (CAPX + kF.sz), .int .i64 (l.length : Int), .func (.func 24) #[] #[]] h fun r h' => r = .tuple #[] ∧ h'.get bk = some (.cells (kF.fl (sortF l ++ js)) true) ∧ Keep h h' [bk] := by
  refine C_in (E_X _) F_stable rfl rfl rfl ?_
  intro a hna hat
  have e0 := hat 0 _ rfl
  have e1 := hat 1 _ rfl
  have e2 := hat 2 _ rfl
  replace hna : a.n = 63 := hna
  clear hat
  obtain ⟨n', rfl⟩ : ∃ n', n = n' + 1 := ⟨n - 1, by omega⟩
  repeat first | refine G_seq ?_ | refine G_reg ?_ | refine N_seq ?_ | refine N_block ?_ | refine G_block ?_ | refine G_skip ?_ | refine G_cT ?_ | refine G_cF ?_ | refine G_ret ?_ | refine U_seq_ret ?_ | refine U_block_ret ?_ | refine U_nil ?_ | refine S_nil ?_ | refine S_auto ?_
  refine G_loop (fun j a h' => a.n = 63 ∧ a.at 0 = .slice (some ⟨bk, 0, none⟩) l.length (CAPX + kF.sz) ∧ a.at 1 = .int .i64 (l.length : Int) ∧ a.at 2 = .func (.func 24) #[] #[] ∧ a.at 6 = .int .i64 20 ∧ ((j = 1 ∧ a.at 7 = .int .i64 0 ∧ a.at 8 = .int .i64 20 ∧ h' = h) ∨ (j = 0 ∧ l.length = 20 ∧ a.at 7 = .int .i64 20 ∧ a.at 8 = .int .i64 40 ∧ h'.get bk = some (.cells (kF.fl (sortF l ++ js)) true) ∧ Keep h h' [bk]))) 1 (by omega) ⟨by simp only [at_put, at_none, n_put, reduceIte, Nat.reduceEqDiff, Nat.reduceLT, zq, *]; first | done | rfl, by simp only [at_put, at_none, n_put, reduceIte, Nat.reduceEqDiff, Nat.reduceLT, zq, *]; first | done | rfl, by simp only [at_put, at_none, n_put, reduceIte, Nat.reduceEqDiff, Nat.reduceLT, zq, *]; first | done | rfl, by simp only [at_put, at_none, n_put, reduceIte, Nat.reduceEqDiff, Nat.reduceLT, zq, *]; first | done | rfl, by simp only [at_put, at_none, n_put, reduceIte, Nat.reduceEqDiff, Nat.reduceLT, zq, *]; first | done | rfl, .inl ⟨rfl, by simp only [at_put, at_none, n_put, reduceIte, Nat.reduceEqDiff, Nat.reduceLT, zq, *]; first | done | rfl, by simp only [at_put, at_none, n_put, reduceIte, Nat.reduceEqDiff, Nat.reduceLT, zq, *]; first | done | rfl, rfl⟩⟩ ?_
  clear e0 e1 e2 hna a
  have tail : ∀ (a : AAct) (h2 : AHeap), a.n = 63 → a.at 1 = .int .i64 (l.length : Int) → a.at 6 = .int .i64 20 → h2.get bk = some (.cells (kF.fl (sortF l ++ js)) true) → Keep h h2 [bk] → FQ EE [] (fun r h' => r = .tuple #[] ∧ h'.get bk = some (.cells (kF.fl (sortF l ++ js)) true) ∧ Keep h h' [bk]) .normal a h2 := fun a h2 _ _ _ g1 g2 => FQ_in (.inl rfl) rfl ⟨rfl, g1, g2⟩
  have c2 : ((20 : Int) < (l.length : Int)) = False := eq_false (by omega)
  rintro j a h' ⟨hna, e0, e1, e2, e6, ⟨rfl, e7, e8, rfl⟩ | ⟨rfl, hL, e7, e8, hrow, hk⟩⟩
  · by_cases hL : l.length = 20
    · have c1 : ((20 : Int) ≤ (l.length : Int)) = True := eq_true (by omega)
      have hsp := ins_spec (n := n') hb hbl (by omega) (by omega)
      rw [show ((l.length : Nat) : Int) = 20 by omega] at hsp
      have hLw : ¬ l.length ≠ 20 := fun h => h hL
      clear hL
      repeat first | refine G_seq ?_ | refine G_reg ?_ | refine N_seq ?_ | refine N_block ?_ | refine G_block ?_ | refine G_skip ?_ | refine G_cT ?_ | refine G_cF ?_ | refine G_ret ?_ | refine U_seq_ret ?_ | refine U_block_ret ?_ | refine U_nil ?_ | refine S_nil ?_ | refine S_auto ?_
      refine S_call wants0 (by simp only [aev_tmp, aev_const, aev_func, aev_global, at_put, at_none, n_put, reduceIte, Nat.reduceEqDiff, Nat.reduceLT, zq, *]; first | done | rfl) (E_Y _) (by simp only [List.map, aev_tmp, aev_const, aev_func, aev_global, at_put, at_none, n_put, reduceIte, Nat.reduceEqDiff, Nat.reduceLT, zq, *]; first | done | rfl) ?_
      refine hsp.mono ?_
      rintro r h2 ⟨rfl, hrow, hk⟩
      clear hsp
      repeat first | refine G_seq ?_ | refine G_reg ?_ | refine N_seq ?_ | refine N_block ?_ | refine G_block ?_ | refine G_skip ?_ | refine G_cT ?_ | refine G_cF ?_ | refine G_ret ?_ | refine U_seq_ret ?_ | refine U_block_ret ?_ | refine U_nil ?_ | refine S_nil ?_ | refine S_auto ?_
      refine N_nil ?_
      exact LQ_n 0 (by omega) ⟨by simp only [at_put, at_none, n_put, reduceIte, Nat.reduceEqDiff, Nat.reduceLT, zq, *]; first | done | rfl, by simp only [at_put, at_none, n_put, reduceIte, Nat.reduceEqDiff, Nat.reduceLT, zq, *]; first | done | rfl, by simp only [at_put, at_none, n_put, reduceIte, Nat.reduceEqDiff, Nat.reduceLT, zq, *]; first | done | rfl, by simp only [at_put, at_none, n_put, reduceIte, Nat.reduceEqDiff, Nat.reduceLT, zq, *]; first | done | rfl, by simp only [at_put, at_none, n_put, reduceIte, Nat.reduceEqDiff, Nat.reduceLT, zq, *]; first | done | rfl, .inr ⟨rfl, Decidable.not_not.1 hLw, by simp only [at_put, at_none, n_put, reduceIte, Nat.reduceEqDiff, Nat.reduceLT, zq, *]; first | done | rfl, by simp only [at_put, at_none, n_put, reduceIte, Nat.reduceEqDiff, Nat.reduceLT, zq, *]; first | done | rfl, hrow, hk⟩⟩
    · have c1 : ((20 : Int) ≤ (l.length : Int)) = False := eq_false (by omega)
      repeat first | refine G_seq ?_ | refine G_reg ?_ | refine N_seq ?_ | refine N_block ?_ | refine G_block ?_ | refine G_skip ?_ | refine G_cT ?_ | refine G_cF ?_ | refine G_ret ?_ | refine U_seq_ret ?_ | refine U_block_ret ?_ | refine U_nil ?_ | refine S_nil ?_ | refine S_auto ?_
      refine G_exit ?_
      repeat first | refine U_seq_exit ?_ | refine U_nil ?_ | refine LQ_exit ?_ | refine U_block_hit ?_
      repeat first | refine G_seq ?_ | refine G_reg ?_ | refine N_seq ?_ | refine N_block ?_ | refine G_block ?_ | refine G_skip ?_ | refine G_cT ?_ | refine G_cF ?_ | refine G_ret ?_ | refine U_seq_ret ?_ | refine U_block_ret ?_ | refine U_nil ?_ | refine S_nil ?_ | refine S_auto ?_
      refine S_call wants0 (by simp only [aev_tmp, aev_const, aev_func, aev_global, at_put, at_none, n_put, reduceIte, Nat.reduceEqDiff, Nat.reduceLT, zq, *]; first | done | rfl) (E_Y _) (by simp only [List.map, aev_tmp, aev_const, aev_func, aev_global, at_put, at_none, n_put, reduceIte, Nat.reduceEqDiff, Nat.reduceLT, zq, *]; first | done | rfl) ?_
      refine (ins_spec (n := n') hb hbl (by omega) (by omega)).mono ?_
      rintro r h2 ⟨rfl, hrow, hk⟩
      repeat first | refine G_seq ?_ | refine G_reg ?_ | refine N_seq ?_ | refine N_block ?_ | refine G_block ?_ | refine G_skip ?_ | refine G_cT ?_ | refine G_cF ?_ | refine G_ret ?_ | refine U_seq_ret ?_ | refine U_block_ret ?_ | refine U_nil ?_ | refine S_nil ?_ | refine S_auto ?_
      refine G_loop (fun j a h' => h' = h2 ∧ a.n = 63 ∧ a.at 1 = .int .i64 (l.length : Int) ∧ a.at 6 = .int .i64 20) 0 (by omega) ⟨rfl, by simp only [at_put, at_none, n_put, reduceIte, Nat.reduceEqDiff, Nat.reduceLT, zq, *]; first | done | rfl, by simp only [at_put, at_none, n_put, reduceIte, Nat.reduceEqDiff, Nat.reduceLT, zq, *]; first | done | rfl, by simp only [at_put, at_none, n_put, reduceIte, Nat.reduceEqDiff, Nat.reduceLT, zq, *]; first | done | rfl⟩ ?_
      clear e0 e1 e2 e6 e7 e8 hna a
      rintro j a h3 ⟨rfl, hna, e1, e6⟩
      repeat first | refine G_seq ?_ | refine G_reg ?_ | refine N_seq ?_ | refine N_block ?_ | refine G_block ?_ | refine G_skip ?_ | refine G_cT ?_ | refine G_cF ?_ | refine G_ret ?_ | refine U_seq_ret ?_ | refine U_block_ret ?_ | refine U_nil ?_ | refine S_nil ?_ | refine S_auto ?_
      refine G_exit ?_
      repeat first | refine U_seq_exit ?_ | refine U_nil ?_ | refine LQ_exit ?_ | refine U_block_hit ?_
      refine N_nil ?_
      exact FQ_in (.inl rfl) rfl ⟨rfl, hrow, hk⟩
  · have c1 : ((40 : Int) ≤ (l.length : Int)) = False := eq_false (by omega)
    have hsp := fun h' => ins0_spec (h := h') (v := .slice (some ⟨bk, 0, none⟩) l.length (CAPX + kF.sz)) (f := .func (.func 24) #[] #[]) (n := n') (by omega) l.length (by omega)
    have e7' : a.at 7 = .int .i64 (l.length : Int) := by rw [e7, hL]; rfl
    clear hL e7
    repeat first | refine G_seq ?_ | refine G_reg ?_ | refine N_seq ?_ | refine N_block ?_ | refine G_block ?_ | refine G_skip ?_ | refine G_cT ?_ | refine G_cF ?_ | refine G_ret ?_ | refine U_seq_ret ?_ | refine U_block_ret ?_ | refine U_nil ?_ | refine S_nil ?_ | refine S_auto ?_
    refine G_exit ?_
    repeat first | refine U_seq_exit ?_ | refine U_nil ?_ | refine LQ_exit ?_ | refine U_block_hit ?_
    repeat first | refine G_seq ?_ | refine G_reg ?_ | refine N_seq ?_ | refine N_block ?_ | refine G_block ?_ | refine G_skip ?_ | refine G_cT ?_ | refine G_cF ?_ | refine G_ret ?_ | refine U_seq_ret ?_ | refine U_block_ret ?_ | refine U_nil ?_ | refine S_nil ?_ | refine S_auto ?_
    refine S_call wants0 (by simp only [aev_tmp, aev_const, aev_func, aev_global, at_put, at_none, n_put, reduceIte, Nat.reduceEqDiff, Nat.reduceLT, zq, *]; first | done | rfl) (E_Y _) (by simp only [List.map, aev_tmp, aev_const, aev_func, aev_global, at_put, at_none, n_put, reduceIte, Nat.reduceEqDiff, Nat.reduceLT, zq, *]; first | done | rfl) ?_
    refine (hsp h').mono ?_
    rintro r h2 ⟨rfl, rfl⟩
    clear hsp
    repeat first | refine G_seq ?_ | refine G_reg ?_ | refine N_seq ?_ | refine N_block ?_ | refine G_block ?_ | refine G_skip ?_ | refine G_cT ?_ | refine G_cF ?_ | refine G_ret ?_ | refine U_seq_ret ?_ | refine U_block_ret ?_ | refine U_nil ?_ | refine S_nil ?_ | refine S_auto ?_
    refine G_loop (fun j a h' => h' = h2 ∧ a.n = 63 ∧ a.at 1 = .int .i64 (l.length : Int) ∧ a.at 6 = .int .i64 20) 0 (by omega) ⟨rfl, by simp only [at_put, at_none, n_put, reduceIte, Nat.reduceEqDiff, Nat.reduceLT, zq, *]; first | done | rfl, by simp only [at_put, at_none, n_put, reduceIte, Nat.reduceEqDiff, Nat.reduceLT, zq, *]; first | done | rfl, by simp only [at_put, at_none, n_put, reduceIte, Nat.reduceEqDiff, Nat.reduceLT, zq, *]; first | done | rfl⟩ ?_
    clear e0 e1 e2 e6 e7' e8 hna a
    rintro j a h3 ⟨rfl, hna, e1, e6⟩
    repeat first | refine G_seq ?_ | refine G_reg ?_ | refine N_seq ?_ | refine N_block ?_ | refine G_block ?_ | refine G_skip ?_ | refine G_cT ?_ | refine G_cF ?_ | refine G_ret ?_ | refine U_seq_ret ?_ | refine U_block_ret ?_ | refine U_nil ?_ | refine S_nil ?_ | refine S_auto ?_
    refine G_exit ?_
    repeat first | refine U_seq_exit ?_ | refine U_nil ?_ | refine LQ_exit ?_ | refine U_block_hit ?_
    refine N_nil ?_
    exact FQ_in (.inl rfl) rfl ⟨rfl, hrow, hk⟩
theorem sort0_spec {A : Option Addr} {c : Nat} {f : Value} (hn : 4 ≤ n) : C EE (n + 1) 23 [.slice A 0 c, f] h fun r h' => r = .tuple #[] ∧ h' = h := by
  refine C_in (E_X _) F_sort rfl rfl rfl ?_
  intro a hna hat
  have e0 := hat 0 _ rfl
  have e1 := hat 1 _ rfl
  replace hna : a.n = 9 := hna
  clear hat
  obtain ⟨n', rfl⟩ : ∃ n', n = n' + 1 := ⟨n - 1, by omega⟩
  repeat first | refine G_seq ?_ | refine G_reg ?_ | refine N_seq ?_ | refine N_block ?_ | refine G_block ?_ | refine G_skip ?_ | refine G_cT ?_ | refine G_cF ?_ | refine G_ret ?_ | refine U_seq_ret ?_ | refine U_block_ret ?_ | refine U_nil ?_ | refine S_nil ?_ | refine S_auto ?_
  refine S_step wants0 (o_builtin (by simp only [List.map, aev_tmp, aev_const, aev_func, aev_global, at_put, at_none, n_put, reduceIte, Nat.reduceEqDiff, Nat.reduceLT, zq, *]; first | done | rfl) (lenS (TL rfl))) ?_
  repeat first | refine G_seq ?_ | refine G_reg ?_ | refine N_seq ?_ | refine N_block ?_ | refine G_block ?_ | refine G_skip ?_ | refine G_cT ?_ | refine G_cF ?_ | refine G_ret ?_ | refine U_seq_ret ?_ | refine U_block_ret ?_ | refine U_nil ?_ | refine S_nil ?_ | refine S_auto ?_
  refine S_call wants0 (by simp only [aev_tmp, aev_const, aev_func, aev_global, at_put, at_none, n_put, reduceIte, Nat.reduceEqDiff, Nat.reduceLT, zq, *]; first | done | rfl) (E_Y _) (by simp only [List.map, aev_tmp, aev_const, aev_func, aev_global, at_put, at_none, n_put, reduceIte, Nat.reduceEqDiff, Nat.reduceLT, zq, *]; first | done | rfl) ?_
  refine (stable0_spec (n := n') (by omega)).mono ?_
  rintro r h2 ⟨rfl, rfl⟩
  repeat first | refine G_seq ?_ | refine G_reg ?_ | refine N_seq ?_ | refine N_block ?_ | refine G_block ?_ | refine G_skip ?_ | refine G_cT ?_ | refine G_cF ?_ | refine G_ret ?_ | refine U_seq_ret ?_ | refine U_block_ret ?_ | refine U_nil ?_ | refine S_nil ?_ | refine S_auto ?_
  refine N_nil ?_
  exact FQ_in (.inl rfl) rfl ⟨rfl, rfl⟩
theorem sort_spec {bk : Nat} {l js : List Fl} (hb : h.get bk = some (.cells (kF.fl (l ++ js)) true)) (hbl : bk < h.next) (hn : 41 ≤ n) (hl : l.length ≤ 20) : C EE (n + 1) 23 [.slice (some ⟨bk, 0, none⟩) l.length (CAPX + kF.sz), .func (.func 24) #[] #[]] h fun r h' => r = .tuple #[] ∧ h'.get bk = some (.cells (kF.fl (sortF l ++ js)) true) ∧ Keep h h' [bk] := by
  refine C_in (E_X _) F_sort rfl rfl rfl ?_
  intro a hna hat
  have e0 := hat 0 _ rfl
  have e1 := hat 1 _ rfl
  replace hna : a.n = 9 := hna
  clear hat
  obtain ⟨n', rfl⟩ : ∃ n', n = n' + 1 := ⟨n - 1, by omega⟩
  repeat first | refine G_seq ?_ | refine G_reg ?_ | refine N_seq ?_ | refine N_block ?_ | refine G_block ?_ | refine G_skip ?_ | refine G_cT ?_ | refine G_cF ?_ | refine G_ret ?_ | refine U_seq_ret ?_ | refine U_block_ret ?_ | refine U_nil ?_ | refine S_nil ?_ | refine S_auto ?_
  refine S_step wants0 (o_builtin (by simp only [List.map, aev_tmp, aev_const, aev_func, aev_global, at_put, at_none, n_put, reduceIte, Nat.reduceEqDiff, Nat.reduceLT, zq, *]; first | done | rfl) (lenS (TL rfl))) ?_
  repeat first | refine G_seq ?_ | refine G_reg ?_ | refine N_seq ?_ | refine N_block ?_ | refine G_block ?_ | refine G_skip ?_ | refine G_cT ?_ | refine G_cF ?_ | refine G_ret ?_ | refine U_seq_ret ?_ | refine U_block_ret ?_ | refine U_nil ?_ | refine S_nil ?_ | refine S_auto ?_
  refine S_call wants0 (by simp only [aev_tmp, aev_const, aev_func, aev_global, at_put, at_none, n_put, reduceIte, Nat.reduceEqDiff, Nat.reduceLT, zq, *]; first | done | rfl) (E_Y _) (by simp only [List.map, aev_tmp, aev_const, aev_func, aev_global, at_put, at_none, n_put, reduceIte, Nat.reduceEqDiff, Nat.reduceLT, zq, *]; first | done | rfl) ?_
  refine (stable_spec (n := n') hb hbl (by omega) hl).mono ?_
  rintro r h2 ⟨rfl, hrow, hk⟩
  repeat first | refine G_seq ?_ | refine G_reg ?_ | refine N_seq ?_ | refine N_block ?_ | refine G_block ?_ | refine G_skip ?_ | refine G_cT ?_ | refine G_cF ?_ | refine G_ret ?_ | refine U_seq_ret ?_ | refine U_block_ret ?_ | refine U_nil ?_ | refine S_nil ?_ | refine S_auto ?_
  refine N_nil ?_
  exact FQ_in (.inl rfl) rfl ⟨rfl, hrow, hk⟩
theorem src_row {l : List Fl} {v : Value} {O : List Nat} (hv : RowAt kF h l v O) : srcCells h kF.sz v = some (l.length, kF.fl l) := by
  rcases hv with ⟨rfl, rfl, _⟩ | ⟨b, rfl, hb, _, _⟩ | ⟨b, js, rfl, hb, _⟩
  · rfl
  · have := kF.fl_cuts l []
    rw [List.append_nil] at this
    simp only [srcCells, rd_cells hb, this]
  · simp only [srcCells, rd_cells hb, kF.fl_cuts l js]
theorem b_slNil {A : Addr} {m c : Nat} : abin EE.T h .eql 29 (.slice (some A) m c) (.slice none 0 0) = some (.bool false) := by
  have hT : EE.T.get 29 = _ := TL rfl
  rcases A with ⟨i, o, w⟩
  cases w <;> simp [abin, aeq, hT]
theorem b_slNil0 : abin EE.T h .eql 29 (.slice none 0 0) (.slice none 0 0) = some (.bool true) := by
  have hT : EE.T.get 29 = _ := TL rfl
  simp [abin, aeq, hT]
theorem clone_spec {l : List Fl} {v : Value} {O : List Nat} (hv : RowAt kF h l v O) (hO : ∀ i ∈ O, i < h.next) (hl : l.length < 1000000) : C EE (n + 1) 22 [v] h fun r h' => Keep h h' [] ∧ ((l = [] ∧ ∃ A c O', r = .slice A 0 c ∧ RowAt kF h' [] r O' ∧ ∀ i ∈ O', i < h'.next) ∨ ∃ b js, h.next ≤ b ∧ b < h'.next ∧ r = .slice (some ⟨b, 0, none⟩) l.length (CAPX + kF.sz) ∧ h'.get b = some (.cells (kF.fl (l ++ js)) true)) := by
  have hsrc0 := src_row hv
  obtain ⟨A, c, rfl⟩ := hv.len
  refine C_in (E_X _) F_clone rfl rfl rfl ?_
  intro a hna hat
  have e0 := hat 0 _ rfl
  replace hna : a.n = 8 := hna
  clear hat
  repeat first | refine G_seq ?_ | refine G_reg ?_ | refine N_seq ?_ | refine N_block ?_ | refine G_block ?_ | refine G_skip ?_ | refine G_cT ?_ | refine G_cF ?_ | refine G_ret ?_ | refine U_seq_ret ?_ | refine U_block_ret ?_ | refine U_nil ?_ | refine S_nil ?_ | refine S_auto ?_
  cases A with
  | none =>
    obtain ⟨rfl, rfl⟩ : l = [] ∧ c = 0 := by
      rcases hv with ⟨rfl, h1, _⟩ | ⟨b, h1, _⟩ | ⟨b, js, h1, _⟩
      · exact ⟨rfl, by cases h1; rfl⟩
      · cases h1
      · cases h1
    refine S_step wants0 (o_bin (by simp only [aev_tmp, aev_const, aev_func, aev_global, at_put, at_none, n_put, reduceIte, Nat.reduceEqDiff, Nat.reduceLT, zq, *]; first | done | rfl) (by simp only [aev_tmp, aev_const, aev_func, aev_global, at_put, at_none, n_put, reduceIte, Nat.reduceEqDiff, Nat.reduceLT, zq, *]; first | done | rfl) b_slNil0) ?_
    repeat first | refine G_seq ?_ | refine G_reg ?_ | refine N_seq ?_ | refine N_block ?_ | refine G_block ?_ | refine G_skip ?_ | refine G_cT ?_ | refine G_cF ?_ | refine G_ret ?_ | refine U_seq_ret ?_ | refine U_block_ret ?_ | refine U_nil ?_ | refine S_nil ?_ | refine S_auto ?_
    refine FQ_in (by first | exact .inr rfl | exact .inl rfl) (by first | exact ares1 (by simp only [at_put, at_none, n_put, reduceIte, Nat.reduceEqDiff, Nat.reduceLT, zq, *]; first | done | rfl) | exact ares2 (by simp only [at_put, at_none, n_put, reduceIte, Nat.reduceEqDiff, Nat.reduceLT, zq, *]; first | done | rfl) (by simp only [at_put, at_none, n_put, reduceIte, Nat.reduceEqDiff, Nat.reduceLT, zq, *]; first | done | rfl)) ?_
    exact ⟨Keep.refl _ _, .inl ⟨rfl, _, _, [], rfl, .inl ⟨rfl, rfl, rfl⟩, fun i hi => by cases hi⟩⟩
  | some A =>
    refine S_step wants0 (o_bin (by simp only [aev_tmp, aev_const, aev_func, aev_global, at_put, at_none, n_put, reduceIte, Nat.reduceEqDiff, Nat.reduceLT, zq, *]; first | done | rfl) (by simp only [aev_tmp, aev_const, aev_func, aev_global, at_put, at_none, n_put, reduceIte, Nat.reduceEqDiff, Nat.reduceLT, zq, *]; first | done | rfl) b_slNil) ?_
    repeat first | refine G_seq ?_ | refine G_reg ?_ | refine N_seq ?_ | refine N_block ?_ | refine G_block ?_ | refine G_skip ?_ | refine G_cT ?_ | refine G_cF ?_ | refine G_ret ?_ | refine U_seq_ret ?_ | refine U_block_ret ?_ | refine U_nil ?_ | refine S_nil ?_ | refine S_auto ?_
    refine S_step wants0 (o_buildSlice (by simp only [List.map, aev_tmp, aev_const, aev_func, aev_global, at_put, at_none, n_put, reduceIte, Nat.reduceEqDiff, Nat.reduceLT, zq, *]; first | done | rfl) (bs_row0 (K := kF) (TL rfl) (TL rfl) ⟨rfl, rfl, by decide⟩)) ?_
    repeat first | refine G_seq ?_ | refine G_reg ?_ | refine N_seq ?_ | refine N_block ?_ | refine G_block ?_ | refine G_skip ?_ | refine G_cT ?_ | refine G_cF ?_ | refine G_ret ?_ | refine U_seq_ret ?_ | refine U_block_ret ?_ | refine U_nil ?_ | refine S_nil ?_ | refine S_auto ?_
    have hkn := Keep.new h (.cells [] true) []
    have hsrc := src_row (hv.keep fun i hi => hkn.2 i (hO i hi) (by simp))
    by_cases hl0 : l = []
    · subst hl0
      have happ : aappend EE.T (h.new h.next (.cells [] true)) (h.new h.next (.cells [] true)).next [29, 29] (.slice (some ⟨h.next, 0, none⟩) 0 0) (.slice (some A) ([] : List Fl).length c) = some (.slice (some ⟨h.next, 0, none⟩) 0 0, h.new h.next (.cells [] true)) := by
        have hT : EE.T.get 29 = _ := TL rfl
        have hT2 : EE.T.get 47 = _ := TL rfl
        have hsrc' : srcCells (h.new h.next (.cells [] true)) 2 (.slice (some A) ([] : List Fl).length c) = some (0, []) := hsrc
        simp only [aappend, hT, hT2, hsrc']
        rfl
      refine S_step wants0 (o_builtin (by simp only [List.map, aev_tmp, aev_const, aev_func, aev_global, at_put, at_none, n_put, reduceIte, Nat.reduceEqDiff, Nat.reduceLT, zq, *]; first | done | rfl) (bi_app happ)) ?_
      clear happ hsrc hsrc0
      repeat first | refine G_seq ?_ | refine G_reg ?_ | refine N_seq ?_ | refine N_block ?_ | refine G_block ?_ | refine G_skip ?_ | refine G_cT ?_ | refine G_cF ?_ | refine G_ret ?_ | refine U_seq_ret ?_ | refine U_block_ret ?_ | refine U_nil ?_ | refine S_nil ?_ | refine S_auto ?_
      refine FQ_in (by first | exact .inr rfl | exact .inl rfl) (by first | exact ares1 (by simp only [at_put, at_none, n_put, reduceIte, Nat.reduceEqDiff, Nat.reduceLT, zq, *]; first | done | rfl) | exact ares2 (by simp only [at_put, at_none, n_put, reduceIte, Nat.reduceEqDiff, Nat.reduceLT, zq, *]; first | done | rfl) (by simp only [at_put, at_none, n_put, reduceIte, Nat.reduceEqDiff, Nat.reduceLT, zq, *]; first | done | rfl)) ?_
      exact ⟨hkn, .inl ⟨rfl, _, _, [h.next], rfl, row0 (get_new_self _ _ _), fun i hi => by rw [List.mem_singleton.1 hi, next_new_self]; omega⟩⟩
    · obtain ⟨v', h', O', q1, q2, q3, q4, q5⟩ := app_rowX (K := kF) (T := EE.T) (h := h.new h.next (.cells [] true)) (st := 29) (xt := 29) (news := l) (l := []) (v := .slice (some ⟨h.next, 0, none⟩) 0 0) (x := .slice (some A) l.length c) (TL rfl) (TL rfl) ⟨rfl, rfl, by decide⟩ (TL rfl) (row0 (get_new_self _ _ _)) hl0 hsrc (by simp; omega) (fun i hi => by rw [List.mem_singleton.1 hi, next_new_self]; omega)
      refine S_step wants0 (o_builtin (by simp only [List.map, aev_tmp, aev_const, aev_func, aev_global, at_put, at_none, n_put, reduceIte, Nat.reduceEqDiff, Nat.reduceLT, zq, *]; first | done | rfl) (bi_app q1)) ?_
      have hk2 : Keep h h' [] := hkn.fresh q3 fun i hi => by rw [List.mem_singleton.1 hi]; exact Nat.le_refl _
      clear q1 hsrc hsrc0
      repeat first | refine G_seq ?_ | refine G_reg ?_ | refine N_seq ?_ | refine N_block ?_ | refine G_block ?_ | refine G_skip ?_ | refine G_cT ?_ | refine G_cF ?_ | refine G_ret ?_ | refine U_seq_ret ?_ | refine U_block_ret ?_ | refine U_nil ?_ | refine S_nil ?_ | refine S_auto ?_
      refine FQ_in (by first | exact .inr rfl | exact .inl rfl) (by first | exact ares1 (by simp only [at_put, at_none, n_put, reduceIte, Nat.reduceEqDiff, Nat.reduceLT, zq, *]; first | done | rfl) | exact ares2 (by simp only [at_put, at_none, n_put, reduceIte, Nat.reduceEqDiff, Nat.reduceLT, zq, *]; first | done | rfl) (by simp only [at_put, at_none, n_put, reduceIte, Nat.reduceEqDiff, Nat.reduceLT, zq, *]; first | done | rfl)) ?_
      refine ⟨hk2, .inr ?_⟩
      obtain ⟨b, js, rfl, hb, rfl⟩ := q2
      refine ⟨b, js, ?_, q5 b (.head _), rfl, hb⟩
      rcases q4 with h1 | h1
      · rw [List.singleton_inj.1 h1]; exact Nat.le_refl _
      · rw [List.singleton_inj.1 h1, next_new_self]; omega
end
end Go.Proofs.Yteffhomollmpdaa.AM.SX

/- Robin: places of flows; flows are taken away. -/
namespace Go.Proofs.Yteffhomollmpdaa.AM.SX
open Go
set_option linter.unusedVariables false
set_option linter.unusedSimpArgs false
set_option maxRecDepth 100000
set_option maxHeartbeats 4000000
attribute [local irreducible] astep0 aev awants abin abuild
/-- the first place of what is P, or -1 -/
inductive IdxR (P : Fl → Bool) (l : List Fl) : Int → Prop where
  | none (hq : ∀ (q : Nat) (hq : q < l.length), P l[q] = false) : IdxR P l (-1)
  | some (i : Nat) (hi : i < l.length) (he : P l[i] = true) (hq : ∀ (q : Nat) (hq : q < l.length), q < i → P l[q] = false) : IdxR P l i
/-- a row while some are taken out of it -/
structure DFR (l js cur kept : List Fl) (i j : Nat) : Prop where
  len : cur.length = (l ++ js).length
  kept : cur.take i = kept
  rest : cur.drop j = (l ++ js).drop j
  le : i ≤ j
  jl : j ≤ l.length
theorem DFR.at {l js cur kept : List Fl} {i j q : Nat} (d : DFR l js cur kept i j) (hq : j ≤ q) (hl : q < l.length) : cur[q]? = some l[q] := by
  have h1 := congrArg (fun z => z[q - j]?) d.rest
  simp only [List.getElem?_drop] at h1
  rw [show j + (q - j) = q by omega] at h1
  rw [h1, List.getElem?_append_left hl, List.getElem?_eq_getElem hl]
theorem DFR.skip {l js cur kept : List Fl} {i j : Nat} (d : DFR l js cur kept i j) (hj : j < l.length) : DFR l js cur kept i (j + 1) :=
  ⟨d.len, d.kept, by rw [← List.drop_drop, ← List.drop_drop, d.rest], by have := d.le; omega, hj⟩
theorem DFR.ilt {l js cur kept : List Fl} {i j : Nat} (d : DFR l js cur kept i j) (hj : j < l.length) : i < cur.length := by
  have h1 := d.len; have h2 := d.le; rw [List.length_append] at h1; omega
theorem DFR.put {l js cur kept : List Fl} {i j : Nat} (d : DFR l js cur kept i j) (hj : j < l.length) (x : Fl) : DFR l js (cur.set i x) (kept ++ [x]) (i + 1) (j + 1) := by
  have hi := d.ilt hj
  have hle := d.le
  refine ⟨by rw [List.length_set]; exact d.len, ?_, ?_, by omega, hj⟩
  · rw [List.take_succ_eq_append_getElem (by rw [List.length_set]; exact hi), List.take_set_of_le (Nat.le_refl _), List.getElem_set_self, d.kept]
  · rw [List.drop_set_of_lt (by omega), ← List.drop_drop, ← List.drop_drop, d.rest]
def delF (l : List Fl) : List Fl := l.filter fun x => !decide (x.2 ≤ 0)
theorem delF_take {l : List Fl} {j : Nat} (hj : j < l.length) : delF (l.take (j + 1)) = if l[j].2 ≤ 0 then delF (l.take j) else delF (l.take j) ++ [l[j]] := by
  unfold delF
  rw [List.take_succ_eq_append_getElem hj, List.filter_append]
  by_cases h : l[j].2 ≤ 0 <;> simp [h]
section
variable {n : Nat} {h : AHeap}
/-- a part of a row, from its beginning -/
theorem sl_rowZ {α : Type} {K : Enc α} {T : Tr TI} {st e sz b bk L j : Nat} {z : Value} {ei : TI} (hst : T.get st = some ⟨.slice e, sz, b, z⟩) (he : T.get e = some ei) (hs : K.Ok ei) (hj : j ≤ L) : aslice T h st (.slice (some ⟨bk, 0, none⟩) L (CAPX + K.sz)) none (some (.int .i64 (j : Int))) none = some (.slice (some ⟨bk, 0, none⟩) j (CAPX + K.sz)) := by
  have := sl_row (h := h) (bk := bk) (K := K) (lo := none) (hi := some (.int .i64 (j : Int))) hst he hs (optNat_none _) (optNat_int _ _) (Nat.zero_le _) hj
  rwa [Nat.zero_mul, Nat.sub_zero] at this
/-- the end of a row is cleared -/
theorem cl_rowG {α : Type} {K : Enc α} {T : Tr TI} {st e sz b bk i m c nid : Nat} {z : Value} {ei : TI} {ts : List Nat} {z0 : α} {l : List α} (hst : T.get st = some ⟨.slice e, sz, b, z⟩) (he : T.get e = some ei) (hz : ei.zero.cells.toList = K.enc z0) (hb : h.get bk = some (.cells (K.fl l) true)) (hi : i + m ≤ l.length) : ∃ h' js, abuiltin T h nid .clear (st :: ts) [.slice (some ⟨bk, i * K.sz, none⟩) m c] = some (.tuple #[], h') ∧ h'.get bk = some (.cells (K.fl (l.take i ++ js)) true) ∧ h'.next = h.next ∧ ∀ q, q ≠ bk → h'.get q = h.get q := by
  by_cases hm : m = 0
  · subst hm
    exact ⟨h, l.drop i, cl_none hst, by rw [List.take_append_drop]; exact hb, rfl, fun _ _ => rfl⟩
  · exact ⟨_, _, cl_row hst he hz hb hi (by omega), get_set_self _ _ _, rfl, fun q hq => get_set_ne hq⟩
theorem index_spec {f : Nat} {cs : Array Value} {P : Fl → Bool} {J : AHeap → Prop} {m : Nat} (hJ : ∀ h h', J h → Keep h h' [] → J h') (hf : ∀ (h : AHeap) (x : Fl), J h → C EE (m + 1) f ([.agg ⟨kF.enc x⟩] ++ cs.toList) h fun r h' => r = .bool (P x) ∧ Keep h h' []) {l : List Fl} {v : Value} {O : List Nat} (hv : RowAt kF h l v O) (hO : ∀ i ∈ O, i < h.next) (h0 : J h) (hn : l.length + 2 ≤ m) (hl : l.length < 1000000) : C EE (m + 2) 30 [v, .func (.func f) #[] cs] h fun r h' => ∃ i, r = .int .i64 i ∧ IdxR P l i ∧ Keep h h' [] := by
  refine C_in (E_X _) F_indexFunc rfl rfl rfl ?_
  intro a hna hat
  have e0 := hat 0 _ rfl
  have e1 := hat 1 _ rfl
  replace hna : a.n = 19 := hna
  clear hat
  repeat first | refine G_seq ?_ | refine G_reg ?_ | refine N_seq ?_ | refine N_block ?_ | refine G_block ?_ | refine G_skip ?_ | refine G_cT ?_ | refine G_cF ?_ | refine G_ret ?_ | refine U_seq_ret ?_ | refine U_block_ret ?_ | refine U_nil ?_ | refine S_nil ?_ | refine S_auto ?_
  refine S_step wants0 (o_builtin (by simp only [List.map, aev_tmp, aev_const, aev_func, aev_global, at_put, at_none, n_put, reduceIte, Nat.reduceEqDiff, Nat.reduceLT, zq, *]; first | done | rfl) (hv.lenB (TL rfl))) ?_
  repeat first | refine G_seq ?_ | refine G_reg ?_ | refine N_seq ?_ | refine N_block ?_ | refine G_block ?_ | refine G_skip ?_ | refine G_cT ?_ | refine G_cF ?_ | refine G_ret ?_ | refine U_seq_ret ?_ | refine U_block_ret ?_ | refine U_nil ?_ | refine S_nil ?_ | refine S_auto ?_
  refine G_loop (fun j a h' => ∃ i : Nat, i + j = l.length ∧ a.n = 19 ∧ a.at 0 = v ∧ a.at 1 = .func (.func f) #[] cs ∧ a.at 7 = .int .i64 (l.length : Int) ∧ a.at 8 = .int .i64 (i : Int) ∧ Keep h h' [] ∧ J h' ∧ ∀ (q : Nat) (hq : q < l.length), q < i → P l[q] = false) l.length (by omega) ⟨0, by omega, by simp only [at_put, at_none, n_put, reduceIte, Nat.reduceEqDiff, Nat.reduceLT, zq, *]; first | done | rfl, by simp only [at_put, at_none, n_put, reduceIte, Nat.reduceEqDiff, Nat.reduceLT, zq, *]; first | done | rfl, by simp only [at_put, at_none, n_put, reduceIte, Nat.reduceEqDiff, Nat.reduceLT, zq, *]; first | done | rfl, by simp only [at_put, at_none, n_put, reduceIte, Nat.reduceEqDiff, Nat.reduceLT, zq, *]; first | done | rfl, by simp only [at_put, at_none, n_put, reduceIte, Nat.reduceEqDiff, Nat.reduceLT, zq, *]; first | done | rfl, Keep.refl _ _, h0, fun q hq h0 => absurd h0 (Nat.not_lt_zero _)⟩ ?_
  clear e0 e1 hna a
  rintro j a h' ⟨i, hij, hna, e0, e1, e7, e8, hk, hj, hq⟩
  by_cases hil : i < l.length
  · have hil' : (i : Int) < (l.length : Int) := by omega
    have hv' := hv.keep fun i hi => hk.2 i (hO i hi) (by simp)
    obtain ⟨bk, cc, g1, g2, _, gc, _⟩ := hv'.index (T := EE.T) (st := 29) (TL rfl) (TL rfl) ⟨rfl, rfl, by decide⟩ hil
    repeat first | refine G_seq ?_ | refine G_reg ?_ | refine N_seq ?_ | refine N_block ?_ | refine G_block ?_ | refine G_skip ?_ | refine G_cT ?_ | refine G_cF ?_ | refine G_ret ?_ | refine U_seq_ret ?_ | refine U_block_ret ?_ | refine U_nil ?_ | refine S_nil ?_ | refine S_auto ?_
    refine S_step wants0 (o_indexAddr (by simp only [aev_tmp, aev_const, aev_func, aev_global, at_put, at_none, n_put, reduceIte, Nat.reduceEqDiff, Nat.reduceLT, zq, *]; first | done | rfl) (by simp only [aev_tmp, aev_const, aev_func, aev_global, at_put, at_none, n_put, reduceIte, Nat.reduceEqDiff, Nat.reduceLT, zq, *]; first | done | rfl) g1) ?_
    refine S_step wants0 (o_ldA (by simp only [aev_tmp, aev_const, aev_func, aev_global, at_put, at_none, n_put, reduceIte, Nat.reduceEqDiff, Nat.reduceLT, zq, *]; first | done | rfl) (TL rfl) rfl (rd_cells g2) gc) ?_
    refine S_call wants0 (by simp only [aev_tmp, aev_const, aev_func, aev_global, at_put, at_none, n_put, reduceIte, Nat.reduceEqDiff, Nat.reduceLT, zq, *]; first | done | rfl) (E_Y _) (by simp only [List.map, aev_tmp, aev_const, aev_func, aev_global, at_put, at_none, n_put, reduceIte, Nat.reduceEqDiff, Nat.reduceLT, zq, *]; first | done | rfl) ?_
    refine (hf h' l[i] hj).mono ?_
    rintro r h2 ⟨rfl, hk2⟩
    have hkk : Keep h h2 [] := hk.trans hk2 fun i hi => .inl hi
    have hj2 := hJ _ _ hj hk2
    cases he : P l[i] with
    | true =>
      have hx := IdxR.some i hil he hq
      clear g1 g2 gc hq he hv hv' hf hJ
      repeat first | refine G_seq ?_ | refine G_reg ?_ | refine N_seq ?_ | refine N_block ?_ | refine G_block ?_ | refine G_skip ?_ | refine G_cT ?_ | refine G_cF ?_ | refine G_ret ?_ | refine U_seq_ret ?_ | refine U_block_ret ?_ | refine U_nil ?_ | refine S_nil ?_ | refine S_auto ?_
      refine LQ_ret ?_
      repeat first | refine G_seq ?_ | refine G_reg ?_ | refine N_seq ?_ | refine N_block ?_ | refine G_block ?_ | refine G_skip ?_ | refine G_cT ?_ | refine G_cF ?_ | refine G_ret ?_ | refine U_seq_ret ?_ | refine U_block_ret ?_ | refine U_nil ?_ | refine S_nil ?_ | refine S_auto ?_
      refine FQ_in (by first | exact .inr rfl | exact .inl rfl) (by first | exact ares1 (by simp only [at_put, at_none, n_put, reduceIte, Nat.reduceEqDiff, Nat.reduceLT, zq, *]; first | done | rfl) | exact ares2 (by simp only [at_put, at_none, n_put, reduceIte, Nat.reduceEqDiff, Nat.reduceLT, zq, *]; first | done | rfl) (by simp only [at_put, at_none, n_put, reduceIte, Nat.reduceEqDiff, Nat.reduceLT, zq, *]; first | done | rfl)) ?_
      exact ⟨_, rfl, hx, hkk⟩
    | false =>
      have hq' : ∀ (q : Nat) (hq : q < l.length), q < i + 1 → P l[q] = false := fun q hql hqi => by
        rcases Nat.lt_or_ge q i with h1 | h1
        · exact hq q hql h1
        · obtain rfl : q = i := by omega
          exact he
      clear g1 g2 gc hq he
      repeat first | refine G_seq ?_ | refine G_reg ?_ | refine N_seq ?_ | refine N_block ?_ | refine G_block ?_ | refine G_skip ?_ | refine G_cT ?_ | refine G_cF ?_ | refine G_ret ?_ | refine U_seq_ret ?_ | refine U_block_ret ?_ | refine U_nil ?_ | refine S_nil ?_ | refine S_auto ?_
      refine N_nil ?_
      exact LQ_n (j - 1) (by omega) ⟨i + 1, by omega, by simp only [at_put, at_none, n_put, reduceIte, Nat.reduceEqDiff, Nat.reduceLT, zq, *]; first | done | rfl, by simp only [at_put, at_none, n_put, reduceIte, Nat.reduceEqDiff, Nat.reduceLT, zq, *]; first | done | rfl, by simp only [at_put, at_none, n_put, reduceIte, Nat.reduceEqDiff, Nat.reduceLT, zq, *]; first | done | rfl, by simp only [at_put, at_none, n_put, reduceIte, Nat.reduceEqDiff, Nat.reduceLT, zq, *]; first | done | rfl, by rw [Int.natCast_add]; simp only [at_put, at_none, n_put, reduceIte, Nat.reduceEqDiff, Nat.reduceLT, zq, *]; first | done | rfl, hkk, hj2, hq'⟩
  · have hil' : ¬ (i : Int) < (l.length : Int) := by omega
    have hx := IdxR.none (P := P) (fun q hql => hq q hql (by omega))
    clear hq hf hJ
    repeat first | refine G_seq ?_ | refine G_reg ?_ | refine N_seq ?_ | refine N_block ?_ | refine G_block ?_ | refine G_skip ?_ | refine G_cT ?_ | refine G_cF ?_ | refine G_ret ?_ | refine U_seq_ret ?_ | refine U_block_ret ?_ | refine U_nil ?_ | refine S_nil ?_ | refine S_auto ?_
    refine G_exit ?_
    repeat first | refine U_seq_exit ?_ | refine U_nil ?_ | refine LQ_exit ?_ | refine U_block_hit ?_
    repeat first | refine G_seq ?_ | refine G_reg ?_ | refine N_seq ?_ | refine N_block ?_ | refine G_block ?_ | refine G_skip ?_ | refine G_cT ?_ | refine G_cF ?_ | refine G_ret ?_ | refine U_seq_ret ?_ | refine U_block_ret ?_ | refine U_nil ?_ | refine S_nil ?_ | refine S_auto ?_
    refine FQ_in (by first | exact .inr rfl | exact .inl rfl) (by first | exact ares1 (by simp only [at_put, at_none, n_put, reduceIte, Nat.reduceEqDiff, Nat.reduceLT, zq, *]; first | done | rfl) | exact ares2 (by simp only [at_put, at_none, n_put, reduceIte, Nat.reduceEqDiff, Nat.reduceLT, zq, *]; first | done | rfl) (by simp only [at_put, at_none, n_put, reduceIte, Nat.reduceEqDiff, Nat.reduceLT, zq, *]; first | done | rfl)) ?_
    exact ⟨_, rfl, hx, hk⟩
theorem next_spec {p : Nat} {q c la : Int} {any z : Bool} {l : List Fl} {v : Value} {O : List Nat} (hp : h.get p = some (.cells [.int .i64 q, .int .i64 c, .int .i64 la, .bool any] z)) (hpl : p < h.next) (hv : RowAt kF h l v O) (hO : ∀ i ∈ O, i < h.next) (hn : l.length + 3 ≤ n) (hl : l.length < 1000000) : C EE (n + 2) 20 [.pointer (some ⟨p, 0, none⟩), v] h fun r h' => ∃ i, r = .int .i64 (max i 0) ∧ IdxR (fun x => any && decide (la < x.1)) l i ∧ Keep h h' [] := by
  refine C_in (E_X _) F_next rfl rfl rfl ?_
  intro a hna hat
  have e0 := hat 0 _ rfl
  have e1 := hat 1 _ rfl
  replace hna : a.n = 11 := hna
  clear hat
  obtain ⟨m, rfl⟩ : ∃ m, n = m + 1 := ⟨n - 1, by omega⟩
  repeat first | refine G_seq ?_ | refine G_reg ?_ | refine N_seq ?_ | refine N_block ?_ | refine G_block ?_ | refine G_skip ?_ | refine G_cT ?_ | refine G_cF ?_ | refine G_ret ?_ | refine U_seq_ret ?_ | refine U_block_ret ?_ | refine U_nil ?_ | refine S_nil ?_ | refine S_auto ?_
  have hk1 := Keep.new h (.cells [.pointer (some ⟨p, 0, none⟩)] true) []
  have hx := index_spec (h := h.new h.next (.cells [.pointer (some ⟨p, 0, none⟩)] true)) (f := 31) (cs := #[.pointer (some ⟨h.next, 0, none⟩)]) (P := fun x => any && decide (la < x.1)) (J := fun h' => h'.get h.next = some (.cells [.pointer (some ⟨p, 0, none⟩)] true) ∧ h'.get p = some (.cells [.int .i64 q, .int .i64 c, .int .i64 la, .bool any] z) ∧ h.next < h'.next ∧ p < h'.next) (m := m)
    (fun h1 h2 hj hk => ⟨(hk.2 _ hj.2.2.1 (by simp)).trans hj.1, (hk.2 _ hj.2.2.2 (by simp)).trans hj.2.1, Nat.lt_of_lt_of_le hj.2.2.1 hk.1, Nat.lt_of_lt_of_le hj.2.2.2 hk.1⟩)
    (fun h1 x hj => next1_spec hj.1 hj.2.1 ⟨hj.2.2.1, hj.2.2.2⟩ x) (l := l) (v := v) (O := O) (hv.keep fun i hi => hk1.2 i (hO i hi) (by simp)) (fun i hi => Nat.lt_of_lt_of_le (hO i hi) hk1.1) ⟨get_new_self _ _ _, by rw [hk1.2 p hpl (by simp)]; exact hp, by rw [next_new_self]; omega, by rw [next_new_self]; omega⟩ (by omega) hl
  refine S_call wants0 (by simp only [aev_tmp, aev_const, aev_func, aev_global, at_put, at_none, n_put, reduceIte, Nat.reduceEqDiff, Nat.reduceLT, zq, *]; first | done | rfl) (E_Y _) (by simp only [List.map, aev_tmp, aev_const, aev_func, aev_global, at_put, at_none, n_put, reduceIte, Nat.reduceEqDiff, Nat.reduceLT, zq, *]; first | done | rfl) ?_
  refine hx.mono ?_
  rintro r h2 ⟨i, rfl, hi, hk2⟩
  clear hx
  repeat first | refine G_seq ?_ | refine G_reg ?_ | refine N_seq ?_ | refine N_block ?_ | refine G_block ?_ | refine G_skip ?_ | refine G_cT ?_ | refine G_cF ?_ | refine G_ret ?_ | refine U_seq_ret ?_ | refine U_block_ret ?_ | refine U_nil ?_ | refine S_nil ?_ | refine S_auto ?_
  refine S_step wants0 (o_builtin (by simp only [List.map, aev_tmp, aev_const, aev_func, aev_global, at_put, at_none, n_put, reduceIte, Nat.reduceEqDiff, Nat.reduceLT, zq, *]; first | done | rfl) bi_max) ?_
  repeat first | refine G_seq ?_ | refine G_reg ?_ | refine N_seq ?_ | refine N_block ?_ | refine G_block ?_ | refine G_skip ?_ | refine G_cT ?_ | refine G_cF ?_ | refine G_ret ?_ | refine U_seq_ret ?_ | refine U_block_ret ?_ | refine U_nil ?_ | refine S_nil ?_ | refine S_auto ?_
  refine FQ_in (by first | exact .inr rfl | exact .inl rfl) (by first | exact ares1 (by simp only [at_put, at_none, n_put, reduceIte, Nat.reduceEqDiff, Nat.reduceLT, zq, *]; first | done | rfl) | exact ares2 (by simp only [at_put, at_none, n_put, reduceIte, Nat.reduceEqDiff, Nat.reduceLT, zq, *]; first | done | rfl) (by simp only [at_put, at_none, n_put, reduceIte, Nat.reduceEqDiff, Nat.reduceLT, zq, *]; first | done | rfl)) ?_
  exact ⟨i, rfl, hi, hk1.trans hk2 fun i hi => .inl hi⟩
theorem deleteFunc0_spec {A : Option Addr} {c : Nat} {O : List Nat} (hv : RowAt kF h [] (.slice A 0 c) O) (hO : ∀ i ∈ O, i < h.next) (hn : 4 ≤ n) : C EE (n + 1) 28 [.slice A 0 c, .func (.func 29) #[] #[]] h fun r h' => r = .slice A 0 c ∧ Keep h h' [] := by
  refine C_in (E_X _) F_deleteFunc rfl rfl rfl ?_
  intro a hna hat
  have e0 := hat 0 _ rfl
  have e1 := hat 1 _ rfl
  replace hna : a.n = 42 := hna
  clear hat
  obtain ⟨m, rfl⟩ : ∃ m, n = m + 2 := ⟨n - 2, by omega⟩
  repeat first | refine G_seq ?_ | refine G_reg ?_ | refine N_seq ?_ | refine N_block ?_ | refine G_block ?_ | refine G_skip ?_ | refine G_cT ?_ | refine G_cF ?_ | refine G_ret ?_ | refine U_seq_ret ?_ | refine U_block_ret ?_ | refine U_nil ?_ | refine S_nil ?_ | refine S_auto ?_
  refine S_call wants0 (by simp only [aev_tmp, aev_const, aev_func, aev_global, at_put, at_none, n_put, reduceIte, Nat.reduceEqDiff, Nat.reduceLT, zq, *]; first | done | rfl) (E_Y _) (by simp only [List.map, aev_tmp, aev_const, aev_func, aev_global, at_put, at_none, n_put, reduceIte, Nat.reduceEqDiff, Nat.reduceLT, zq, *]; first | done | rfl) ?_
  refine (index_spec (m := m) (P := fun x => decide (x.2 ≤ 0)) (J := fun _ => True) (fun _ _ _ _ => trivial) (fun h x _ => flows3_spec x) hv hO trivial (by simp; omega) (by simp)).mono ?_
  rintro r h2 ⟨i, rfl, hi, hk⟩
  obtain rfl : i = -1 := by
    cases hi with
    | none _ => rfl
    | some i hi _ _ => exact absurd hi (Nat.not_lt_zero _)
  clear hi
  repeat first | refine G_seq ?_ | refine G_reg ?_ | refine N_seq ?_ | refine N_block ?_ | refine G_block ?_ | refine G_skip ?_ | refine G_cT ?_ | refine G_cF ?_ | refine G_ret ?_ | refine U_seq_ret ?_ | refine U_block_ret ?_ | refine U_nil ?_ | refine S_nil ?_ | refine S_auto ?_
  refine FQ_in (by first | exact .inr rfl | exact .inl rfl) (by first | exact ares1 (by simp only [at_put, at_none, n_put, reduceIte, Nat.reduceEqDiff, Nat.reduceLT, zq, *]; first | done | rfl) | exact ares2 (by simp only [at_put, at_none, n_put, reduceIte, Nat.reduceEqDiff, Nat.reduceLT, zq, *]; first | done | rfl) (by simp only [at_put, at_none, n_put, reduceIte, Nat.reduceEqDiff, Nat.reduceLT, zq, *]; first | done | rfl)) ?_
  exact ⟨rfl, hk⟩
theorem deleteFunc_spec {bk : Nat} {l js : List Fl} (hb : h.get bk = some (.cells (kF.fl (l ++ js)) true)) (hbl : bk < h.next) (hn : l.length + 6 ≤ n) (hl : l.length < 1000000) : C EE (n + 1) 28 [.slice (some ⟨bk, 0, none⟩) l.length (CAPX + kF.sz), .func (.func 29) #[] #[]] h fun r h' => ∃ js', r = .slice (some ⟨bk, 0, none⟩) (delF l).length (CAPX + kF.sz) ∧ h'.get bk = some (.cells (kF.fl (delF l ++ js')) true) ∧ Keep h h' [bk] := by
  refine C_in (E_X _) F_deleteFunc rfl rfl rfl ?_
  intro a hna hat
  have e0 := hat 0 _ rfl
  have e1 := hat 1 _ rfl
  replace hna : a.n = 42 := hna
  clear hat
  obtain ⟨m, rfl⟩ : ∃ m, n = m + 2 := ⟨n - 2, by omega⟩
  have hv : RowAt kF h l (.slice (some ⟨bk, 0, none⟩) l.length (CAPX + kF.sz)) [bk] := .inr (.inr ⟨bk, js, rfl, hb, rfl⟩)
  repeat first | refine G_seq ?_ | refine G_reg ?_ | refine N_seq ?_ | refine N_block ?_ | refine G_block ?_ | refine G_skip ?_ | refine G_cT ?_ | refine G_cF ?_ | refine G_ret ?_ | refine U_seq_ret ?_ | refine U_block_ret ?_ | refine U_nil ?_ | refine S_nil ?_ | refine S_auto ?_
  refine S_call wants0 (by simp only [aev_tmp, aev_const, aev_func, aev_global, at_put, at_none, n_put, reduceIte, Nat.reduceEqDiff, Nat.reduceLT, zq, *]; first | done | rfl) (E_Y _) (by simp only [List.map, aev_tmp, aev_const, aev_func, aev_global, at_put, at_none, n_put, reduceIte, Nat.reduceEqDiff, Nat.reduceLT, zq, *]; first | done | rfl) ?_
  refine (index_spec (m := m) (P := fun x => decide (x.2 ≤ 0)) (J := fun _ => True) (fun _ _ _ _ => trivial) (fun h x _ => flows3_spec x) hv (fun i hi => by rw [List.mem_singleton.1 hi]; exact hbl) trivial (by omega) hl).mono ?_
  rintro r h2 ⟨i, rfl, hi, hk⟩
  have hb2 := (hk.2 bk hbl (by simp)).trans hb
  have hbl2 : bk < h2.next := Nat.lt_of_lt_of_le hbl hk.1
  cases hi with
  | none hq =>
    have hd : delF l = l := by
      unfold delF
      rw [List.filter_eq_self]
      intro x hx
      obtain ⟨i, hi, rfl⟩ := List.mem_iff_getElem.1 hx
      have := hq i hi
      simp only [this, Bool.not_false]
    clear hq
    repeat first | refine G_seq ?_ | refine G_reg ?_ | refine N_seq ?_ | refine N_block ?_ | refine G_block ?_ | refine G_skip ?_ | refine G_cT ?_ | refine G_cF ?_ | refine G_ret ?_ | refine U_seq_ret ?_ | refine U_block_ret ?_ | refine U_nil ?_ | refine S_nil ?_ | refine S_auto ?_
    refine FQ_in (by first | exact .inr rfl | exact .inl rfl) (by first | exact ares1 (by simp only [at_put, at_none, n_put, reduceIte, Nat.reduceEqDiff, Nat.reduceLT, zq, *]; first | done | rfl) | exact ares2 (by simp only [at_put, at_none, n_put, reduceIte, Nat.reduceEqDiff, Nat.reduceLT, zq, *]; first | done | rfl) (by simp only [at_put, at_none, n_put, reduceIte, Nat.reduceEqDiff, Nat.reduceLT, zq, *]; first | done | rfl)) ?_
    exact ⟨js, by rw [hd]; rfl, by rw [hd]; exact hb2, hk.mono fun i hi => by cases hi⟩
  | some i hi he hq =>
    have c1 : ((i : Int) = -1) = False := eq_false (by omega)
    have hd0 : delF (l.take (i + 1)) = l.take i := by
      rw [delF_take hi, if_pos (by simpa using he)]
      unfold delF
      rw [List.filter_eq_self]
      intro x hx
      obtain ⟨q, hql, rfl⟩ := List.mem_iff_getElem.1 hx
      have hql2 : q < min i l.length := by simpa using hql
      have hql' := Nat.lt_min.1 hql2
      have := hq q hql'.2 hql'.1
      rw [List.getElem_take]
      simp only [this, Bool.not_false]
    have hD : DFR l js (l ++ js) (delF (l.take (i + 1))) i (i + 1) := ⟨rfl, by rw [hd0, List.take_append_of_le_length (Nat.le_of_lt hi)], rfl, by omega, hi⟩
    clear he hq hd0
    repeat first | refine G_seq ?_ | refine G_reg ?_ | refine N_seq ?_ | refine N_block ?_ | refine G_block ?_ | refine G_skip ?_ | refine G_cT ?_ | refine G_cF ?_ | refine G_ret ?_ | refine U_seq_ret ?_ | refine U_block_ret ?_ | refine U_nil ?_ | refine S_nil ?_ | refine S_auto ?_
    refine G_loop (fun j a h' => ∃ (p q : Nat) (cur : List Fl), q + j = l.length ∧ a.n = 42 ∧ a.at 0 = .slice (some ⟨bk, 0, none⟩) l.length (CAPX + kF.sz) ∧ a.at 1 = .func (.func 29) #[] #[] ∧ a.at 5 = .int .i64 (p : Int) ∧ a.at 6 = .int .i64 (q : Int) ∧ DFR l js cur (delF (l.take q)) p q ∧ h'.get bk = some (.cells (kF.fl cur) true) ∧ Keep h h' [bk]) (l.length - (i + 1)) (by omega) ⟨i, i + 1, l ++ js, by omega, by simp only [at_put, at_none, n_put, reduceIte, Nat.reduceEqDiff, Nat.reduceLT, zq, *]; first | done | rfl, by simp only [at_put, at_none, n_put, reduceIte, Nat.reduceEqDiff, Nat.reduceLT, zq, *]; first | done | rfl, by simp only [at_put, at_none, n_put, reduceIte, Nat.reduceEqDiff, Nat.reduceLT, zq, *]; first | done | rfl, by simp only [at_put, at_none, n_put, reduceIte, Nat.reduceEqDiff, Nat.reduceLT, zq, *]; first | done | rfl, by rw [Int.natCast_add]; simp only [at_put, at_none, n_put, reduceIte, Nat.reduceEqDiff, Nat.reduceLT, zq, *]; first | done | rfl, hD, hb2, hk.mono fun i hi => by cases hi⟩ ?_
    clear e0 e1 hna a hD hb2 hbl2 hk h2 c1
    rintro j a h' ⟨p, q, cur, hqj, hna, e0, e1, e5, e6, hD, hrow, hk⟩
    have hbl' : bk < h'.next := Nat.lt_of_lt_of_le hbl hk.1
    repeat first | refine G_seq ?_ | refine G_reg ?_ | refine N_seq ?_ | refine N_block ?_ | refine G_block ?_ | refine G_skip ?_ | refine G_cT ?_ | refine G_cF ?_ | refine G_ret ?_ | refine U_seq_ret ?_ | refine U_block_ret ?_ | refine U_nil ?_ | refine S_nil ?_ | refine S_auto ?_
    refine S_step wants0 (o_builtin (by simp only [List.map, aev_tmp, aev_const, aev_func, aev_global, at_put, at_none, n_put, reduceIte, Nat.reduceEqDiff, Nat.reduceLT, zq, *]; first | done | rfl) (lenS (TL rfl))) ?_
    by_cases hql : q < l.length
    · have hql' : (q : Int) < (l.length : Int) := by omega
      have i1 : aindexAddr EE.T 29 (.slice (some ⟨bk, 0, none⟩) l.length (CAPX + kF.sz)) (.int .i64 (q : Int)) = some (.pointer (some ⟨bk, q * kF.sz, none⟩)) := ix_row0 (TL rfl) (TL rfl) ⟨rfl, rfl, by decide⟩ hql
      have hc1 := cut_at (hD.at (Nat.le_refl _) hql)
      have hdt := delF_take hql
      have hpl : p < l.length := by have := hD.le; omega
      repeat first | refine G_seq ?_ | refine G_reg ?_ | refine N_seq ?_ | refine N_block ?_ | refine G_block ?_ | refine G_skip ?_ | refine G_cT ?_ | refine G_cF ?_ | refine G_ret ?_ | refine U_seq_ret ?_ | refine U_block_ret ?_ | refine U_nil ?_ | refine S_nil ?_ | refine S_auto ?_
      refine S_step wants0 (o_indexAddr (by simp only [aev_tmp, aev_const, aev_func, aev_global, at_put, at_none, n_put, reduceIte, Nat.reduceEqDiff, Nat.reduceLT, zq, *]; first | done | rfl) (by simp only [aev_tmp, aev_const, aev_func, aev_global, at_put, at_none, n_put, reduceIte, Nat.reduceEqDiff, Nat.reduceLT, zq, *]; first | done | rfl) i1) ?_
      refine S_step wants0 (o_ldA (by simp only [aev_tmp, aev_const, aev_func, aev_global, at_put, at_none, n_put, reduceIte, Nat.reduceEqDiff, Nat.reduceLT, zq, *]; first | done | rfl) (TL rfl) rfl (rd_cells (by simp (disch := omega) only [get_set_self, get_new_self, get_set_ne, get_new_ne, get_bump, next_set, next_new, Nat.lt_irrefl, reduceIte, next_kill, next_bump, *]; first | done | rfl)) hc1) ?_
      refine S_auto ?_
      refine S_step wants0 (o_st (by simp only [aev_tmp, aev_const, aev_func, aev_global, at_put, at_none, n_put, reduceIte, Nat.reduceEqDiff, Nat.reduceLT, zq, *]; first | done | rfl) (by simp only [aev_tmp, aev_const, aev_func, aev_global, at_put, at_none, n_put, reduceIte, Nat.reduceEqDiff, Nat.reduceLT, zq, *]; first | done | rfl) (TL rfl) rfl (by simp (disch := omega) only [get_set_self, get_new_self, get_set_ne, get_new_ne, get_bump, next_set, next_new, Nat.lt_irrefl, reduceIte, next_kill, next_bump, *]; first | done | rfl) rfl rfl) ?_
      repeat first | refine G_seq ?_ | refine G_reg ?_ | refine N_seq ?_ | refine N_block ?_ | refine G_block ?_ | refine G_skip ?_ | refine G_cT ?_ | refine G_cF ?_ | refine G_ret ?_ | refine U_seq_ret ?_ | refine U_block_ret ?_ | refine U_nil ?_ | refine S_nil ?_ | refine S_auto ?_
      refine S_call wants0 (by simp only [aev_tmp, aev_const, aev_func, aev_global, at_put, at_none, n_put, reduceIte, Nat.reduceEqDiff, Nat.reduceLT, zq, *]; first | done | rfl) (E_Y _) (by simp only [List.map, aev_tmp, aev_const, aev_func, aev_global, at_put, at_none, n_put, reduceIte, Nat.reduceEqDiff, Nat.reduceLT, zq, *]; first | done | rfl) ?_
      refine C_le rfl ((flows3_spec (n := m + 1) l[q]).mono ?_)
      rintro r h3 ⟨rfl, hk3⟩
      have hnx3 := hk3.1
      simp only [next_set, next_new, Nat.lt_irrefl, reduceIte] at hnx3
      have gx3 : h3.get h'.next = some (.cells (kF.enc l[q]) true) := (hk3.2 _ (by simp only [next_set, next_new, Nat.lt_irrefl, reduceIte]; omega) (by simp)).trans (by rw [get_set_self]; rfl)
      have hrow3 : h3.get bk = some (.cells (kF.fl cur) true) := (hk3.2 _ (by simp only [next_set, next_new, Nat.lt_irrefl, reduceIte]; omega) (by simp)).trans (by rw [get_set_ne (by omega), get_new_ne (by omega)]; exact hrow)
      have hkk : ∀ q, q < h.next → q ∉ [bk] → h3.get q = h.get q := fun q hq hn => by
        have := hk.1
        rw [hk3.2 q (by simp only [next_set, next_new, Nat.lt_irrefl, reduceIte]; omega) (by simp), get_set_ne (by omega), get_new_ne (by omega), hk.2 q hq hn]
      have hnx := hk.1
      clear hk3 hrow hk i1 hc1
      by_cases hle : l[q].2 ≤ 0
      · rw [if_pos hle] at hdt
        have hD2 := hD.skip hql
        rw [← hdt] at hD2
        clear hdt hD
        repeat first | refine G_seq ?_ | refine G_reg ?_ | refine N_seq ?_ | refine N_block ?_ | refine G_block ?_ | refine G_skip ?_ | refine G_cT ?_ | refine G_cF ?_ | refine G_ret ?_ | refine U_seq_ret ?_ | refine U_block_ret ?_ | refine U_nil ?_ | refine S_nil ?_ | refine S_auto ?_
        refine N_nil ?_
        exact LQ_n (j - 1) (by omega) ⟨p, q + 1, cur, by omega, by simp only [at_put, at_none, n_put, reduceIte, Nat.reduceEqDiff, Nat.reduceLT, zq, *]; first | done | rfl, by simp only [at_put, at_none, n_put, reduceIte, Nat.reduceEqDiff, Nat.reduceLT, zq, *]; first | done | rfl, by simp only [at_put, at_none, n_put, reduceIte, Nat.reduceEqDiff, Nat.reduceLT, zq, *]; first | done | rfl, by simp only [at_put, at_none, n_put, reduceIte, Nat.reduceEqDiff, Nat.reduceLT, zq, *]; first | done | rfl, by rw [Int.natCast_add]; simp only [at_put, at_none, n_put, reduceIte, Nat.reduceEqDiff, Nat.reduceLT, zq, *]; first | done | rfl, hD2, hrow3, by omega, hkk⟩
      · rw [if_neg hle] at hdt
        have hD2 := hD.put hql l[q]
        rw [← hdt] at hD2
        have i2 : aindexAddr EE.T 29 (.slice (some ⟨bk, 0, none⟩) l.length (CAPX + kF.sz)) (.int .i64 (p : Int)) = some (.pointer (some ⟨bk, p * kF.sz, none⟩)) := ix_row0 (TL rfl) (TL rfl) ⟨rfl, rfl, by decide⟩ hpl
        have hp1 := put_row (K := kF) (x := l[q]) (hD.ilt hql)
        clear hdt hD
        repeat first | refine G_seq ?_ | refine G_reg ?_ | refine N_seq ?_ | refine N_block ?_ | refine G_block ?_ | refine G_skip ?_ | refine G_cT ?_ | refine G_cF ?_ | refine G_ret ?_ | refine U_seq_ret ?_ | refine U_block_ret ?_ | refine U_nil ?_ | refine S_nil ?_ | refine S_auto ?_
        refine S_step wants0 (o_indexAddr (by simp only [aev_tmp, aev_const, aev_func, aev_global, at_put, at_none, n_put, reduceIte, Nat.reduceEqDiff, Nat.reduceLT, zq, *]; first | done | rfl) (by simp only [aev_tmp, aev_const, aev_func, aev_global, at_put, at_none, n_put, reduceIte, Nat.reduceEqDiff, Nat.reduceLT, zq, *]; first | done | rfl) i2) ?_
        refine S_step wants0 (o_st (by simp only [aev_tmp, aev_const, aev_func, aev_global, at_put, at_none, n_put, reduceIte, Nat.reduceEqDiff, Nat.reduceLT, zq, *]; first | done | rfl) (by simp only [aev_tmp, aev_const, aev_func, aev_global, at_put, at_none, n_put, reduceIte, Nat.reduceEqDiff, Nat.reduceLT, zq, *]; first | done | rfl) (TL rfl) rfl hrow3 rfl hp1) ?_
        repeat first | refine G_seq ?_ | refine G_reg ?_ | refine N_seq ?_ | refine N_block ?_ | refine G_block ?_ | refine G_skip ?_ | refine G_cT ?_ | refine G_cF ?_ | refine G_ret ?_ | refine U_seq_ret ?_ | refine U_block_ret ?_ | refine U_nil ?_ | refine S_nil ?_ | refine S_auto ?_
        refine N_nil ?_
        refine LQ_n (j - 1) (by omega) ⟨p + 1, q + 1, cur.set p l[q], by omega, by simp only [at_put, at_none, n_put, reduceIte, Nat.reduceEqDiff, Nat.reduceLT, zq, *]; first | done | rfl, by simp only [at_put, at_none, n_put, reduceIte, Nat.reduceEqDiff, Nat.reduceLT, zq, *]; first | done | rfl, by simp only [at_put, at_none, n_put, reduceIte, Nat.reduceEqDiff, Nat.reduceLT, zq, *]; first | done | rfl, by rw [Int.natCast_add]; simp only [at_put, at_none, n_put, reduceIte, Nat.reduceEqDiff, Nat.reduceLT, zq, *]; first | done | rfl, by rw [Int.natCast_add]; simp only [at_put, at_none, n_put, reduceIte, Nat.reduceEqDiff, Nat.reduceLT, zq, *]; first | done | rfl, hD2, get_set_self _ _ _, by rw [next_set]; omega, fun q hq hn => ?_⟩
        rw [get_set_ne (by simpa using hn), hkk q hq hn]
    · have hql' : ¬ (q : Int) < (l.length : Int) := by omega
      obtain rfl : q = l.length := by have := hD.jl; omega
      have hlen := hD.len
      have hkept := hD.kept
      rw [List.take_length] at hkept
      have hpl := hD.le
      have hcl : l.length ≤ cur.length := by rw [hlen]; simp
      obtain ⟨h4, js4, q1, q2, q3, q4⟩ := cl_rowG (T := EE.T) (st := 29) (nid := h'.next) (ts := []) (c := CAPX + kF.sz) (z0 := ((0, 0) : Fl)) (m := l.length - p) (TL rfl) (TL rfl) rfl hrow (show p + (l.length - p) ≤ cur.length by omega)
      rw [hkept] at q2
      have hdl : (delF l).length = p := by rw [← hkept]; simp; omega
      repeat first | refine G_seq ?_ | refine G_reg ?_ | refine N_seq ?_ | refine N_block ?_ | refine G_block ?_ | refine G_skip ?_ | refine G_cT ?_ | refine G_cF ?_ | refine G_ret ?_ | refine U_seq_ret ?_ | refine U_block_ret ?_ | refine U_nil ?_ | refine S_nil ?_ | refine S_auto ?_
      refine G_exit ?_
      repeat first | refine U_seq_exit ?_ | refine U_nil ?_ | refine LQ_exit ?_ | refine U_block_hit ?_
      repeat first | refine G_seq ?_ | refine G_reg ?_ | refine N_seq ?_ | refine N_block ?_ | refine G_block ?_ | refine G_skip ?_ | refine G_cT ?_ | refine G_cF ?_ | refine G_ret ?_ | refine U_seq_ret ?_ | refine U_block_ret ?_ | refine U_nil ?_ | refine S_nil ?_ | refine S_auto ?_
      refine S_step wants0 (o_slice (by simp only [aev_tmp, aev_const, aev_func, aev_global, at_put, at_none, n_put, reduceIte, Nat.reduceEqDiff, Nat.reduceLT, zq, *]; first | done | rfl) (by simp only [Option.map, aev_tmp, aev_const, at_put, at_none, n_put, reduceIte, Nat.reduceEqDiff, Nat.reduceLT, zq, *]; first | done | rfl) (by simp only [Option.map, aev_tmp, aev_const, at_put, at_none, n_put, reduceIte, Nat.reduceEqDiff, Nat.reduceLT, zq, *]; first | done | rfl) (by simp only [Option.map, aev_tmp, aev_const, at_put, at_none, n_put, reduceIte, Nat.reduceEqDiff, Nat.reduceLT, zq, *]; first | done | rfl) (sl_row (K := kF) (TL rfl) (TL rfl) ⟨rfl, rfl, by decide⟩ (optNat_int _ _) (optNat_none _) hpl (Nat.le_refl _))) ?_
      refine S_step wants0 (o_builtin (by simp only [List.map, aev_tmp, aev_const, aev_func, aev_global, at_put, at_none, n_put, reduceIte, Nat.reduceEqDiff, Nat.reduceLT, zq, *]; first | done | rfl) q1) ?_
      clear q1 hrow
      repeat first | refine G_seq ?_ | refine G_reg ?_ | refine N_seq ?_ | refine N_block ?_ | refine G_block ?_ | refine G_skip ?_ | refine G_cT ?_ | refine G_cF ?_ | refine G_ret ?_ | refine U_seq_ret ?_ | refine U_block_ret ?_ | refine U_nil ?_ | refine S_nil ?_ | refine S_auto ?_
      refine S_step wants0 (o_slice (by simp only [aev_tmp, aev_const, aev_func, aev_global, at_put, at_none, n_put, reduceIte, Nat.reduceEqDiff, Nat.reduceLT, zq, *]; first | done | rfl) (by simp only [Option.map, aev_tmp, aev_const, at_put, at_none, n_put, reduceIte, Nat.reduceEqDiff, Nat.reduceLT, zq, *]; first | done | rfl) (by simp only [Option.map, aev_tmp, aev_const, at_put, at_none, n_put, reduceIte, Nat.reduceEqDiff, Nat.reduceLT, zq, *]; first | done | rfl) (by simp only [Option.map, aev_tmp, aev_const, at_put, at_none, n_put, reduceIte, Nat.reduceEqDiff, Nat.reduceLT, zq, *]; first | done | rfl) (sl_rowZ (K := kF) (TL rfl) (TL rfl) ⟨rfl, rfl, by decide⟩ hpl)) ?_
      repeat first | refine G_seq ?_ | refine G_reg ?_ | refine N_seq ?_ | refine N_block ?_ | refine G_block ?_ | refine G_skip ?_ | refine G_cT ?_ | refine G_cF ?_ | refine G_ret ?_ | refine U_seq_ret ?_ | refine U_block_ret ?_ | refine U_nil ?_ | refine S_nil ?_ | refine S_auto ?_
      refine FQ_in (by first | exact .inr rfl | exact .inl rfl) (by first | exact ares1 (by simp only [at_put, at_none, n_put, reduceIte, Nat.reduceEqDiff, Nat.reduceLT, zq, *]; first | done | rfl) | exact ares2 (by simp only [at_put, at_none, n_put, reduceIte, Nat.reduceEqDiff, Nat.reduceLT, zq, *]; first | done | rfl) (by simp only [at_put, at_none, n_put, reduceIte, Nat.reduceEqDiff, Nat.reduceLT, zq, *]; first | done | rfl)) ?_
      exact ⟨js4, by rw [hdl]; rfl, q2, by rw [q3]; exact hk.1, fun q hq hn => by rw [q4 q (by simpa using hn), hk.2 q hq hn]⟩
end
end Go.Proofs.Yteffhomollmpdaa.AM.SX

/- Robin: of like connections the first; the flows that count. -/
namespace Go.Proofs.Yteffhomollmpdaa.AM.SX
open Go
set_option linter.unusedVariables false
set_option linter.unusedSimpArgs false
set_option maxRecDepth 100000
set_option maxHeartbeats 4000000
attribute [local irreducible] astep0 aev awants abin abuild
def compN (l : List Fl) : Nat → List Fl
  | 0 => []
  | i + 1 => compN l i ++ (if 0 < i ∧ (l.getD i (0, 0)).1 = (l.getD (i - 1) (0, 0)).1 then [] else [l.getD i (0, 0)])
def compF (l : List Fl) : List Fl := compN l l.length
theorem getD_at {l : List Fl} {i : Nat} (hi : i < l.length) : l.getD i (0, 0) = l[i] := by
  rw [List.getD_eq_getElem?_getD, List.getElem?_eq_getElem hi]; rfl
theorem compN_same {l : List Fl} {i : Nat} (hi : i + 1 < l.length) (he : l[i + 1].1 = l[i].1) : compN l (i + 2) = compN l (i + 1) := by
  show compN l (i + 1) ++ (if 0 < i + 1 ∧ (l.getD (i + 1) (0, 0)).1 = (l.getD i (0, 0)).1 then [] else [l.getD (i + 1) (0, 0)]) = _
  rw [getD_at hi, getD_at (by omega), if_pos ⟨by omega, he⟩, List.append_nil]
theorem compN_new {l : List Fl} {i : Nat} (hi : i + 1 < l.length) (he : ¬ l[i + 1].1 = l[i].1) : compN l (i + 2) = compN l (i + 1) ++ [l[i + 1]] := by
  show compN l (i + 1) ++ (if 0 < i + 1 ∧ (l.getD (i + 1) (0, 0)).1 = (l.getD i (0, 0)).1 then [] else [l.getD (i + 1) (0, 0)]) = _
  rw [getD_at hi, getD_at (by omega), if_neg (fun h => he h.2)]
theorem compN_take {l : List Fl} : ∀ {k : Nat}, k ≤ l.length → (∀ (q : Nat) (hq : q + 1 < l.length), q + 1 < k → l[q + 1].1 ≠ l[q].1) → compN l k = l.take k
  | 0, _, _ => rfl
  | 1, hk, _ => by
    show [] ++ (if 0 < 0 ∧ _ then [] else [l.getD 0 (0, 0)]) = _
    rw [if_neg (fun h => absurd h.1 (Nat.lt_irrefl _)), getD_at hk]
    cases l with
    | nil => cases hk
    | cons x l => rfl
  | k + 2, hk, h => by
    rw [compN_new (by omega) (h k (by omega) (by omega)), compN_take (by omega) (fun q hq hqk => h q hq (by omega)), List.take_succ_eq_append_getElem (i := k + 1) (by omega)]
section
variable {n : Nat} {h : AHeap}
theorem compact0_spec {A : Option Addr} {m c : Nat} {f : Value} (hm : m < 2) : C EE (n + 1) 26 [.slice A m c, f] h fun r h' => r = .slice A m c ∧ h' = h := by
  refine C_in (E_X _) F_compact rfl rfl rfl ?_
  intro a hna hat
  have e0 := hat 0 _ rfl
  have e1 := hat 1 _ rfl
  replace hna : a.n = 66 := hna
  clear hat
  have c1 : ((m : Int) < 2) = True := eq_true (by omega)
  clear hm
  repeat first | refine G_seq ?_ | refine G_reg ?_ | refine N_seq ?_ | refine N_block ?_ | refine G_block ?_ | refine G_skip ?_ | refine G_cT ?_ | refine G_cF ?_ | refine G_ret ?_ | refine U_seq_ret ?_ | refine U_block_ret ?_ | refine U_nil ?_ | refine S_nil ?_ | refine S_auto ?_
  refine S_step wants0 (o_builtin (by simp only [List.map, aev_tmp, aev_const, aev_func, aev_global, at_put, at_none, n_put, reduceIte, Nat.reduceEqDiff, Nat.reduceLT, zq, *]; first | done | rfl) (lenS (TL rfl))) ?_
  repeat first | refine G_seq ?_ | refine G_reg ?_ | refine N_seq ?_ | refine N_block ?_ | refine G_block ?_ | refine G_skip ?_ | refine G_cT ?_ | refine G_cF ?_ | refine G_ret ?_ | refine U_seq_ret ?_ | refine U_block_ret ?_ | refine U_nil ?_ | refine S_nil ?_ | refine S_auto ?_
  refine FQ_in (by first | exact .inr rfl | exact .inl rfl) (by first | exact ares1 (by simp only [at_put, at_none, n_put, reduceIte, Nat.reduceEqDiff, Nat.reduceLT, zq, *]; first | done | rfl) | exact ares2 (by simp only [at_put, at_none, n_put, reduceIte, Nat.reduceEqDiff, Nat.reduceLT, zq, *]; first | done | rfl) (by simp only [at_put, at_none, n_put, reduceIte, Nat.reduceEqDiff, Nat.reduceLT, zq, *]; first | done | rfl)) ?_
  exact ⟨rfl, rfl⟩
theorem compact_spec {bk : Nat} {l js : List Fl} (hb : h.get bk = some (.cells (kF.fl (l ++ js)) true)) (hbl : bk < h.next) (hn : l.length + 6 ≤ n) (hl : l.length < 1000000) (h2 : 2 ≤ l.length) : C EE (n + 1) 26 [.slice (some ⟨bk, 0, none⟩) l.length (CAPX + kF.sz), .func (.func 27) #[] #[]] h fun r h' => ∃ js', r = .slice (some ⟨bk, 0, none⟩) (compF l).length (CAPX + kF.sz) ∧ h'.get bk = some (.cells (kF.fl (compF l ++ js')) true) ∧ Keep h h' [bk] := by
  refine C_in (E_X _) F_compact rfl rfl rfl ?_
  intro a hna hat
  have e0 := hat 0 _ rfl
  have e1 := hat 1 _ rfl
  replace hna : a.n = 66 := hna
  clear hat
  have c1 : ((l.length : Int) < 2) = False := eq_false (by omega)
  obtain ⟨m, rfl⟩ : ∃ m, n = m + 1 := ⟨n - 1, by omega⟩
  repeat first | refine G_seq ?_ | refine G_reg ?_ | refine N_seq ?_ | refine N_block ?_ | refine G_block ?_ | refine G_skip ?_ | refine G_cT ?_ | refine G_cF ?_ | refine G_ret ?_ | refine U_seq_ret ?_ | refine U_block_ret ?_ | refine U_nil ?_ | refine S_nil ?_ | refine S_auto ?_
  refine S_step wants0 (o_builtin (by simp only [List.map, aev_tmp, aev_const, aev_func, aev_global, at_put, at_none, n_put, reduceIte, Nat.reduceEqDiff, Nat.reduceLT, zq, *]; first | done | rfl) (lenS (TL rfl))) ?_
  repeat first | refine G_seq ?_ | refine G_reg ?_ | refine N_seq ?_ | refine N_block ?_ | refine G_block ?_ | refine G_skip ?_ | refine G_cT ?_ | refine G_cF ?_ | refine G_ret ?_ | refine U_seq_ret ?_ | refine U_block_ret ?_ | refine U_nil ?_ | refine S_nil ?_ | refine S_auto ?_
  refine G_loop (fun j a h' => ∃ k : Nat, k + 1 + j = l.length ∧ a.n = 66 ∧ a.at 0 = .slice (some ⟨bk, 0, none⟩) l.length (CAPX + kF.sz) ∧ a.at 1 = .func (.func 27) #[] #[] ∧ a.at 5 = .int .i64 ((k + 1 : Nat) : Int) ∧ h'.get bk = some (.cells (kF.fl (l ++ js)) true) ∧ Keep h h' [bk] ∧ ∀ (q : Nat) (hq : q + 1 < l.length), q + 1 < k + 1 → l[q + 1].1 ≠ l[q].1) (l.length - 1) (by omega) ⟨0, by omega, by simp only [at_put, at_none, n_put, reduceIte, Nat.reduceEqDiff, Nat.reduceLT, zq, *]; first | done | rfl, by simp only [at_put, at_none, n_put, reduceIte, Nat.reduceEqDiff, Nat.reduceLT, zq, *]; first | done | rfl, by simp only [at_put, at_none, n_put, reduceIte, Nat.reduceEqDiff, Nat.reduceLT, zq, *]; first | done | rfl, by simp only [at_put, at_none, n_put, reduceIte, Nat.reduceEqDiff, Nat.reduceLT, zq, *]; first | done | rfl, hb, Keep.refl _ _, fun q hq h0 => absurd h0 (by omega)⟩ ?_
  clear e0 e1 hna c1
  rintro j a h' ⟨k, hkj, hna, e0, e1, e5, hrow, hk, hq⟩
  have hbl' : bk < h'.next := Nat.lt_of_lt_of_le hbl hk.1
  repeat first | refine G_seq ?_ | refine G_reg ?_ | refine N_seq ?_ | refine N_block ?_ | refine G_block ?_ | refine G_skip ?_ | refine G_cT ?_ | refine G_cF ?_ | refine G_ret ?_ | refine U_seq_ret ?_ | refine U_block_ret ?_ | refine U_nil ?_ | refine S_nil ?_ | refine S_auto ?_
  refine S_step wants0 (o_builtin (by simp only [List.map, aev_tmp, aev_const, aev_func, aev_global, at_put, at_none, n_put, reduceIte, Nat.reduceEqDiff, Nat.reduceLT, zq, *]; first | done | rfl) (lenS (TL rfl))) ?_
  by_cases hkl : k + 1 < l.length
  · have hkl' : (((k + 1 : Nat) : Int) < (l.length : Int)) = True := eq_true (by omega)
    have hsub : ((k + 1 : Nat) : Int) - 1 = (k : Int) := by omega
    have i1 : aindexAddr EE.T 29 (.slice (some ⟨bk, 0, none⟩) l.length (CAPX + kF.sz)) (.int .i64 ((k + 1 : Nat) : Int)) = some (.pointer (some ⟨bk, (k + 1) * kF.sz, none⟩)) := ix_row0 (TL rfl) (TL rfl) ⟨rfl, rfl, by decide⟩ hkl
    have i0 : aindexAddr EE.T 29 (.slice (some ⟨bk, 0, none⟩) l.length (CAPX + kF.sz)) (.int .i64 (k : Int)) = some (.pointer (some ⟨bk, k * kF.sz, none⟩)) := ix_row0 (TL rfl) (TL rfl) ⟨rfl, rfl, by decide⟩ (by omega)
    have hc1 := cut_at (l := l ++ js) (i := k + 1) (x := l[k + 1]) (by rw [List.getElem?_append_left hkl, List.getElem?_eq_getElem hkl])
    have hc0 := cut_at (l := l ++ js) (i := k) (x := l[k]) (by rw [List.getElem?_append_left (by omega), List.getElem?_eq_getElem (by omega)])
    have hvx : ∀ x : Fl, veq (.agg ⟨kF.enc x⟩) (.agg ⟨kF.enc x⟩) = true := fun x => veq_self rfl
    repeat first | refine G_seq ?_ | refine G_reg ?_ | refine N_seq ?_ | refine N_block ?_ | refine G_block ?_ | refine G_skip ?_ | refine G_cT ?_ | refine G_cF ?_ | refine G_ret ?_ | refine U_seq_ret ?_ | refine U_block_ret ?_ | refine U_nil ?_ | refine S_nil ?_ | refine S_auto ?_
    refine G_draw [] [] (by kernel_rfl) ?_
    repeat first | refine D1_nil0 ?_ | refine D2_nil ?_ | refine D_pure ?_ | refine D_rd ?_ | refine D2_pure' ?_
    refine D1_pure wants0 rfl rfl (fun _ _ => o_indexAddr (by simp only [aev_tmp, aev_const, aev_func, aev_global, at_put, at_none, n_put, reduceIte, Nat.reduceEqDiff, Nat.reduceLT, zq, *]; first | done | rfl) (by simp only [aev_tmp, aev_const, aev_func, aev_global, at_put, at_none, n_put, reduceIte, Nat.reduceEqDiff, Nat.reduceLT, zq, *]; first | done | rfl) i1) ?_
    refine D1_rd wants0 rfl rfl (fun _ => o_ldA (by simp only [aev_tmp, aev_const, aev_func, aev_global, at_put, at_none, n_put, reduceIte, Nat.reduceEqDiff, Nat.reduceLT, zq, *]; first | done | rfl) (TL rfl) rfl (rd_cells (by simp (disch := omega) only [get_set_self, get_new_self, get_set_ne, get_new_ne, get_bump, next_set, next_new, Nat.lt_irrefl, reduceIte, next_kill, next_bump, *]; first | done | rfl)) hc1) (hvx _) ?_
    repeat first | refine D1_nil0 ?_ | refine D2_nil ?_ | refine D_pure ?_ | refine D_rd ?_ | refine D2_pure' ?_
    rw [hsub]
    refine D1_pure wants0 rfl rfl (fun _ _ => o_indexAddr (by simp only [aev_tmp, aev_const, aev_func, aev_global, at_put, at_none, n_put, reduceIte, Nat.reduceEqDiff, Nat.reduceLT, zq, *]; first | done | rfl) (by simp only [aev_tmp, aev_const, aev_func, aev_global, at_put, at_none, n_put, reduceIte, Nat.reduceEqDiff, Nat.reduceLT, zq, *]; first | done | rfl) i0) ?_
    refine D1_rd wants0 rfl rfl (fun _ => o_ldA (by simp only [aev_tmp, aev_const, aev_func, aev_global, at_put, at_none, n_put, reduceIte, Nat.reduceEqDiff, Nat.reduceLT, zq, *]; first | done | rfl) (TL rfl) rfl (rd_cells (by simp (disch := omega) only [get_set_self, get_new_self, get_set_ne, get_new_ne, get_bump, next_set, next_new, Nat.lt_irrefl, reduceIte, next_kill, next_bump, *]; first | done | rfl)) hc0) (hvx _) ?_
    refine D1_call wants0 rfl (by simp only [aev_tmp, aev_const, aev_func, aev_global, at_put, at_none, n_put, reduceIte, Nat.reduceEqDiff, Nat.reduceLT, zq, *]; first | done | rfl) (E_Y _) (by simp only [List.map, aev_tmp, aev_const, aev_func, aev_global, at_put, at_none, n_put, reduceIte, Nat.reduceEqDiff, Nat.reduceLT, zq, *]; first | done | rfl) ?_
    refine (flows2_spec l[k + 1] l[k]).mono ?_
    rintro r g1 ⟨rfl, hkg⟩
    refine ⟨.nil, ?_⟩
    have hkg2 : Keep h' g1 [] := (Keep.bump h' _ []).trans hkg fun q hq => .inl hq
    have hrow1 := (hkg2.2 bk hbl' (by simp)).trans hrow
    have hkk : Keep h g1 [bk] := hk.trans hkg2 fun q hq => by cases hq
    clear hkg hrow hk i0 hc1 hc0
    by_cases heq : l[k + 1].1 = l[k].1
    · have hsl := sl_row (K := kF) (T := EE.T) (h := g1) (bk := bk) (L := l.length) (lo := some (.int .i64 ((k + 1 : Nat) : Int))) (hi := none) (st := 29) (TL rfl) (TL rfl) ⟨rfl, rfl, by decide⟩ (optNat_int _ _) (optNat_none _) (Nat.le_of_lt hkl) (Nat.le_refl _)
      have hL2 : k + 1 + (l.length - (k + 1)) = l.length := by omega
      have hD0 : DFR l js (l ++ js) (compN l (k + 1 + 0 + 1)) (k + 1) (k + 1 + 0) := by
        refine ⟨rfl, ?_, rfl, Nat.le_refl _, Nat.le_of_lt hkl⟩
        rw [show k + 1 + 0 + 1 = k + 2 by omega, compN_same hkl heq, compN_take (Nat.le_of_lt hkl) hq, List.take_append_of_le_length (Nat.le_of_lt hkl)]
      generalize hL2e : l.length - (k + 1) = L2 at *
      clear hq
      repeat first | refine D1_nil0 ?_ | refine D2_nil ?_ | refine D_pure ?_ | refine D_rd ?_ | refine D2_pure' ?_
      repeat first | refine G_seq ?_ | refine G_reg ?_ | refine N_seq ?_ | refine N_block ?_ | refine G_block ?_ | refine G_skip ?_ | refine G_cT ?_ | refine G_cF ?_ | refine G_ret ?_ | refine U_seq_ret ?_ | refine U_block_ret ?_ | refine U_nil ?_ | refine S_nil ?_ | refine S_auto ?_
      refine S_step wants0 (o_slice (by simp only [aev_tmp, aev_const, aev_func, aev_global, at_put, at_none, n_put, reduceIte, Nat.reduceEqDiff, Nat.reduceLT, zq, *]; first | done | rfl) (by simp only [Option.map, aev_tmp, aev_const, at_put, at_none, n_put, reduceIte, Nat.reduceEqDiff, Nat.reduceLT, zq, *]; first | done | rfl) (by simp only [Option.map, aev_tmp, aev_const, at_put, at_none, n_put, reduceIte, Nat.reduceEqDiff, Nat.reduceLT, zq, *]; first | done | rfl) (by simp only [Option.map, aev_tmp, aev_const, at_put, at_none, n_put, reduceIte, Nat.reduceEqDiff, Nat.reduceLT, zq, *]; first | done | rfl) hsl) ?_
      clear hsl
      repeat first | refine G_seq ?_ | refine G_reg ?_ | refine N_seq ?_ | refine N_block ?_ | refine G_block ?_ | refine G_skip ?_ | refine G_cT ?_ | refine G_cF ?_ | refine G_ret ?_ | refine U_seq_ret ?_ | refine U_block_ret ?_ | refine U_nil ?_ | refine S_nil ?_ | refine S_auto ?_
      refine G_loop (fun j2 a h3 => ∃ (p e : Nat) (cur : List Fl), e + 1 + j2 = L2 ∧ a.n = 66 ∧ a.at 0 = .slice (some ⟨bk, 0, none⟩) l.length (CAPX + kF.sz) ∧ a.at 1 = .func (.func 27) #[] #[] ∧ a.at 5 = .int .i64 (p : Int) ∧ a.at 6 = .slice (some ⟨bk, (k + 1) * kF.sz, none⟩) L2 (CAPX + kF.sz) ∧ a.at 7 = .int .i64 ((e + 1 : Nat) : Int) ∧ DFR l js cur (compN l (k + 1 + e + 1)) p (k + 1 + e) ∧ h3.get bk = some (.cells (kF.fl cur) true) ∧ Keep h h3 [bk]) (L2 - 1) (by omega) ⟨k + 1, 0, l ++ js, by omega, by simp only [at_put, at_none, n_put, reduceIte, Nat.reduceEqDiff, Nat.reduceLT, zq, *]; first | done | rfl, by simp only [at_put, at_none, n_put, reduceIte, Nat.reduceEqDiff, Nat.reduceLT, zq, *]; first | done | rfl, by simp only [at_put, at_none, n_put, reduceIte, Nat.reduceEqDiff, Nat.reduceLT, zq, *]; first | done | rfl, by simp only [at_put, at_none, n_put, reduceIte, Nat.reduceEqDiff, Nat.reduceLT, zq, *]; first | done | rfl, by simp only [at_put, at_none, n_put, reduceIte, Nat.reduceEqDiff, Nat.reduceLT, zq, *]; first | done | rfl, by simp only [at_put, at_none, n_put, reduceIte, Nat.reduceEqDiff, Nat.reduceLT, zq, *]; first | done | rfl, hD0, hrow1, hkk⟩ ?_
      clear e0 e1 e5 hna hD0 hrow1 hkk hkg2 hbl' i1 heq hsub hkl'
      rintro j2 a h' ⟨p, e, cur, hej, hna, e0, e1, e5, e6, e7, hD, hrow, hk⟩
      have hbl' : bk < h'.next := Nat.lt_of_lt_of_le hbl hk.1
      repeat first | refine G_seq ?_ | refine G_reg ?_ | refine N_seq ?_ | refine N_block ?_ | refine G_block ?_ | refine G_skip ?_ | refine G_cT ?_ | refine G_cF ?_ | refine G_ret ?_ | refine U_seq_ret ?_ | refine U_block_ret ?_ | refine U_nil ?_ | refine S_nil ?_ | refine S_auto ?_
      refine S_step wants0 (o_builtin (by simp only [List.map, aev_tmp, aev_const, aev_func, aev_global, at_put, at_none, n_put, reduceIte, Nat.reduceEqDiff, Nat.reduceLT, zq, *]; first | done | rfl) (lenS (TL rfl))) ?_
      by_cases hel : e + 1 < L2
      · have hel' : (((e + 1 : Nat) : Int) < (L2 : Int)) = True := eq_true (by omega)
        have hsub : ((e + 1 : Nat) : Int) - 1 = (e : Int) := by omega
        have hq1 : k + 1 + e + 1 < l.length := by omega
        have i1 : aindexAddr EE.T 29 (.slice (some ⟨bk, (k + 1) * kF.sz, none⟩) L2 (CAPX + kF.sz)) (.int .i64 ((e + 1 : Nat) : Int)) = some (.pointer (some ⟨bk, (k + 1 + e + 1) * kF.sz, none⟩)) := by
          rw [ix_row (K := kF) (TL rfl) (TL rfl) ⟨rfl, rfl, by decide⟩ hel, ← Nat.add_mul, Nat.add_assoc (k + 1)]
        have i0 : aindexAddr EE.T 29 (.slice (some ⟨bk, (k + 1) * kF.sz, none⟩) L2 (CAPX + kF.sz)) (.int .i64 (e : Int)) = some (.pointer (some ⟨bk, (k + 1 + e) * kF.sz, none⟩)) := by
          rw [ix_row (K := kF) (TL rfl) (TL rfl) ⟨rfl, rfl, by decide⟩ (by omega), ← Nat.add_mul]
        have hc1 := cut_at (hD.at (q := k + 1 + e + 1) (by omega) hq1)
        have hc0 := cut_at (hD.at (q := k + 1 + e) (Nat.le_refl _) (by omega))
        have hpl : p < l.length := by have := hD.le; omega
        repeat first | refine G_seq ?_ | refine G_reg ?_ | refine N_seq ?_ | refine N_block ?_ | refine G_block ?_ | refine G_skip ?_ | refine G_cT ?_ | refine G_cF ?_ | refine G_ret ?_ | refine U_seq_ret ?_ | refine U_block_ret ?_ | refine U_nil ?_ | refine S_nil ?_ | refine S_auto ?_
        refine G_draw [] [] (by kernel_rfl) ?_
        repeat first | refine D1_nil0 ?_ | refine D2_nil ?_ | refine D_pure ?_ | refine D_rd ?_ | refine D2_pure' ?_
        refine D1_pure wants0 rfl rfl (fun _ _ => o_indexAddr (by simp only [aev_tmp, aev_const, aev_func, aev_global, at_put, at_none, n_put, reduceIte, Nat.reduceEqDiff, Nat.reduceLT, zq, *]; first | done | rfl) (by simp only [aev_tmp, aev_const, aev_func, aev_global, at_put, at_none, n_put, reduceIte, Nat.reduceEqDiff, Nat.reduceLT, zq, *]; first | done | rfl) i1) ?_
        refine D1_rd wants0 rfl rfl (fun _ => o_ldA (by simp only [aev_tmp, aev_const, aev_func, aev_global, at_put, at_none, n_put, reduceIte, Nat.reduceEqDiff, Nat.reduceLT, zq, *]; first | done | rfl) (TL rfl) rfl (rd_cells (by simp (disch := omega) only [get_set_self, get_new_self, get_set_ne, get_new_ne, get_bump, next_set, next_new, Nat.lt_irrefl, reduceIte, next_kill, next_bump, *]; first | done | rfl)) hc1) (hvx _) ?_
        repeat first | refine D1_nil0 ?_ | refine D2_nil ?_ | refine D_pure ?_ | refine D_rd ?_ | refine D2_pure' ?_
        rw [hsub]
        refine D1_pure wants0 rfl rfl (fun _ _ => o_indexAddr (by simp only [aev_tmp, aev_const, aev_func, aev_global, at_put, at_none, n_put, reduceIte, Nat.reduceEqDiff, Nat.reduceLT, zq, *]; first | done | rfl) (by simp only [aev_tmp, aev_const, aev_func, aev_global, at_put, at_none, n_put, reduceIte, Nat.reduceEqDiff, Nat.reduceLT, zq, *]; first | done | rfl) i0) ?_
        refine D1_rd wants0 rfl rfl (fun _ => o_ldA (by simp only [aev_tmp, aev_const, aev_func, aev_global, at_put, at_none, n_put, reduceIte, Nat.reduceEqDiff, Nat.reduceLT, zq, *]; first | done | rfl) (TL rfl) rfl (rd_cells (by simp (disch := omega) only [get_set_self, get_new_self, get_set_ne, get_new_ne, get_bump, next_set, next_new, Nat.lt_irrefl, reduceIte, next_kill, next_bump, *]; first | done | rfl)) hc0) (hvx _) ?_
        refine D1_call wants0 rfl (by simp only [aev_tmp, aev_const, aev_func, aev_global, at_put, at_none, n_put, reduceIte, Nat.reduceEqDiff, Nat.reduceLT, zq, *]; first | done | rfl) (E_Y _) (by simp only [List.map, aev_tmp, aev_const, aev_func, aev_global, at_put, at_none, n_put, reduceIte, Nat.reduceEqDiff, Nat.reduceLT, zq, *]; first | done | rfl) ?_
        refine (flows2_spec l[k + 1 + e + 1] l[k + 1 + e]).mono ?_
        rintro r g1 ⟨rfl, hkg⟩
        refine ⟨.nil, ?_⟩
        have hkg2 : Keep h' g1 [] := (Keep.bump h' _ []).trans hkg fun q hq => .inl hq
        have hrow1 := (hkg2.2 bk hbl' (by simp)).trans hrow
        have hkk : Keep h g1 [bk] := hk.trans hkg2 fun q hq => by cases hq
        clear hkg hrow hk i0 hc0
        by_cases heq : l[k + 1 + e + 1].1 = l[k + 1 + e].1
        · have hD2 := hD.skip (by omega)
          rw [← compN_same hq1 heq] at hD2
          clear hD hc1 i1
          repeat first | refine D1_nil0 ?_ | refine D2_nil ?_ | refine D_pure ?_ | refine D_rd ?_ | refine D2_pure' ?_
          repeat first | refine G_seq ?_ | refine G_reg ?_ | refine N_seq ?_ | refine N_block ?_ | refine G_block ?_ | refine G_skip ?_ | refine G_cT ?_ | refine G_cF ?_ | refine G_ret ?_ | refine U_seq_ret ?_ | refine U_block_ret ?_ | refine U_nil ?_ | refine S_nil ?_ | refine S_auto ?_
          refine N_nil ?_
          exact LQ_n (j2 - 1) (by omega) ⟨p, e + 1, cur, by omega, by simp only [at_put, at_none, n_put, reduceIte, Nat.reduceEqDiff, Nat.reduceLT, zq, *]; first | done | rfl, by simp only [at_put, at_none, n_put, reduceIte, Nat.reduceEqDiff, Nat.reduceLT, zq, *]; first | done | rfl, by simp only [at_put, at_none, n_put, reduceIte, Nat.reduceEqDiff, Nat.reduceLT, zq, *]; first | done | rfl, by simp only [at_put, at_none, n_put, reduceIte, Nat.reduceEqDiff, Nat.reduceLT, zq, *]; first | done | rfl, by simp only [at_put, at_none, n_put, reduceIte, Nat.reduceEqDiff, Nat.reduceLT, zq, *]; first | done | rfl, by rw [Int.natCast_add (e + 1)]; simp only [at_put, at_none, n_put, reduceIte, Nat.reduceEqDiff, Nat.reduceLT, zq, *]; first | done | rfl, hD2, hrow1, hkk⟩
        · have hD2 := hD.put (by omega) l[k + 1 + e + 1]
          rw [← compN_new hq1 heq] at hD2
          have i2 : aindexAddr EE.T 29 (.slice (some ⟨bk, 0, none⟩) l.length (CAPX + kF.sz)) (.int .i64 (p : Int)) = some (.pointer (some ⟨bk, p * kF.sz, none⟩)) := ix_row0 (TL rfl) (TL rfl) ⟨rfl, rfl, by decide⟩ hpl
          have hp1 := put_row (K := kF) (x := l[k + 1 + e + 1]) (hD.ilt (by omega))
          clear hD
          repeat first | refine D1_nil0 ?_ | refine D2_nil ?_ | refine D_pure ?_ | refine D_rd ?_ | refine D2_pure' ?_
          repeat first | refine G_seq ?_ | refine G_reg ?_ | refine N_seq ?_ | refine N_block ?_ | refine G_block ?_ | refine G_skip ?_ | refine G_cT ?_ | refine G_cF ?_ | refine G_ret ?_ | refine U_seq_ret ?_ | refine U_block_ret ?_ | refine U_nil ?_ | refine S_nil ?_ | refine S_auto ?_
          refine S_step wants0 (o_indexAddr (by simp only [aev_tmp, aev_const, aev_func, aev_global, at_put, at_none, n_put, reduceIte, Nat.reduceEqDiff, Nat.reduceLT, zq, *]; first | done | rfl) (by simp only [aev_tmp, aev_const, aev_func, aev_global, at_put, at_none, n_put, reduceIte, Nat.reduceEqDiff, Nat.reduceLT, zq, *]; first | done | rfl) i1) ?_
          refine S_step wants0 (o_ldA (by simp only [aev_tmp, aev_const, aev_func, aev_global, at_put, at_none, n_put, reduceIte, Nat.reduceEqDiff, Nat.reduceLT, zq, *]; first | done | rfl) (TL rfl) rfl (rd_cells hrow1) hc1) ?_
          refine S_step wants0 (o_indexAddr (by simp only [aev_tmp, aev_const, aev_func, aev_global, at_put, at_none, n_put, reduceIte, Nat.reduceEqDiff, Nat.reduceLT, zq, *]; first | done | rfl) (by simp only [aev_tmp, aev_const, aev_func, aev_global, at_put, at_none, n_put, reduceIte, Nat.reduceEqDiff, Nat.reduceLT, zq, *]; first | done | rfl) i2) ?_
          refine S_step wants0 (o_st (by simp only [aev_tmp, aev_const, aev_func, aev_global, at_put, at_none, n_put, reduceIte, Nat.reduceEqDiff, Nat.reduceLT, zq, *]; first | done | rfl) (by simp only [aev_tmp, aev_const, aev_func, aev_global, at_put, at_none, n_put, reduceIte, Nat.reduceEqDiff, Nat.reduceLT, zq, *]; first | done | rfl) (TL rfl) rfl hrow1 rfl hp1) ?_
          repeat first | refine G_seq ?_ | refine G_reg ?_ | refine N_seq ?_ | refine N_block ?_ | refine G_block ?_ | refine G_skip ?_ | refine G_cT ?_ | refine G_cF ?_ | refine G_ret ?_ | refine U_seq_ret ?_ | refine U_block_ret ?_ | refine U_nil ?_ | refine S_nil ?_ | refine S_auto ?_
          refine N_nil ?_
          refine LQ_n (j2 - 1) (by omega) ⟨p + 1, e + 1, cur.set p l[k + 1 + e + 1], by omega, by simp only [at_put, at_none, n_put, reduceIte, Nat.reduceEqDiff, Nat.reduceLT, zq, *]; first | done | rfl, by simp only [at_put, at_none, n_put, reduceIte, Nat.reduceEqDiff, Nat.reduceLT, zq, *]; first | done | rfl, by simp only [at_put, at_none, n_put, reduceIte, Nat.reduceEqDiff, Nat.reduceLT, zq, *]; first | done | rfl, by rw [Int.natCast_add p]; simp only [at_put, at_none, n_put, reduceIte, Nat.reduceEqDiff, Nat.reduceLT, zq, *]; first | done | rfl, by simp only [at_put, at_none, n_put, reduceIte, Nat.reduceEqDiff, Nat.reduceLT, zq, *]; first | done | rfl, by rw [Int.natCast_add (e + 1)]; simp only [at_put, at_none, n_put, reduceIte, Nat.reduceEqDiff, Nat.reduceLT, zq, *]; first | done | rfl, hD2, get_set_self _ _ _, by rw [next_set]; exact hkk.1, fun q hq hn => ?_⟩
          rw [get_set_ne (by simpa using hn), hkk.2 q hq hn]
      · have hel' : (((e + 1 : Nat) : Int) < (L2 : Int)) = False := eq_false (by omega)
        have hlen := hD.len
        have hkept := hD.kept
        rw [show k + 1 + e + 1 = l.length by omega] at hkept
        replace hkept : cur.take p = compF l := hkept
        have hpl : p ≤ l.length := by have := hD.le; omega
        have hcl : l.length ≤ cur.length := by rw [hlen]; simp
        obtain ⟨h4, js4, q1, q2, q3, q4⟩ := cl_rowG (T := EE.T) (st := 29) (nid := h'.next) (ts := []) (c := CAPX + kF.sz) (z0 := ((0, 0) : Fl)) (m := l.length - p) (TL rfl) (TL rfl) rfl hrow (show p + (l.length - p) ≤ cur.length by omega)
        rw [hkept] at q2
        have hdl : (compF l).length = p := by rw [← hkept]; simp; omega
        clear hD
        repeat first | refine G_seq ?_ | refine G_reg ?_ | refine N_seq ?_ | refine N_block ?_ | refine G_block ?_ | refine G_skip ?_ | refine G_cT ?_ | refine G_cF ?_ | refine G_ret ?_ | refine U_seq_ret ?_ | refine U_block_ret ?_ | refine U_nil ?_ | refine S_nil ?_ | refine S_auto ?_
        refine G_exit ?_
        repeat first | refine U_seq_exit ?_ | refine U_nil ?_ | refine LQ_exit ?_ | refine U_block_hit ?_
        repeat first | refine G_seq ?_ | refine G_reg ?_ | refine N_seq ?_ | refine N_block ?_ | refine G_block ?_ | refine G_skip ?_ | refine G_cT ?_ | refine G_cF ?_ | refine G_ret ?_ | refine U_seq_ret ?_ | refine U_block_ret ?_ | refine U_nil ?_ | refine S_nil ?_ | refine S_auto ?_
        refine S_step wants0 (o_slice (by simp only [aev_tmp, aev_const, aev_func, aev_global, at_put, at_none, n_put, reduceIte, Nat.reduceEqDiff, Nat.reduceLT, zq, *]; first | done | rfl) (by simp only [Option.map, aev_tmp, aev_const, at_put, at_none, n_put, reduceIte, Nat.reduceEqDiff, Nat.reduceLT, zq, *]; first | done | rfl) (by simp only [Option.map, aev_tmp, aev_const, at_put, at_none, n_put, reduceIte, Nat.reduceEqDiff, Nat.reduceLT, zq, *]; first | done | rfl) (by simp only [Option.map, aev_tmp, aev_const, at_put, at_none, n_put, reduceIte, Nat.reduceEqDiff, Nat.reduceLT, zq, *]; first | done | rfl) (sl_row (K := kF) (TL rfl) (TL rfl) ⟨rfl, rfl, by decide⟩ (optNat_int _ _) (optNat_none _) hpl (Nat.le_refl _))) ?_
        refine S_step wants0 (o_builtin (by simp only [List.map, aev_tmp, aev_const, aev_func, aev_global, at_put, at_none, n_put, reduceIte, Nat.reduceEqDiff, Nat.reduceLT, zq, *]; first | done | rfl) q1) ?_
        clear q1 hrow
        repeat first | refine G_seq ?_ | refine G_reg ?_ | refine N_seq ?_ | refine N_block ?_ | refine G_block ?_ | refine G_skip ?_ | refine G_cT ?_ | refine G_cF ?_ | refine G_ret ?_ | refine U_seq_ret ?_ | refine U_block_ret ?_ | refine U_nil ?_ | refine S_nil ?_ | refine S_auto ?_
        refine S_step wants0 (o_slice (by simp only [aev_tmp, aev_const, aev_func, aev_global, at_put, at_none, n_put, reduceIte, Nat.reduceEqDiff, Nat.reduceLT, zq, *]; first | done | rfl) (by simp only [Option.map, aev_tmp, aev_const, at_put, at_none, n_put, reduceIte, Nat.reduceEqDiff, Nat.reduceLT, zq, *]; first | done | rfl) (by simp only [Option.map, aev_tmp, aev_const, at_put, at_none, n_put, reduceIte, Nat.reduceEqDiff, Nat.reduceLT, zq, *]; first | done | rfl) (by simp only [Option.map, aev_tmp, aev_const, at_put, at_none, n_put, reduceIte, Nat.reduceEqDiff, Nat.reduceLT, zq, *]; first | done | rfl) (sl_rowZ (K := kF) (TL rfl) (TL rfl) ⟨rfl, rfl, by decide⟩ hpl)) ?_
        repeat first | refine G_seq ?_ | refine G_reg ?_ | refine N_seq ?_ | refine N_block ?_ | refine G_block ?_ | refine G_skip ?_ | refine G_cT ?_ | refine G_cF ?_ | refine G_ret ?_ | refine U_seq_ret ?_ | refine U_block_ret ?_ | refine U_nil ?_ | refine S_nil ?_ | refine S_auto ?_
        refine LQ_ret ?_
        repeat first | refine G_seq ?_ | refine G_reg ?_ | refine N_seq ?_ | refine N_block ?_ | refine G_block ?_ | refine G_skip ?_ | refine G_cT ?_ | refine G_cF ?_ | refine G_ret ?_ | refine U_seq_ret ?_ | refine U_block_ret ?_ | refine U_nil ?_ | refine S_nil ?_ | refine S_auto ?_
        refine FQ_in (by first | exact .inr rfl | exact .inl rfl) (by first | exact ares1 (by simp only [at_put, at_none, n_put, reduceIte, Nat.reduceEqDiff, Nat.reduceLT, zq, *]; first | done | rfl) | exact ares2 (by simp only [at_put, at_none, n_put, reduceIte, Nat.reduceEqDiff, Nat.reduceLT, zq, *]; first | done | rfl) (by simp only [at_put, at_none, n_put, reduceIte, Nat.reduceEqDiff, Nat.reduceLT, zq, *]; first | done | rfl)) ?_
        exact ⟨js4, by rw [hdl]; rfl, q2, by rw [q3]; exact hk.1, fun q hq hn => by rw [q4 q (by simpa using hn), hk.2 q hq hn]⟩
    · repeat first | refine D1_nil0 ?_ | refine D2_nil ?_ | refine D_pure ?_ | refine D_rd ?_ | refine D2_pure' ?_
      have hq' : ∀ (q : Nat) (hq : q + 1 < l.length), q + 1 < k + 1 + 1 → l[q + 1].1 ≠ l[q].1 := fun q hql hqk => by
        rcases Nat.lt_or_ge (q + 1) (k + 1) with h1 | h1
        · exact hq q hql h1
        · obtain rfl : q = k := by omega
          exact heq
      clear hq i1
      repeat first | refine G_seq ?_ | refine G_reg ?_ | refine N_seq ?_ | refine N_block ?_ | refine G_block ?_ | refine G_skip ?_ | refine G_cT ?_ | refine G_cF ?_ | refine G_ret ?_ | refine U_seq_ret ?_ | refine U_block_ret ?_ | refine U_nil ?_ | refine S_nil ?_ | refine S_auto ?_
      refine N_nil ?_
      exact LQ_n (j - 1) (by omega) ⟨k + 1, by omega, by simp only [at_put, at_none, n_put, reduceIte, Nat.reduceEqDiff, Nat.reduceLT, zq, *]; first | done | rfl, by simp only [at_put, at_none, n_put, reduceIte, Nat.reduceEqDiff, Nat.reduceLT, zq, *]; first | done | rfl, by simp only [at_put, at_none, n_put, reduceIte, Nat.reduceEqDiff, Nat.reduceLT, zq, *]; first | done | rfl, by rw [Int.natCast_add (k + 1)]; simp only [at_put, at_none, n_put, reduceIte, Nat.reduceEqDiff, Nat.reduceLT, zq, *]; first | done | rfl, hrow1, hkk, hq'⟩
  · have hkl' : (((k + 1 : Nat) : Int) < (l.length : Int)) = False := eq_false (by omega)
    have hc : compF l = l := by
      unfold compF
      rw [compN_take (Nat.le_refl _) (fun q hql hqk => hq q hql (by omega)), List.take_length]
    clear hq
    repeat first | refine G_seq ?_ | refine G_reg ?_ | refine N_seq ?_ | refine N_block ?_ | refine G_block ?_ | refine G_skip ?_ | refine G_cT ?_ | refine G_cF ?_ | refine G_ret ?_ | refine U_seq_ret ?_ | refine U_block_ret ?_ | refine U_nil ?_ | refine S_nil ?_ | refine S_auto ?_
    refine G_exit ?_
    repeat first | refine U_seq_exit ?_ | refine U_nil ?_ | refine LQ_exit ?_ | refine U_block_hit ?_
    repeat first | refine G_seq ?_ | refine G_reg ?_ | refine N_seq ?_ | refine N_block ?_ | refine G_block ?_ | refine G_skip ?_ | refine G_cT ?_ | refine G_cF ?_ | refine G_ret ?_ | refine U_seq_ret ?_ | refine U_block_ret ?_ | refine U_nil ?_ | refine S_nil ?_ | refine S_auto ?_
    refine FQ_in (by first | exact .inr rfl | exact .inl rfl) (by first | exact ares1 (by simp only [at_put, at_none, n_put, reduceIte, Nat.reduceEqDiff, Nat.reduceLT, zq, *]; first | done | rfl) | exact ares2 (by simp only [at_put, at_none, n_put, reduceIte, Nat.reduceEqDiff, Nat.reduceLT, zq, *]; first | done | rfl) (by simp only [at_put, at_none, n_put, reduceIte, Nat.reduceEqDiff, Nat.reduceLT, zq, *]; first | done | rfl)) ?_
    exact ⟨js, by rw [hc]; rfl, by rw [hc]; exact hrow, hk⟩
end
end Go.Proofs.Yteffhomollmpdaa.AM.SX

/- Robin: Delete; the flows that count. -/
namespace Go.Proofs.Yteffhomollmpdaa.AM.SX
open Go
set_option linter.unusedVariables false
set_option linter.unusedSimpArgs false
set_option maxRecDepth 100000
set_option maxHeartbeats 4000000
attribute [local irreducible] astep0 aev awants abin abuild
def flowsF (l : List Fl) : List Fl := delF (compF (sortF l))
theorem compF_short {l : List Fl} (h : l.length < 2) : compF l = l := by
  unfold compF
  rw [compN_take (Nat.le_refl _) (fun q hq _ => by omega), List.take_length]
theorem compN_len (l : List Fl) : ∀ k, (compN l k).length ≤ k
  | 0 => Nat.le_refl _
  | k + 1 => by
    have := compN_len l k
    show (compN l k ++ _).length ≤ k + 1
    rw [List.length_append]
    split
    · show _ + 0 ≤ _; omega
    · show _ + 1 ≤ _; omega
theorem compF_len (l : List Fl) : (compF l).length ≤ l.length := compN_len l _
section
variable {n : Nat} {h : AHeap}
theorem delete_spec {bk : Nat} {l js : List Fl} {i : Nat} (hb : h.get bk = some (.cells (kF.fl (l ++ js)) true)) (hbl : bk < h.next) (hi : i < l.length) (hl : l.length < 1000000) : C EE (n + 1) 21 [.slice (some ⟨bk, 0, none⟩) l.length (CAPX + kF.sz), .int .i64 (i : Int), .int .i64 ((i : Int) + 1)] h fun r h' => ∃ js', r = .slice (some ⟨bk, 0, none⟩) (l.eraseIdx i).length (CAPX + kF.sz) ∧ h'.get bk = some (.cells (kF.fl (l.eraseIdx i ++ js')) true) ∧ Keep h h' [bk] := by
  have hj : ((i : Int) + 1) = ((i + 1 : Nat) : Int) := by omega
  rw [hj]
  refine C_in (E_X _) F_delete rfl rfl rfl ?_
  intro a hna hat
  have e0 := hat 0 _ rfl
  have e1 := hat 1 _ rfl
  have e2 := hat 2 _ rfl
  replace hna : a.n = 33 := hna
  clear hat
  obtain ⟨r3, hr3⟩ := sl_row3 (K := kF) (T := EE.T) (st := 29) (h := h) (bk := bk) (TL rfl) (TL rfl) ⟨rfl, rfl, by decide⟩ (Nat.le_succ i) (show i + 1 ≤ l.length from hi) hl
  repeat first | refine G_seq ?_ | refine G_reg ?_ | refine N_seq ?_ | refine N_block ?_ | refine G_block ?_ | refine G_skip ?_ | refine G_cT ?_ | refine G_cF ?_ | refine G_ret ?_ | refine U_seq_ret ?_ | refine U_block_ret ?_ | refine U_nil ?_ | refine S_nil ?_ | refine S_auto ?_
  refine S_step wants0 (o_builtin (by simp only [List.map, aev_tmp, aev_const, aev_func, aev_global, at_put, at_none, n_put, reduceIte, Nat.reduceEqDiff, Nat.reduceLT, zq, *]; first | done | rfl) (lenS (TL rfl))) ?_
  refine S_step wants0 (o_slice (by simp only [aev_tmp, aev_const, aev_func, aev_global, at_put, at_none, n_put, reduceIte, Nat.reduceEqDiff, Nat.reduceLT, zq, *]; first | done | rfl) (by simp only [Option.map, aev_tmp, aev_const, at_put, at_none, n_put, reduceIte, Nat.reduceEqDiff, Nat.reduceLT, zq, *]; first | done | rfl) (by simp only [Option.map, aev_tmp, aev_const, at_put, at_none, n_put, reduceIte, Nat.reduceEqDiff, Nat.reduceLT, zq, *]; first | done | rfl) (by simp only [Option.map, aev_tmp, aev_const, at_put, at_none, n_put, reduceIte, Nat.reduceEqDiff, Nat.reduceLT, zq, *]; first | done | rfl) hr3) ?_
  clear hr3
  have hne : ((i : Int) = ((i + 1 : Nat) : Int)) = False := eq_false (by omega)
  repeat first | refine G_seq ?_ | refine G_reg ?_ | refine N_seq ?_ | refine N_block ?_ | refine G_block ?_ | refine G_skip ?_ | refine G_cT ?_ | refine G_cF ?_ | refine G_ret ?_ | refine U_seq_ret ?_ | refine U_block_ret ?_ | refine U_nil ?_ | refine S_nil ?_ | refine S_auto ?_
  refine S_step wants0 (o_builtin (by simp only [List.map, aev_tmp, aev_const, aev_func, aev_global, at_put, at_none, n_put, reduceIte, Nat.reduceEqDiff, Nat.reduceLT, zq, *]; first | done | rfl) (lenS (TL rfl))) ?_
  repeat first | refine G_seq ?_ | refine G_reg ?_ | refine N_seq ?_ | refine N_block ?_ | refine G_block ?_ | refine G_skip ?_ | refine G_cT ?_ | refine G_cF ?_ | refine G_ret ?_ | refine U_seq_ret ?_ | refine U_block_ret ?_ | refine U_nil ?_ | refine S_nil ?_ | refine S_auto ?_
  clear hne
  refine G_draw [] [] (by kernel_rfl) ?_
  obtain ⟨h', g1, g2, g3, g4⟩ := app_rowW (K := kF) (T := EE.T) (st := 29) (nid := h.next + 6) (c := CAPX + kF.sz) (h := bump h 8) (TL rfl) (TL rfl) ⟨rfl, rfl, by decide⟩ hb (Nat.le_succ i) (show i + 1 ≤ l.length from hi) hl
  repeat first | refine D1_nil0 ?_ | refine D2_nil ?_ | refine D_pure ?_ | refine D_rd ?_ | refine D2_pure' ?_
  refine D1_rd wants0 rfl rfl (fun _ => o_slice (by simp only [aev_tmp, aev_const, aev_func, aev_global, at_put, at_none, n_put, reduceIte, Nat.reduceEqDiff, Nat.reduceLT, zq, *]; first | done | rfl) (by simp only [Option.map, aev_tmp, aev_const, at_put, at_none, n_put, reduceIte, Nat.reduceEqDiff, Nat.reduceLT, zq, *]; first | done | rfl) (by simp only [Option.map, aev_tmp, aev_const, at_put, at_none, n_put, reduceIte, Nat.reduceEqDiff, Nat.reduceLT, zq, *]; first | done | rfl) (by simp only [Option.map, aev_tmp, aev_const, at_put, at_none, n_put, reduceIte, Nat.reduceEqDiff, Nat.reduceLT, zq, *]; first | done | rfl) (sl_rowZ (K := kF) (TL rfl) (TL rfl) ⟨rfl, rfl, by decide⟩ (Nat.le_of_lt hi))) (veq_self rfl) ?_
  repeat first | refine D1_nil0 ?_ | refine D2_nil ?_ | refine D_pure ?_ | refine D_rd ?_ | refine D2_pure' ?_
  refine D1_rd wants0 rfl rfl (fun _ => o_slice (by simp only [aev_tmp, aev_const, aev_func, aev_global, at_put, at_none, n_put, reduceIte, Nat.reduceEqDiff, Nat.reduceLT, zq, *]; first | done | rfl) (by simp only [Option.map, aev_tmp, aev_const, at_put, at_none, n_put, reduceIte, Nat.reduceEqDiff, Nat.reduceLT, zq, *]; first | done | rfl) (by simp only [Option.map, aev_tmp, aev_const, at_put, at_none, n_put, reduceIte, Nat.reduceEqDiff, Nat.reduceLT, zq, *]; first | done | rfl) (by simp only [Option.map, aev_tmp, aev_const, at_put, at_none, n_put, reduceIte, Nat.reduceEqDiff, Nat.reduceLT, zq, *]; first | done | rfl) (sl_row (K := kF) (TL rfl) (TL rfl) ⟨rfl, rfl, by decide⟩ (optNat_int _ _) (optNat_none _) hi (Nat.le_refl _))) (veq_self rfl) ?_
  refine D1_wr0 wants0 rfl (o_builtin (by simp only [List.map, aev_tmp, aev_const, aev_func, aev_global, at_put, at_none, n_put, reduceIte, Nat.reduceEqDiff, Nat.reduceLT, zq, *]; first | done | rfl) g1) .nil ?_
  repeat first | refine D1_nil0 ?_ | refine D2_nil ?_ | refine D_pure ?_ | refine D_rd ?_ | refine D2_pure' ?_
  repeat first | refine G_seq ?_ | refine G_reg ?_ | refine N_seq ?_ | refine N_block ?_ | refine G_block ?_ | refine G_skip ?_ | refine G_cT ?_ | refine G_cF ?_ | refine G_ret ?_ | refine U_seq_ret ?_ | refine U_block_ret ?_ | refine U_nil ?_ | refine S_nil ?_ | refine S_auto ?_
  refine S_step wants0 (o_builtin (by simp only [List.map, aev_tmp, aev_const, aev_func, aev_global, at_put, at_none, n_put, reduceIte, Nat.reduceEqDiff, Nat.reduceLT, zq, *]; first | done | rfl) (lenS (TL rfl))) ?_
  have hcl : (l.take i ++ (l.drop i.succ ++ (l ++ js).drop (i + (l.length - i.succ)))).length = (l ++ js).length := by simp; omega
  have hct : (l.take i ++ (l.drop i.succ ++ (l ++ js).drop (i + (l.length - i.succ)))).take (i + (l.length - i.succ)) = l.eraseIdx i := by
    rw [List.eraseIdx_eq_take_drop_succ, ← List.append_assoc, List.take_append_of_le_length (by simp; omega), List.take_of_length_le (by simp; omega)]
  generalize l.take i ++ (l.drop i.succ ++ (l ++ js).drop (i + (l.length - i.succ))) = cur at g2 hcl hct
  have hcl2 : l.length ≤ cur.length := by rw [hcl]; simp
  have hlen : (l.eraseIdx i).length = i + (l.length - i.succ) := by rw [List.length_eraseIdx_of_lt hi]; omega
  clear g1
  generalize hn1 : i + (l.length - i.succ) = n1 at *
  have hn1l : n1 < l.length := by omega
  obtain ⟨h4, js4, q1, q2, q3, q4⟩ := cl_rowG (T := EE.T) (st := 29) (nid := h'.next) (ts := []) (c := CAPX + kF.sz) (z0 := ((0, 0) : Fl)) (m := l.length - n1) (TL rfl) (TL rfl) rfl g2 (show n1 + (l.length - n1) ≤ cur.length by omega)
  rw [hct] at q2
  repeat first | refine G_seq ?_ | refine G_reg ?_ | refine N_seq ?_ | refine N_block ?_ | refine G_block ?_ | refine G_skip ?_ | refine G_cT ?_ | refine G_cF ?_ | refine G_ret ?_ | refine U_seq_ret ?_ | refine U_block_ret ?_ | refine U_nil ?_ | refine S_nil ?_ | refine S_auto ?_
  refine S_step wants0 (o_slice (by simp only [aev_tmp, aev_const, aev_func, aev_global, at_put, at_none, n_put, reduceIte, Nat.reduceEqDiff, Nat.reduceLT, zq, *]; first | done | rfl) (by simp only [Option.map, aev_tmp, aev_const, at_put, at_none, n_put, reduceIte, Nat.reduceEqDiff, Nat.reduceLT, zq, *]; first | done | rfl) (by simp only [Option.map, aev_tmp, aev_const, at_put, at_none, n_put, reduceIte, Nat.reduceEqDiff, Nat.reduceLT, zq, *]; first | done | rfl) (by simp only [Option.map, aev_tmp, aev_const, at_put, at_none, n_put, reduceIte, Nat.reduceEqDiff, Nat.reduceLT, zq, *]; first | done | rfl) (sl_rowM (K := kF) (TL rfl) (TL rfl) ⟨rfl, rfl, by decide⟩ g2 (Nat.le_of_lt hn1l) hcl2)) ?_
  refine S_step wants0 (o_builtin (by simp only [List.map, aev_tmp, aev_const, aev_func, aev_global, at_put, at_none, n_put, reduceIte, Nat.reduceEqDiff, Nat.reduceLT, zq, *]; first | done | rfl) q1) ?_
  clear q1 g2
  repeat first | refine G_seq ?_ | refine G_reg ?_ | refine N_seq ?_ | refine N_block ?_ | refine G_block ?_ | refine G_skip ?_ | refine G_cT ?_ | refine G_cF ?_ | refine G_ret ?_ | refine U_seq_ret ?_ | refine U_block_ret ?_ | refine U_nil ?_ | refine S_nil ?_ | refine S_auto ?_
  refine FQ_in (by first | exact .inr rfl | exact .inl rfl) (by first | exact ares1 (by simp only [at_put, at_none, n_put, reduceIte, Nat.reduceEqDiff, Nat.reduceLT, zq, *]; first | done | rfl) | exact ares2 (by simp only [at_put, at_none, n_put, reduceIte, Nat.reduceEqDiff, Nat.reduceLT, zq, *]; first | done | rfl) (by simp only [at_put, at_none, n_put, reduceIte, Nat.reduceEqDiff, Nat.reduceLT, zq, *]; first | done | rfl)) ?_
  refine ⟨js4, by rw [hlen]; rfl, q2, by rw [q3, g3]; exact Nat.le_add_right _ _, fun q hq hn => ?_⟩
  have hq : q ≠ bk := by simpa using hn
  rw [q4 q hq, g4 q hq]; rfl
theorem flows_spec {l : List Fl} {v : Value} {O : List Nat} (hv : RowAt kF h l v O) (hO : ∀ i ∈ O, i < h.next) (hl : l.length ≤ 20) (hn : 60 ≤ n) : C EE (n + 1) 19 [v] h fun r h' => Keep h h' [] ∧ ((flowsF l = [] ∧ ∃ A c, r = .slice A 0 c) ∨ ∃ b js, h.next ≤ b ∧ b < h'.next ∧ r = .slice (some ⟨b, 0, none⟩) (flowsF l).length (CAPX + kF.sz) ∧ h'.get b = some (.cells (kF.fl (flowsF l ++ js)) true)) := by
  refine C_in (E_X _) F_flows rfl rfl rfl ?_
  intro a hna hat
  have e0 := hat 0 _ rfl
  replace hna : a.n = 12 := hna
  clear hat
  obtain ⟨m, rfl⟩ : ∃ m, n = m + 1 := ⟨n - 1, by omega⟩
  repeat first | refine G_seq ?_ | refine G_reg ?_ | refine N_seq ?_ | refine N_block ?_ | refine G_block ?_ | refine G_skip ?_ | refine G_cT ?_ | refine G_cF ?_ | refine G_ret ?_ | refine U_seq_ret ?_ | refine U_block_ret ?_ | refine U_nil ?_ | refine S_nil ?_ | refine S_auto ?_
  refine S_call wants0 (by simp only [aev_tmp, aev_const, aev_func, aev_global, at_put, at_none, n_put, reduceIte, Nat.reduceEqDiff, Nat.reduceLT, zq, *]; first | done | rfl) (E_Y _) (by simp only [List.map, aev_tmp, aev_const, aev_func, aev_global, at_put, at_none, n_put, reduceIte, Nat.reduceEqDiff, Nat.reduceLT, zq, *]; first | done | rfl) ?_
  refine (clone_spec (n := m) hv hO (by omega)).mono ?_
  rintro r h1 ⟨hk1, ⟨rfl, A, c, O', rfl, hr, hO'⟩ | ⟨b, js, hb0, hb1, rfl, hrow⟩⟩
  · repeat first | refine G_seq ?_ | refine G_reg ?_ | refine N_seq ?_ | refine N_block ?_ | refine G_block ?_ | refine G_skip ?_ | refine G_cT ?_ | refine G_cF ?_ | refine G_ret ?_ | refine U_seq_ret ?_ | refine U_block_ret ?_ | refine U_nil ?_ | refine S_nil ?_ | refine S_auto ?_
    refine S_call wants0 (by simp only [aev_tmp, aev_const, aev_func, aev_global, at_put, at_none, n_put, reduceIte, Nat.reduceEqDiff, Nat.reduceLT, zq, *]; first | done | rfl) (E_Y _) (by simp only [List.map, aev_tmp, aev_const, aev_func, aev_global, at_put, at_none, n_put, reduceIte, Nat.reduceEqDiff, Nat.reduceLT, zq, *]; first | done | rfl) ?_
    refine (sort0_spec (n := m) (by omega)).mono ?_
    rintro r h2 ⟨rfl, rfl⟩
    repeat first | refine G_seq ?_ | refine G_reg ?_ | refine N_seq ?_ | refine N_block ?_ | refine G_block ?_ | refine G_skip ?_ | refine G_cT ?_ | refine G_cF ?_ | refine G_ret ?_ | refine U_seq_ret ?_ | refine U_block_ret ?_ | refine U_nil ?_ | refine S_nil ?_ | refine S_auto ?_
    refine S_call wants0 (by simp only [aev_tmp, aev_const, aev_func, aev_global, at_put, at_none, n_put, reduceIte, Nat.reduceEqDiff, Nat.reduceLT, zq, *]; first | done | rfl) (E_Y _) (by simp only [List.map, aev_tmp, aev_const, aev_func, aev_global, at_put, at_none, n_put, reduceIte, Nat.reduceEqDiff, Nat.reduceLT, zq, *]; first | done | rfl) ?_
    refine (compact0_spec (n := m) (m := 0) (by omega)).mono ?_
    rintro r h3 ⟨rfl, rfl⟩
    repeat first | refine G_seq ?_ | refine G_reg ?_ | refine N_seq ?_ | refine N_block ?_ | refine G_block ?_ | refine G_skip ?_ | refine G_cT ?_ | refine G_cF ?_ | refine G_ret ?_ | refine U_seq_ret ?_ | refine U_block_ret ?_ | refine U_nil ?_ | refine S_nil ?_ | refine S_auto ?_
    refine S_call wants0 (by simp only [aev_tmp, aev_const, aev_func, aev_global, at_put, at_none, n_put, reduceIte, Nat.reduceEqDiff, Nat.reduceLT, zq, *]; first | done | rfl) (E_Y _) (by simp only [List.map, aev_tmp, aev_const, aev_func, aev_global, at_put, at_none, n_put, reduceIte, Nat.reduceEqDiff, Nat.reduceLT, zq, *]; first | done | rfl) ?_
    refine (deleteFunc0_spec (n := m) hr hO' (by omega)).mono ?_
    rintro r h4 ⟨rfl, hk4⟩
    repeat first | refine G_seq ?_ | refine G_reg ?_ | refine N_seq ?_ | refine N_block ?_ | refine G_block ?_ | refine G_skip ?_ | refine G_cT ?_ | refine G_cF ?_ | refine G_ret ?_ | refine U_seq_ret ?_ | refine U_block_ret ?_ | refine U_nil ?_ | refine S_nil ?_ | refine S_auto ?_
    refine FQ_in (by first | exact .inr rfl | exact .inl rfl) (by first | exact ares1 (by simp only [at_put, at_none, n_put, reduceIte, Nat.reduceEqDiff, Nat.reduceLT, zq, *]; first | done | rfl) | exact ares2 (by simp only [at_put, at_none, n_put, reduceIte, Nat.reduceEqDiff, Nat.reduceLT, zq, *]; first | done | rfl) (by simp only [at_put, at_none, n_put, reduceIte, Nat.reduceEqDiff, Nat.reduceLT, zq, *]; first | done | rfl)) ?_
    exact ⟨hk1.trans hk4 fun i hi => .inl hi, .inl ⟨rfl, _, _, rfl⟩⟩
  · repeat first | refine G_seq ?_ | refine G_reg ?_ | refine N_seq ?_ | refine N_block ?_ | refine G_block ?_ | refine G_skip ?_ | refine G_cT ?_ | refine G_cF ?_ | refine G_ret ?_ | refine U_seq_ret ?_ | refine U_block_ret ?_ | refine U_nil ?_ | refine S_nil ?_ | refine S_auto ?_
    refine S_call wants0 (by simp only [aev_tmp, aev_const, aev_func, aev_global, at_put, at_none, n_put, reduceIte, Nat.reduceEqDiff, Nat.reduceLT, zq, *]; first | done | rfl) (E_Y _) (by simp only [List.map, aev_tmp, aev_const, aev_func, aev_global, at_put, at_none, n_put, reduceIte, Nat.reduceEqDiff, Nat.reduceLT, zq, *]; first | done | rfl) ?_
    refine (sort_spec (n := m) hrow hb1 (by omega) hl).mono ?_
    rintro r h2 ⟨rfl, hrow2, hk2⟩
    have hkk2 : Keep h h2 [] := hk1.fresh hk2 fun i hi => by rw [List.mem_singleton.1 hi]; exact hb0
    have hb2 : b < h2.next := Nat.lt_of_lt_of_le hb1 hk2.1
    have hsl := sortF_len l
    have htail : ∀ (h3 : AHeap) (js3 : List Fl), h3.get b = some (.cells (kF.fl (compF (sortF l) ++ js3)) true) → Keep h h3 [] → b < h3.next → C EE (m + 1) 28 [.slice (some ⟨b, 0, none⟩) (compF (sortF l)).length (CAPX + kF.sz), .func (.func 29) #[] #[]] h3 fun r h' => Keep h h' [] ∧ ((flowsF l = [] ∧ ∃ A c, r = .slice A 0 c) ∨ ∃ b js, h.next ≤ b ∧ b < h'.next ∧ r = .slice (some ⟨b, 0, none⟩) (flowsF l).length (CAPX + kF.sz) ∧ h'.get b = some (.cells (kF.fl (flowsF l ++ js)) true)) := by
      intro h3 js3 hr3 hk3 hb3
      have hcl := compF_len (sortF l)
      refine (deleteFunc_spec (n := m) hr3 hb3 (by omega) (by omega)).mono ?_
      rintro r h4 ⟨js4, rfl, hr4, hk4⟩
      exact ⟨hk3.fresh hk4 fun i hi => by rw [List.mem_singleton.1 hi]; exact hb0, .inr ⟨b, js4, hb0, Nat.lt_of_lt_of_le hb3 hk4.1, rfl, hr4⟩⟩
    repeat first | refine G_seq ?_ | refine G_reg ?_ | refine N_seq ?_ | refine N_block ?_ | refine G_block ?_ | refine G_skip ?_ | refine G_cT ?_ | refine G_cF ?_ | refine G_ret ?_ | refine U_seq_ret ?_ | refine U_block_ret ?_ | refine U_nil ?_ | refine S_nil ?_ | refine S_auto ?_
    refine S_call wants0 (by simp only [aev_tmp, aev_const, aev_func, aev_global, at_put, at_none, n_put, reduceIte, Nat.reduceEqDiff, Nat.reduceLT, zq, *]; first | done | rfl) (E_Y _) (by simp only [List.map, aev_tmp, aev_const, aev_func, aev_global, at_put, at_none, n_put, reduceIte, Nat.reduceEqDiff, Nat.reduceLT, zq, *]; first | done | rfl) ?_
    by_cases hl2 : l.length < 2
    · refine (compact0_spec (n := m) (m := l.length) hl2).mono ?_
      rintro r h3 ⟨rfl, rfl⟩
      have hcs : compF (sortF l) = sortF l := compF_short (by rw [hsl]; exact hl2)
      have ht := htail h3 js (by rw [hcs]; exact hrow2) hkk2 hb2
      rw [hcs, hsl] at ht
      clear htail hsl hcs hl2
      repeat first | refine G_seq ?_ | refine G_reg ?_ | refine N_seq ?_ | refine N_block ?_ | refine G_block ?_ | refine G_skip ?_ | refine G_cT ?_ | refine G_cF ?_ | refine G_ret ?_ | refine U_seq_ret ?_ | refine U_block_ret ?_ | refine U_nil ?_ | refine S_nil ?_ | refine S_auto ?_
      refine S_call wants0 (by simp only [aev_tmp, aev_const, aev_func, aev_global, at_put, at_none, n_put, reduceIte, Nat.reduceEqDiff, Nat.reduceLT, zq, *]; first | done | rfl) (E_Y _) (by simp only [List.map, aev_tmp, aev_const, aev_func, aev_global, at_put, at_none, n_put, reduceIte, Nat.reduceEqDiff, Nat.reduceLT, zq, *]; first | done | rfl) ?_
      refine ht.mono ?_
      rintro r h4 ⟨hk4, hres⟩
      clear ht
      repeat first | refine G_seq ?_ | refine G_reg ?_ | refine N_seq ?_ | refine N_block ?_ | refine G_block ?_ | refine G_skip ?_ | refine G_cT ?_ | refine G_cF ?_ | refine G_ret ?_ | refine U_seq_ret ?_ | refine U_block_ret ?_ | refine U_nil ?_ | refine S_nil ?_ | refine S_auto ?_
      refine FQ_in (by first | exact .inr rfl | exact .inl rfl) (by first | exact ares1 (by simp only [at_put, at_none, n_put, reduceIte, Nat.reduceEqDiff, Nat.reduceLT, zq, *]; first | done | rfl) | exact ares2 (by simp only [at_put, at_none, n_put, reduceIte, Nat.reduceEqDiff, Nat.reduceLT, zq, *]; first | done | rfl) (by simp only [at_put, at_none, n_put, reduceIte, Nat.reduceEqDiff, Nat.reduceLT, zq, *]; first | done | rfl)) ?_
      exact ⟨hk4, hres⟩
    · have hcm := compact_spec (n := m) hrow2 hb2 (by rw [hsl]; omega) (by rw [hsl]; omega) (by rw [hsl]; omega)
      rw [hsl] at hcm
      refine hcm.mono ?_
      rintro r h3 ⟨js3, rfl, hr3, hk3⟩
      have ht := htail h3 js3 hr3 (hkk2.fresh hk3 fun i hi => by rw [List.mem_singleton.1 hi]; exact hb0) (Nat.lt_of_lt_of_le hb2 hk3.1)
      clear htail hsl hcm hl2
      repeat first | refine G_seq ?_ | refine G_reg ?_ | refine N_seq ?_ | refine N_block ?_ | refine G_block ?_ | refine G_skip ?_ | refine G_cT ?_ | refine G_cF ?_ | refine G_ret ?_ | refine U_seq_ret ?_ | refine U_block_ret ?_ | refine U_nil ?_ | refine S_nil ?_ | refine S_auto ?_
      refine S_call wants0 (by simp only [aev_tmp, aev_const, aev_func, aev_global, at_put, at_none, n_put, reduceIte, Nat.reduceEqDiff, Nat.reduceLT, zq, *]; first | done | rfl) (E_Y _) (by simp only [List.map, aev_tmp, aev_const, aev_func, aev_global, at_put, at_none, n_put, reduceIte, Nat.reduceEqDiff, Nat.reduceLT, zq, *]; first | done | rfl) ?_
      refine ht.mono ?_
      rintro r h4 ⟨hk4, hres⟩
      clear ht
      repeat first | refine G_seq ?_ | refine G_reg ?_ | refine N_seq ?_ | refine N_block ?_ | refine G_block ?_ | refine G_skip ?_ | refine G_cT ?_ | refine G_cF ?_ | refine G_ret ?_ | refine U_seq_ret ?_ | refine U_block_ret ?_ | refine U_nil ?_ | refine S_nil ?_ | refine S_auto ?_
      refine FQ_in (by first | exact .inr rfl | exact .inl rfl) (by first | exact ares1 (by simp only [at_put, at_none, n_put, reduceIte, Nat.reduceEqDiff, Nat.reduceLT, zq, *]; first | done | rfl) | exact ares2 (by simp only [at_put, at_none, n_put, reduceIte, Nat.reduceEqDiff, Nat.reduceLT, zq, *]; first | done | rfl) (by simp only [at_put, at_none, n_put, reduceIte, Nat.reduceEqDiff, Nat.reduceLT, zq, *]; first | done | rfl)) ?_
      exact ⟨hk4, hres⟩
end
end Go.Proofs.Yteffhomollmpdaa.AM.SX

/- Robin: a round. -/
namespace Go.Proofs.Yteffhomollmpdaa.AM.SX
open Go
set_option linter.unusedVariables false
set_option linter.unusedSimpArgs false
set_option maxRecDepth 100000
set_option maxHeartbeats 8000000
attribute [local irreducible] astep0 aev awants abin abuild
theorem S_gen {E : Env} {cf : CallF} {ops : Array Oper} {os : List Oper} {a : AAct} {h : AHeap} {Q : AAct → AHeap → Prop} (P : AAct → AHeap → Prop) (hp : P a h) (hh : ∀ a h, P a h → S E cf ops os a h Q) : S E cf ops os a h Q := hh a h hp
def pickI (la : Int) (any : Bool) (lf : List Fl) : Nat := (lf.findIdx? fun x => any && decide (la < x.1)).getD 0
def roundL : Nat → Int → Int → Bool → List Fl → List Fl → Int × Int × Bool × List Fl
  | 0, c, la, any, lf, out => (c, la, any, out)
  | k + 1, c, la, any, lf, out =>
    if lf.length = 0 then (0, la, any, out)
    else if c < min (lf.getD (pickI la any lf) (0, 0)).2 64 then (c, la, any, out)
    else roundL k (c - min (lf.getD (pickI la any lf) (0, 0)).2 64) (lf.getD (pickI la any lf) (0, 0)).1 true
      (if (lf.getD (pickI la any lf) (0, 0)).2 - min (lf.getD (pickI la any lf) (0, 0)).2 64 = 0 then lf.eraseIdx (pickI la any lf) else lf.set (pickI la any lf) ((lf.getD (pickI la any lf) (0, 0)).1, (lf.getD (pickI la any lf) (0, 0)).2 - min (lf.getD (pickI la any lf) (0, 0)).2 64))
      (out ++ [((lf.getD (pickI la any lf) (0, 0)).1, min (lf.getD (pickI la any lf) (0, 0)).2 64)])
theorem idxR_pick {P : Fl → Bool} {l : List Fl} {i : Int} (h : IdxR P l i) : max i 0 = ((l.findIdx? P).getD 0 : Nat) := by
  cases h with
  | none hq =>
    have : l.findIdx? P = none := by
      rw [List.findIdx?_eq_none_iff]
      intro x hx
      obtain ⟨i, hi, rfl⟩ := List.mem_iff_getElem.1 hx
      exact hq i hi
    rw [this]; rfl
  | some i hi he hq =>
    have : l.findIdx? P = some i := by
      rw [List.findIdx?_eq_some_iff_getElem]
      exact ⟨hi, he, fun j hj => by simp [hq j (by omega) hj]⟩
    rw [this]
    show max (i : Int) 0 = (i : Int)
    omega
theorem pickI_lt {la : Int} {any : Bool} {lf : List Fl} (h : 0 < lf.length) : pickI la any lf < lf.length := by
  unfold pickI
  cases hf : lf.findIdx? fun x => any && decide (la < x.1) with
  | none => exact h
  | some i => exact (List.findIdx?_eq_some_iff_getElem.1 hf).1
/-- what is left: its value -/
def LeftAt (base : Nat) (O : List Nat) (h : AHeap) (lf : List Fl) (v : Value) : Prop :=
  (lf = [] ∧ ∃ A c, v = .slice A 0 c) ∨ ∃ bl js, base ≤ bl ∧ bl < h.next ∧ bl ∉ O ∧ v = .slice (some ⟨bl, 0, none⟩) lf.length (CAPX + kF.sz) ∧ h.get bl = some (.cells (kF.fl (lf ++ js)) true)
theorem LeftAt.len {base : Nat} {O : List Nat} {h : AHeap} {lf : List Fl} {v : Value} (hv : LeftAt base O h lf v) : ∃ A c, v = .slice A lf.length c := by
  rcases hv with ⟨rfl, A, c, rfl⟩ | ⟨bl, js, _, _, _, rfl, _⟩
  · exact ⟨A, c, rfl⟩
  · exact ⟨_, _, rfl⟩
def WOk (lf : List Fl) : Prop := ∀ x ∈ lf, 0 < x.2 ∧ x.2 ≤ 1099511627776
section
variable {n : Nat} {h : AHeap}
theorem new_spec (q : Int) : C EE (n + 1) 8 [.int .i64 q] h fun r h' => r = .pointer (some ⟨h.next, 0, none⟩) ∧ h' = h.new h.next (.cells [.int .i64 (min (max q 1) 1048576), .int .i64 0, .int .i64 0, .bool false] true) := by
  refine C_in (E_X _) F_new rfl rfl rfl ?_
  intro a hna hat
  have e0 := hat 0 _ rfl
  replace hna : a.n = 8 := hna
  clear hat
  repeat first | refine G_seq ?_ | refine G_reg ?_ | refine N_seq ?_ | refine N_block ?_ | refine G_block ?_ | refine G_skip ?_ | refine G_cT ?_ | refine G_cF ?_ | refine G_ret ?_ | refine U_seq_ret ?_ | refine U_block_ret ?_ | refine U_nil ?_ | refine S_nil ?_ | refine S_auto ?_
  refine S_step wants0 (o_builtin (by simp only [List.map, aev_tmp, aev_const, aev_func, aev_global, at_put, at_none, n_put, reduceIte, Nat.reduceEqDiff, Nat.reduceLT, zq, *]; first | done | rfl) bi_max) ?_
  refine S_step wants0 (o_builtin (by simp only [List.map, aev_tmp, aev_const, aev_func, aev_global, at_put, at_none, n_put, reduceIte, Nat.reduceEqDiff, Nat.reduceLT, zq, *]; first | done | rfl) bi_min) ?_
  repeat first | refine G_seq ?_ | refine G_reg ?_ | refine N_seq ?_ | refine N_block ?_ | refine G_block ?_ | refine G_skip ?_ | refine G_cT ?_ | refine G_cF ?_ | refine G_ret ?_ | refine U_seq_ret ?_ | refine U_block_ret ?_ | refine U_nil ?_ | refine S_nil ?_ | refine S_auto ?_
  refine FQ_in (by first | exact .inr rfl | exact .inl rfl) (by first | exact ares1 (by simp only [at_put, at_none, n_put, reduceIte, Nat.reduceEqDiff, Nat.reduceLT, zq, *]; first | done | rfl) | exact ares2 (by simp only [at_put, at_none, n_put, reduceIte, Nat.reduceEqDiff, Nat.reduceLT, zq, *]; first | done | rfl) (by simp only [at_put, at_none, n_put, reduceIte, Nat.reduceEqDiff, Nat.reduceLT, zq, *]; first | done | rfl)) ?_
  exact ⟨rfl, rfl⟩
theorem credit_spec {p : Nat} {q c la : Int} {any z : Bool} (hp : h.get p = some (.cells [.int .i64 q, .int .i64 c, .int .i64 la, .bool any] z)) : C EE (n + 1) 15 [.pointer (some ⟨p, 0, none⟩)] h fun r h' => r = .int .i64 c ∧ h' = h := by
  refine C_in (E_X _) F_credit rfl rfl rfl ?_
  intro a hna hat
  have e0 := hat 0 _ rfl
  replace hna : a.n = 7 := hna
  clear hat
  repeat first | refine G_seq ?_ | refine G_reg ?_ | refine N_seq ?_ | refine N_block ?_ | refine G_block ?_ | refine G_skip ?_ | refine G_cT ?_ | refine G_cF ?_ | refine G_ret ?_ | refine U_seq_ret ?_ | refine U_block_ret ?_ | refine U_nil ?_ | refine S_nil ?_ | refine S_auto ?_
  refine FQ_in (by first | exact .inr rfl | exact .inl rfl) (by first | exact ares1 (by simp only [at_put, at_none, n_put, reduceIte, Nat.reduceEqDiff, Nat.reduceLT, zq, *]; first | done | rfl) | exact ares2 (by simp only [at_put, at_none, n_put, reduceIte, Nat.reduceEqDiff, Nat.reduceLT, zq, *]; first | done | rfl) (by simp only [at_put, at_none, n_put, reduceIte, Nat.reduceEqDiff, Nat.reduceLT, zq, *]; first | done | rfl)) ?_
  exact ⟨rfl, rfl⟩
theorem round_spec {p K : Nat} {q c la : Int} {any : Bool} {l : List Fl} {v : Value} {O : List Nat} (hp : h.get p = some (.cells [.int .i64 q, .int .i64 c, .int .i64 la, .bool any] true)) (hpl : p < h.next) (hv : RowAt kF h l v O) (hO : ∀ i ∈ O, i < h.next) (hl : l.length ≤ 20) (hw : WOk (flowsF l)) (hlf : (flowsF l).length ≤ 20) (hq : 1 ≤ q ∧ q ≤ 1048576) (hc : 0 ≤ c ∧ c ≤ 1048576) (hK : c + q < K) (hKn : K + 100 ≤ n) (hKb : K ≤ 4000000) :
    C EE (n + 1) 14 [.pointer (some ⟨p, 0, none⟩), v] h fun r h' => ∃ R O', R = roundL K (if (flowsF l).length = 0 then c else c + q) la any (flowsF l) [] ∧ RowAt kF h' R.2.2.2 r O' ∧ (∀ i ∈ O', h.next ≤ i ∧ i < h'.next) ∧ h'.get p = some (.cells [.int .i64 q, .int .i64 R.1, .int .i64 R.2.1, .bool R.2.2.1] true) ∧ Keep h h' [p] := by
  refine C_in (E_X _) F_round rfl rfl rfl ?_
  intro a hna hat
  have e0 := hat 0 _ rfl
  have e1 := hat 1 _ rfl
  replace hna : a.n = 97 := hna
  clear hat
  obtain ⟨m, rfl⟩ : ∃ m, n = m + 1 := ⟨n - 1, by omega⟩
  obtain ⟨hq1, hq2⟩ := hq
  obtain ⟨hc1, hc2⟩ := hc
  refine G_seq ?_
  refine G_reg ?_
  repeat first | refine S_nil ?_ | refine S_auto ?_
  refine N_seq ?_
  refine G_seq ?_
  refine G_reg ?_
  repeat first | refine S_nil ?_ | refine S_auto ?_
  refine S_call wants0 (by simp only [aev_tmp, aev_const, aev_func, aev_global, at_put, at_none, n_put, reduceIte, Nat.reduceEqDiff, Nat.reduceLT, zq, *]; first | done | rfl) (E_Y _) (by simp only [List.map, aev_tmp, aev_const, aev_func, aev_global, at_put, at_none, n_put, reduceIte, Nat.reduceEqDiff, Nat.reduceLT, zq, *]; first | done | rfl) ?_
  refine (flows_spec (n := m) hv hO hl (by omega)).mono ?_
  rintro r h1 ⟨hk1, hres⟩
  generalize hlfe : flowsF l = lf at *
  have hLeft : LeftAt h.next [] h1 lf r := by
    rcases hres with ⟨h2, h3⟩ | ⟨b, js, h2, h3, h4, h5⟩
    · exact .inl ⟨h2, h3⟩
    · exact .inr ⟨b, js, h2, h3, by simp, h4, h5⟩
  have hp1 := (hk1.2 p hpl (by simp)).trans hp
  clear hres hv hO hp
  obtain ⟨A, cc, hre⟩ := hLeft.len
  repeat first | refine S_nil ?_ | refine S_auto ?_
  refine N_seq ?_
  refine G_seq ?_
  refine G_join (fun a h2 => a.n = 97 ∧ a.at 0 = .pointer (some ⟨p, 0, none⟩) ∧ a.at 5 = r ∧ h2.get p = some (.cells [.int .i64 q, .int .i64 (if lf.length = 0 then c else c + q), .int .i64 la, .bool any] true) ∧ LeftAt h.next [] h2 lf r ∧ Keep h h2 [p]) ?_ ?_
  · subst hre
    by_cases h0 : lf.length = 0
    · have cz : ((0 : Int) < (lf.length : Int)) = False := eq_false (by omega)
      rw [if_pos h0]
      have hk1p : Keep h h1 [p] := hk1.mono fun i hi => by cases hi
      clear h0
      repeat first | refine G_seq ?_ | refine G_reg ?_ | refine N_seq ?_ | refine N_block ?_ | refine G_block ?_ | refine G_skip ?_ | refine G_cT ?_ | refine G_cF ?_ | refine G_ret ?_ | refine U_seq_ret ?_ | refine U_block_ret ?_ | refine U_nil ?_ | refine S_nil ?_ | refine S_auto ?_
      refine S_step wants0 (o_builtin (by simp only [List.map, aev_tmp, aev_const, aev_func, aev_global, at_put, at_none, n_put, reduceIte, Nat.reduceEqDiff, Nat.reduceLT, zq, *]; first | done | rfl) (lenS (TL rfl))) ?_
      repeat first | refine G_seq ?_ | refine G_reg ?_ | refine N_seq ?_ | refine N_block ?_ | refine G_block ?_ | refine G_skip ?_ | refine G_cT ?_ | refine G_cF ?_ | refine G_ret ?_ | refine U_seq_ret ?_ | refine U_block_ret ?_ | refine U_nil ?_ | refine S_nil ?_ | refine S_auto ?_
      refine N_nil ?_
      exact JQ_n ⟨by simp only [at_put, at_none, n_put, reduceIte, Nat.reduceEqDiff, Nat.reduceLT, zq, *]; first | done | rfl, by simp only [at_put, at_none, n_put, reduceIte, Nat.reduceEqDiff, Nat.reduceLT, zq, *]; first | done | rfl, by simp only [at_put, at_none, n_put, reduceIte, Nat.reduceEqDiff, Nat.reduceLT, zq, *]; first | done | rfl, hp1, hLeft, hk1p⟩
    · have cz : ((0 : Int) < (lf.length : Int)) = True := eq_true (by omega)
      rw [if_neg h0]
      repeat first | refine G_seq ?_ | refine G_reg ?_ | refine N_seq ?_ | refine N_block ?_ | refine G_block ?_ | refine G_skip ?_ | refine G_cT ?_ | refine G_cF ?_ | refine G_ret ?_ | refine U_seq_ret ?_ | refine U_block_ret ?_ | refine U_nil ?_ | refine S_nil ?_ | refine S_auto ?_
      refine S_step wants0 (o_builtin (by simp only [List.map, aev_tmp, aev_const, aev_func, aev_global, at_put, at_none, n_put, reduceIte, Nat.reduceEqDiff, Nat.reduceLT, zq, *]; first | done | rfl) (lenS (TL rfl))) ?_
      repeat first | refine G_seq ?_ | refine G_reg ?_ | refine N_seq ?_ | refine N_block ?_ | refine G_block ?_ | refine G_skip ?_ | refine G_cT ?_ | refine G_cF ?_ | refine G_ret ?_ | refine U_seq_ret ?_ | refine U_block_ret ?_ | refine U_nil ?_ | refine S_nil ?_ | refine S_auto ?_
      refine G_draw [] [] (by kernel_rfl) ?_
      repeat first | refine D1_nil0 ?_ | refine D2_nil ?_ | refine D_pure ?_ | refine D_rd ?_ | refine D2_pure' ?_
      refine D1_wr0 wants0 rfl (o_st (by simp only [aev_tmp, aev_const, aev_func, aev_global, at_put, at_none, n_put, reduceIte, Nat.reduceEqDiff, Nat.reduceLT, zq, *]; first | done | rfl) (by simp only [aev_tmp, aev_const, aev_func, aev_global, at_put, at_none, n_put, reduceIte, Nat.reduceEqDiff, Nat.reduceLT, zq, *]; first | done | rfl) (TL rfl) rfl (by simp (disch := omega) only [get_set_self, get_new_self, get_set_ne, get_new_ne, get_bump, next_set, next_new, Nat.lt_irrefl, reduceIte, next_kill, next_bump, *]; first | done | rfl) rfl rfl) .nil ?_
      repeat first | refine D1_nil0 ?_ | refine D2_nil ?_ | refine D_pure ?_ | refine D_rd ?_ | refine D2_pure' ?_
      refine N_nil ?_
      refine JQ_n ⟨by simp only [at_put, at_none, n_put, reduceIte, Nat.reduceEqDiff, Nat.reduceLT, zq, *]; first | done | rfl, by simp only [at_put, at_none, n_put, reduceIte, Nat.reduceEqDiff, Nat.reduceLT, zq, *]; first | done | rfl, by simp only [at_put, at_none, n_put, reduceIte, Nat.reduceEqDiff, Nat.reduceLT, zq, *]; first | done | rfl, by simp (disch := omega) only [get_set_self, get_new_self, get_set_ne, get_new_ne, get_bump, next_set, next_new, Nat.lt_irrefl, reduceIte, next_kill, next_bump, *]; first | done | rfl, ?_, by rw [next_set, next_bump]; have := hk1.1; omega, fun i hi hn => by rw [get_set_ne (by simpa using hn), get_bump, hk1.2 i hi (by simp)]⟩
      rcases hLeft with ⟨h2, h3⟩ | ⟨b, js, h2, h3, h4, h5, h6⟩
      · exact .inl ⟨h2, h3⟩
      · exact .inr ⟨b, js, h2, by rw [next_set, next_bump]; omega, h4, h5, by rw [get_set_ne (by omega)]; exact h6⟩
  · clear hna e0 e1 a hLeft hre hp1 hk1 h1 hlfe
    rintro a h1 ⟨hna, e0, e5, hp1, hLeft, hk1⟩
    have hcb : 0 ≤ (if lf.length = 0 then c else c + q) ∧ (if lf.length = 0 then c else c + q) < K := by split <;> omega
    generalize (if lf.length = 0 then c else c + q) = c0 at *
    clear hc1 hc2 hK c
    repeat first | refine G_seq ?_ | refine G_reg ?_ | refine N_seq ?_ | refine N_block ?_ | refine G_block ?_ | refine G_skip ?_ | refine G_cT ?_ | refine G_cF ?_ | refine G_ret ?_ | refine U_seq_ret ?_ | refine U_block_ret ?_ | refine U_nil ?_ | refine S_nil ?_ | refine S_auto ?_
    generalize hRe : roundL K c0 la any lf [] = R at *
    refine G_loop (fun j a h' => ∃ (c la : Int) (any : Bool) (lf out : List Fl) (lv ov : Value) (Oo : List Nat), a.n = 97 ∧ a.at 0 = .pointer (some ⟨p, 0, none⟩) ∧ a.at 5 = lv ∧ a.at 6 = ov ∧ h'.get p = some (.cells [.int .i64 q, .int .i64 c, .int .i64 la, .bool any] true) ∧ LeftAt h.next Oo h' lf lv ∧ RowAt kF h' out ov Oo ∧ (∀ i ∈ Oo, h.next ≤ i ∧ i < h'.next) ∧ Keep h h' [p] ∧ roundL j c la any lf out = R ∧ 0 ≤ c ∧ c < j ∧ out.length + j ≤ K ∧ WOk lf ∧ lf.length ≤ 20) K (by omega) ⟨c0, la, any, lf, [], r, .slice none 0 0, [], by simp only [at_put, at_none, n_put, reduceIte, Nat.reduceEqDiff, Nat.reduceLT, zq, *]; first | done | rfl, by simp only [at_put, at_none, n_put, reduceIte, Nat.reduceEqDiff, Nat.reduceLT, zq, *]; first | done | rfl, by simp only [at_put, at_none, n_put, reduceIte, Nat.reduceEqDiff, Nat.reduceLT, zq, *]; first | done | rfl, by simp only [at_put, at_none, n_put, reduceIte, Nat.reduceEqDiff, Nat.reduceLT, zq, *]; first | done | rfl, hp1, hLeft, .inl ⟨rfl, rfl, rfl⟩, fun i hi => (by cases hi), hk1, hRe, hcb.1, hcb.2, by simp, hw, hlf⟩ ?_
    clear e0 e5 hna a hLeft hp1 hk1 h1 hRe hcb hw hlf lf r A cc c0 la any
    rintro j a h1 ⟨c, la, any, lf, out, lv, ov, Oo, hna, e0, e5, e6, hp1, hLeft, hout, hOo, hk1, hRe, hc0, hcj, hoj, hw, hlf⟩
    obtain ⟨k, rfl⟩ : ∃ k, j = k + 1 := ⟨j - 1, by omega⟩
    obtain ⟨A, cc, hre⟩ := hLeft.len
    have hp1l : p < h1.next := Nat.lt_of_lt_of_le hpl hk1.1
    by_cases h0 : lf.length = 0
    · have cz : ((0 : Int) < (lf.length : Int)) = False := eq_false (by omega)
      have hR2 : R = (0, la, any, out) := by rw [← hRe]; unfold roundL; rw [if_pos h0]
      subst hre
      clear h0 hRe hLeft
      repeat first | refine G_seq ?_ | refine G_reg ?_ | refine N_seq ?_ | refine N_block ?_ | refine G_block ?_ | refine G_skip ?_ | refine G_cT ?_ | refine G_cF ?_ | refine G_ret ?_ | refine U_seq_ret ?_ | refine U_block_ret ?_ | refine U_nil ?_ | refine S_nil ?_ | refine S_auto ?_
      refine S_step wants0 (o_builtin (by simp only [List.map, aev_tmp, aev_const, aev_func, aev_global, at_put, at_none, n_put, reduceIte, Nat.reduceEqDiff, Nat.reduceLT, zq, *]; first | done | rfl) (lenS (TL rfl))) ?_
      repeat first | refine G_seq ?_ | refine G_reg ?_ | refine N_seq ?_ | refine N_block ?_ | refine G_block ?_ | refine G_skip ?_ | refine G_cT ?_ | refine G_cF ?_ | refine G_ret ?_ | refine U_seq_ret ?_ | refine U_block_ret ?_ | refine U_nil ?_ | refine S_nil ?_ | refine S_auto ?_
      refine G_exit ?_
      repeat first | refine U_seq_exit ?_ | refine U_nil ?_ | refine LQ_exit ?_ | refine U_block_hit ?_
      repeat first | refine G_seq ?_ | refine G_reg ?_ | refine N_seq ?_ | refine N_block ?_ | refine G_block ?_ | refine G_skip ?_ | refine G_cT ?_ | refine G_cF ?_ | refine G_ret ?_ | refine U_seq_ret ?_ | refine U_block_ret ?_ | refine U_nil ?_ | refine S_nil ?_ | refine S_auto ?_
      refine FQ_in (by first | exact .inr rfl | exact .inl rfl) (by first | exact ares1 (by simp only [at_put, at_none, n_put, reduceIte, Nat.reduceEqDiff, Nat.reduceLT, zq, *]; first | done | rfl) | exact ares2 (by simp only [at_put, at_none, n_put, reduceIte, Nat.reduceEqDiff, Nat.reduceLT, zq, *]; first | done | rfl) (by simp only [at_put, at_none, n_put, reduceIte, Nat.reduceEqDiff, Nat.reduceLT, zq, *]; first | done | rfl)) ?_
      refine ⟨R, Oo, rfl, by rw [hR2]; exact hout.keep fun i hi => get_set_ne (by have := hOo i hi; omega), fun i hi => by have := hOo i hi; rw [next_set]; exact this, by rw [hR2]; simp (disch := omega) only [get_set_self, get_new_self, get_set_ne, get_new_ne, get_bump, next_set, next_new, Nat.lt_irrefl, reduceIte, next_kill, next_bump, *]; first | done | rfl, by rw [next_set]; exact hk1.1, fun i hi hn => by rw [get_set_ne (by simpa using hn), hk1.2 i hi hn]⟩
    · have cz : ((0 : Int) < (lf.length : Int)) = True := eq_true (by omega)
      obtain ⟨bl, js, hb0, hb1, hbO, rfl, hbl⟩ : ∃ bl js, h.next ≤ bl ∧ bl < h1.next ∧ bl ∉ Oo ∧ lv = .slice (some ⟨bl, 0, none⟩) lf.length (CAPX + kF.sz) ∧ h1.get bl = some (.cells (kF.fl (lf ++ js)) true) := by
        rcases hLeft with ⟨h2, _⟩ | h2
        · exact absurd (by rw [h2]; rfl) h0
        · exact h2
      clear hLeft hre
      have hx := next_spec (n := m - 1) hp1 hp1l (l := lf) (v := .slice (some ⟨bl, 0, none⟩) lf.length (CAPX + kF.sz)) (O := [bl]) (.inr (.inr ⟨bl, js, rfl, hbl, rfl⟩)) (fun i hi => by rw [List.mem_singleton.1 hi]; exact hb1) (by omega) (by omega)
      repeat first | refine G_seq ?_ | refine G_reg ?_ | refine N_seq ?_ | refine N_block ?_ | refine G_block ?_ | refine G_skip ?_ | refine G_cT ?_ | refine G_cF ?_ | refine G_ret ?_ | refine U_seq_ret ?_ | refine U_block_ret ?_ | refine U_nil ?_ | refine S_nil ?_ | refine S_auto ?_
      refine S_step wants0 (o_builtin (by simp only [List.map, aev_tmp, aev_const, aev_func, aev_global, at_put, at_none, n_put, reduceIte, Nat.reduceEqDiff, Nat.reduceLT, zq, *]; first | done | rfl) (lenS (TL rfl))) ?_
      repeat first | refine G_seq ?_ | refine G_reg ?_ | refine N_seq ?_ | refine N_block ?_ | refine G_block ?_ | refine G_skip ?_ | refine G_cT ?_ | refine G_cF ?_ | refine G_ret ?_ | refine U_seq_ret ?_ | refine U_block_ret ?_ | refine U_nil ?_ | refine S_nil ?_ | refine S_auto ?_
      refine S_call wants0 (by simp only [aev_tmp, aev_const, aev_func, aev_global, at_put, at_none, n_put, reduceIte, Nat.reduceEqDiff, Nat.reduceLT, zq, *]; first | done | rfl) (E_Y _) (by simp only [List.map, aev_tmp, aev_const, aev_func, aev_global, at_put, at_none, n_put, reduceIte, Nat.reduceEqDiff, Nat.reduceLT, zq, *]; first | done | rfl) ?_
      refine C_le (show m - 1 + 2 = m + 1 by omega) ?_
      refine hx.mono ?_
      rintro r h2 ⟨ii, rfl, hidx, hk2⟩
      clear hx
      have hpi : max ii 0 = ((pickI la any lf : Nat) : Int) := idxR_pick hidx
      have hil := pickI_lt (la := la) (any := any) (lf := lf) (by omega)
      rw [hpi]
      clear hidx hpi
      obtain ⟨xc, xw, hxe⟩ : ∃ xc xw, lf[pickI la any lf] = (xc, xw) := ⟨_, _, rfl⟩
      have hgd : lf.getD (pickI la any lf) (0, 0) = (xc, xw) := by rw [getD_at hil, hxe]
      have hRs : R = if c < min xw 64 then (c, la, any, out) else roundL k (c - min xw 64) xc true (if xw - min xw 64 = 0 then lf.eraseIdx (pickI la any lf) else lf.set (pickI la any lf) (xc, xw - min xw 64)) (out ++ [(xc, min xw 64)]) := by
        rw [← hRe]
        show (if lf.length = 0 then _ else _) = _
        rw [if_neg h0]
        simp only [hgd]
      clear hRe hgd
      generalize pickI la any lf = i at *
      have hw1 := hw (xc, xw) (by rw [← hxe]; exact List.getElem_mem _)
      replace hw1 : 0 < xw ∧ xw ≤ 1099511627776 := hw1
      obtain ⟨hw0, hwb⟩ := hw1
      have hg1 : 1 ≤ min xw 64 ∧ min xw 64 ≤ 64 ∧ min xw 64 ≤ xw := by omega
      have hij : i < (lf ++ js).length := by rw [List.length_append]; omega
      have hxj : (lf ++ js)[i] = (xc, xw) := by rw [List.getElem_append_left hil]; exact hxe
      have i1 : aindexAddr EE.T 29 (.slice (some ⟨bl, 0, none⟩) lf.length (CAPX + kF.sz)) (.int .i64 (i : Int)) = some (.pointer (some ⟨bl, i * kF.sz, none⟩)) := ix_row0 (TL rfl) (TL rfl) ⟨rfl, rfl, by decide⟩ hil
      have w0 : (kF.fl (lf ++ js))[i * kF.sz + 0]? = some (.int .i64 xc) := by rw [kF.fl_get hij (show 0 < kF.sz by decide), hxj]; rfl
      have w1 : (kF.fl (lf ++ js))[i * kF.sz + 1]? = some (.int .i64 xw) := by rw [kF.fl_get hij (show 1 < kF.sz by decide), hxj]; rfl
      have hput := put_fld (K := kF) (l := lf ++ js) (i := i) (j := 1) (x := (xc, xw - min xw 64)) (v := .int .i64 (xw - min xw 64)) hij (by decide) (by rw [hxj]; rfl)
      have w2 : (kF.fl ((lf ++ js).set i (xc, xw - min xw 64)))[i * kF.sz + 1]? = some (.int .i64 (xw - min xw 64)) := by rw [kF.fl_get (by rw [List.length_set]; exact hij) (show 1 < kF.sz by decide), List.getElem_set_self]; rfl
      have hset : (lf ++ js).set i (xc, xw - min xw 64) = lf.set i (xc, xw - min xw 64) ++ js := List.set_append_left _ _ hil
      have hwm : ∀ y, 0 < y → y ≤ xw → WOk (lf.set i (xc, y)) := fun y h1 h2 z hz => by
        rcases List.mem_or_eq_of_mem_set hz with h3 | h3
        · exact hw z h3
        · rw [h3]; exact ⟨h1, by show y ≤ _; omega⟩
      have hwe : WOk (lf.eraseIdx i) := fun z hz => hw z (List.mem_of_mem_eraseIdx hz)
      generalize hge : min xw 64 = g at *
      obtain ⟨hg1, hg2, hg3⟩ := hg1
      have hp2 := (hk2.2 p hp1l (by simp)).trans hp1
      have hbl2 := (hk2.2 bl hb1 (by simp)).trans hbl
      have hout2 : RowAt kF h2 out ov Oo := hout.keep fun q hq => hk2.2 q (hOo q hq).2 (by simp)
      have hOo2 : ∀ q ∈ Oo, h.next ≤ q ∧ q < h2.next := fun q hq => ⟨(hOo q hq).1, Nat.lt_of_lt_of_le (hOo q hq).2 hk2.1⟩
      have hkk2 : Keep h h2 [p] := hk1.trans hk2 fun i hi => (by cases hi)
      have hp2l : p < h2.next := Nat.lt_of_lt_of_le hp1l hk2.1
      have hb2 : bl < h2.next := Nat.lt_of_lt_of_le hb1 hk2.1
      clear hk2 hp1 hbl hout hOo hk1 hxe hxj hij h0 hw hp1l hb1
      repeat first | refine G_seq ?_ | refine G_reg ?_ | refine N_seq ?_ | refine N_block ?_ | refine G_block ?_ | refine G_skip ?_ | refine G_cT ?_ | refine G_cF ?_ | refine G_ret ?_ | refine U_seq_ret ?_ | refine U_block_ret ?_ | refine U_nil ?_ | refine S_nil ?_ | refine S_auto ?_
      refine S_step wants0 (o_indexAddr (by simp only [aev_tmp, aev_const, aev_func, aev_global, at_put, at_none, n_put, reduceIte, Nat.reduceEqDiff, Nat.reduceLT, zq, *]; first | done | rfl) (by simp only [aev_tmp, aev_const, aev_func, aev_global, at_put, at_none, n_put, reduceIte, Nat.reduceEqDiff, Nat.reduceLT, zq, *]; first | done | rfl) i1) ?_
      repeat first | refine G_seq ?_ | refine G_reg ?_ | refine N_seq ?_ | refine N_block ?_ | refine G_block ?_ | refine G_skip ?_ | refine G_cT ?_ | refine G_cF ?_ | refine G_ret ?_ | refine U_seq_ret ?_ | refine U_block_ret ?_ | refine U_nil ?_ | refine S_nil ?_ | refine S_auto ?_
      refine S_step wants0 (o_ld (by simp only [aev_tmp, aev_const, aev_func, aev_global, at_put, at_none, n_put, reduceIte, Nat.reduceEqDiff, Nat.reduceLT, zq, *]; first | done | rfl) (TL rfl) rfl (rd_cells (by simp (disch := omega) only [get_set_self, get_new_self, get_set_ne, get_new_ne, get_bump, next_set, next_new, Nat.lt_irrefl, reduceIte, next_kill, next_bump, *]; first | done | rfl)) w1) ?_
      refine S_step wants0 (o_builtin (by simp only [List.map, aev_tmp, aev_const, aev_func, aev_global, at_put, at_none, n_put, reduceIte, Nat.reduceEqDiff, Nat.reduceLT, zq, *]; first | done | rfl) bi_min) ?_
      rw [hge]
      by_cases hcg : c < g
      · have hR2 : R = (c, la, any, out) := by rw [hRs, if_pos hcg]
        clear hRs w0 w1 w2 hput i1 hset hwm hwe hge
        repeat first | refine G_seq ?_ | refine G_reg ?_ | refine N_seq ?_ | refine N_block ?_ | refine G_block ?_ | refine G_skip ?_ | refine G_cT ?_ | refine G_cF ?_ | refine G_ret ?_ | refine U_seq_ret ?_ | refine U_block_ret ?_ | refine U_nil ?_ | refine S_nil ?_ | refine S_auto ?_
        refine LQ_ret ?_
        repeat first | refine G_seq ?_ | refine G_reg ?_ | refine N_seq ?_ | refine N_block ?_ | refine G_block ?_ | refine G_skip ?_ | refine G_cT ?_ | refine G_cF ?_ | refine G_ret ?_ | refine U_seq_ret ?_ | refine U_block_ret ?_ | refine U_nil ?_ | refine S_nil ?_ | refine S_auto ?_
        refine FQ_in (by first | exact .inr rfl | exact .inl rfl) (by first | exact ares1 (by simp only [at_put, at_none, n_put, reduceIte, Nat.reduceEqDiff, Nat.reduceLT, zq, *]; first | done | rfl) | exact ares2 (by simp only [at_put, at_none, n_put, reduceIte, Nat.reduceEqDiff, Nat.reduceLT, zq, *]; first | done | rfl) (by simp only [at_put, at_none, n_put, reduceIte, Nat.reduceEqDiff, Nat.reduceLT, zq, *]; first | done | rfl)) ?_
        exact ⟨R, Oo, rfl, by rw [hR2]; exact hout2, hOo2, by rw [hR2]; exact hp2, hkk2⟩
      · rw [if_neg hcg] at hRs
        obtain ⟨v3, h3, O3, q1, q2, q3, q4, q5⟩ := app_rowX (K := kF) (T := EE.T) (h := h2.new h2.next (.cells (kF.enc (xc, g)) true)) (st := 36) (xt := 36) (news := [((xc, g) : Fl)]) (x := .slice (some ⟨h2.next, 0, none⟩) 1 1) (TL rfl) (TL rfl) ⟨rfl, rfl, by decide⟩ (TL rfl) (hout2.keep fun q hq => by have := hOo2 q hq; simp (disch := omega) only [get_set_self, get_new_self, get_set_ne, get_new_ne, get_bump, next_set, next_new, Nat.lt_irrefl, reduceIte, next_kill, next_bump, *]; first | done | rfl) (by simp) (src_row1 (K := kF) (by simp (disch := omega) only [get_set_self, get_new_self, get_set_ne, get_new_ne, get_bump, next_set, next_new, Nat.lt_irrefl, reduceIte, next_kill, next_bump, *]; first | done | rfl)) (by simp; omega) (fun q hq => by have := hOo2 q hq; simp only [next_bump, next_set, next_new, Nat.lt_irrefl, reduceIte]; omega)
        have hK : Keep h2 h3 Oo := ⟨by have := q3.1; simp only [next_new, Nat.lt_irrefl, reduceIte] at this; omega, fun q hq hn => by rw [q3.2 q (by simp only [next_bump, next_set, next_new, Nat.lt_irrefl, reduceIte]; omega) hn]; simp (disch := omega) only [get_set_self, get_new_self, get_set_ne, get_new_ne, get_bump, next_set, next_new, Nat.lt_irrefl, reduceIte, next_kill, next_bump, *]; first | done | rfl⟩
        have hp3 := (hK.2 p hp2l (fun hm => by have := hOo2 p hm; omega)).trans hp2
        have hbl3 := (hK.2 bl hb2 hbO).trans hbl2
        have hp3l : p < h3.next := Nat.lt_of_lt_of_le hp2l hK.1
        have hb3 : bl < h3.next := Nat.lt_of_lt_of_le hb2 hK.1
        have hO3 : ∀ q ∈ O3, h.next ≤ q ∧ q < h3.next ∧ q ≠ bl := fun q hq => by
          rcases q4 with rfl | rfl
          · exact ⟨(hOo2 q hq).1, q5 q hq, fun e => hbO (e ▸ hq)⟩
          · have h9 := q5 q hq
            simp only [List.mem_singleton, next_new, Nat.lt_irrefl, reduceIte] at hq
            exact ⟨by omega, h9, by omega⟩
        have hkk3 : Keep h h3 [p] := hkk2.trans hK fun q hq => .inr (hOo2 q hq).1
        have hout3 : RowAt kF h3 (out ++ [(xc, g)]) v3 O3 := .inr (.inr q2)
        have hbp : bl ≠ p := by omega
        clear q2 q3 q4 q5 hK hkk2 hOo2 hout2
        repeat first | refine G_seq ?_ | refine G_reg ?_ | refine N_seq ?_ | refine N_block ?_ | refine G_block ?_ | refine G_skip ?_ | refine G_cT ?_ | refine G_cF ?_ | refine G_ret ?_ | refine U_seq_ret ?_ | refine U_block_ret ?_ | refine U_nil ?_ | refine S_nil ?_ | refine S_auto ?_
        refine S_step wants0 (o_indexAddr (by simp only [aev_tmp, aev_const, aev_func, aev_global, at_put, at_none, n_put, reduceIte, Nat.reduceEqDiff, Nat.reduceLT, zq, *]; first | done | rfl) (by simp only [aev_tmp, aev_const, aev_func, aev_global, at_put, at_none, n_put, reduceIte, Nat.reduceEqDiff, Nat.reduceLT, zq, *]; first | done | rfl) i1) ?_
        repeat first | refine G_seq ?_ | refine G_reg ?_ | refine N_seq ?_ | refine N_block ?_ | refine G_block ?_ | refine G_skip ?_ | refine G_cT ?_ | refine G_cF ?_ | refine G_ret ?_ | refine U_seq_ret ?_ | refine U_block_ret ?_ | refine U_nil ?_ | refine S_nil ?_ | refine S_auto ?_
        refine S_step wants0 (o_ld (by simp only [aev_tmp, aev_const, aev_func, aev_global, at_put, at_none, n_put, reduceIte, Nat.reduceEqDiff, Nat.reduceLT, zq, *]; first | done | rfl) (TL rfl) rfl (rd_cells (by simp (disch := omega) only [get_set_self, get_new_self, get_set_ne, get_new_ne, get_bump, next_set, next_new, Nat.lt_irrefl, reduceIte, next_kill, next_bump, *]; first | done | rfl)) w0) ?_
        repeat first | refine G_seq ?_ | refine G_reg ?_ | refine N_seq ?_ | refine N_block ?_ | refine G_block ?_ | refine G_skip ?_ | refine G_cT ?_ | refine G_cF ?_ | refine G_ret ?_ | refine U_seq_ret ?_ | refine U_block_ret ?_ | refine U_nil ?_ | refine S_nil ?_ | refine S_auto ?_
        refine S_step wants0 (o_buildSlice (by simp only [List.map, aev_tmp, aev_const, aev_func, aev_global, at_put, at_none, n_put, reduceIte, Nat.reduceEqDiff, Nat.reduceLT, zq, *]; first | done | rfl) (bs_row1 (K := kF) (x := ((xc, g) : Fl)) (TL rfl) (TL rfl) ⟨rfl, rfl, by decide⟩ (by decide) rfl)) ?_
        refine S_step wants0 (o_builtin (by simp only [List.map, aev_tmp, aev_const, aev_func, aev_global, at_put, at_none, n_put, reduceIte, Nat.reduceEqDiff, Nat.reduceLT, zq, *]; first | done | rfl) (bi_app q1)) ?_
        clear q1 hp2 hbl2
        repeat first | refine G_seq ?_ | refine G_reg ?_ | refine N_seq ?_ | refine N_block ?_ | refine G_block ?_ | refine G_skip ?_ | refine G_cT ?_ | refine G_cF ?_ | refine G_ret ?_ | refine U_seq_ret ?_ | refine U_block_ret ?_ | refine U_nil ?_ | refine S_nil ?_ | refine S_auto ?_
        refine S_step wants0 (o_indexAddr (by simp only [aev_tmp, aev_const, aev_func, aev_global, at_put, at_none, n_put, reduceIte, Nat.reduceEqDiff, Nat.reduceLT, zq, *]; first | done | rfl) (by simp only [aev_tmp, aev_const, aev_func, aev_global, at_put, at_none, n_put, reduceIte, Nat.reduceEqDiff, Nat.reduceLT, zq, *]; first | done | rfl) i1) ?_
        repeat first | refine G_seq ?_ | refine G_reg ?_ | refine N_seq ?_ | refine N_block ?_ | refine G_block ?_ | refine G_skip ?_ | refine G_cT ?_ | refine G_cF ?_ | refine G_ret ?_ | refine U_seq_ret ?_ | refine U_block_ret ?_ | refine U_nil ?_ | refine S_nil ?_ | refine S_auto ?_
        refine S_step wants0 (o_ld (by simp only [aev_tmp, aev_const, aev_func, aev_global, at_put, at_none, n_put, reduceIte, Nat.reduceEqDiff, Nat.reduceLT, zq, *]; first | done | rfl) (TL rfl) rfl (rd_cells (by simp (disch := omega) only [get_set_self, get_new_self, get_set_ne, get_new_ne, get_bump, next_set, next_new, Nat.lt_irrefl, reduceIte, next_kill, next_bump, *]; first | done | rfl)) w0) ?_
        repeat first | refine G_seq ?_ | refine G_reg ?_ | refine N_seq ?_ | refine N_block ?_ | refine G_block ?_ | refine G_skip ?_ | refine G_cT ?_ | refine G_cF ?_ | refine G_ret ?_ | refine U_seq_ret ?_ | refine U_block_ret ?_ | refine U_nil ?_ | refine S_nil ?_ | refine S_auto ?_
        refine S_step wants0 (o_indexAddr (by simp only [aev_tmp, aev_const, aev_func, aev_global, at_put, at_none, n_put, reduceIte, Nat.reduceEqDiff, Nat.reduceLT, zq, *]; first | done | rfl) (by simp only [aev_tmp, aev_const, aev_func, aev_global, at_put, at_none, n_put, reduceIte, Nat.reduceEqDiff, Nat.reduceLT, zq, *]; first | done | rfl) i1) ?_
        repeat first | refine G_seq ?_ | refine G_reg ?_ | refine N_seq ?_ | refine N_block ?_ | refine G_block ?_ | refine G_skip ?_ | refine G_cT ?_ | refine G_cF ?_ | refine G_ret ?_ | refine U_seq_ret ?_ | refine U_block_ret ?_ | refine U_nil ?_ | refine S_nil ?_ | refine S_auto ?_
        refine S_step wants0 (o_ld (by simp only [aev_tmp, aev_const, aev_func, aev_global, at_put, at_none, n_put, reduceIte, Nat.reduceEqDiff, Nat.reduceLT, zq, *]; first | done | rfl) (TL rfl) rfl (rd_cells (by simp (disch := omega) only [get_set_self, get_new_self, get_set_ne, get_new_ne, get_bump, next_set, next_new, Nat.lt_irrefl, reduceIte, next_kill, next_bump, *]; first | done | rfl)) w1) ?_
        repeat first | refine G_seq ?_ | refine G_reg ?_ | refine N_seq ?_ | refine N_block ?_ | refine G_block ?_ | refine G_skip ?_ | refine G_cT ?_ | refine G_cF ?_ | refine G_ret ?_ | refine U_seq_ret ?_ | refine U_block_ret ?_ | refine U_nil ?_ | refine S_nil ?_ | refine S_auto ?_
        refine S_step wants0 (o_indexAddr (by simp only [aev_tmp, aev_const, aev_func, aev_global, at_put, at_none, n_put, reduceIte, Nat.reduceEqDiff, Nat.reduceLT, zq, *]; first | done | rfl) (by simp only [aev_tmp, aev_const, aev_func, aev_global, at_put, at_none, n_put, reduceIte, Nat.reduceEqDiff, Nat.reduceLT, zq, *]; first | done | rfl) i1) ?_
        refine S_auto ?_
        refine S_step wants0 (o_st1 (by simp only [aev_tmp, aev_const, aev_func, aev_global, at_put, at_none, n_put, reduceIte, Nat.reduceEqDiff, Nat.reduceLT, zq, *]; first | done | rfl) (by simp only [aev_tmp, aev_const, aev_func, aev_global, at_put, at_none, n_put, reduceIte, Nat.reduceEqDiff, Nat.reduceLT, zq, *]; first | done | rfl) (TL rfl) rfl ⟨rfl, rfl⟩ (by simp (disch := omega) only [get_set_self, get_new_self, get_set_ne, get_new_ne, get_bump, next_set, next_new, Nat.lt_irrefl, reduceIte, next_kill, next_bump, *]; first | done | rfl) hput) ?_
        repeat first | refine G_seq ?_ | refine G_reg ?_ | refine N_seq ?_ | refine N_block ?_ | refine G_block ?_ | refine G_skip ?_ | refine G_cT ?_ | refine G_cF ?_ | refine G_ret ?_ | refine U_seq_ret ?_ | refine U_block_ret ?_ | refine U_nil ?_ | refine S_nil ?_ | refine S_auto ?_
        refine S_step wants0 (o_indexAddr (by simp only [aev_tmp, aev_const, aev_func, aev_global, at_put, at_none, n_put, reduceIte, Nat.reduceEqDiff, Nat.reduceLT, zq, *]; first | done | rfl) (by simp only [aev_tmp, aev_const, aev_func, aev_global, at_put, at_none, n_put, reduceIte, Nat.reduceEqDiff, Nat.reduceLT, zq, *]; first | done | rfl) i1) ?_
        repeat first | refine G_seq ?_ | refine G_reg ?_ | refine N_seq ?_ | refine N_block ?_ | refine G_block ?_ | refine G_skip ?_ | refine G_cT ?_ | refine G_cF ?_ | refine G_ret ?_ | refine U_seq_ret ?_ | refine U_block_ret ?_ | refine U_nil ?_ | refine S_nil ?_ | refine S_auto ?_
        refine S_step wants0 (o_ld (by simp only [aev_tmp, aev_const, aev_func, aev_global, at_put, at_none, n_put, reduceIte, Nat.reduceEqDiff, Nat.reduceLT, zq, *]; first | done | rfl) (TL rfl) rfl (rd_cells (by simp (disch := omega) only [get_set_self, get_new_self, get_set_ne, get_new_ne, get_bump, next_set, next_new, Nat.lt_irrefl, reduceIte, next_kill, next_bump, *]; first | done | rfl)) w2) ?_
        have hcl : out.length + 1 + k ≤ K := by omega
        refine S_gen (fun a h4 => a.n = 97 ∧ a.at 0 = .pointer (some ⟨p, 0, none⟩) ∧ a.at 5 = .slice (some ⟨bl, 0, none⟩) lf.length (CAPX + kF.sz) ∧ a.at 6 = v3 ∧ a.at 7 = .int .i64 (i : Int) ∧ a.at 86 = .int .i64 (xw - g) ∧ h4.get p = some (.cells [.int .i64 q, .int .i64 (c - g), .int .i64 xc, .bool true] true) ∧ h4.get bl = some (.cells (kF.fl (lf.set i (xc, xw - g) ++ js)) true) ∧ h4.next = h3.next ∧ ∀ q, q ≠ p → q ≠ bl → h4.get q = h3.get q) ⟨by simp only [at_put, at_none, n_put, reduceIte, Nat.reduceEqDiff, Nat.reduceLT, zq, *]; first | done | rfl, by simp only [at_put, at_none, n_put, reduceIte, Nat.reduceEqDiff, Nat.reduceLT, zq, *]; first | done | rfl, by simp only [at_put, at_none, n_put, reduceIte, Nat.reduceEqDiff, Nat.reduceLT, zq, *]; first | done | rfl, by simp only [at_put, at_none, n_put, reduceIte, Nat.reduceEqDiff, Nat.reduceLT, zq, *]; first | done | rfl, by simp only [at_put, at_none, n_put, reduceIte, Nat.reduceEqDiff, Nat.reduceLT, zq, *]; first | done | rfl, by simp only [at_put, at_none, n_put, reduceIte, Nat.reduceEqDiff, Nat.reduceLT, zq, *]; first | done | rfl, by simp (disch := omega) only [get_set_self, get_new_self, get_set_ne, get_new_ne, get_bump, next_set, next_new, Nat.lt_irrefl, reduceIte, next_kill, next_bump, *]; first | done | rfl, by rw [← hset]; simp (disch := omega) only [get_set_self, get_new_self, get_set_ne, get_new_ne, get_bump, next_set, next_new, Nat.lt_irrefl, reduceIte, next_kill, next_bump, *]; first | done | rfl, rfl, fun q h8 h9 => by simp (disch := omega) only [get_set_self, get_new_self, get_set_ne, get_new_ne, get_bump, next_set, next_new, Nat.lt_irrefl, reduceIte, next_kill, next_bump, *]; first | done | rfl⟩ ?_
        clear hna e0 e5 e6 a hp3 hbl3 w0 w1 w2 hput hset
        rintro a h4 ⟨hna, e0, e5, e6, e7, e86, hp4, hbl4, hnx4, hoth4⟩
        have hkk4 : Keep h h4 [p] := ⟨by rw [hnx4]; exact hkk3.1, fun q hq hn => by
          have hqp : q ≠ p := by simpa using hn
          rw [hoth4 q hqp (by omega), hkk3.2 q hq hn]⟩
        have hout4 : RowAt kF h4 (out ++ [(xc, g)]) v3 O3 := hout3.keep fun q hq => hoth4 q (by have := hO3 q hq; omega) (hO3 q hq).2.2
        have hb4 : bl < h4.next := by rw [hnx4]; exact hb3
        have hO4 : ∀ q ∈ O3, h.next ≤ q ∧ q < h4.next ∧ q ≠ bl := fun q hq => by rw [hnx4]; exact hO3 q hq
        have hbO3 : bl ∉ O3 := fun hm => (hO3 bl hm).2.2 rfl
        clear hkk3 hout3 hoth4 hO3 hp3l hb3
        by_cases hz : xw - g = 0
        · have c3 : (xw - g = 0) = True := eq_true hz
          rw [if_pos hz] at hRs
          clear hz
          have hdel := delete_spec (n := m) (i := i) hbl4 hb4 (by rw [List.length_set]; exact hil) (by rw [List.length_set]; omega)
          rw [List.length_set] at hdel
          have hes : (lf.set i (xc, xw - g)).eraseIdx i = lf.eraseIdx i := by rw [List.eraseIdx_eq_take_drop_succ, List.eraseIdx_eq_take_drop_succ, List.take_set_of_le (Nat.le_refl _), List.drop_set_of_lt (Nat.lt_succ_self _)]
          rw [hes] at hdel
          repeat first | refine G_seq ?_ | refine G_reg ?_ | refine N_seq ?_ | refine N_block ?_ | refine G_block ?_ | refine G_skip ?_ | refine G_cT ?_ | refine G_cF ?_ | refine G_ret ?_ | refine U_seq_ret ?_ | refine U_block_ret ?_ | refine U_nil ?_ | refine S_nil ?_ | refine S_auto ?_
          refine S_call wants0 (by simp only [aev_tmp, aev_const, aev_func, aev_global, at_put, at_none, n_put, reduceIte, Nat.reduceEqDiff, Nat.reduceLT, zq, *]; first | done | rfl) (E_Y _) (by simp only [List.map, aev_tmp, aev_const, aev_func, aev_global, at_put, at_none, n_put, reduceIte, Nat.reduceEqDiff, Nat.reduceLT, zq, *]; first | done | rfl) ?_
          refine hdel.mono ?_
          rintro r h5 ⟨js5, rfl, hb5, hk5⟩
          have hp5 := (hk5.2 p (by have := hkk4.1; omega) (fun hm => hbp (List.mem_singleton.1 hm).symm)).trans hp4
          have hout5 : RowAt kF h5 (out ++ [(xc, g)]) v3 O3 := hout4.keep fun q hq => hk5.2 q (hO4 q hq).2.1 (fun hm => (hO4 q hq).2.2 (List.mem_singleton.1 hm))
          have hO5 : ∀ q ∈ O3, h.next ≤ q ∧ q < h5.next := fun q hq => ⟨(hO4 q hq).1, Nat.lt_of_lt_of_le (hO4 q hq).2.1 hk5.1⟩
          have hb5l : bl < h5.next := Nat.lt_of_lt_of_le hb4 hk5.1
          have hkk5 : Keep h h5 [p] := hkk4.trans hk5 fun q hq => .inr (by rw [List.mem_singleton.1 hq]; exact hb0)
          have hle := Nat.le_trans (List.length_eraseIdx_le lf i) hlf
          clear hdel hk5 hp4 hbl4 hkk4 hout4 hO4 c3
          repeat first | refine G_seq ?_ | refine G_reg ?_ | refine N_seq ?_ | refine N_block ?_ | refine G_block ?_ | refine G_skip ?_ | refine G_cT ?_ | refine G_cF ?_ | refine G_ret ?_ | refine U_seq_ret ?_ | refine U_block_ret ?_ | refine U_nil ?_ | refine S_nil ?_ | refine S_auto ?_
          refine N_nil ?_
          exact LQ_n k (by omega) ⟨c - g, xc, true, lf.eraseIdx i, out ++ [(xc, g)], _, v3, O3, by simp only [at_put, at_none, n_put, reduceIte, Nat.reduceEqDiff, Nat.reduceLT, zq, *]; first | done | rfl, by simp only [at_put, at_none, n_put, reduceIte, Nat.reduceEqDiff, Nat.reduceLT, zq, *]; first | done | rfl, by simp only [at_put, at_none, n_put, reduceIte, Nat.reduceEqDiff, Nat.reduceLT, zq, *]; first | done | rfl, by simp only [at_put, at_none, n_put, reduceIte, Nat.reduceEqDiff, Nat.reduceLT, zq, *]; first | done | rfl, hp5, .inr ⟨bl, js5, hb0, hb5l, hbO3, rfl, hb5⟩, hout5, hO5, hkk5, hRs.symm, by omega, by omega, by rw [List.length_append]; exact hcl, hwe, hle⟩
        · have c3 : (xw - g = 0) = False := eq_false hz
          rw [if_neg hz] at hRs
          have hws := hwm (xw - g) (by omega) (by omega)
          have hle : (lf.set i (xc, xw - g)).length ≤ 20 := by rw [List.length_set]; exact hlf
          have hO5 : ∀ q ∈ O3, h.next ≤ q ∧ q < h4.next := fun q hq => ⟨(hO4 q hq).1, (hO4 q hq).2.1⟩
          have hlv : Value.slice (some ⟨bl, 0, none⟩) lf.length (CAPX + kF.sz) = .slice (some ⟨bl, 0, none⟩) (lf.set i (xc, xw - g)).length (CAPX + kF.sz) := by rw [List.length_set]
          clear hz
          repeat first | refine G_seq ?_ | refine G_reg ?_ | refine N_seq ?_ | refine N_block ?_ | refine G_block ?_ | refine G_skip ?_ | refine G_cT ?_ | refine G_cF ?_ | refine G_ret ?_ | refine U_seq_ret ?_ | refine U_block_ret ?_ | refine U_nil ?_ | refine S_nil ?_ | refine S_auto ?_
          refine N_nil ?_
          exact LQ_n k (by omega) ⟨c - g, xc, true, lf.set i (xc, xw - g), out ++ [(xc, g)], .slice (some ⟨bl, 0, none⟩) lf.length (CAPX + kF.sz), v3, O3, by simp only [at_put, at_none, n_put, reduceIte, Nat.reduceEqDiff, Nat.reduceLT, zq, *]; first | done | rfl, by simp only [at_put, at_none, n_put, reduceIte, Nat.reduceEqDiff, Nat.reduceLT, zq, *]; first | done | rfl, by simp only [at_put, at_none, n_put, reduceIte, Nat.reduceEqDiff, Nat.reduceLT, zq, *]; first | done | rfl, by simp only [at_put, at_none, n_put, reduceIte, Nat.reduceEqDiff, Nat.reduceLT, zq, *]; first | done | rfl, hp4, .inr ⟨bl, js, hb0, hb4, hbO3, hlv, hbl4⟩, hout4, hO5, hkk4, hRs.symm, by omega, by omega, by rw [List.length_append]; exact hcl, hws, hle⟩
end
end Go.Proofs.Yteffhomollmpdaa.AM.SX
