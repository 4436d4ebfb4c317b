/- What turns a pool: Shut. -/
import Derived.Test.YtffockklleanmaaPS3
namespace Go.Proofs.Ytffockklleanmaa.AM.SX
open Go
set_option linter.unusedVariables false
set_option linter.unusedSimpArgs false
set_option maxRecDepth 100000
set_option maxHeartbeats 4000000
attribute [local irreducible] astep0 aev awants abin abuild
section
variable {n : Nat} {h : AHeap}
theorem shut1_spec {bx : Nat} {k x : Int} {z : Bool} (hb : h.get bx = some (.cells [.int .i64 k] z)) : C EE (n + 1) 44 [.int .i64 x, .pointer (some ⟨bx, 0, none⟩)] h fun r h' => r = .bool (decide (x = k)) ∧ h' = h := by
  refine C_in (E_X _) F_shut1 rfl rfl rfl ?_
  intro a hn hat
  have e0 := hat 0 _ rfl
  have e1 := hat 1 _ rfl
  replace hn : a.n = 7 := hn
  clear hat
  repeat first | refine G_seq ?_ | refine G_reg ?_ | refine N_seq ?_ | refine N_block ?_ | refine G_block ?_ | refine G_skip ?_ | refine G_cT ?_ | refine G_cF ?_ | refine G_ret ?_ | refine U_seq_ret ?_ | refine U_block_ret ?_ | refine U_nil ?_ | refine S_nil ?_ | refine S_auto ?_
  refine FQ_in (by first | exact .inr rfl | exact .inl rfl) (by first | exact ares1 (by simp only [at_put, at_none, n_put, reduceIte, Nat.reduceEqDiff, Nat.reduceLT, zq, *]; first | done | rfl) | exact ares2 (by simp only [at_put, at_none, n_put, reduceIte, Nat.reduceEqDiff, Nat.reduceLT, zq, *]; first | done | rfl) (by simp only [at_put, at_none, n_put, reduceIte, Nat.reduceEqDiff, Nat.reduceLT, zq, *]; first | done | rfl)) ?_
  exact ⟨rfl, rfl⟩
/-- the first place of k, or none -/
def idx (l : List Int) (k : Int) : Int := match l.findIdx? (· == k) with | some i => (i : Int) | none => -1
theorem idx_none {l : List Int} {k : Int} (h : ∀ (q : Nat) (hq : q < l.length), l[q] ≠ k) : idx l k = -1 := by
  have : l.findIdx? (· == k) = none := by
    rw [List.findIdx?_eq_none_iff]
    intro x hx
    obtain ⟨i, hi, rfl⟩ := List.mem_iff_getElem.1 hx
    simpa using h i hi
  simp only [idx, this]
theorem idx_at {l : List Int} {k : Int} {i : Nat} (hi : i < l.length) (he : l[i] = k) (h : ∀ (q : Nat) (hq : q < l.length), q < i → l[q] ≠ k) : idx l k = (i : Int) := by
  have : l.findIdx? (· == k) = some i := by
    rw [List.findIdx?_eq_some_iff_getElem]
    exact ⟨hi, by simpa using he, fun j hj => by simpa using h j (by omega) hj⟩
  simp only [idx, this]
theorem index_spec {bx : Nat} {k : Int} {z : Bool} {l : List Int} {v : Value} {O : List Nat} (hv : IntsAt h l v O) (hn : l.length + 2 ≤ n) (hb : h.get bx = some (.cells [.int .i64 k] z)) (hl : l.length < 1000000) : C EE (n + 1) 46 [v, .func (.func 44) #[] #[.pointer (some ⟨bx, 0, none⟩)]] h fun r h' => r = .int .i64 (idx l k) ∧ h' = h := by
  refine C_in (E_X _) F_indexFunc rfl rfl rfl ?_
  intro a hn' hat
  have e0 := hat 0 _ rfl
  have e1 := hat 1 _ rfl
  replace hn' : a.n = 19 := hn'
  clear hat
  obtain ⟨n', rfl⟩ : ∃ n', n = n' + 1 := ⟨n - 1, by omega⟩
  repeat first | refine G_seq ?_ | refine G_reg ?_ | refine N_seq ?_ | refine N_block ?_ | refine G_block ?_ | refine G_skip ?_ | refine G_cT ?_ | refine G_cF ?_ | refine G_ret ?_ | refine U_seq_ret ?_ | refine U_block_ret ?_ | refine U_nil ?_ | refine S_nil ?_ | refine S_auto ?_
  refine S_step wants0 (o_builtin (by simp only [List.map, aev_tmp, aev_const, aev_func, aev_global, at_put, at_none, n_put, reduceIte, Nat.reduceEqDiff, Nat.reduceLT, zq, *]; first | done | rfl) (hv.lenB (TL rfl))) ?_
  repeat first | refine G_seq ?_ | refine G_reg ?_ | refine N_seq ?_ | refine N_block ?_ | refine G_block ?_ | refine G_skip ?_ | refine G_cT ?_ | refine G_cF ?_ | refine G_ret ?_ | refine U_seq_ret ?_ | refine U_block_ret ?_ | refine U_nil ?_ | refine S_nil ?_ | refine S_auto ?_
  refine G_loop (fun j a h' => ∃ i : Nat, i + j = l.length ∧ h' = h ∧ a.n = 19 ∧ a.at 0 = v ∧ a.at 1 = .func (.func 44) #[] #[.pointer (some ⟨bx, 0, none⟩)] ∧ a.at 7 = .int .i64 (l.length : Int) ∧ a.at 8 = .int .i64 (i : Int) ∧ ∀ (q : Nat) (hq : q < l.length), q < i → l[q] ≠ k) l.length (by omega) ⟨0, by omega, rfl, by simp only [at_put, at_none, n_put, reduceIte, Nat.reduceEqDiff, Nat.reduceLT, zq, *]; first | done | rfl, by simp only [at_put, at_none, n_put, reduceIte, Nat.reduceEqDiff, Nat.reduceLT, zq, *]; first | done | rfl, by simp only [at_put, at_none, n_put, reduceIte, Nat.reduceEqDiff, Nat.reduceLT, zq, *]; first | done | rfl, by simp only [at_put, at_none, n_put, reduceIte, Nat.reduceEqDiff, Nat.reduceLT, zq, *]; first | done | rfl, by simp only [at_put, at_none, n_put, reduceIte, Nat.reduceEqDiff, Nat.reduceLT, zq, *]; first | done | rfl, fun q hq h0 => absurd h0 (Nat.not_lt_zero _)⟩ ?_
  clear e0 e1 hn' a
  rintro j a h' ⟨i, hij, rfl, hna, e0, e1, e7, e8, hq⟩
  by_cases hil : i < l.length
  · have hil' : (i : Int) < (l.length : Int) := by omega
    obtain ⟨bk, cs, g1, g2, g3⟩ := hv.index (T := EE.T) (st := 80) (TL rfl) (TL rfl) hil
    repeat first | refine G_seq ?_ | refine G_reg ?_ | refine N_seq ?_ | refine N_block ?_ | refine G_block ?_ | refine G_skip ?_ | refine G_cT ?_ | refine G_cF ?_ | refine G_ret ?_ | refine U_seq_ret ?_ | refine U_block_ret ?_ | refine U_nil ?_ | refine S_nil ?_ | refine S_auto ?_
    refine S_step wants0 (o_indexAddr (by simp only [aev_tmp, aev_const, aev_func, aev_global, at_put, at_none, n_put, reduceIte, Nat.reduceEqDiff, Nat.reduceLT, zq, *]; first | done | rfl) (by simp only [aev_tmp, aev_const, aev_func, aev_global, at_put, at_none, n_put, reduceIte, Nat.reduceEqDiff, Nat.reduceLT, zq, *]; first | done | rfl) g1) ?_
    refine S_step wants0 (o_ld (by simp only [aev_tmp, aev_const, aev_func, aev_global, at_put, at_none, n_put, reduceIte, Nat.reduceEqDiff, Nat.reduceLT, zq, *]; first | done | rfl) (TL rfl) rfl (rd_cells g2) g3) ?_
    refine S_call wants0 (by simp only [aev_tmp, aev_const, aev_func, aev_global, at_put, at_none, n_put, reduceIte, Nat.reduceEqDiff, Nat.reduceLT, zq, *]; first | done | rfl) (E_Y _) (by simp only [List.map, aev_tmp, aev_const, aev_func, aev_global, at_put, at_none, n_put, reduceIte, Nat.reduceEqDiff, Nat.reduceLT, zq, *]; first | done | rfl) ?_
    refine (shut1_spec hb).mono ?_
    rintro r h2 ⟨rfl, rfl⟩
    by_cases he : l[i] = k
    · have hx := idx_at hil he hq
      clear g1 g2 g3 hq
      repeat first | refine G_seq ?_ | refine G_reg ?_ | refine N_seq ?_ | refine N_block ?_ | refine G_block ?_ | refine G_skip ?_ | refine G_cT ?_ | refine G_cF ?_ | refine G_ret ?_ | refine U_seq_ret ?_ | refine U_block_ret ?_ | refine U_nil ?_ | refine S_nil ?_ | refine S_auto ?_
      refine LQ_ret ?_
      repeat first | refine G_seq ?_ | refine G_reg ?_ | refine N_seq ?_ | refine N_block ?_ | refine G_block ?_ | refine G_skip ?_ | refine G_cT ?_ | refine G_cF ?_ | refine G_ret ?_ | refine U_seq_ret ?_ | refine U_block_ret ?_ | refine U_nil ?_ | refine S_nil ?_ | refine S_auto ?_
      refine FQ_in (by first | exact .inr rfl | exact .inl rfl) (by first | exact ares1 (by simp only [at_put, at_none, n_put, reduceIte, Nat.reduceEqDiff, Nat.reduceLT, zq, *]; first | done | rfl) | exact ares2 (by simp only [at_put, at_none, n_put, reduceIte, Nat.reduceEqDiff, Nat.reduceLT, zq, *]; first | done | rfl) (by simp only [at_put, at_none, n_put, reduceIte, Nat.reduceEqDiff, Nat.reduceLT, zq, *]; first | done | rfl)) ?_
      exact ⟨by simp only [oneOf, hx], rfl⟩
    · clear g1 g2 g3
      repeat first | refine G_seq ?_ | refine G_reg ?_ | refine N_seq ?_ | refine N_block ?_ | refine G_block ?_ | refine G_skip ?_ | refine G_cT ?_ | refine G_cF ?_ | refine G_ret ?_ | refine U_seq_ret ?_ | refine U_block_ret ?_ | refine U_nil ?_ | refine S_nil ?_ | refine S_auto ?_
      refine N_nil ?_
      refine LQ_n (j - 1) (by omega) ⟨i + 1, by omega, rfl, by simp only [at_put, at_none, n_put, reduceIte, Nat.reduceEqDiff, Nat.reduceLT, zq, *]; first | done | rfl, by simp only [at_put, at_none, n_put, reduceIte, Nat.reduceEqDiff, Nat.reduceLT, zq, *]; first | done | rfl, by simp only [at_put, at_none, n_put, reduceIte, Nat.reduceEqDiff, Nat.reduceLT, zq, *]; first | done | rfl, by simp only [at_put, at_none, n_put, reduceIte, Nat.reduceEqDiff, Nat.reduceLT, zq, *]; first | done | rfl, by simp only [at_put, at_none, n_put, reduceIte, Nat.reduceEqDiff, Nat.reduceLT, zq, *]; first | done | rfl, fun q hql hqi => ?_⟩
      rcases Nat.lt_or_ge q i with h1 | h1
      · exact hq q hql h1
      · obtain rfl : q = i := by omega
        exact he
  · have hil' : ¬ (i : Int) < (l.length : Int) := by omega
    have hx := idx_none (fun q hql => hq q hql (by omega))
    clear hq
    repeat first | refine G_seq ?_ | refine G_reg ?_ | refine N_seq ?_ | refine N_block ?_ | refine G_block ?_ | refine G_skip ?_ | refine G_cT ?_ | refine G_cF ?_ | refine G_ret ?_ | refine U_seq_ret ?_ | refine U_block_ret ?_ | refine U_nil ?_ | refine S_nil ?_ | refine S_auto ?_
    refine G_exit ?_
    repeat first | refine U_seq_exit ?_ | refine U_nil ?_ | refine LQ_exit ?_ | refine U_block_hit ?_
    repeat first | refine G_seq ?_ | refine G_reg ?_ | refine N_seq ?_ | refine N_block ?_ | refine G_block ?_ | refine G_skip ?_ | refine G_cT ?_ | refine G_cF ?_ | refine G_ret ?_ | refine U_seq_ret ?_ | refine U_block_ret ?_ | refine U_nil ?_ | refine S_nil ?_ | refine S_auto ?_
    refine FQ_in (by first | exact .inr rfl | exact .inl rfl) (by first | exact ares1 (by simp only [at_put, at_none, n_put, reduceIte, Nat.reduceEqDiff, Nat.reduceLT, zq, *]; first | done | rfl) | exact ares2 (by simp only [at_put, at_none, n_put, reduceIte, Nat.reduceEqDiff, Nat.reduceLT, zq, *]; first | done | rfl) (by simp only [at_put, at_none, n_put, reduceIte, Nat.reduceEqDiff, Nat.reduceLT, zq, *]; first | done | rfl)) ?_
    exact ⟨by simp only [oneOf, hx], rfl⟩
/-- a row while k is taken out of it: i numbers are kept of the first j -/
structure DF (l js cur : List Int) (k : Int) (i j : Nat) : Prop where
  len : cur.length = (l ++ js).length
  kept : cur.take i = (l.take j).filter (· != k)
  rest : cur.drop j = (l ++ js).drop j
  lt : i < j
  le : j ≤ l.length
theorem DF.ilt {l js cur : List Int} {k : Int} {i j : Nat} (d : DF l js cur k i j) : i < cur.length := by
  have := d.len; have := d.lt; have := d.le; simp at *; omega
theorem DF.at {l js cur : List Int} {k : Int} {i j : Nat} (d : DF l js cur k i j) (hj : j < l.length) : cur[j]? = some l[j] := by
  have h1 := congrArg (fun z => z[0]?) d.rest
  simp only [List.getElem?_drop, Nat.add_zero] at h1
  rw [h1, List.getElem?_append_left hj, List.getElem?_eq_getElem hj]
theorem DF.skip {l js cur : List Int} {k : Int} {i j : Nat} (d : DF l js cur k i j) (hj : j < l.length) (he : l[j] = k) : DF l js cur k i (j + 1) := by
  refine ⟨d.len, ?_, ?_, by have := d.lt; omega, hj⟩
  · rw [d.kept, List.take_succ_eq_append_getElem hj, List.filter_append]; simp [he]
  · rw [← List.drop_drop, ← List.drop_drop, d.rest]
theorem DF.take {l js cur : List Int} {k : Int} {i j : Nat} (d : DF l js cur k i j) (hj : j < l.length) (he : l[j] ≠ k) : DF l js (cur.set i l[j]) k (i + 1) (j + 1) := by
  have hi := d.ilt
  have hlt := d.lt
  refine ⟨by rw [List.length_set]; exact d.len, ?_, ?_, by omega, hj⟩
  · rw [List.take_succ_eq_append_getElem (by rw [List.length_set]; exact hi), List.take_set_of_le (Nat.le_refl _), List.getElem_set_self, d.kept, List.take_succ_eq_append_getElem hj, List.filter_append]
    simp [he]
  · rw [List.drop_set_of_lt (by omega), ← List.drop_drop, ← List.drop_drop, d.rest]
theorem filter_first {l : List Int} {k : Int} {i : Nat} (hi : i < l.length) (he : l[i] = k) (h : ∀ (q : Nat) (hq : q < l.length), q < i → l[q] ≠ k) : (l.take (i + 1)).filter (· != k) = l.take i := by
  rw [List.take_succ_eq_append_getElem hi, List.filter_append]
  have : (l.take i).filter (· != k) = l.take i := by
    rw [List.filter_eq_self]
    intro x hx
    obtain ⟨q, hq, rfl⟩ := List.mem_iff_getElem.1 hx
    rw [List.getElem_take]
    simpa using h q (by simp at hq; omega) (by simp at hq; omega)
  rw [this]; simp [he]
theorem deleteFunc_spec {bx : Nat} {k : Int} {z : Bool} {l : List Int} {v : Value} {O : List Nat} (hv : IntsAt h l v O) (hn : l.length + 3 ≤ n) (hb : h.get bx = some (.cells [.int .i64 k] z)) (hbx : bx ∉ O) (hl : l.length < 1000000) : C EE (n + 1) 43 [v, .func (.func 44) #[] #[.pointer (some ⟨bx, 0, none⟩)]] h fun r h' => IntsAt h' (l.filter (· != k)) r O ∧ h'.next = h.next ∧ ∀ i, i ∉ O → h'.get i = h.get i := by
  refine C_in (E_X _) F_deleteFunc rfl rfl rfl ?_
  intro a hna hat
  have e0 := hat 0 _ rfl
  have e1 := hat 1 _ rfl
  replace hna : a.n = 42 := hna
  clear hat
  obtain ⟨n', rfl⟩ : ∃ n', n = n' + 1 := ⟨n - 1, by omega⟩
  repeat first | refine G_seq ?_ | refine G_reg ?_ | refine N_seq ?_ | refine N_block ?_ | refine G_block ?_ | refine G_skip ?_ | refine G_cT ?_ | refine G_cF ?_ | refine G_ret ?_ | refine U_seq_ret ?_ | refine U_block_ret ?_ | refine U_nil ?_ | refine S_nil ?_ | refine S_auto ?_
  refine S_call wants0 (by simp only [aev_tmp, aev_const, aev_func, aev_global, at_put, at_none, n_put, reduceIte, Nat.reduceEqDiff, Nat.reduceLT, zq, *]; first | done | rfl) (E_Y _) (by simp only [List.map, aev_tmp, aev_const, aev_func, aev_global, at_put, at_none, n_put, reduceIte, Nat.reduceEqDiff, Nat.reduceLT, zq, *]; first | done | rfl) ?_
  refine (index_spec hv (by omega) hb hl).mono ?_
  rintro r h' ⟨rfl, rfl⟩
  cases hf : l.findIdx? (· == k) with
  | none =>
    have hx : idx l k = -1 := by simp only [idx, hf]
    have hfil : l.filter (· != k) = l := by
      rw [List.findIdx?_eq_none_iff] at hf
      rw [List.filter_eq_self]
      intro x hxm
      have := hf x hxm
      simpa using this
    rw [hx]
    clear hf hx
    repeat first | refine G_seq ?_ | refine G_reg ?_ | refine N_seq ?_ | refine N_block ?_ | refine G_block ?_ | refine G_skip ?_ | refine G_cT ?_ | refine G_cF ?_ | refine G_ret ?_ | refine U_seq_ret ?_ | refine U_block_ret ?_ | refine U_nil ?_ | refine S_nil ?_ | refine S_auto ?_
    refine FQ_in (by first | exact .inr rfl | exact .inl rfl) (by first | exact ares1 (by simp only [at_put, at_none, n_put, reduceIte, Nat.reduceEqDiff, Nat.reduceLT, zq, *]; first | done | rfl) | exact ares2 (by simp only [at_put, at_none, n_put, reduceIte, Nat.reduceEqDiff, Nat.reduceLT, zq, *]; first | done | rfl) (by simp only [at_put, at_none, n_put, reduceIte, Nat.reduceEqDiff, Nat.reduceLT, zq, *]; first | done | rfl)) ?_
    rw [hfil]
    exact ⟨hv, rfl, fun _ _ => rfl⟩
  | some i0 =>
    have hx : idx l k = (i0 : Int) := by simp only [idx, hf]
    rw [List.findIdx?_eq_some_iff_getElem] at hf
    obtain ⟨hi0, hk0', hq0'⟩ := hf
    have hk0 : l[i0] = k := by simpa using hk0'
    have hq0 : ∀ (q : Nat) (hq : q < l.length), q < i0 → l[q] ≠ k := fun q hq h1 => by simpa using hq0' q h1
    clear hk0' hq0'
    rw [hx]
    clear hx
    rcases hv with ⟨rfl, _, _⟩ | ⟨bk, js, rfl, hbk, rfl⟩
    · exact absurd hi0 (Nat.not_lt_zero _)
    have hbx : bx ≠ bk := by simpa using hbx
    have hd0 : DF l js (l ++ js) k i0 (i0 + 1) := ⟨rfl, by rw [filter_first hi0 hk0 hq0, List.take_append_of_le_length (by omega)], rfl, by omega, hi0⟩
    clear hk0 hq0
    have hne : ((i0 : Int) = -1) = False := eq_false (by omega)
    have hi0' : (i0 : Int) < 1000000 := by omega
    repeat first | refine G_seq ?_ | refine G_reg ?_ | refine N_seq ?_ | refine N_block ?_ | refine G_block ?_ | refine G_skip ?_ | refine G_cT ?_ | refine G_cF ?_ | refine G_ret ?_ | refine U_seq_ret ?_ | refine U_block_ret ?_ | refine U_nil ?_ | refine S_nil ?_ | refine S_auto ?_
    clear hne
    refine G_loop (fun r a h2 => ∃ (i j : Nat) (cur : List Int), j + r = l.length ∧ DF l js cur k i j ∧ h2.next = h'.next ∧ (∀ q, q ≠ bk → h2.get q = h'.get q) ∧ h2.get bk = some (.cells (ints cur) true) ∧ a.n = 42 ∧ a.at 0 = .slice (some ⟨bk, 0, none⟩) l.length (CAPX + 1) ∧ a.at 1 = .func (.func 44) #[] #[.pointer (some ⟨bx, 0, none⟩)] ∧ a.at 5 = .int .i64 (i : Int) ∧ a.at 6 = .int .i64 (j : Int)) (l.length - (i0 + 1)) (by omega) ⟨i0, i0 + 1, l ++ js, by omega, hd0, rfl, fun _ _ => rfl, hbk, by simp only [at_put, at_none, n_put, reduceIte, Nat.reduceEqDiff, Nat.reduceLT, zq, *]; first | done | rfl, by simp only [at_put, at_none, n_put, reduceIte, Nat.reduceEqDiff, Nat.reduceLT, zq, *]; first | done | rfl, by simp only [at_put, at_none, n_put, reduceIte, Nat.reduceEqDiff, Nat.reduceLT, zq, *]; first | done | rfl, by simp only [at_put, at_none, n_put, reduceIte, Nat.reduceEqDiff, Nat.reduceLT, zq, *]; first | done | rfl, by rw [Int.natCast_add]; simp only [at_put, at_none, n_put, reduceIte, Nat.reduceEqDiff, Nat.reduceLT, zq, *]; first | done | rfl⟩ ?_
    clear e0 e1 hna a hd0 hi0 hi0'
    rintro r a h2 ⟨i, j, cur, hjr, hd, hnx, hoth, hg, hna, e0, e1, e5, e6⟩
    have hoth0 := id hoth
    by_cases hjl : j < l.length
    · have hjl' : (j : Int) < (l.length : Int) := by omega
      have hia : aindexAddr EE.T 80 (.slice (some ⟨bk, 0, none⟩) l.length (CAPX + 1)) (.int .i64 (j : Int)) = some (.pointer (some ⟨bk, j, none⟩)) := by
        simp only [aindexAddr, TL (t := 80) rfl, TL (t := 3) rfl]
        rw [if_pos ⟨Int.natCast_nonneg _, by omega⟩]
        simp
      have hcj : (ints cur)[j]? = some (.int .i64 l[j]) := by rw [ints_get, hd.at hjl]; rfl
      have hii : aindexAddr EE.T 80 (.slice (some ⟨bk, 0, none⟩) l.length (CAPX + 1)) (.int .i64 (i : Int)) = some (.pointer (some ⟨bk, i, none⟩)) := by
        simp only [aindexAddr, TL (t := 80) rfl, TL (t := 3) rfl]
        rw [if_pos ⟨Int.natCast_nonneg _, by have := hd.lt; have := hd.le; omega⟩]
        simp
      have hpi : putAt (ints cur) i [.int .i64 l[j]] = some (ints (cur.set i l[j])) := put_ints hd.ilt
      have hb2 : h2.get bx = some (.cells [.int .i64 k] z) := by rw [hoth bx hbx]; exact hb
      have hil := hd.ilt
      have hdl := hd.lt
      by_cases he : l[j] = k
      · have hd' := hd.skip hjl he
        clear hoth
        repeat first | refine G_seq ?_ | refine G_reg ?_ | refine N_seq ?_ | refine N_block ?_ | refine G_block ?_ | refine G_skip ?_ | refine G_cT ?_ | refine G_cF ?_ | refine G_ret ?_ | refine U_seq_ret ?_ | refine U_block_ret ?_ | refine U_nil ?_ | refine S_nil ?_ | refine S_auto ?_
        refine S_step wants0 (o_builtin (by simp only [List.map, aev_tmp, aev_const, aev_func, aev_global, at_put, at_none, n_put, reduceIte, Nat.reduceEqDiff, Nat.reduceLT, zq, *]; first | done | rfl) (lenS (TL rfl))) ?_
        repeat first | refine G_seq ?_ | refine G_reg ?_ | refine N_seq ?_ | refine N_block ?_ | refine G_block ?_ | refine G_skip ?_ | refine G_cT ?_ | refine G_cF ?_ | refine G_ret ?_ | refine U_seq_ret ?_ | refine U_block_ret ?_ | refine U_nil ?_ | refine S_nil ?_ | refine S_auto ?_
        refine S_step wants0 (o_indexAddr (by simp only [aev_tmp, aev_const, aev_func, aev_global, at_put, at_none, n_put, reduceIte, Nat.reduceEqDiff, Nat.reduceLT, zq, *]; first | done | rfl) (by simp only [aev_tmp, aev_const, aev_func, aev_global, at_put, at_none, n_put, reduceIte, Nat.reduceEqDiff, Nat.reduceLT, zq, *]; first | done | rfl) hia) ?_
        refine S_step wants0 (o_ld (by simp only [aev_tmp, aev_const, aev_func, aev_global, at_put, at_none, n_put, reduceIte, Nat.reduceEqDiff, Nat.reduceLT, zq, *]; first | done | rfl) (TL rfl) rfl (rd_cells hg) hcj) ?_
        repeat first | refine G_seq ?_ | refine G_reg ?_ | refine N_seq ?_ | refine N_block ?_ | refine G_block ?_ | refine G_skip ?_ | refine G_cT ?_ | refine G_cF ?_ | refine G_ret ?_ | refine U_seq_ret ?_ | refine U_block_ret ?_ | refine U_nil ?_ | refine S_nil ?_ | refine S_auto ?_
        refine S_call wants0 (by simp only [aev_tmp, aev_const, aev_func, aev_global, at_put, at_none, n_put, reduceIte, Nat.reduceEqDiff, Nat.reduceLT, zq, *]; first | done | rfl) (E_Y _) (by simp only [List.map, aev_tmp, aev_const, aev_func, aev_global, at_put, at_none, n_put, reduceIte, Nat.reduceEqDiff, Nat.reduceLT, zq, *]; first | done | rfl) ?_
        refine (shut1_spec hb2).mono ?_
        rintro r2 h3 ⟨rfl, rfl⟩
        repeat first | refine G_seq ?_ | refine G_reg ?_ | refine N_seq ?_ | refine N_block ?_ | refine G_block ?_ | refine G_skip ?_ | refine G_cT ?_ | refine G_cF ?_ | refine G_ret ?_ | refine U_seq_ret ?_ | refine U_block_ret ?_ | refine U_nil ?_ | refine S_nil ?_ | refine S_auto ?_
        refine N_nil ?_
        exact LQ_n (r - 1) (by omega) ⟨i, j + 1, cur, by omega, hd', hnx, hoth0, hg, by simp only [at_put, at_none, n_put, reduceIte, Nat.reduceEqDiff, Nat.reduceLT, zq, *]; first | done | rfl, by simp only [at_put, at_none, n_put, reduceIte, Nat.reduceEqDiff, Nat.reduceLT, zq, *]; first | done | rfl, by simp only [at_put, at_none, n_put, reduceIte, Nat.reduceEqDiff, Nat.reduceLT, zq, *]; first | done | rfl, by simp only [at_put, at_none, n_put, reduceIte, Nat.reduceEqDiff, Nat.reduceLT, zq, *]; first | done | rfl, by rw [Int.natCast_add]; simp only [at_put, at_none, n_put, reduceIte, Nat.reduceEqDiff, Nat.reduceLT, zq, *]; first | done | rfl⟩
      · have hd' := hd.take hjl he
        clear hoth
        repeat first | refine G_seq ?_ | refine G_reg ?_ | refine N_seq ?_ | refine N_block ?_ | refine G_block ?_ | refine G_skip ?_ | refine G_cT ?_ | refine G_cF ?_ | refine G_ret ?_ | refine U_seq_ret ?_ | refine U_block_ret ?_ | refine U_nil ?_ | refine S_nil ?_ | refine S_auto ?_
        refine S_step wants0 (o_builtin (by simp only [List.map, aev_tmp, aev_const, aev_func, aev_global, at_put, at_none, n_put, reduceIte, Nat.reduceEqDiff, Nat.reduceLT, zq, *]; first | done | rfl) (lenS (TL rfl))) ?_
        repeat first | refine G_seq ?_ | refine G_reg ?_ | refine N_seq ?_ | refine N_block ?_ | refine G_block ?_ | refine G_skip ?_ | refine G_cT ?_ | refine G_cF ?_ | refine G_ret ?_ | refine U_seq_ret ?_ | refine U_block_ret ?_ | refine U_nil ?_ | refine S_nil ?_ | refine S_auto ?_
        refine S_step wants0 (o_indexAddr (by simp only [aev_tmp, aev_const, aev_func, aev_global, at_put, at_none, n_put, reduceIte, Nat.reduceEqDiff, Nat.reduceLT, zq, *]; first | done | rfl) (by simp only [aev_tmp, aev_const, aev_func, aev_global, at_put, at_none, n_put, reduceIte, Nat.reduceEqDiff, Nat.reduceLT, zq, *]; first | done | rfl) hia) ?_
        refine S_step wants0 (o_ld (by simp only [aev_tmp, aev_const, aev_func, aev_global, at_put, at_none, n_put, reduceIte, Nat.reduceEqDiff, Nat.reduceLT, zq, *]; first | done | rfl) (TL rfl) rfl (rd_cells hg) hcj) ?_
        repeat first | refine G_seq ?_ | refine G_reg ?_ | refine N_seq ?_ | refine N_block ?_ | refine G_block ?_ | refine G_skip ?_ | refine G_cT ?_ | refine G_cF ?_ | refine G_ret ?_ | refine U_seq_ret ?_ | refine U_block_ret ?_ | refine U_nil ?_ | refine S_nil ?_ | refine S_auto ?_
        refine S_call wants0 (by simp only [aev_tmp, aev_const, aev_func, aev_global, at_put, at_none, n_put, reduceIte, Nat.reduceEqDiff, Nat.reduceLT, zq, *]; first | done | rfl) (E_Y _) (by simp only [List.map, aev_tmp, aev_const, aev_func, aev_global, at_put, at_none, n_put, reduceIte, Nat.reduceEqDiff, Nat.reduceLT, zq, *]; first | done | rfl) ?_
        refine (shut1_spec hb2).mono ?_
        rintro r2 h3 ⟨rfl, rfl⟩
        repeat first | refine G_seq ?_ | refine G_reg ?_ | refine N_seq ?_ | refine N_block ?_ | refine G_block ?_ | refine G_skip ?_ | refine G_cT ?_ | refine G_cF ?_ | refine G_ret ?_ | refine U_seq_ret ?_ | refine U_block_ret ?_ | refine U_nil ?_ | refine S_nil ?_ | refine S_auto ?_
        refine S_step wants0 (o_indexAddr (by simp only [aev_tmp, aev_const, aev_func, aev_global, at_put, at_none, n_put, reduceIte, Nat.reduceEqDiff, Nat.reduceLT, zq, *]; first | done | rfl) (by simp only [aev_tmp, aev_const, aev_func, aev_global, at_put, at_none, n_put, reduceIte, Nat.reduceEqDiff, Nat.reduceLT, zq, *]; first | done | rfl) hii) ?_
        refine S_step wants0 (o_st1 (by simp only [aev_tmp, aev_const, aev_func, aev_global, at_put, at_none, n_put, reduceIte, Nat.reduceEqDiff, Nat.reduceLT, zq, *]; first | done | rfl) (by simp only [aev_tmp, aev_const, aev_func, aev_global, at_put, at_none, n_put, reduceIte, Nat.reduceEqDiff, Nat.reduceLT, zq, *]; first | done | rfl) (TL rfl) rfl ⟨rfl, rfl⟩ hg hpi) ?_
        repeat first | refine G_seq ?_ | refine G_reg ?_ | refine N_seq ?_ | refine N_block ?_ | refine G_block ?_ | refine G_skip ?_ | refine G_cT ?_ | refine G_cF ?_ | refine G_ret ?_ | refine U_seq_ret ?_ | refine U_block_ret ?_ | refine U_nil ?_ | refine S_nil ?_ | refine S_auto ?_
        refine N_nil ?_
        refine LQ_n (r - 1) (by omega) ⟨i + 1, j + 1, cur.set i l[j], by omega, hd', hnx, fun q hq => ?_, get_set_self _ _ _, by simp only [at_put, at_none, n_put, reduceIte, Nat.reduceEqDiff, Nat.reduceLT, zq, *]; first | done | rfl, by simp only [at_put, at_none, n_put, reduceIte, Nat.reduceEqDiff, Nat.reduceLT, zq, *]; first | done | rfl, by simp only [at_put, at_none, n_put, reduceIte, Nat.reduceEqDiff, Nat.reduceLT, zq, *]; first | done | rfl, by rw [Int.natCast_add]; simp only [at_put, at_none, n_put, reduceIte, Nat.reduceEqDiff, Nat.reduceLT, zq, *]; first | done | rfl, by rw [Int.natCast_add]; simp only [at_put, at_none, n_put, reduceIte, Nat.reduceEqDiff, Nat.reduceLT, zq, *]; first | done | rfl⟩
        rw [get_set_ne hq]; exact hoth0 q hq
    · have hjl' : ¬ (j : Int) < (l.length : Int) := by omega
      have hdl := hd.lt
      have hde := hd.le
      have hje : j = l.length := by omega
      have hdn := hd.len
      have hil : i ≤ l.length := by omega
      have hkept := hd.kept
      rw [hje, List.take_length] at hkept
      have hs1 := sl_ints (T := EE.T) (st := 80) (h := h2) (bk := bk) (L := l.length) (lo := some (.int .i64 (i : Int))) (hi := none) (TL rfl) (TL rfl) (optNat_int _ _) (optNat_none _) hil (Nat.le_refl _)
      have hcl := fun nid => cl_ints (T := EE.T) (st := 80) (ts := []) (nid := nid) (i := i) (n := l.length - i) (c := CAPX + 1) (TL rfl) (TL rfl) hg (by rw [hdn]; simp; omega) (by omega)
      clear hoth
      repeat first | refine G_seq ?_ | refine G_reg ?_ | refine N_seq ?_ | refine N_block ?_ | refine G_block ?_ | refine G_skip ?_ | refine G_cT ?_ | refine G_cF ?_ | refine G_ret ?_ | refine U_seq_ret ?_ | refine U_block_ret ?_ | refine U_nil ?_ | refine S_nil ?_ | refine S_auto ?_
      refine S_step wants0 (o_builtin (by simp only [List.map, aev_tmp, aev_const, aev_func, aev_global, at_put, at_none, n_put, reduceIte, Nat.reduceEqDiff, Nat.reduceLT, zq, *]; first | done | rfl) (lenS (TL rfl))) ?_
      repeat first | refine G_seq ?_ | refine G_reg ?_ | refine N_seq ?_ | refine N_block ?_ | refine G_block ?_ | refine G_skip ?_ | refine G_cT ?_ | refine G_cF ?_ | refine G_ret ?_ | refine U_seq_ret ?_ | refine U_block_ret ?_ | refine U_nil ?_ | refine S_nil ?_ | refine S_auto ?_
      refine G_exit ?_
      repeat first | refine U_seq_exit ?_ | refine U_nil ?_ | refine LQ_exit ?_ | refine U_block_hit ?_
      repeat first | refine G_seq ?_ | refine G_reg ?_ | refine N_seq ?_ | refine N_block ?_ | refine G_block ?_ | refine G_skip ?_ | refine G_cT ?_ | refine G_cF ?_ | refine G_ret ?_ | refine U_seq_ret ?_ | refine U_block_ret ?_ | refine U_nil ?_ | refine S_nil ?_ | refine S_auto ?_
      refine S_step wants0 (o_slice (by simp only [aev_tmp, aev_const, aev_func, aev_global, at_put, at_none, n_put, reduceIte, Nat.reduceEqDiff, Nat.reduceLT, zq, *]; first | done | rfl) (by simp only [Option.map, aev_tmp, aev_const, at_put, at_none, n_put, reduceIte, Nat.reduceEqDiff, Nat.reduceLT, zq, *]; first | done | rfl) (by simp only [Option.map, aev_tmp, aev_const, at_put, at_none, n_put, reduceIte, Nat.reduceEqDiff, Nat.reduceLT, zq, *]; first | done | rfl) (by simp only [Option.map, aev_tmp, aev_const, at_put, at_none, n_put, reduceIte, Nat.reduceEqDiff, Nat.reduceLT, zq, *]; first | done | rfl) hs1) ?_
      refine S_step wants0 (o_builtin (by simp only [List.map, aev_tmp, aev_const, aev_func, aev_global, at_put, at_none, n_put, reduceIte, Nat.reduceEqDiff, Nat.reduceLT, zq, *]; first | done | rfl) (hcl _)) ?_
      repeat first | refine G_seq ?_ | refine G_reg ?_ | refine N_seq ?_ | refine N_block ?_ | refine G_block ?_ | refine G_skip ?_ | refine G_cT ?_ | refine G_cF ?_ | refine G_ret ?_ | refine U_seq_ret ?_ | refine U_block_ret ?_ | refine U_nil ?_ | refine S_nil ?_ | refine S_auto ?_
      refine S_step wants0 (o_slice (by simp only [aev_tmp, aev_const, aev_func, aev_global, at_put, at_none, n_put, reduceIte, Nat.reduceEqDiff, Nat.reduceLT, zq, *]; first | done | rfl) (by simp only [Option.map, aev_tmp, aev_const, at_put, at_none, n_put, reduceIte, Nat.reduceEqDiff, Nat.reduceLT, zq, *]; first | done | rfl) (by simp only [Option.map, aev_tmp, aev_const, at_put, at_none, n_put, reduceIte, Nat.reduceEqDiff, Nat.reduceLT, zq, *]; first | done | rfl) (by simp only [Option.map, aev_tmp, aev_const, at_put, at_none, n_put, reduceIte, Nat.reduceEqDiff, Nat.reduceLT, zq, *]; first | done | rfl) (sl_ints (TL rfl) (TL rfl) (optNat_none _) (optNat_int _ _) (Nat.zero_le _) hil)) ?_
      repeat first | refine G_seq ?_ | refine G_reg ?_ | refine N_seq ?_ | refine N_block ?_ | refine G_block ?_ | refine G_skip ?_ | refine G_cT ?_ | refine G_cF ?_ | refine G_ret ?_ | refine U_seq_ret ?_ | refine U_block_ret ?_ | refine U_nil ?_ | refine S_nil ?_ | refine S_auto ?_
      refine FQ_in (by first | exact .inr rfl | exact .inl rfl) (by first | exact ares1 (by simp only [at_put, at_none, n_put, reduceIte, Nat.reduceEqDiff, Nat.reduceLT, zq, *]; first | done | rfl) | exact ares2 (by simp only [at_put, at_none, n_put, reduceIte, Nat.reduceEqDiff, Nat.reduceLT, zq, *]; first | done | rfl) (by simp only [at_put, at_none, n_put, reduceIte, Nat.reduceEqDiff, Nat.reduceLT, zq, *]; first | done | rfl)) ?_
      have hlen : (l.filter (· != k)).length = i := by rw [← hkept, List.length_take, hdn]; simp; omega
      refine ⟨.inr ⟨bk, List.replicate (l.length - i) 0 ++ cur.drop (i + (l.length - i)), ?_, ?_, rfl⟩, ?_, fun q hq => ?_⟩
      · rw [hlen]; rfl
      · rw [get_set_self, hkept]
      · rw [next_set]; exact hnx
      · have hq : q ≠ bk := by simpa using hq
        rw [get_set_ne hq]; exact hoth0 q hq
end
end Go.Proofs.Ytffockklleanmaa.AM.SX
