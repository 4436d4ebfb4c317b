/- What turns a pool: Shut. -/
import Derived.Test.YtffockklleanmaaPS4
namespace Go.Proofs.Ytffockklleanmaa.AM.SX
open Go
set_option linter.unusedVariables false
set_option linter.unusedSimpArgs false
set_option maxRecDepth 100000
set_option maxHeartbeats 4000000
attribute [local irreducible] astep0 aev awants abin abuild
theorem mdel_all (k : Int) : ∀ l : List Hd, (l.map (·.k)).Nodup → mdel (l.map hKV) (.int .i64 k) = some ((l.filter (fun x => x.k != k)).map hKV)
  | [], _ => rfl
  | x :: l, hn => by
    have e : keyEq (.int .i64 k) (.int .i64 x.k) = some (k == x.k) := by simp [keyEq]
    simp only [List.map_cons, List.nodup_cons] at hn
    simp only [List.map_cons, hKV, mdel, e, List.filter_cons]
    by_cases h : k = x.k
    · subst h
      have h1 : l.filter (fun y => y.k != x.k) = l := by
        rw [List.filter_eq_self]
        intro y hy
        simp only [bne_iff_ne, ne_eq]
        exact fun e => hn.1 (e ▸ List.mem_map_of_mem hy)
      simp [h1]
    · have h1 : (k == x.k) = false := by simpa using h
      have h2 : (x.k != k) = true := by simpa using fun e => h e.symm
      have ih := mdel_all k l hn.2
      have ih' : mdel (l.map fun x => (Value.int .i64 x.k, Value.pointer (some ⟨x.id, 0, none⟩))) (.int .i64 k) = some ((l.filter (fun x => x.k != k)).map hKV) := ih
      rw [h1, h2]
      simp only [ih, if_true, List.map_cons, hKV]
section
variable {n : Nat} {h : AHeap} {p : Nat} {s : PS} {m : Nat} {v : Value} {OI : List Nat}
theorem shut_spec (hi : PInv h p s m v OI) (hlen : s.idles.length + 5 ≤ n) (hl : s.idles.length < 1000000) (k : Int) : C EE (n + 2) 29 [.pointer (some ⟨p, 0, none⟩), .int .i64 k] h fun r h' => r = .bool (s.find k).isSome ∧ Upd h h' p (own p m OI s) { s with all := s.all.filter (fun x => x.k != k), idles := s.idles.filter (· != k) } := by
  obtain ⟨q1, q2, q3, q4, q5, q6⟩ := hi.ne_pm
  have hp := hi.cell
  have hm := hi.map
  have hl1 := mget_all k s.all
  have hdel := mdel_all k s.all hi.keys
  refine C_in (E_X _) F_shut rfl rfl rfl ?_
  intro a hna hat
  have e0 := hat 0 _ rfl
  have e1 := hat 1 _ rfl
  replace hna : a.n = 31 := hna
  clear hat
  repeat first | refine G_seq ?_ | refine G_reg ?_ | refine N_seq ?_ | refine N_block ?_ | refine G_block ?_ | refine G_skip ?_ | refine G_cT ?_ | refine G_cF ?_ | refine G_ret ?_ | refine U_seq_ret ?_ | refine U_block_ret ?_ | refine U_nil ?_ | refine S_nil ?_ | refine S_auto ?_
  refine G_draw [] [] (by kernel_rfl) ?_
  have hfind : ∃ r, s.find k = r := ⟨_, rfl⟩
  obtain ⟨fr, hfr⟩ := hfind
  have hfr2 : s.all.find? (fun x => x.k == k) = fr := hfr
  rw [hfr2] at hl1
  rw [hfr]
  rcases fr with _ | x
  all_goals
    first
      | replace hl1 : mget (s.all.map hKV) (.int .i64 k) = some none := hl1
      | replace hl1 : mget (s.all.map hKV) (.int .i64 k) = some (some (.pointer (some ⟨x.id, 0, none⟩))) := hl1
    repeat first | refine D1_nil0 ?_ | refine D2_nil ?_ | refine D_pure ?_ | refine D_rd ?_ | refine D2_pure' ?_
    clear hl1 hfr hfr2
    repeat first | refine G_seq ?_ | refine G_reg ?_ | refine N_seq ?_ | refine N_block ?_ | refine G_block ?_ | refine G_skip ?_ | refine G_cT ?_ | refine G_cF ?_ | refine G_ret ?_ | refine U_seq_ret ?_ | refine U_block_ret ?_ | refine U_nil ?_ | refine S_nil ?_ | refine S_auto ?_
    refine G_draw [] [] (by kernel_rfl) ?_
    repeat first | refine D1_nil0 ?_ | refine D2_nil ?_ | refine D_pure ?_ | refine D_rd ?_ | refine D2_pure' ?_
    refine D1_wr0 wants0 rfl (o_builtin (by simp only [List.map, aev_tmp, aev_const, aev_func, aev_global, at_put, at_none, n_put, reduceIte, Nat.reduceEqDiff, Nat.reduceLT, zq, *]; first | done | rfl) (del_ok (TL rfl) (isKey_int (TL rfl)) (by simp (disch := omega) only [get_set_self, get_new_self, get_set_ne, get_new_ne, get_bump, next_set, next_new, Nat.lt_irrefl, reduceIte, next_kill, next_bump, *]; first | done | rfl) hdel)) .nil ?_
    clear hdel
    repeat first | refine D1_nil0 ?_ | refine D2_nil ?_ | refine D_pure ?_ | refine D_rd ?_ | refine D2_pure' ?_
    repeat first | refine G_seq ?_ | refine G_reg ?_ | refine N_seq ?_ | refine N_block ?_ | refine G_block ?_ | refine G_skip ?_ | refine G_cT ?_ | refine G_cF ?_ | refine G_ret ?_ | refine U_seq_ret ?_ | refine U_block_ret ?_ | refine U_nil ?_ | refine S_nil ?_ | refine S_auto ?_
    refine S_call wants0 (by simp only [aev_tmp, aev_const, aev_func, aev_global, at_put, at_none, n_put, reduceIte, Nat.reduceEqDiff, Nat.reduceLT, zq, *]; first | done | rfl) (E_Y _) (by simp only [List.map, aev_tmp, aev_const, aev_func, aev_global, at_put, at_none, n_put, reduceIte, Nat.reduceEqDiff, Nat.reduceLT, zq, *]; first | done | rfl) ?_
    have hk5 : ∀ i, i < h.next → i ≠ m → ∀ (N1 N2 : Nat) (o : AObj) (o2 : AObj), ((bump (bump (h.new h.next o) N1) N2).set m o2).get i = h.get i := by
      intro i h1 h2 N1 N2 o o2
      rw [get_set_ne h2, get_bump, get_bump, get_new_ne (by omega)]
    refine (deleteFunc_spec (n := n) (z := true) (hi.ints.keep fun i hO => hk5 i (q6 i hO) (fun e => q3 (e ▸ hO)) _ _ _ _) (by omega) (by simp (disch := omega) only [get_set_self, get_new_self, get_set_ne, get_new_ne, get_bump, next_set, next_new, Nat.lt_irrefl, reduceIte, next_kill, next_bump, *]; first | done | rfl) (fun hO => by have := q6 _ hO; omega) hl).mono ?_
    rintro v6 h6 ⟨g1, g2, g3⟩
    have hp6 : h6.get p = some (.cells [.int .i64 s.most, .int .i64 s.last, .map (some m), v] true) := by rw [g3 p q2, hk5 p q4 q1]; exact hp
    have hm6 : h6.get m = some (.map ((s.all.filter (fun x => x.k != k)).map hKV)) := by rw [g3 m q3]; exact get_set_self _ _ _
    have hg6 : ∀ i, i < h.next → i ≠ m → i ∉ OI → h6.get i = h.get i := fun i h1 h2 h3 => by rw [g3 i h3]; exact hk5 i h1 h2 _ _ _ _
    have hn6 : h.next ≤ h6.next := by rw [g2]; simp only [next_set, next_bump, next_new_self]; omega
    have hv6 := g1.one
    clear hk5 g2 g3 hp hm
    repeat first | refine G_seq ?_ | refine G_reg ?_ | refine N_seq ?_ | refine N_block ?_ | refine G_block ?_ | refine G_skip ?_ | refine G_cT ?_ | refine G_cF ?_ | refine G_ret ?_ | refine U_seq_ret ?_ | refine U_block_ret ?_ | refine U_nil ?_ | refine S_nil ?_ | refine S_auto ?_
    refine S_step wants0 (o_st1 (by simp only [aev_tmp, aev_const, aev_func, aev_global, at_put, at_none, n_put, reduceIte, Nat.reduceEqDiff, Nat.reduceLT, zq, *]; first | done | rfl) (by simp only [aev_tmp, aev_const, aev_func, aev_global, at_put, at_none, n_put, reduceIte, Nat.reduceEqDiff, Nat.reduceLT, zq, *]; first | done | rfl) (TL rfl) rfl hv6 hp6 rfl) ?_
    repeat first | refine G_seq ?_ | refine G_reg ?_ | refine N_seq ?_ | refine N_block ?_ | refine G_block ?_ | refine G_skip ?_ | refine G_cT ?_ | refine G_cF ?_ | refine G_ret ?_ | refine U_seq_ret ?_ | refine U_block_ret ?_ | refine U_nil ?_ | refine S_nil ?_ | refine S_auto ?_
    refine FQ_in (by first | exact .inr rfl | exact .inl rfl) (by first | exact ares1 (by simp only [at_put, at_none, n_put, reduceIte, Nat.reduceEqDiff, Nat.reduceLT, zq, *]; first | done | rfl) | exact ares2 (by simp only [at_put, at_none, n_put, reduceIte, Nat.reduceEqDiff, Nat.reduceLT, zq, *]; first | done | rfl) (by simp only [at_put, at_none, n_put, reduceIte, Nat.reduceEqDiff, Nat.reduceLT, zq, *]; first | done | rfl)) ?_
    have hsub : ∀ i ∈ own p m OI { s with all := s.all.filter (fun x => x.k != k), idles := s.idles.filter (· != k) }, i ∈ own p m OI s := by
      intro i hm
      simp only [own, List.cons_append, List.mem_cons, List.mem_append, List.mem_map, List.mem_filter] at hm ⊢
      rcases hm with rfl | rfl | hm | ⟨x, ⟨hx, _⟩, rfl⟩
      · exact .inl rfl
      · exact .inr (.inl rfl)
      · exact .inr (.inr (.inl hm))
      · exact .inr (.inr (.inr ⟨x, hx, rfl⟩))
    refine ⟨rfl, own p m OI { s with all := s.all.filter (fun x => x.k != k), idles := s.idles.filter (· != k) }, ⟨m, v6, OI, ⟨get_set_self _ _ _, by rw [get_set_ne (Ne.symm q1)]; exact hm6, g1.keep fun i hO => get_set_ne (fun e => q2 (e ▸ hO)), fun y hy => ?_, ?_, ?_, fun i hm => ?_⟩, rfl⟩, ⟨hn6, fun i hlt hni => ?_⟩, fun i hm => .inl (hsub i hm)⟩
    · have hy := (List.mem_filter.1 hy).1
      obtain ⟨n1, n2, n3, n4⟩ := hi.ne_id hy
      show AHeap.get _ y.id = _
      rw [get_set_ne n1, hg6 _ n4 n2 n3]
      exact hi.hs y hy
    · exact hi.keys.sublist ((List.filter_sublist).map _)
    · refine hi.nd.sublist ?_
      exact (((List.filter_sublist).map _).append_left OI).cons_cons m |>.cons_cons p
    · have := hi.lt i (hsub i hm)
      rw [next_set]; omega
    · simp only [own, List.cons_append, List.mem_cons, List.mem_append, not_or] at hni
      rw [get_set_ne hni.1]
      exact hg6 i hlt hni.2.1 hni.2.2.1
end
end Go.Proofs.Ytffockklleanmaa.AM.SX
