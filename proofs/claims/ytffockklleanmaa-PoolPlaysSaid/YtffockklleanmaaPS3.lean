/- What turns a pool: Rest, New. -/
import Derived.Test.YtffockklleanmaaPS2
namespace Go.Proofs.Ytffockklleanmaa.AM.SX
open Go
set_option linter.unusedVariables false
set_option linter.unusedSimpArgs false
set_option maxRecDepth 100000
set_option maxHeartbeats 4000000
attribute [local irreducible] astep0 aev awants abin abuild
section
variable {n : Nat} {h : AHeap} {p : Nat} {s : PS} {m : Nat} {v : Value} {OI : List Nat}
theorem rest_spec (hi : PInv h p s m v OI) (hlen : s.idles.length < 1000) (k : Int) : C EE (n + 3) 27 [.pointer (some ⟨p, 0, none⟩), .int .i64 k] h fun r h' => r = .bool (decide (s.state k = 2)) ∧ Upd h h' p (own p m OI s) (if s.state k = 2 then { s with all := setSt k 3 s.all, idles := s.idles ++ [k] } else s) := by
  refine C_in (E_X _) F_rest rfl rfl rfl ?_
  intro a hn hat
  have e0 := hat 0 _ rfl
  have e1 := hat 1 _ rfl
  replace hn : a.n = 21 := hn
  clear hat
  repeat first | refine G_seq ?_ | refine G_reg ?_ | refine N_seq ?_ | refine N_block ?_ | refine G_block ?_ | refine G_skip ?_ | refine G_cT ?_ | refine G_cF ?_ | refine G_ret ?_ | refine U_seq_ret ?_ | refine U_block_ret ?_ | refine U_nil ?_ | refine S_nil ?_ | refine S_auto ?_
  refine S_call wants0 (by simp only [aev_tmp, aev_const, aev_func, aev_global, at_put, at_none, n_put, reduceIte, Nat.reduceEqDiff, Nat.reduceLT, zq, *]; first | done | rfl) (E_Y _) (by simp only [List.map, aev_tmp, aev_const, aev_func, aev_global, at_put, at_none, n_put, reduceIte, Nat.reduceEqDiff, Nat.reduceLT, zq, *]; first | done | rfl) ?_
  refine (turn_spec hi k 2 3 (by decide)).mono ?_
  rintro r h' ⟨rfl, ⟨h1, rfl⟩ | ⟨h1, x, hx, rfl⟩⟩
  · repeat first | refine G_seq ?_ | refine G_reg ?_ | refine N_seq ?_ | refine N_block ?_ | refine G_block ?_ | refine G_skip ?_ | refine G_cT ?_ | refine G_cF ?_ | refine G_ret ?_ | refine U_seq_ret ?_ | refine U_block_ret ?_ | refine U_nil ?_ | refine S_nil ?_ | refine S_auto ?_
    refine FQ_in (by first | exact .inr rfl | exact .inl rfl) (by first | exact ares1 (by simp only [at_put, at_none, n_put, reduceIte, Nat.reduceEqDiff, Nat.reduceLT, zq, *]; first | done | rfl) | exact ares2 (by simp only [at_put, at_none, n_put, reduceIte, Nat.reduceEqDiff, Nat.reduceLT, zq, *]; first | done | rfl) (by simp only [at_put, at_none, n_put, reduceIte, Nat.reduceEqDiff, Nat.reduceLT, zq, *]; first | done | rfl)) ?_
    rw [if_neg h1]
    exact ⟨by simp [oneOf, h1], _, ⟨m, v, OI, hi, rfl⟩, Keep.refl _ _, fun i hm => .inl hm⟩
  · have hi2 := set_upd (t := 3) hi hx
    have hu0 := upd_set (t := 3) hi hx
    rw [if_pos h1]
    generalize h.set x.id _ = h2 at hi2 hu0 ⊢
    have hp := hi2.cell
    simp only at hp
    have hints := hi2.ints
    simp only at hints
    obtain ⟨q1, q2, q3, q4, q5, q6⟩ := hi2.ne_pm
    obtain ⟨v1, h3, O1, g1, g2, g3, g4, g5⟩ := app_ints (T := EE.T) (h := h2.new h2.next (.cells [.int .i64 k] true)) (st := 80) (xt := 80) (x := .slice (some ⟨h2.next, 0, none⟩) 1 1) (news := [k]) (n := 1) (TL rfl) (TL rfl) (TL rfl) (hints.keep fun i hO => get_new_ne (by have := q6 i hO; omega)) (by simp) (src_int1 (get_new_self _ _ _)) (by simp; omega) (fun i hO => by rw [next_new_self]; have := q6 i hO; omega)
    have hk : Keep h2 h3 OI := (Keep.new h2 _ OI).trans g3 fun i hO => .inl hO
    have hp3 : h3.get p = some (.cells [.int .i64 s.most, .int .i64 s.last, .map (some m), v] true) := by rw [hk.2 p q4 q2]; exact hp
    have hv1 := g2.one
    have hO1 : O1 = OI ∨ O1 = [] ∨ ∃ b, O1 = [b] ∧ h2.next ≤ b := by
      rcases g4 with rfl | rfl
      · exact .inl rfl
      · exact .inr (.inr ⟨_, rfl, by rw [next_new_self]; omega⟩)
    have hfin := idles_upd hi2 (mo := s.most) (la := s.last) hk g2 hO1 g5
    have hst : s.state k = 2 := h1
    clear g2 g3 g4 g5 hints hi2 hx hi
    repeat first | refine G_seq ?_ | refine G_reg ?_ | refine N_seq ?_ | refine N_block ?_ | refine G_block ?_ | refine G_skip ?_ | refine G_cT ?_ | refine G_cF ?_ | refine G_ret ?_ | refine U_seq_ret ?_ | refine U_block_ret ?_ | refine U_nil ?_ | refine S_nil ?_ | refine S_auto ?_
    refine S_step wants0 (o_buildSlice (by simp only [List.map, aev_tmp, aev_const, aev_func, aev_global, at_put, at_none, n_put, reduceIte, Nat.reduceEqDiff, Nat.reduceLT, zq, *]; first | done | rfl) (bs_int1 (TL rfl) (TL rfl))) ?_
    refine S_step wants0 (o_builtin (by simp only [List.map, aev_tmp, aev_const, aev_func, aev_global, at_put, at_none, n_put, reduceIte, Nat.reduceEqDiff, Nat.reduceLT, zq, *]; first | done | rfl) (bi_app g1)) ?_
    clear g1
    repeat first | refine G_seq ?_ | refine G_reg ?_ | refine N_seq ?_ | refine N_block ?_ | refine G_block ?_ | refine G_skip ?_ | refine G_cT ?_ | refine G_cF ?_ | refine G_ret ?_ | refine U_seq_ret ?_ | refine U_block_ret ?_ | refine U_nil ?_ | refine S_nil ?_ | refine S_auto ?_
    refine S_step wants0 (o_st1 (by simp only [aev_tmp, aev_const, aev_func, aev_global, at_put, at_none, n_put, reduceIte, Nat.reduceEqDiff, Nat.reduceLT, zq, *]; first | done | rfl) (by simp only [aev_tmp, aev_const, aev_func, aev_global, at_put, at_none, n_put, reduceIte, Nat.reduceEqDiff, Nat.reduceLT, zq, *]; first | done | rfl) (TL rfl) rfl hv1 (by simp (disch := omega) only [get_set_self, get_new_self, get_set_ne, get_new_ne, get_bump, next_set, next_new, Nat.lt_irrefl, reduceIte, next_kill, next_bump, *]; first | done | rfl) rfl) ?_
    repeat first | refine G_seq ?_ | refine G_reg ?_ | refine N_seq ?_ | refine N_block ?_ | refine G_block ?_ | refine G_skip ?_ | refine G_cT ?_ | refine G_cF ?_ | refine G_ret ?_ | refine U_seq_ret ?_ | refine U_block_ret ?_ | refine U_nil ?_ | refine S_nil ?_ | refine S_auto ?_
    refine FQ_in (by first | exact .inr rfl | exact .inl rfl) (by first | exact ares1 (by simp only [at_put, at_none, n_put, reduceIte, Nat.reduceEqDiff, Nat.reduceLT, zq, *]; first | done | rfl) | exact ares2 (by simp only [at_put, at_none, n_put, reduceIte, Nat.reduceEqDiff, Nat.reduceLT, zq, *]; first | done | rfl) (by simp only [at_put, at_none, n_put, reduceIte, Nat.reduceEqDiff, Nat.reduceLT, zq, *]; first | done | rfl)) ?_
    refine ⟨by simp [oneOf, hst], own p m O1 { s with all := setSt k 3 s.all, idles := s.idles ++ [k] }, ⟨m, v1, O1, hfin, rfl⟩, ?_, fun i hm => ?_⟩
    · obtain ⟨O', _, k1, _⟩ := hu0
      refine k1.trans (O' := p :: OI) ?_ fun i hm => ?_
      · refine ⟨Nat.le_trans hk.1 (Nat.le_refl _), fun i hlt hni => ?_⟩
        simp only [List.mem_cons, not_or] at hni
        rw [get_set_ne hni.1, hk.2 i hlt hni.2]
      · simp only [List.mem_cons] at hm
        simp only [own, List.cons_append, List.mem_cons, List.mem_append]
        rcases hm with rfl | hm
        · exact .inl (.inl rfl)
        · exact .inl (.inr (.inr (.inl hm)))
    · obtain ⟨O', _, k1, _⟩ := hu0
      simp only [own, List.cons_append, List.mem_cons, List.mem_append, setSt_id] at hm ⊢
      rcases hm with rfl | rfl | hm | hm
      · exact .inl (.inl rfl)
      · exact .inl (.inr (.inl rfl))
      · rcases hO1 with rfl | rfl | ⟨b, rfl, hb⟩
        · exact .inl (.inr (.inr (.inl hm)))
        · simp at hm
        · simp only [List.mem_singleton] at hm; subst hm
          exact .inr (Nat.le_trans k1.1 hb)
      · exact .inl (.inr (.inr (.inr hm)))
end
end Go.Proofs.Ytffockklleanmaa.AM.SX
