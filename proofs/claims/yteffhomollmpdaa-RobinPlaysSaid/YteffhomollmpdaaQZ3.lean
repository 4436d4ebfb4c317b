import Derived.Test.YteffhomollmpdaaQZ2
import Derived.Test.YteffhomollmpdaaSXI
import Derived.Test.YteffhomollmpdaaSXD2
/- RobinPlays: the document's pick. -/
namespace Go.Proofs.Yteffhomollmpdaa.AM.SX
open Go Go.Proofs.Yteffhomollmpdaa.X
set_option linter.unusedVariables false
set_option linter.unusedSimpArgs false
set_option maxRecDepth 100000
set_option maxHeartbeats 8000000
attribute [local irreducible] astep0 aev awants abin abuild
def opI : Option Nat → Int
  | none => -1
  | some i => (i : Int)
def lessO (l : List Fl) (x : Int) : Option Nat → Bool
  | none => true
  | some j => decide (x < (l.getD j (0, 0)).1)
def pkS (any : Bool) (la : Int) (l : List Fl) : Nat → Option Nat × Option Nat
  | 0 => (none, none)
  | i + 1 => if (l.getD i (0, 0)).2 ≤ 0 then pkS any la l i else
    (if lessO l (l.getD i (0, 0)).1 (pkS any la l i).1 = true then some i else (pkS any la l i).1,
     if any = true ∧ la < (l.getD i (0, 0)).1 ∧ lessO l (l.getD i (0, 0)).1 (pkS any la l i).2 = true then some i else (pkS any la l i).2)
theorem pkS_lt {any : Bool} {la : Int} {l : List Fl} : ∀ i, (∀ j, (pkS any la l i).1 = some j → j < i) ∧ (∀ j, (pkS any la l i).2 = some j → j < i)
  | 0 => ⟨fun _ h => (by cases h), fun _ h => (by cases h)⟩
  | i + 1 => by
    have := pkS_lt (any := any) (la := la) (l := l) i
    unfold pkS
    split
    · exact ⟨fun j h => Nat.lt_succ_of_lt (this.1 j h), fun j h => Nat.lt_succ_of_lt (this.2 j h)⟩
    · refine ⟨fun j h => ?_, fun j h => ?_⟩
      · dsimp only at h; split at h
        · cases h; exact Nat.lt_succ_self _
        · exact Nat.lt_succ_of_lt (this.1 j h)
      · dsimp only at h; split at h
        · cases h; exact Nat.lt_succ_self _
        · exact Nat.lt_succ_of_lt (this.2 j h)
def pickD (any : Bool) (la : Int) (l : List Fl) : Option Nat := match (pkS any la l l.length).2 with | some i => some i | none => (pkS any la l l.length).1
theorem wantsU {a : AAct} {ops : Array Oper} {dst : Option Nat} {op : Op} {ty : Nat} {pos : String} {aft : Array Edge} {j d : Nat} {w : Bool} {p : Oper} (hp : ops[j]? = some p) (hd : p.dst = some d) (hn : d < a.n) (hb : a.at d = undef) : awants ops a ⟨dst, op, ty, pos, aft, some (j, w)⟩ = false := by
  unfold awants
  simp only [hp, hd, hb, bltd, hn, decide_true, cond_true]
  rfl
theorem D_noU {cf : CallF} {qs lq : List Nat} {ops : Array Oper} {base : Nat} {Q : AAct → AHeap → Prop} {h : AHeap} {r : List (Oper × Nat)} {a : AAct} {p : Pend} {dst : Option Nat} {ty : Nat} {pos : String} {aft : Array Edge} {op : Op} {i : Nat} {ls : LsT} {j d : Nat} {w : Bool} {q : Oper} (hh : D1 EE cf qs lq ops base Q h r (a.put dst undef) p ls) (hp : ops[j]? = some q := by rfl) (hd : q.dst = some d := by rfl) (hn : d < a.n := by simp only [n_put, *]; decide) (hb : a.at d = undef := by simp only [at_put, at_none, n_put, reduceIte, Nat.reduceEqDiff, Nat.reduceLT, cond_true, cond_false, ne_eq, not_true_eq_false, not_false_eq_true, decide_true, decide_false, Bool.not_true, Bool.not_false, eq_self, Int.lt_irrefl, Int.le_refl, *]; first | done | rfl) : D1 EE cf qs lq ops base Q h ((⟨dst, op, ty, pos, aft, some (j, w)⟩, i) :: r) a p ls := D1_no (wantsU hp hd hn hb) hh
section
variable {n : Nat} {h : AHeap}
theorem Keep.bump2 {h h' : AHeap} {O : List Nat} (hk : Keep h h' O) (n : Nat) : Keep h (SX.bump h' n) O := ⟨by have := hk.1; rw [next_bump]; omega, fun i hi hn => by rw [get_bump]; exact hk.2 i hi hn⟩
theorem dpick_spec {q c la : Int} {any : Bool} {l : List Fl} {v : Value} {O : List Nat} (hv : RowAt kF h l v O) (hO : ∀ i ∈ O, i < h.next) (hl : l.length ≤ 1000) (hn : l.length + 10 ≤ n) : C EE (n + 1) 18 [.agg #[.int .i64 q, .int .i64 c, .int .i64 la, .bool any], v] h fun r h' => r = .int .i64 (opI (pickD any la l)) ∧ Keep h h' [] := by
  refine C_in (E_X _) F_pick rfl rfl rfl ?_
  intro a hna hat
  have e0 := hat 0 _ rfl
  have e1 := hat 1 _ rfl
  replace hna : a.n = 70 := hna
  clear hat
  repeat first | refine G_seq ?_ | refine G_reg ?_ | refine N_seq ?_ | refine N_block ?_ | refine G_block ?_ | refine G_skip ?_ | refine G_cT ?_ | refine G_cF ?_ | refine G_ret ?_ | refine U_seq_ret ?_ | refine U_block_ret ?_ | refine U_nil ?_ | refine S_nil ?_ | refine S_auto ?_
  generalize hp : h.next = p at *
  refine G_loop (fun j a h' => ∃ (i : Nat), i + j = l.length ∧ a.n = 70 ∧ a.at 1 = v ∧ a.at 2 = .pointer (some ⟨p, 0, none⟩) ∧ a.at 5 = .int .i64 (opI (pkS any la l i).1) ∧ a.at 6 = .int .i64 (opI (pkS any la l i).2) ∧ a.at 7 = .int .i64 (i : Int) ∧ h'.get p = some (.cells [.int .i64 q, .int .i64 c, .int .i64 la, .bool any] true) ∧ Keep h h' []) l.length (by omega) ⟨0, by omega, by simp only [at_put, at_none, n_put, reduceIte, Nat.reduceEqDiff, Nat.reduceLT, zq, *]; first | done | rfl, by simp only [at_put, at_none, n_put, reduceIte, Nat.reduceEqDiff, Nat.reduceLT, zq, *]; first | done | rfl, by simp only [at_put, at_none, n_put, reduceIte, Nat.reduceEqDiff, Nat.reduceLT, zq, *]; first | done | rfl, by simp only [at_put, at_none, n_put, reduceIte, Nat.reduceEqDiff, Nat.reduceLT, zq, *]; first | done | rfl, by simp only [at_put, at_none, n_put, reduceIte, Nat.reduceEqDiff, Nat.reduceLT, zq, *]; first | done | rfl, by simp only [at_put, at_none, n_put, reduceIte, Nat.reduceEqDiff, Nat.reduceLT, zq, *]; first | done | rfl, by rw [get_new_self]; rfl, ⟨by rw [next_new]; split <;> omega, fun w hw hn => get_new_ne (by omega)⟩⟩ ?_
  clear e0 e1 hna
  rintro j a h3 ⟨i, hij, hna, e1, e2, e5, e6, e7, hp3, hk⟩
  have hv3 := hv.keep fun i hi => hk.2 i (by rw [hp]; exact hO i hi) (by simp)
  repeat first | refine G_seq ?_ | refine G_reg ?_ | refine N_seq ?_ | refine N_block ?_ | refine G_block ?_ | refine G_skip ?_ | refine G_cT ?_ | refine G_cF ?_ | refine G_ret ?_ | refine U_seq_ret ?_ | refine U_block_ret ?_ | refine U_nil ?_ | refine S_nil ?_ | refine S_auto ?_
  refine S_step wants0 (o_builtin (by simp only [List.map, aev_tmp, aev_const, aev_func, aev_global, at_put, at_none, n_put, reduceIte, Nat.reduceEqDiff, Nat.reduceLT, zq, *]; first | done | rfl) (hv3.lenB (TL rfl))) ?_
  by_cases hil : i < l.length
  · have hil' : ((i : Int) < (l.length : Int)) = True := eq_true (by omega)
    obtain ⟨bk, cs, cc, rfl, hb, rfl, hcs⟩ := hv3.rows (by omega)
    have hbk : bk < p := by have := hO bk (.head _); omega
    have ix : ∀ k, k < l.length → aindexAddr EE.T 34 (.slice (some ⟨bk, 0, none⟩) l.length cc) (.int .i64 (k : Int)) = some (.pointer (some ⟨bk, k * kF.sz, none⟩)) := fun k hk => ix_row0 (TL rfl) (TL rfl) ⟨rfl, rfl, by decide⟩ hk
    have hgd : l.getD i (0, 0) = l[i] := getD_at hil
    obtain ⟨xc, xw, hxe⟩ : ∃ xc xw, l[i] = (xc, xw) := ⟨_, _, rfl⟩
    have hpk : pkS any la l (i + 1) = if xw ≤ 0 then pkS any la l i else
        (if lessO l xc (pkS any la l i).1 = true then some i else (pkS any la l i).1, if any = true ∧ la < xc ∧ lessO l xc (pkS any la l i).2 = true then some i else (pkS any la l i).2) := by
      show (if (l.getD i (0, 0)).2 ≤ 0 then _ else _) = _
      rw [hgd, hxe]
    have hlt := pkS_lt (any := any) (la := la) (l := l) i
    have hcw := (hcs i hil).2
    have w0 := hcw 0 (by decide)
    have w1 := hcw 1 (by decide)
    rw [hxe] at w0 w1
    replace w0 : cs[i * kF.sz + 0]? = some (.int .i64 xc) := w0
    replace w1 : cs[i * kF.sz + 1]? = some (.int .i64 xw) := w1
    have i1 := ix i hil
    have hcc : ∀ k, k < i → aindexAddr EE.T 34 (.slice (some ⟨bk, 0, none⟩) l.length cc) (.int .i64 (k : Int)) = some (.pointer (some ⟨bk, k * kF.sz, none⟩)) ∧ ∃ y : Int, cs[k * kF.sz + 0]? = some (.int .i64 y) ∧ lessO l xc (some k) = decide (xc < y) := fun k hk => ⟨ix k (by omega), (l[k]'(by omega)).1, (hcs k (by omega)).2 0 (by decide), by show decide (xc < (l.getD k (0, 0)).1) = _; rw [getD_at (by omega)]⟩
    obtain ⟨⟨b1, b2⟩, hb12⟩ : ∃ bb, pkS any la l i = bb := ⟨_, rfl⟩
    rw [hb12] at hpk hlt e5 e6
    clear hgd hxe hcs hcw hv3 ix hb12
    dsimp only at hpk hlt e5 e6
    repeat first | refine G_seq ?_ | refine G_reg ?_ | refine N_seq ?_ | refine N_block ?_ | refine G_block ?_ | refine G_skip ?_ | refine G_cT ?_ | refine G_cF ?_ | refine G_ret ?_ | refine U_seq_ret ?_ | refine U_block_ret ?_ | refine U_nil ?_ | refine S_nil ?_ | refine S_auto ?_
    refine S_step wants0 (o_indexAddr (by simp only [aev_tmp, aev_const, aev_func, aev_global, at_put, at_none, n_put, reduceIte, Nat.reduceEqDiff, Nat.reduceLT, zq, *]; first | done | rfl) (by simp only [aev_tmp, aev_const, aev_func, aev_global, at_put, at_none, n_put, reduceIte, Nat.reduceEqDiff, Nat.reduceLT, zq, *]; first | done | rfl) i1) ?_
    repeat first | refine G_seq ?_ | refine G_reg ?_ | refine N_seq ?_ | refine N_block ?_ | refine G_block ?_ | refine G_skip ?_ | refine G_cT ?_ | refine G_cF ?_ | refine G_ret ?_ | refine U_seq_ret ?_ | refine U_block_ret ?_ | refine U_nil ?_ | refine S_nil ?_ | refine S_auto ?_
    refine S_step wants0 (o_ld (by simp only [aev_tmp, aev_const, aev_func, aev_global, at_put, at_none, n_put, reduceIte, Nat.reduceEqDiff, Nat.reduceLT, zq, *]; first | done | rfl) (by exact TL rfl) (by rfl) (rd_cells (by simp (disch := omega) only [get_set_self, get_new_self, get_set_ne, get_new_ne, get_bump, next_set, next_new, Nat.lt_irrefl, reduceIte, next_kill, next_bump, *]; first | done | rfl)) w1) ?_
    by_cases hw : xw ≤ 0
    · have hw' : (xw ≤ 0) = True := eq_true hw
      rw [if_pos hw] at hpk
      clear hw
      repeat first | refine G_seq ?_ | refine G_reg ?_ | refine N_seq ?_ | refine N_block ?_ | refine G_block ?_ | refine G_skip ?_ | refine G_cT ?_ | refine G_cF ?_ | refine G_ret ?_ | refine U_seq_ret ?_ | refine U_block_ret ?_ | refine U_nil ?_ | refine S_nil ?_ | refine S_auto ?_
      refine G_exit ?_
      repeat first | refine U_seq_exit ?_ | refine U_nil ?_ | refine LQ_exit ?_ | refine U_block_hit ?_
      repeat first | refine G_seq ?_ | refine G_reg ?_ | refine N_seq ?_ | refine N_block ?_ | refine G_block ?_ | refine G_skip ?_ | refine G_cT ?_ | refine G_cF ?_ | refine G_ret ?_ | refine U_seq_ret ?_ | refine U_block_ret ?_ | refine U_nil ?_ | refine S_nil ?_ | refine S_auto ?_
      refine N_nil ?_
      exact LQ_n (j - 1) (by omega) ⟨i + 1, by omega, by simp only [at_put, at_none, n_put, reduceIte, Nat.reduceEqDiff, Nat.reduceLT, zq, *]; first | done | rfl, by simp only [at_put, at_none, n_put, reduceIte, Nat.reduceEqDiff, Nat.reduceLT, zq, *]; first | done | rfl, by simp only [at_put, at_none, n_put, reduceIte, Nat.reduceEqDiff, Nat.reduceLT, zq, *]; first | done | rfl, by rw [hpk]; simp only [at_put, at_none, n_put, reduceIte, Nat.reduceEqDiff, Nat.reduceLT, zq, *]; first | done | rfl, by rw [hpk]; simp only [at_put, at_none, n_put, reduceIte, Nat.reduceEqDiff, Nat.reduceLT, zq, *]; first | done | rfl, by rw [Int.natCast_add]; simp only [at_put, at_none, n_put, reduceIte, Nat.reduceEqDiff, Nat.reduceLT, zq, *]; first | done | rfl, hp3, hk⟩
    · have hw' : (xw ≤ 0) = False := eq_false hw
      rw [if_neg hw] at hpk
      clear hw w1
      repeat first | refine G_seq ?_ | refine G_reg ?_ | refine N_seq ?_ | refine N_block ?_ | refine G_block ?_ | refine G_skip ?_ | refine G_cT ?_ | refine G_cF ?_ | refine G_ret ?_ | refine U_seq_ret ?_ | refine U_block_ret ?_ | refine U_nil ?_ | refine S_nil ?_ | refine S_auto ?_
      refine G_join2 (fun a h' => a.n = 70 ∧ a.at 1 = .slice (some ⟨bk, 0, none⟩) l.length cc ∧ a.at 2 = .pointer (some ⟨p, 0, none⟩) ∧ a.at 5 = .int .i64 (opI (if lessO l xc b1 = true then some i else b1)) ∧ a.at 6 = .int .i64 (opI b2) ∧ a.at 7 = .int .i64 (i : Int) ∧ h'.get p = some (.cells [.int .i64 q, .int .i64 c, .int .i64 la, .bool any] true) ∧ h'.get bk = some (.cells cs true) ∧ Keep h h' []) ?_ ?_
      · refine G_draw [] [] (by kernel_rfl) ?_
        cases b1 with
        | none =>
          replace e5 : a.at 5 = .int .i64 (-1) := e5
          repeat first | refine D1_nil0 ?_ | refine D2_nil ?_ | refine D_noG ?_ | refine D_pure ?_ | refine D_rd ?_ | refine D2_pure' ?_
          repeat first | refine G_seq ?_ | refine G_reg ?_ | refine N_seq ?_ | refine N_block ?_ | refine G_block ?_ | refine G_skip ?_ | refine G_cT ?_ | refine G_cF ?_ | refine G_ret ?_ | refine U_seq_ret ?_ | refine U_block_ret ?_ | refine U_nil ?_ | refine S_nil ?_ | refine S_auto ?_
          refine N_nil ?_
          exact JQ_n ⟨by simp only [at_put, at_none, n_put, reduceIte, Nat.reduceEqDiff, Nat.reduceLT, zq, *]; first | done | rfl, by simp only [at_put, at_none, n_put, reduceIte, Nat.reduceEqDiff, Nat.reduceLT, zq, *]; first | done | rfl, by simp only [at_put, at_none, n_put, reduceIte, Nat.reduceEqDiff, Nat.reduceLT, zq, *]; first | done | rfl, by show _ = Value.int .i64 (i : Int); simp only [at_put, at_none, n_put, reduceIte, Nat.reduceEqDiff, Nat.reduceLT, zq, *]; first | done | rfl, by simp only [at_put, at_none, n_put, reduceIte, Nat.reduceEqDiff, Nat.reduceLT, zq, *]; first | done | rfl, by simp only [at_put, at_none, n_put, reduceIte, Nat.reduceEqDiff, Nat.reduceLT, zq, *]; first | done | rfl, by simp (disch := omega) only [get_set_self, get_new_self, get_set_ne, get_new_ne, get_bump, next_set, next_new, Nat.lt_irrefl, reduceIte, next_kill, next_bump, *]; first | done | rfl, by simp (disch := omega) only [get_set_self, get_new_self, get_set_ne, get_new_ne, get_bump, next_set, next_new, Nat.lt_irrefl, reduceIte, next_kill, next_bump, *]; first | done | rfl, hk.bump2 _⟩
        | some k =>
          replace e5 : a.at 5 = .int .i64 (k : Int) := e5
          obtain ⟨i2, y, hy, hle⟩ := hcc k (hlt.1 k rfl)
          have hk0 : ((k : Int) < 0) = False := eq_false (by omega)
          repeat first | refine D1_nil0 ?_ | refine D2_nil ?_ | refine D_noG ?_ | refine D_pure ?_ | refine D_rd ?_ | refine D2_pure' ?_
          refine D1_pure (by first | exact wants0 | exact (wantsG rfl rfl (by simp only [n_put, *]; decide) (by simp only [at_put, at_none, n_put, reduceIte, Nat.reduceEqDiff, Nat.reduceLT, cond_true, cond_false, ne_eq, not_true_eq_false, not_false_eq_true, decide_true, decide_false, Bool.not_true, Bool.not_false, eq_self, Int.lt_irrefl, Int.le_refl, *]; first | done | rfl)).trans rfl) (by rfl) (by rfl) (fun _ _ => o_indexAddr (by simp only [aev_tmp, aev_const, aev_func, aev_global, at_put, at_none, n_put, reduceIte, Nat.reduceEqDiff, Nat.reduceLT, zq, *]; first | done | rfl) (by simp only [aev_tmp, aev_const, aev_func, aev_global, at_put, at_none, n_put, reduceIte, Nat.reduceEqDiff, Nat.reduceLT, zq, *]; first | done | rfl) i1) ?_
          repeat first | refine D1_nil0 ?_ | refine D2_nil ?_ | refine D_noG ?_ | refine D_pure ?_ | refine D_rd ?_ | refine D2_pure' ?_
          refine D1_rd (by first | exact wants0 | exact (wantsG rfl rfl (by simp only [n_put, *]; decide) (by simp only [at_put, at_none, n_put, reduceIte, Nat.reduceEqDiff, Nat.reduceLT, cond_true, cond_false, ne_eq, not_true_eq_false, not_false_eq_true, decide_true, decide_false, Bool.not_true, Bool.not_false, eq_self, Int.lt_irrefl, Int.le_refl, *]; first | done | rfl)).trans rfl) (by rfl) (by rfl) (fun _ => o_ld (by simp only [aev_tmp, aev_const, aev_func, aev_global, at_put, at_none, n_put, reduceIte, Nat.reduceEqDiff, Nat.reduceLT, zq, *]; first | done | rfl) (by exact TL rfl) (by rfl) (rd_cells (by simp (disch := omega) only [get_set_self, get_new_self, get_set_ne, get_new_ne, get_bump, next_set, next_new, Nat.lt_irrefl, reduceIte, next_kill, next_bump, *]; first | done | rfl)) w0) (by first | exact veq_self rfl | assumption) ?_
          repeat first | refine D1_nil0 ?_ | refine D2_nil ?_ | refine D_noG ?_ | refine D_pure ?_ | refine D_rd ?_ | refine D2_pure' ?_
          refine D1_pure (by first | exact wants0 | exact (wantsG rfl rfl (by simp only [n_put, *]; decide) (by simp only [at_put, at_none, n_put, reduceIte, Nat.reduceEqDiff, Nat.reduceLT, cond_true, cond_false, ne_eq, not_true_eq_false, not_false_eq_true, decide_true, decide_false, Bool.not_true, Bool.not_false, eq_self, Int.lt_irrefl, Int.le_refl, *]; first | done | rfl)).trans rfl) (by rfl) (by rfl) (fun _ _ => o_indexAddr (by simp only [aev_tmp, aev_const, aev_func, aev_global, at_put, at_none, n_put, reduceIte, Nat.reduceEqDiff, Nat.reduceLT, zq, *]; first | done | rfl) (by simp only [aev_tmp, aev_const, aev_func, aev_global, at_put, at_none, n_put, reduceIte, Nat.reduceEqDiff, Nat.reduceLT, zq, *]; first | done | rfl) i2) ?_
          repeat first | refine D1_nil0 ?_ | refine D2_nil ?_ | refine D_noG ?_ | refine D_pure ?_ | refine D_rd ?_ | refine D2_pure' ?_
          refine D1_rd (by first | exact wants0 | exact (wantsG rfl rfl (by simp only [n_put, *]; decide) (by simp only [at_put, at_none, n_put, reduceIte, Nat.reduceEqDiff, Nat.reduceLT, cond_true, cond_false, ne_eq, not_true_eq_false, not_false_eq_true, decide_true, decide_false, Bool.not_true, Bool.not_false, eq_self, Int.lt_irrefl, Int.le_refl, *]; first | done | rfl)).trans rfl) (by rfl) (by rfl) (fun _ => o_ld (by simp only [aev_tmp, aev_const, aev_func, aev_global, at_put, at_none, n_put, reduceIte, Nat.reduceEqDiff, Nat.reduceLT, zq, *]; first | done | rfl) (by exact TL rfl) (by rfl) (rd_cells (by simp (disch := omega) only [get_set_self, get_new_self, get_set_ne, get_new_ne, get_bump, next_set, next_new, Nat.lt_irrefl, reduceIte, next_kill, next_bump, *]; first | done | rfl)) hy) (by first | exact veq_self rfl | assumption) ?_
          repeat first | refine D1_nil0 ?_ | refine D2_nil ?_ | refine D_noG ?_ | refine D_pure ?_ | refine D_rd ?_ | refine D2_pure' ?_
          by_cases hxy : xc < y
          · have hxy' : (xc < y) = True := eq_true hxy
            rw [hle, if_pos (by simpa using hxy)]
            clear hxy
            repeat first | refine G_seq ?_ | refine G_reg ?_ | refine N_seq ?_ | refine N_block ?_ | refine G_block ?_ | refine G_skip ?_ | refine G_cT ?_ | refine G_cF ?_ | refine G_ret ?_ | refine U_seq_ret ?_ | refine U_block_ret ?_ | refine U_nil ?_ | refine S_nil ?_ | refine S_auto ?_
            refine N_nil ?_
            exact JQ_n ⟨by simp only [at_put, at_none, n_put, reduceIte, Nat.reduceEqDiff, Nat.reduceLT, zq, *]; first | done | rfl, by simp only [at_put, at_none, n_put, reduceIte, Nat.reduceEqDiff, Nat.reduceLT, zq, *]; first | done | rfl, by simp only [at_put, at_none, n_put, reduceIte, Nat.reduceEqDiff, Nat.reduceLT, zq, *]; first | done | rfl, by show _ = Value.int .i64 (i : Int); simp only [at_put, at_none, n_put, reduceIte, Nat.reduceEqDiff, Nat.reduceLT, zq, *]; first | done | rfl, by simp only [at_put, at_none, n_put, reduceIte, Nat.reduceEqDiff, Nat.reduceLT, zq, *]; first | done | rfl, by simp only [at_put, at_none, n_put, reduceIte, Nat.reduceEqDiff, Nat.reduceLT, zq, *]; first | done | rfl, by simp (disch := omega) only [get_set_self, get_new_self, get_set_ne, get_new_ne, get_bump, next_set, next_new, Nat.lt_irrefl, reduceIte, next_kill, next_bump, *]; first | done | rfl, by simp (disch := omega) only [get_set_self, get_new_self, get_set_ne, get_new_ne, get_bump, next_set, next_new, Nat.lt_irrefl, reduceIte, next_kill, next_bump, *]; first | done | rfl, hk.bump2 _⟩
          · have hxy' : (xc < y) = False := eq_false hxy
            rw [hle, if_neg (by simpa using hxy)]
            clear hxy
            repeat first | refine G_seq ?_ | refine G_reg ?_ | refine N_seq ?_ | refine N_block ?_ | refine G_block ?_ | refine G_skip ?_ | refine G_cT ?_ | refine G_cF ?_ | refine G_ret ?_ | refine U_seq_ret ?_ | refine U_block_ret ?_ | refine U_nil ?_ | refine S_nil ?_ | refine S_auto ?_
            refine N_nil ?_
            exact JQ_n ⟨by simp only [at_put, at_none, n_put, reduceIte, Nat.reduceEqDiff, Nat.reduceLT, zq, *]; first | done | rfl, by simp only [at_put, at_none, n_put, reduceIte, Nat.reduceEqDiff, Nat.reduceLT, zq, *]; first | done | rfl, by simp only [at_put, at_none, n_put, reduceIte, Nat.reduceEqDiff, Nat.reduceLT, zq, *]; first | done | rfl, by show _ = Value.int .i64 (k : Int); simp only [at_put, at_none, n_put, reduceIte, Nat.reduceEqDiff, Nat.reduceLT, zq, *]; first | done | rfl, by simp only [at_put, at_none, n_put, reduceIte, Nat.reduceEqDiff, Nat.reduceLT, zq, *]; first | done | rfl, by simp only [at_put, at_none, n_put, reduceIte, Nat.reduceEqDiff, Nat.reduceLT, zq, *]; first | done | rfl, by simp (disch := omega) only [get_set_self, get_new_self, get_set_ne, get_new_ne, get_bump, next_set, next_new, Nat.lt_irrefl, reduceIte, next_kill, next_bump, *]; first | done | rfl, by simp (disch := omega) only [get_set_self, get_new_self, get_set_ne, get_new_ne, get_bump, next_set, next_new, Nat.lt_irrefl, reduceIte, next_kill, next_bump, *]; first | done | rfl, hk.bump2 _⟩
      · clear e1 e2 e5 e6 e7 hna hp3 hk hb a h3
        rintro a h3 ⟨hna, e1, e2, e5, e6, e7, hp3, hb, hk⟩
        generalize (if lessO l xc b1 = true then some i else b1) = b1' at *
        have hfin : ∀ (a' : AAct) (h' : AHeap), a'.n = 70 → a'.at 1 = .slice (some ⟨bk, 0, none⟩) l.length cc → a'.at 2 = .pointer (some ⟨p, 0, none⟩) → a'.at 5 = .int .i64 (opI b1') → a'.at 6 = .int .i64 (opI (if any = true ∧ la < xc ∧ lessO l xc b2 = true then some i else b2)) → a'.at 7 = .int .i64 ((i : Int) + 1) → h'.get p = some (.cells [.int .i64 q, .int .i64 c, .int .i64 la, .bool any] true) → Keep h h' [] → ∃ i', i' + (j - 1) = l.length ∧ a'.n = 70 ∧ a'.at 1 = .slice (some ⟨bk, 0, none⟩) l.length cc ∧ a'.at 2 = .pointer (some ⟨p, 0, none⟩) ∧ a'.at 5 = .int .i64 (opI (pkS any la l i').1) ∧ a'.at 6 = .int .i64 (opI (pkS any la l i').2) ∧ a'.at 7 = .int .i64 (i' : Int) ∧ h'.get p = some (.cells [.int .i64 q, .int .i64 c, .int .i64 la, .bool any] true) ∧ Keep h h' [] := fun a' h' f1 f2 f3 f4 f5 f6 f7 f8 => ⟨i + 1, by omega, f1, f2, f3, by rw [hpk]; exact f4, by rw [hpk]; exact f5, by rw [Int.natCast_add]; exact f6, f7, f8⟩
        refine G_seq ?_
        refine G_draw [] [] (by kernel_rfl) ?_
        cases any with
        | false =>
          rw [if_neg (by simp)] at hfin
          repeat first | refine D1_nil0 ?_ | refine D2_nil ?_ | refine D_noG ?_ | refine D_noU ?_ | refine D_pure ?_ | refine D_rd ?_ | refine D2_pure' ?_
          repeat first | refine G_seq ?_ | refine G_reg ?_ | refine N_seq ?_ | refine N_block ?_ | refine G_block ?_ | refine G_skip ?_ | refine G_cT ?_ | refine G_cF ?_ | refine G_ret ?_ | refine U_seq_ret ?_ | refine U_block_ret ?_ | refine U_nil ?_ | refine S_nil ?_ | refine S_auto ?_
          refine N_nil ?_
          exact LQ_n (j - 1) (by omega) (hfin _ _ (by simp only [at_put, at_none, n_put, reduceIte, Nat.reduceEqDiff, Nat.reduceLT, zq, *]; first | done | rfl) (by simp only [at_put, at_none, n_put, reduceIte, Nat.reduceEqDiff, Nat.reduceLT, zq, *]; first | done | rfl) (by simp only [at_put, at_none, n_put, reduceIte, Nat.reduceEqDiff, Nat.reduceLT, zq, *]; first | done | rfl) (by simp only [at_put, at_none, n_put, reduceIte, Nat.reduceEqDiff, Nat.reduceLT, zq, *]; first | done | rfl) (by simp only [at_put, at_none, n_put, reduceIte, Nat.reduceEqDiff, Nat.reduceLT, zq, *]; first | done | rfl) (by simp only [at_put, at_none, n_put, reduceIte, Nat.reduceEqDiff, Nat.reduceLT, zq, *]; first | done | rfl) (by simp (disch := omega) only [get_set_self, get_new_self, get_set_ne, get_new_ne, get_bump, next_set, next_new, Nat.lt_irrefl, reduceIte, next_kill, next_bump, *]; first | done | rfl) (hk.bump2 _))
        | true =>
          repeat first | refine D1_nil0 ?_ | refine D2_nil ?_ | refine D_noG ?_ | refine D_noU ?_ | refine D_pure ?_ | refine D_rd ?_ | refine D2_pure' ?_
          refine D1_pure (by first | exact wants0 | exact (wantsG rfl rfl (by simp only [n_put, *]; decide) (by simp only [at_put, at_none, n_put, reduceIte, Nat.reduceEqDiff, Nat.reduceLT, cond_true, cond_false, ne_eq, not_true_eq_false, not_false_eq_true, decide_true, decide_false, Bool.not_true, Bool.not_false, eq_self, Int.lt_irrefl, Int.le_refl, *]; first | done | rfl)).trans rfl) (by rfl) (by rfl) (fun _ _ => o_indexAddr (by simp only [aev_tmp, aev_const, aev_func, aev_global, at_put, at_none, n_put, reduceIte, Nat.reduceEqDiff, Nat.reduceLT, zq, *]; first | done | rfl) (by simp only [aev_tmp, aev_const, aev_func, aev_global, at_put, at_none, n_put, reduceIte, Nat.reduceEqDiff, Nat.reduceLT, zq, *]; first | done | rfl) i1) ?_
          repeat first | refine D1_nil0 ?_ | refine D2_nil ?_ | refine D_noG ?_ | refine D_noU ?_ | refine D_pure ?_ | refine D_rd ?_ | refine D2_pure' ?_
          refine D1_rd (by first | exact wants0 | exact (wantsG rfl rfl (by simp only [n_put, *]; decide) (by simp only [at_put, at_none, n_put, reduceIte, Nat.reduceEqDiff, Nat.reduceLT, cond_true, cond_false, ne_eq, not_true_eq_false, not_false_eq_true, decide_true, decide_false, Bool.not_true, Bool.not_false, eq_self, Int.lt_irrefl, Int.le_refl, *]; first | done | rfl)).trans rfl) (by rfl) (by rfl) (fun _ => o_ld (by simp only [aev_tmp, aev_const, aev_func, aev_global, at_put, at_none, n_put, reduceIte, Nat.reduceEqDiff, Nat.reduceLT, zq, *]; first | done | rfl) (by exact TL rfl) (by rfl) (rd_cells (by simp (disch := omega) only [get_set_self, get_new_self, get_set_ne, get_new_ne, get_bump, next_set, next_new, Nat.lt_irrefl, reduceIte, next_kill, next_bump, *]; first | done | rfl)) w0) (by first | exact veq_self rfl | assumption) ?_
          by_cases hxl : la < xc
          · have hxl' : (la < xc) = True := eq_true hxl
            cases b2 with
            | none =>
              replace e6 : a.at 6 = .int .i64 (-1) := e6
              rw [if_pos ⟨rfl, hxl, rfl⟩] at hfin
              clear hxl
              repeat first | refine D1_nil0 ?_ | refine D2_nil ?_ | refine D_noG ?_ | refine D_noU ?_ | refine D_pure ?_ | refine D_rd ?_ | refine D2_pure' ?_
              repeat first | refine G_seq ?_ | refine G_reg ?_ | refine N_seq ?_ | refine N_block ?_ | refine G_block ?_ | refine G_skip ?_ | refine G_cT ?_ | refine G_cF ?_ | refine G_ret ?_ | refine U_seq_ret ?_ | refine U_block_ret ?_ | refine U_nil ?_ | refine S_nil ?_ | refine S_auto ?_
              refine N_nil ?_
              exact LQ_n (j - 1) (by omega) (hfin _ _ (by simp only [at_put, at_none, n_put, reduceIte, Nat.reduceEqDiff, Nat.reduceLT, zq, *]; first | done | rfl) (by simp only [at_put, at_none, n_put, reduceIte, Nat.reduceEqDiff, Nat.reduceLT, zq, *]; first | done | rfl) (by simp only [at_put, at_none, n_put, reduceIte, Nat.reduceEqDiff, Nat.reduceLT, zq, *]; first | done | rfl) (by simp only [at_put, at_none, n_put, reduceIte, Nat.reduceEqDiff, Nat.reduceLT, zq, *]; first | done | rfl) (by show _ = Value.int .i64 (i : Int); simp only [at_put, at_none, n_put, reduceIte, Nat.reduceEqDiff, Nat.reduceLT, zq, *]; first | done | rfl) (by simp only [at_put, at_none, n_put, reduceIte, Nat.reduceEqDiff, Nat.reduceLT, zq, *]; first | done | rfl) (by simp (disch := omega) only [get_set_self, get_new_self, get_set_ne, get_new_ne, get_bump, next_set, next_new, Nat.lt_irrefl, reduceIte, next_kill, next_bump, *]; first | done | rfl) (hk.bump2 _))
            | some k =>
              replace e6 : a.at 6 = .int .i64 (k : Int) := e6
              obtain ⟨i2, y, hy, hle⟩ := hcc k (hlt.2 k rfl)
              have hk0 : ((k : Int) < 0) = False := eq_false (by omega)
              rw [hle] at hfin
              repeat first | refine D1_nil0 ?_ | refine D2_nil ?_ | refine D_noG ?_ | refine D_noU ?_ | refine D_pure ?_ | refine D_rd ?_ | refine D2_pure' ?_
              refine D1_pure (by first | exact wants0 | exact (wantsG rfl rfl (by simp only [n_put, *]; decide) (by simp only [at_put, at_none, n_put, reduceIte, Nat.reduceEqDiff, Nat.reduceLT, cond_true, cond_false, ne_eq, not_true_eq_false, not_false_eq_true, decide_true, decide_false, Bool.not_true, Bool.not_false, eq_self, Int.lt_irrefl, Int.le_refl, *]; first | done | rfl)).trans rfl) (by rfl) (by rfl) (fun _ _ => o_indexAddr (by simp only [aev_tmp, aev_const, aev_func, aev_global, at_put, at_none, n_put, reduceIte, Nat.reduceEqDiff, Nat.reduceLT, zq, *]; first | done | rfl) (by simp only [aev_tmp, aev_const, aev_func, aev_global, at_put, at_none, n_put, reduceIte, Nat.reduceEqDiff, Nat.reduceLT, zq, *]; first | done | rfl) i1) ?_
              repeat first | refine D1_nil0 ?_ | refine D2_nil ?_ | refine D_noG ?_ | refine D_noU ?_ | refine D_pure ?_ | refine D_rd ?_ | refine D2_pure' ?_
              refine D1_rd (by first | exact wants0 | exact (wantsG rfl rfl (by simp only [n_put, *]; decide) (by simp only [at_put, at_none, n_put, reduceIte, Nat.reduceEqDiff, Nat.reduceLT, cond_true, cond_false, ne_eq, not_true_eq_false, not_false_eq_true, decide_true, decide_false, Bool.not_true, Bool.not_false, eq_self, Int.lt_irrefl, Int.le_refl, *]; first | done | rfl)).trans rfl) (by rfl) (by rfl) (fun _ => o_ld (by simp only [aev_tmp, aev_const, aev_func, aev_global, at_put, at_none, n_put, reduceIte, Nat.reduceEqDiff, Nat.reduceLT, zq, *]; first | done | rfl) (by exact TL rfl) (by rfl) (rd_cells (by simp (disch := omega) only [get_set_self, get_new_self, get_set_ne, get_new_ne, get_bump, next_set, next_new, Nat.lt_irrefl, reduceIte, next_kill, next_bump, *]; first | done | rfl)) w0) (by first | exact veq_self rfl | assumption) ?_
              repeat first | refine D1_nil0 ?_ | refine D2_nil ?_ | refine D_noG ?_ | refine D_noU ?_ | refine D_pure ?_ | refine D_rd ?_ | refine D2_pure' ?_
              refine D1_pure (by first | exact wants0 | exact (wantsG rfl rfl (by simp only [n_put, *]; decide) (by simp only [at_put, at_none, n_put, reduceIte, Nat.reduceEqDiff, Nat.reduceLT, cond_true, cond_false, ne_eq, not_true_eq_false, not_false_eq_true, decide_true, decide_false, Bool.not_true, Bool.not_false, eq_self, Int.lt_irrefl, Int.le_refl, *]; first | done | rfl)).trans rfl) (by rfl) (by rfl) (fun _ _ => o_indexAddr (by simp only [aev_tmp, aev_const, aev_func, aev_global, at_put, at_none, n_put, reduceIte, Nat.reduceEqDiff, Nat.reduceLT, zq, *]; first | done | rfl) (by simp only [aev_tmp, aev_const, aev_func, aev_global, at_put, at_none, n_put, reduceIte, Nat.reduceEqDiff, Nat.reduceLT, zq, *]; first | done | rfl) i2) ?_
              repeat first | refine D1_nil0 ?_ | refine D2_nil ?_ | refine D_noG ?_ | refine D_noU ?_ | refine D_pure ?_ | refine D_rd ?_ | refine D2_pure' ?_
              refine D1_rd (by first | exact wants0 | exact (wantsG rfl rfl (by simp only [n_put, *]; decide) (by simp only [at_put, at_none, n_put, reduceIte, Nat.reduceEqDiff, Nat.reduceLT, cond_true, cond_false, ne_eq, not_true_eq_false, not_false_eq_true, decide_true, decide_false, Bool.not_true, Bool.not_false, eq_self, Int.lt_irrefl, Int.le_refl, *]; first | done | rfl)).trans rfl) (by rfl) (by rfl) (fun _ => o_ld (by simp only [aev_tmp, aev_const, aev_func, aev_global, at_put, at_none, n_put, reduceIte, Nat.reduceEqDiff, Nat.reduceLT, zq, *]; first | done | rfl) (by exact TL rfl) (by rfl) (rd_cells (by simp (disch := omega) only [get_set_self, get_new_self, get_set_ne, get_new_ne, get_bump, next_set, next_new, Nat.lt_irrefl, reduceIte, next_kill, next_bump, *]; first | done | rfl)) hy) (by first | exact veq_self rfl | assumption) ?_
              by_cases hxy : xc < y
              · have hxy' : (xc < y) = True := eq_true hxy
                rw [if_pos ⟨rfl, hxl, by simpa using hxy⟩] at hfin
                clear hxy hxl
                repeat first | refine D1_nil0 ?_ | refine D2_nil ?_ | refine D_noG ?_ | refine D_noU ?_ | refine D_pure ?_ | refine D_rd ?_ | refine D2_pure' ?_
                repeat first | refine G_seq ?_ | refine G_reg ?_ | refine N_seq ?_ | refine N_block ?_ | refine G_block ?_ | refine G_skip ?_ | refine G_cT ?_ | refine G_cF ?_ | refine G_ret ?_ | refine U_seq_ret ?_ | refine U_block_ret ?_ | refine U_nil ?_ | refine S_nil ?_ | refine S_auto ?_
                refine N_nil ?_
                exact LQ_n (j - 1) (by omega) (hfin _ _ (by simp only [at_put, at_none, n_put, reduceIte, Nat.reduceEqDiff, Nat.reduceLT, zq, *]; first | done | rfl) (by simp only [at_put, at_none, n_put, reduceIte, Nat.reduceEqDiff, Nat.reduceLT, zq, *]; first | done | rfl) (by simp only [at_put, at_none, n_put, reduceIte, Nat.reduceEqDiff, Nat.reduceLT, zq, *]; first | done | rfl) (by simp only [at_put, at_none, n_put, reduceIte, Nat.reduceEqDiff, Nat.reduceLT, zq, *]; first | done | rfl) (by show _ = Value.int .i64 (i : Int); simp only [at_put, at_none, n_put, reduceIte, Nat.reduceEqDiff, Nat.reduceLT, zq, *]; first | done | rfl) (by simp only [at_put, at_none, n_put, reduceIte, Nat.reduceEqDiff, Nat.reduceLT, zq, *]; first | done | rfl) (by simp (disch := omega) only [get_set_self, get_new_self, get_set_ne, get_new_ne, get_bump, next_set, next_new, Nat.lt_irrefl, reduceIte, next_kill, next_bump, *]; first | done | rfl) (hk.bump2 _))
              · have hxy' : (xc < y) = False := eq_false hxy
                rw [if_neg (fun h => hxy (by simpa using h.2.2))] at hfin
                clear hxy hxl
                repeat first | refine D1_nil0 ?_ | refine D2_nil ?_ | refine D_noG ?_ | refine D_noU ?_ | refine D_pure ?_ | refine D_rd ?_ | refine D2_pure' ?_
                repeat first | refine G_seq ?_ | refine G_reg ?_ | refine N_seq ?_ | refine N_block ?_ | refine G_block ?_ | refine G_skip ?_ | refine G_cT ?_ | refine G_cF ?_ | refine G_ret ?_ | refine U_seq_ret ?_ | refine U_block_ret ?_ | refine U_nil ?_ | refine S_nil ?_ | refine S_auto ?_
                refine N_nil ?_
                exact LQ_n (j - 1) (by omega) (hfin _ _ (by simp only [at_put, at_none, n_put, reduceIte, Nat.reduceEqDiff, Nat.reduceLT, zq, *]; first | done | rfl) (by simp only [at_put, at_none, n_put, reduceIte, Nat.reduceEqDiff, Nat.reduceLT, zq, *]; first | done | rfl) (by simp only [at_put, at_none, n_put, reduceIte, Nat.reduceEqDiff, Nat.reduceLT, zq, *]; first | done | rfl) (by simp only [at_put, at_none, n_put, reduceIte, Nat.reduceEqDiff, Nat.reduceLT, zq, *]; first | done | rfl) (by show _ = Value.int .i64 (k : Int); simp only [at_put, at_none, n_put, reduceIte, Nat.reduceEqDiff, Nat.reduceLT, zq, *]; first | done | rfl) (by simp only [at_put, at_none, n_put, reduceIte, Nat.reduceEqDiff, Nat.reduceLT, zq, *]; first | done | rfl) (by simp (disch := omega) only [get_set_self, get_new_self, get_set_ne, get_new_ne, get_bump, next_set, next_new, Nat.lt_irrefl, reduceIte, next_kill, next_bump, *]; first | done | rfl) (hk.bump2 _))
          · have hxl' : (la < xc) = False := eq_false hxl
            rw [if_neg (fun h => hxl h.2.1)] at hfin
            clear hxl
            repeat first | refine D1_nil0 ?_ | refine D2_nil ?_ | refine D_noG ?_ | refine D_noU ?_ | refine D_pure ?_ | refine D_rd ?_ | refine D2_pure' ?_
            repeat first | refine G_seq ?_ | refine G_reg ?_ | refine N_seq ?_ | refine N_block ?_ | refine G_block ?_ | refine G_skip ?_ | refine G_cT ?_ | refine G_cF ?_ | refine G_ret ?_ | refine U_seq_ret ?_ | refine U_block_ret ?_ | refine U_nil ?_ | refine S_nil ?_ | refine S_auto ?_
            refine N_nil ?_
            exact LQ_n (j - 1) (by omega) (hfin _ _ (by simp only [at_put, at_none, n_put, reduceIte, Nat.reduceEqDiff, Nat.reduceLT, zq, *]; first | done | rfl) (by simp only [at_put, at_none, n_put, reduceIte, Nat.reduceEqDiff, Nat.reduceLT, zq, *]; first | done | rfl) (by simp only [at_put, at_none, n_put, reduceIte, Nat.reduceEqDiff, Nat.reduceLT, zq, *]; first | done | rfl) (by simp only [at_put, at_none, n_put, reduceIte, Nat.reduceEqDiff, Nat.reduceLT, zq, *]; first | done | rfl) (by simp only [at_put, at_none, n_put, reduceIte, Nat.reduceEqDiff, Nat.reduceLT, zq, *]; first | done | rfl) (by simp only [at_put, at_none, n_put, reduceIte, Nat.reduceEqDiff, Nat.reduceLT, zq, *]; first | done | rfl) (by simp (disch := omega) only [get_set_self, get_new_self, get_set_ne, get_new_ne, get_bump, next_set, next_new, Nat.lt_irrefl, reduceIte, next_kill, next_bump, *]; first | done | rfl) (hk.bump2 _))
  · have hil' : ((i : Int) < (l.length : Int)) = False := eq_false (by omega)
    obtain rfl : i = l.length := by omega
    have hpd : pickD any la l = (match (pkS any la l l.length).2 with | some i => some i | none => (pkS any la l l.length).1) := rfl
    obtain ⟨⟨b1, b2⟩, hb12⟩ : ∃ bb, pkS any la l l.length = bb := ⟨_, rfl⟩
    rw [hb12] at hpd e5 e6
    repeat first | refine G_seq ?_ | refine G_reg ?_ | refine N_seq ?_ | refine N_block ?_ | refine G_block ?_ | refine G_skip ?_ | refine G_cT ?_ | refine G_cF ?_ | refine G_ret ?_ | refine U_seq_ret ?_ | refine U_block_ret ?_ | refine U_nil ?_ | refine S_nil ?_ | refine S_auto ?_
    refine G_exit ?_
    repeat first | refine U_seq_exit ?_ | refine U_nil ?_ | refine LQ_exit ?_ | refine U_block_hit ?_
    cases b2 with
    | none =>
      replace e6 : a.at 6 = .int .i64 (-1) := e6
      repeat first | refine G_seq ?_ | refine G_reg ?_ | refine N_seq ?_ | refine N_block ?_ | refine G_block ?_ | refine G_skip ?_ | refine G_cT ?_ | refine G_cF ?_ | refine G_ret ?_ | refine U_seq_ret ?_ | refine U_block_ret ?_ | refine U_nil ?_ | refine S_nil ?_ | refine S_auto ?_
      refine FQ_in (by first | exact .inr rfl | exact .inl rfl) (by first | exact ares1 (by simp only [at_put, at_none, n_put, reduceIte, Nat.reduceEqDiff, Nat.reduceLT, zq, *]; first | done | rfl) | exact ares2 (by simp only [at_put, at_none, n_put, reduceIte, Nat.reduceEqDiff, Nat.reduceLT, zq, *]; first | done | rfl) (by simp only [at_put, at_none, n_put, reduceIte, Nat.reduceEqDiff, Nat.reduceLT, zq, *]; first | done | rfl)) ?_
      exact ⟨by rw [hpd]; rfl, hk⟩
    | some k =>
      replace e6 : a.at 6 = .int .i64 (k : Int) := e6
      have hk0 : ((k : Int) ≥ 0) = True := eq_true (by omega)
      have hk1 : (0 ≤ (k : Int)) = True := eq_true (by omega)
      repeat first | refine G_seq ?_ | refine G_reg ?_ | refine N_seq ?_ | refine N_block ?_ | refine G_block ?_ | refine G_skip ?_ | refine G_cT ?_ | refine G_cF ?_ | refine G_ret ?_ | refine U_seq_ret ?_ | refine U_block_ret ?_ | refine U_nil ?_ | refine S_nil ?_ | refine S_auto ?_
      refine FQ_in (by first | exact .inr rfl | exact .inl rfl) (by first | exact ares1 (by simp only [at_put, at_none, n_put, reduceIte, Nat.reduceEqDiff, Nat.reduceLT, zq, *]; first | done | rfl) | exact ares2 (by simp only [at_put, at_none, n_put, reduceIte, Nat.reduceEqDiff, Nat.reduceLT, zq, *]; first | done | rfl) (by simp only [at_put, at_none, n_put, reduceIte, Nat.reduceEqDiff, Nat.reduceLT, zq, *]; first | done | rfl)) ?_
      exact ⟨by rw [hpd]; rfl, hk⟩
end
end Go.Proofs.Yteffhomollmpdaa.AM.SX

/- RobinPlays: the document's round. -/
namespace Go.Proofs.Yteffhomollmpdaa.AM.SX
open Go Go.Proofs.Yteffhomollmpdaa.X
set_option linter.unusedVariables false
set_option linter.unusedSimpArgs false
set_option maxRecDepth 100000
set_option maxHeartbeats 8000000
attribute [local irreducible] astep0 aev awants abin abuild
theorem pkS_pos {any : Bool} {la : Int} {l : List Fl} : ∀ i, (∀ j, (pkS any la l i).1 = some j → 0 < (l.getD j (0, 0)).2) ∧ (∀ j, (pkS any la l i).2 = some j → 0 < (l.getD j (0, 0)).2)
  | 0 => ⟨fun _ h => (by cases h), fun _ h => (by cases h)⟩
  | i + 1 => by
    have := pkS_pos (any := any) (la := la) (l := l) i
    unfold pkS
    split
    · exact this
    · refine ⟨fun j h => ?_, fun j h => ?_⟩
      · dsimp only at h; split at h
        · cases h; omega
        · exact this.1 j h
      · dsimp only at h; split at h
        · cases h; omega
        · exact this.2 j h
theorem pickD_lt {any : Bool} {la : Int} {l : List Fl} {i : Nat} (h : pickD any la l = some i) : i < l.length ∧ 0 < (l.getD i (0, 0)).2 := by
  have h1 := pkS_lt (any := any) (la := la) (l := l) l.length
  have h2 := pkS_pos (any := any) (la := la) (l := l) l.length
  unfold pickD at h
  split at h
  · rename_i k e
    cases h
    exact ⟨h1.2 _ e, h2.2 _ e⟩
  · exact ⟨h1.1 _ h, h2.1 _ h⟩
def roundD : Nat → Int → Int → Bool → List Fl → List Fl → Int × Int × Bool × List Fl
  | 0, c, la, any, fs, out => (c, la, any, out)
  | k + 1, c, la, any, fs, out => match pickD any la fs with
    | none => (0, la, any, out)
    | some i => if c < min (fs.getD i (0, 0)).2 64 then (c, la, any, out) else roundD k (c - min (fs.getD i (0, 0)).2 64) (fs.getD i (0, 0)).1 true (fs.set i ((fs.getD i (0, 0)).1, (fs.getD i (0, 0)).2 - min (fs.getD i (0, 0)).2 64)) (out ++ [((fs.getD i (0, 0)).1, min (fs.getD i (0, 0)).2 64)])
def WLe (l : List Fl) : Prop := ∀ x ∈ l, x.2 ≤ 1099511627776
section
variable {n : Nat} {h : AHeap}
theorem dround_spec {K : Nat} {q c la : Int} {any : Bool} {l : List Fl} {v : Value} {O : List Nat} (hv : RowAt kF h l v O) (hO : ∀ i ∈ O, i < h.next) (hl : l.length ≤ 20) (hw : WLe (cntF l l.length)) (hq : 1 ≤ q ∧ q ≤ 1048576) (hc : 0 ≤ c ∧ c ≤ 1048576) (hK : c + q < K) (hKn : K + 100 ≤ n) (hKb : K ≤ 4000000) :
    C EE (n + 1) 12 [.agg #[.int .i64 q, .int .i64 c, .int .i64 la, .bool any], v] h fun r h' => ∃ R gv O', R = roundD K (if (cntF l l.length).length = 0 then c else c + q) la any (cntF l l.length) [] ∧ r = .tuple #[.agg #[.int .i64 q, .int .i64 R.1, .int .i64 R.2.1, .bool R.2.2.1], gv] ∧ RowAt kF h' R.2.2.2 gv O' ∧ (∀ i ∈ O', h.next ≤ i ∧ i < h'.next) ∧ Keep h h' [] := by
  refine C_in (E_X _) F_dround rfl rfl rfl ?_
  intro a hna hat
  have e0 := hat 0 _ rfl
  have e1 := hat 1 _ rfl
  replace hna : a.n = 92 := hna
  clear hat
  obtain ⟨m, rfl⟩ : ∃ m, n = m + 1 := ⟨n - 1, by omega⟩
  obtain ⟨hq1, hq2⟩ := hq
  obtain ⟨hc1, hc2⟩ := hc
  repeat first | refine G_seq ?_ | refine G_reg ?_ | refine N_seq ?_ | refine N_block ?_ | refine G_block ?_ | refine G_skip ?_ | refine G_cT ?_ | refine G_cF ?_ | refine G_ret ?_ | refine U_seq_ret ?_ | refine U_block_ret ?_ | refine U_nil ?_ | refine S_nil ?_ | refine S_auto ?_
  have hbx : ∃ h1 : AHeap, h1 = (h.new h.next (.cells [.int .i64 q, .int .i64 c, .int .i64 la, .bool any] true)).new (h.next + 1) (.cells [.int .i64 0, .int .i64 0, .int .i64 0, .bool false] true) := ⟨_, rfl⟩
  obtain ⟨h1, hh1⟩ := hbx
  rw [next_new_self]
  have hn1 : h1.next = h.next + 2 := by rw [hh1]; simp only [next_new, Nat.lt_irrefl, reduceIte]
  have hp1 : h1.get h.next = some (.cells [.int .i64 q, .int .i64 c, .int .i64 la, .bool any] true) := by rw [hh1]; simp (disch := omega) only [get_set_self, get_new_self, get_set_ne, get_new_ne, get_bump, next_set, next_new, Nat.lt_irrefl, reduceIte, next_kill, next_bump, *]; first | done | rfl
  have hr1 : h1.get (h.next + 1) = some (.cells [.int .i64 0, .int .i64 0, .int .i64 0, .bool false] true) := by rw [hh1]; simp (disch := omega) only [get_set_self, get_new_self, get_set_ne, get_new_ne, get_bump, next_set, next_new, Nat.lt_irrefl, reduceIte, next_kill, next_bump, *]; first | done | rfl
  have hk1 : Keep h h1 [] := ⟨by omega, fun w hw hn => by rw [hh1, get_new_ne (by omega), get_new_ne (by omega)]⟩
  refine S_gen (fun a h' => a.n = 92 ∧ h1 = h' ∧ a.at 2 = .pointer (some ⟨h.next, 0, none⟩) ∧ a.at 4 = .pointer (some ⟨h.next + 1, 0, none⟩) ∧ a.at 13 = v) ⟨by simp only [at_put, at_none, n_put, reduceIte, Nat.reduceEqDiff, Nat.reduceLT, zq, *]; first | done | rfl, by rw [hh1]; rfl, by simp only [at_put, at_none, n_put, reduceIte, Nat.reduceEqDiff, Nat.reduceLT, zq, *]; first | done | rfl, by simp only [at_put, at_none, n_put, reduceIte, Nat.reduceEqDiff, Nat.reduceLT, zq, *]; first | done | rfl, by simp only [at_put, at_none, n_put, reduceIte, Nat.reduceEqDiff, Nat.reduceLT, zq, *]; first | done | rfl⟩ ?_
  clear e0 e1 hna hh1 a
  rintro a _ ⟨hna, rfl, e2, e4, e13⟩
  refine S_call wants0 (by simp only [aev_tmp, aev_const, aev_func, aev_global, at_put, at_none, n_put, reduceIte, Nat.reduceEqDiff, Nat.reduceLT, zq, *]; first | done | rfl) (E_Y _) (by simp only [List.map, aev_tmp, aev_const, aev_func, aev_global, at_put, at_none, n_put, reduceIte, Nat.reduceEqDiff, Nat.reduceLT, zq, *]; first | done | rfl) ?_
  refine (counted_spec (n := m) (hv.keep fun w hw => hk1.2 w (hO w hw) (by simp)) (fun w hw => by have := hO w hw; omega) (by omega) (by omega)).mono ?_
  rintro fv h2 ⟨Of, hf, hOf, hk2⟩
  have hcl := cntF_len l l.length
  generalize cntF l l.length = fs at *
  have hn2 := hk2.1
  have hp2 := (hk2.2 h.next (by omega) (by simp)).trans hp1
  have hr2 := (hk2.2 (h.next + 1) (by omega) (by simp)).trans hr1
  have hkk : Keep h h2 [] := hk1.trans hk2 (by simp)
  clear hk1 hk2 hp1 hr1 hv hO
  repeat first | refine G_seq ?_ | refine G_reg ?_ | refine N_seq ?_ | refine N_block ?_ | refine G_block ?_ | refine G_skip ?_ | refine G_cT ?_ | refine G_cF ?_ | refine G_ret ?_ | refine U_seq_ret ?_ | refine U_block_ret ?_ | refine U_nil ?_ | refine S_nil ?_ | refine S_auto ?_
  refine S_step wants0 (o_buildSlice (by simp only [List.map, aev_tmp, aev_const, aev_func, aev_global, at_put, at_none, n_put, reduceIte, Nat.reduceEqDiff, Nat.reduceLT, zq, *]; first | done | rfl) (bs_row0 (K := kF) (TL rfl) (TL rfl) ⟨rfl, rfl, by decide⟩)) ?_
  repeat first | refine G_seq ?_ | refine G_reg ?_ | refine N_seq ?_ | refine N_block ?_ | refine G_block ?_ | refine G_skip ?_ | refine G_cT ?_ | refine G_cF ?_ | refine G_ret ?_ | refine U_seq_ret ?_ | refine U_block_ret ?_ | refine U_nil ?_ | refine S_nil ?_ | refine S_auto ?_
  have hf3 : RowAt kF (h2.new h2.next (.cells [] true)) fs fv Of := hf.keep fun w hw => get_new_ne (by have := hOf w hw; omega)
  refine S_step wants0 (o_builtin (by simp only [List.map, aev_tmp, aev_const, aev_func, aev_global, at_put, at_none, n_put, reduceIte, Nat.reduceEqDiff, Nat.reduceLT, zq, *]; first | done | rfl) (hf3.lenB (TL rfl))) ?_
  repeat first | refine S_nil ?_ | refine S_auto ?_
  refine N_seq ?_
  refine G_join (fun a h3 => a.n = 92 ∧ a.at 2 = .pointer (some ⟨h.next, 0, none⟩) ∧ a.at 4 = .pointer (some ⟨h.next + 1, 0, none⟩) ∧ a.at 6 = fv ∧ a.at 7 = .slice (some ⟨h2.next, 0, none⟩) 0 0 ∧ h3.get h.next = some (.cells [.int .i64 q, .int .i64 (if fs.length = 0 then c else c + q), .int .i64 la, .bool any] true) ∧ h3.get (h.next + 1) = some (.cells [.int .i64 0, .int .i64 0, .int .i64 0, .bool false] true) ∧ RowAt kF h3 fs fv Of ∧ h3.get h2.next = some (.cells [] true) ∧ h3.next = h2.next + 1 ∧ Keep h h3 []) ?_ ?_
  · by_cases h0 : fs.length = 0
    · have cz : ((fs.length : Int) > 0) = False := eq_false (by omega)
      have cz2 : ((0 : Int) < (fs.length : Int)) = False := eq_false (by omega)
      rw [if_pos h0]
      clear h0
      repeat first | refine G_seq ?_ | refine G_reg ?_ | refine N_seq ?_ | refine N_block ?_ | refine G_block ?_ | refine G_skip ?_ | refine G_cT ?_ | refine G_cF ?_ | refine G_ret ?_ | refine U_seq_ret ?_ | refine U_block_ret ?_ | refine U_nil ?_ | refine S_nil ?_ | refine S_auto ?_
      refine N_nil ?_
      exact JQ_n ⟨by simp only [at_put, at_none, n_put, reduceIte, Nat.reduceEqDiff, Nat.reduceLT, zq, *]; first | done | rfl, by simp only [at_put, at_none, n_put, reduceIte, Nat.reduceEqDiff, Nat.reduceLT, zq, *]; first | done | rfl, by simp only [at_put, at_none, n_put, reduceIte, Nat.reduceEqDiff, Nat.reduceLT, zq, *]; first | done | rfl, by simp only [at_put, at_none, n_put, reduceIte, Nat.reduceEqDiff, Nat.reduceLT, zq, *]; first | done | rfl, by simp only [at_put, at_none, n_put, reduceIte, Nat.reduceEqDiff, Nat.reduceLT, zq, *]; first | done | rfl, by simp (disch := omega) only [get_set_self, get_new_self, get_set_ne, get_new_ne, get_bump, next_set, next_new, Nat.lt_irrefl, reduceIte, next_kill, next_bump, *]; first | done | rfl, by simp (disch := omega) only [get_set_self, get_new_self, get_set_ne, get_new_ne, get_bump, next_set, next_new, Nat.lt_irrefl, reduceIte, next_kill, next_bump, *]; first | done | rfl, hf3, by simp (disch := omega) only [get_set_self, get_new_self, get_set_ne, get_new_ne, get_bump, next_set, next_new, Nat.lt_irrefl, reduceIte, next_kill, next_bump, *]; first | done | rfl, by simp (disch := omega) only [get_set_self, get_new_self, get_set_ne, get_new_ne, get_bump, next_set, next_new, Nat.lt_irrefl, reduceIte, next_kill, next_bump, *]; first | done | rfl, ⟨by rw [next_new_self]; omega, fun w hw hn => by rw [get_new_ne (by omega), hkk.2 w hw hn]⟩⟩
    · have cz2 : ((0 : Int) < (fs.length : Int)) = True := eq_true (by omega)
      rw [if_neg h0]
      clear h0
      repeat first | refine G_seq ?_ | refine G_reg ?_ | refine N_seq ?_ | refine N_block ?_ | refine G_block ?_ | refine G_skip ?_ | refine G_cT ?_ | refine G_cF ?_ | refine G_ret ?_ | refine U_seq_ret ?_ | refine U_block_ret ?_ | refine U_nil ?_ | refine S_nil ?_ | refine S_auto ?_
      refine N_nil ?_
      refine JQ_n ⟨by simp only [at_put, at_none, n_put, reduceIte, Nat.reduceEqDiff, Nat.reduceLT, zq, *]; first | done | rfl, by simp only [at_put, at_none, n_put, reduceIte, Nat.reduceEqDiff, Nat.reduceLT, zq, *]; first | done | rfl, by simp only [at_put, at_none, n_put, reduceIte, Nat.reduceEqDiff, Nat.reduceLT, zq, *]; first | done | rfl, by simp only [at_put, at_none, n_put, reduceIte, Nat.reduceEqDiff, Nat.reduceLT, zq, *]; first | done | rfl, by simp only [at_put, at_none, n_put, reduceIte, Nat.reduceEqDiff, Nat.reduceLT, zq, *]; first | done | rfl, by simp (disch := omega) only [get_set_self, get_new_self, get_set_ne, get_new_ne, get_bump, next_set, next_new, Nat.lt_irrefl, reduceIte, next_kill, next_bump, *]; first | done | rfl, by simp (disch := omega) only [get_set_self, get_new_self, get_set_ne, get_new_ne, get_bump, next_set, next_new, Nat.lt_irrefl, reduceIte, next_kill, next_bump, *]; first | done | rfl, hf3.keep fun w hw => get_set_ne (by have := hOf w hw; omega), by simp (disch := omega) only [get_set_self, get_new_self, get_set_ne, get_new_ne, get_bump, next_set, next_new, Nat.lt_irrefl, reduceIte, next_kill, next_bump, *]; first | done | rfl, by simp (disch := omega) only [get_set_self, get_new_self, get_set_ne, get_new_ne, get_bump, next_set, next_new, Nat.lt_irrefl, reduceIte, next_kill, next_bump, *]; first | done | rfl, ⟨by rw [next_set, next_new_self]; omega, fun w hw hn => by rw [get_set_ne (by omega), get_new_ne (by omega), hkk.2 w hw hn]⟩⟩
  clear e2 e4 e13 hna a hf hf3 hp2 hr2 hkk
  rintro a h3 ⟨hna, e2, e4, e6, e7, hp3, hr3, hf3, ho3, hn3, hk3⟩
  have hcb : 0 ≤ (if fs.length = 0 then c else c + q) ∧ (if fs.length = 0 then c else c + q) < K := by split <;> omega
  generalize (if fs.length = 0 then c else c + q) = c0 at *
  clear hc1 hc2 hK c
  repeat first | refine G_seq ?_ | refine G_reg ?_ | refine N_seq ?_ | refine N_block ?_ | refine G_block ?_ | refine G_skip ?_ | refine G_cT ?_ | refine G_cF ?_ | refine G_ret ?_ | refine U_seq_ret ?_ | refine U_block_ret ?_ | refine U_nil ?_ | refine S_nil ?_ | refine S_auto ?_
  generalize hRe : roundD K c0 la any fs [] = R at *
  refine G_loop (fun j a h' => ∃ (c la : Int) (any : Bool) (fs out : List Fl) (fv ov : Value) (Of Oo : List Nat), a.n = 92 ∧ a.at 2 = .pointer (some ⟨h.next, 0, none⟩) ∧ a.at 4 = .pointer (some ⟨h.next + 1, 0, none⟩) ∧ a.at 6 = fv ∧ a.at 7 = ov ∧ h'.get h.next = some (.cells [.int .i64 q, .int .i64 c, .int .i64 la, .bool any] true) ∧ h'.get (h.next + 1) = some (.cells [.int .i64 0, .int .i64 0, .int .i64 0, .bool false] true) ∧ RowAt kF h' fs fv Of ∧ RowAt kF h' out ov Oo ∧ (∀ w ∈ Of, h.next + 2 ≤ w ∧ w < h'.next ∧ w ∉ Oo) ∧ (∀ w ∈ Oo, h.next + 2 ≤ w ∧ w < h'.next) ∧ Keep h h' [] ∧ roundD j c la any fs out = R ∧ 0 ≤ c ∧ c < j ∧ out.length + j ≤ K ∧ WLe fs ∧ fs.length ≤ 20 ∧ h.next + 2 ≤ h'.next) K (by omega) ⟨c0, la, any, fs, [], fv, .slice (some ⟨h2.next, 0, none⟩) 0 0, Of, [h2.next], by simp only [at_put, at_none, n_put, reduceIte, Nat.reduceEqDiff, Nat.reduceLT, zq, *]; first | done | rfl, by simp only [at_put, at_none, n_put, reduceIte, Nat.reduceEqDiff, Nat.reduceLT, zq, *]; first | done | rfl, by simp only [at_put, at_none, n_put, reduceIte, Nat.reduceEqDiff, Nat.reduceLT, zq, *]; first | done | rfl, by simp only [at_put, at_none, n_put, reduceIte, Nat.reduceEqDiff, Nat.reduceLT, zq, *]; first | done | rfl, by simp only [at_put, at_none, n_put, reduceIte, Nat.reduceEqDiff, Nat.reduceLT, zq, *]; first | done | rfl, hp3, hr3, hf3, row0 ho3, fun w hw => by have := hOf w hw; exact ⟨by omega, by omega, by simp; omega⟩, fun w hw => by rw [List.mem_singleton.1 hw]; omega, hk3, hRe, hcb.1, hcb.2, by simp, hw, by omega, by omega⟩ ?_
  clear e2 e4 e6 e7 hna a hp3 hr3 hf3 ho3 hn3 hk3 hRe hcb hw hOf hcl hn2 hn1 hl h1 h3 fs fv Of c0 la any
  rintro j a h3 ⟨c, la, any, fs, out, fv, ov, Of, Oo, hna, e2, e4, e6, e7, hp, hr, hf, ho, hOf, hOo, hk, hRe, hc0, hcj, hoj, hw, hfl, hn3⟩
  obtain ⟨k, rfl⟩ : ∃ k, j = k + 1 := ⟨j - 1, by omega⟩
  repeat first | refine G_seq ?_ | refine G_reg ?_ | refine N_seq ?_ | refine N_block ?_ | refine G_block ?_ | refine G_skip ?_ | refine G_cT ?_ | refine G_cF ?_ | refine G_ret ?_ | refine U_seq_ret ?_ | refine U_block_ret ?_ | refine U_nil ?_ | refine S_nil ?_ | refine S_auto ?_
  refine S_call wants0 (by simp only [aev_tmp, aev_const, aev_func, aev_global, at_put, at_none, n_put, reduceIte, Nat.reduceEqDiff, Nat.reduceLT, zq, *]; first | done | rfl) (E_Y _) (by simp only [List.map, aev_tmp, aev_const, aev_func, aev_global, at_put, at_none, n_put, reduceIte, Nat.reduceEqDiff, Nat.reduceLT, zq, *]; first | done | rfl) ?_
  refine (dpick_spec (n := m) (q := q) (c := c) (la := la) (any := any) hf (fun w hw => (hOf w hw).2.1) (by omega) (by omega)).mono ?_
  rintro _ h4 ⟨rfl, hk4⟩
  have hn4 := hk4.1
  have hp4 := (hk4.2 h.next (by omega) (by simp)).trans hp
  have hr4 := (hk4.2 (h.next + 1) (by omega) (by simp)).trans hr
  have hf4 := hf.keep fun w hw => hk4.2 w (hOf w hw).2.1 (by simp)
  have ho4 := ho.keep fun w hw => hk4.2 w (hOo w hw).2 (by simp)
  have hkk : Keep h h4 [] := ⟨by omega, fun w hw hn => (hk4.2 w (by omega) (by simp)).trans (hk.2 w hw hn)⟩
  have hOf4 : ∀ w ∈ Of, h.next + 2 ≤ w ∧ w < h4.next ∧ w ∉ Oo := fun w hw => by have := hOf w hw; exact ⟨by omega, by omega, this.2.2⟩
  have hOo4 : ∀ w ∈ Oo, h.next + 2 ≤ w ∧ w < h4.next := fun w hw => by have := hOo w hw; omega
  have hn4' : h.next + 2 ≤ h4.next := by omega
  clear hk4 hp hr hf ho hOf hOo hk hn3 hn4
  have hRs : R = match pickD any la fs with | none => (0, la, any, out) | some i => if c < min (fs.getD i (0, 0)).2 64 then (c, la, any, out) else roundD k (c - min (fs.getD i (0, 0)).2 64) (fs.getD i (0, 0)).1 true (fs.set i ((fs.getD i (0, 0)).1, (fs.getD i (0, 0)).2 - min (fs.getD i (0, 0)).2 64)) (out ++ [((fs.getD i (0, 0)).1, min (fs.getD i (0, 0)).2 64)]) := hRe.symm
  clear hRe
  cases hpk : pickD any la fs with
  | none =>
    rw [hpk] at hRs
    replace hRs : R = (0, la, any, out) := hRs
    show S EE (acall EE (m + 1)) _ _ (a.put _ _ |>.put _ _ |>.put _ (.int .i64 (-1))) _ _
    repeat first | refine G_seq ?_ | refine G_reg ?_ | refine N_seq ?_ | refine N_block ?_ | refine G_block ?_ | refine G_skip ?_ | refine G_cT ?_ | refine G_cF ?_ | refine G_ret ?_ | refine U_seq_ret ?_ | refine U_block_ret ?_ | refine U_nil ?_ | refine S_nil ?_ | refine S_auto ?_
    refine LQ_ret ?_
    repeat first | refine G_seq ?_ | refine G_reg ?_ | refine N_seq ?_ | refine N_block ?_ | refine G_block ?_ | refine G_skip ?_ | refine G_cT ?_ | refine G_cF ?_ | refine G_ret ?_ | refine U_seq_ret ?_ | refine U_block_ret ?_ | refine U_nil ?_ | refine S_nil ?_ | refine S_auto ?_
    refine FQ_in (.inr rfl) (aresCT (by simp only [at_put, at_none, n_put, reduceIte, Nat.reduceEqDiff, Nat.reduceLT, zq, *]; first | done | rfl) (ldA (TL rfl) rfl (rd_cells (by simp (disch := omega) only [get_set_self, get_new_self, get_set_ne, get_new_ne, get_bump, next_set, next_new, Nat.lt_irrefl, reduceIte, next_kill, next_bump, *]; first | done | rfl)) rfl) (by simp only [at_put, at_none, n_put, reduceIte, Nat.reduceEqDiff, Nat.reduceLT, zq, *]; first | done | rfl)) ?_
    subst hRs
    exact ⟨_, ov, Oo, rfl, rfl, ho4.keep fun w hw => by have := hOo4 w hw; rw [get_set_ne (by omega), get_set_ne (by omega)], fun w hw => by have := hOo4 w hw; rw [next_set, next_set]; omega, ⟨by rw [next_set, next_set]; omega, fun w hw hn => by rw [get_set_ne (by omega), get_set_ne (by omega), hkk.2 w hw hn]⟩⟩
  | some i =>
    obtain ⟨hil, hxp⟩ := pickD_lt hpk
    rw [hpk] at hRs
    dsimp only at hRs
    obtain ⟨xc, xw, hxe⟩ : ∃ xc xw, fs[i] = (xc, xw) := ⟨_, _, rfl⟩
    have hgd : fs.getD i (0, 0) = (xc, xw) := by rw [getD_at hil, hxe]
    rw [hgd] at hRs hxp
    replace hxp : 0 < xw := hxp
    replace hRs : R = if c < min xw 64 then (c, la, any, out) else roundD k (c - min xw 64) xc true (fs.set i (xc, xw - min xw 64)) (out ++ [(xc, min xw 64)]) := hRs
    have hwx : xw ≤ 1099511627776 := by have := hw _ (List.getElem_mem hil); rw [hxe] at this; exact this
    show S EE (acall EE (m + 1)) _ _ (a.put _ _ |>.put _ _ |>.put _ (.int .i64 (i : Int))) _ _
    obtain ⟨bk, cs, cc, rfl, hb, rfl, hcs⟩ := hf4.rows (by omega)
    have ix : ∀ k, k < fs.length → aindexAddr EE.T 34 (.slice (some ⟨bk, 0, none⟩) fs.length cc) (.int .i64 (k : Int)) = some (.pointer (some ⟨bk, k * kF.sz, none⟩)) := fun k hk => ix_row0 (TL rfl) (TL rfl) ⟨rfl, rfl, by decide⟩ hk
    have i1 := ix i hil
    have w0 := (hcs i hil).2 0 (by decide)
    have w1 := (hcs i hil).2 1 (by decide)
    rw [hxe] at w0 w1
    replace w0 : cs[i * kF.sz + 0]? = some (.int .i64 xc) := w0
    replace w1 : cs[i * kF.sz + 1]? = some (.int .i64 xw) := w1
    have hi0 : ((i : Int) < 0) = False := eq_false (by omega)
    repeat first | refine G_seq ?_ | refine G_reg ?_ | refine N_seq ?_ | refine N_block ?_ | refine G_block ?_ | refine G_skip ?_ | refine G_cT ?_ | refine G_cF ?_ | refine G_ret ?_ | refine U_seq_ret ?_ | refine U_block_ret ?_ | refine U_nil ?_ | refine S_nil ?_ | refine S_auto ?_
    refine S_step wants0 (o_indexAddr (by simp only [aev_tmp, aev_const, aev_func, aev_global, at_put, at_none, n_put, reduceIte, Nat.reduceEqDiff, Nat.reduceLT, zq, *]; first | done | rfl) (by simp only [aev_tmp, aev_const, aev_func, aev_global, at_put, at_none, n_put, reduceIte, Nat.reduceEqDiff, Nat.reduceLT, zq, *]; first | done | rfl) i1) ?_
    repeat first | refine G_seq ?_ | refine G_reg ?_ | refine N_seq ?_ | refine N_block ?_ | refine G_block ?_ | refine G_skip ?_ | refine G_cT ?_ | refine G_cF ?_ | refine G_ret ?_ | refine U_seq_ret ?_ | refine U_block_ret ?_ | refine U_nil ?_ | refine S_nil ?_ | refine S_auto ?_
    refine S_step wants0 (o_ld (by simp only [aev_tmp, aev_const, aev_func, aev_global, at_put, at_none, n_put, reduceIte, Nat.reduceEqDiff, Nat.reduceLT, zq, *]; first | done | rfl) (by exact TL rfl) (by rfl) (rd_cells (by simp (disch := omega) only [get_set_self, get_new_self, get_set_ne, get_new_ne, get_bump, next_set, next_new, Nat.lt_irrefl, reduceIte, next_kill, next_bump, *]; first | done | rfl)) w1) ?_
    repeat first | refine S_nil ?_ | refine S_auto ?_
    refine N_seq ?_
    refine G_seq ?_
    refine G_join (fun a h' => h4 = h' ∧ a.n = 92 ∧ a.at 2 = .pointer (some ⟨h.next, 0, none⟩) ∧ a.at 4 = .pointer (some ⟨h.next + 1, 0, none⟩) ∧ a.at 6 = .slice (some ⟨bk, 0, none⟩) fs.length cc ∧ a.at 7 = ov ∧ a.at 8 = .int .i64 (i : Int) ∧ a.at 9 = .int .i64 (min xw 64)) ?_ ?_
    · by_cases h64 : 64 < xw
      · have h64' : (64 < xw) = True := eq_true h64
        have hm : min xw 64 = 64 := by omega
        rw [hm]
        clear h64
        repeat first | refine G_seq ?_ | refine G_reg ?_ | refine N_seq ?_ | refine N_block ?_ | refine G_block ?_ | refine G_skip ?_ | refine G_cT ?_ | refine G_cF ?_ | refine G_ret ?_ | refine U_seq_ret ?_ | refine U_block_ret ?_ | refine U_nil ?_ | refine S_nil ?_ | refine S_auto ?_
        refine N_nil ?_
        exact JQ_n ⟨rfl, by simp only [at_put, at_none, n_put, reduceIte, Nat.reduceEqDiff, Nat.reduceLT, zq, *]; first | done | rfl, by simp only [at_put, at_none, n_put, reduceIte, Nat.reduceEqDiff, Nat.reduceLT, zq, *]; first | done | rfl, by simp only [at_put, at_none, n_put, reduceIte, Nat.reduceEqDiff, Nat.reduceLT, zq, *]; first | done | rfl, by simp only [at_put, at_none, n_put, reduceIte, Nat.reduceEqDiff, Nat.reduceLT, zq, *]; first | done | rfl, by simp only [at_put, at_none, n_put, reduceIte, Nat.reduceEqDiff, Nat.reduceLT, zq, *]; first | done | rfl, by simp only [at_put, at_none, n_put, reduceIte, Nat.reduceEqDiff, Nat.reduceLT, zq, *]; first | done | rfl, by simp only [at_put, at_none, n_put, reduceIte, Nat.reduceEqDiff, Nat.reduceLT, zq, *]; first | done | rfl⟩
      · have h64' : (64 < xw) = False := eq_false h64
        have hm : min xw 64 = xw := by omega
        rw [hm]
        clear h64
        repeat first | refine G_seq ?_ | refine G_reg ?_ | refine N_seq ?_ | refine N_block ?_ | refine G_block ?_ | refine G_skip ?_ | refine G_cT ?_ | refine G_cF ?_ | refine G_ret ?_ | refine U_seq_ret ?_ | refine U_block_ret ?_ | refine U_nil ?_ | refine S_nil ?_ | refine S_auto ?_
        refine N_nil ?_
        exact JQ_n ⟨rfl, by simp only [at_put, at_none, n_put, reduceIte, Nat.reduceEqDiff, Nat.reduceLT, zq, *]; first | done | rfl, by simp only [at_put, at_none, n_put, reduceIte, Nat.reduceEqDiff, Nat.reduceLT, zq, *]; first | done | rfl, by simp only [at_put, at_none, n_put, reduceIte, Nat.reduceEqDiff, Nat.reduceLT, zq, *]; first | done | rfl, by simp only [at_put, at_none, n_put, reduceIte, Nat.reduceEqDiff, Nat.reduceLT, zq, *]; first | done | rfl, by simp only [at_put, at_none, n_put, reduceIte, Nat.reduceEqDiff, Nat.reduceLT, zq, *]; first | done | rfl, by simp only [at_put, at_none, n_put, reduceIte, Nat.reduceEqDiff, Nat.reduceLT, zq, *]; first | done | rfl, by simp only [at_put, at_none, n_put, reduceIte, Nat.reduceEqDiff, Nat.reduceLT, zq, *]; first | done | rfl⟩
    · clear e2 e4 e6 e7 hna a
      rintro a _ ⟨rfl, hna, e2, e4, e6, e7, e8, e9⟩
      have hg1 : 1 ≤ min xw 64 ∧ min xw 64 ≤ 64 ∧ min xw 64 ≤ xw := by omega
      generalize min xw 64 = g at *
      by_cases hcg : c < g
      · have hcg' : (c < g) = True := eq_true hcg
        rw [if_pos hcg] at hRs
        clear hcg
        repeat first | refine G_seq ?_ | refine G_reg ?_ | refine N_seq ?_ | refine N_block ?_ | refine G_block ?_ | refine G_skip ?_ | refine G_cT ?_ | refine G_cF ?_ | refine G_ret ?_ | refine U_seq_ret ?_ | refine U_block_ret ?_ | refine U_nil ?_ | refine S_nil ?_ | refine S_auto ?_
        refine LQ_ret ?_
        repeat first | refine G_seq ?_ | refine G_reg ?_ | refine N_seq ?_ | refine N_block ?_ | refine G_block ?_ | refine G_skip ?_ | refine G_cT ?_ | refine G_cF ?_ | refine G_ret ?_ | refine U_seq_ret ?_ | refine U_block_ret ?_ | refine U_nil ?_ | refine S_nil ?_ | refine S_auto ?_
        refine FQ_in (.inr rfl) (aresCT (by simp only [at_put, at_none, n_put, reduceIte, Nat.reduceEqDiff, Nat.reduceLT, zq, *]; first | done | rfl) (ldA (TL rfl) rfl (rd_cells (by simp (disch := omega) only [get_set_self, get_new_self, get_set_ne, get_new_ne, get_bump, next_set, next_new, Nat.lt_irrefl, reduceIte, next_kill, next_bump, *]; first | done | rfl)) rfl) (by simp only [at_put, at_none, n_put, reduceIte, Nat.reduceEqDiff, Nat.reduceLT, zq, *]; first | done | rfl)) ?_
        subst hRs
        exact ⟨_, ov, Oo, rfl, rfl, ho4.keep fun w hw => by have := hOo4 w hw; rw [get_set_ne (by omega)], fun w hw => by have := hOo4 w hw; rw [next_set]; omega, ⟨by rw [next_set]; omega, fun w hw hn => by rw [get_set_ne (by omega), hkk.2 w hw hn]⟩⟩
      · have hcg' : (c < g) = False := eq_false hcg
        rw [if_neg hcg] at hRs
        have hxe' : cut cs (i * kF.sz) kF.sz = some (kF.enc (xc, xw)) := by rw [(hcs i hil).1, hxe]
        have hbk := hOf4 bk (.head _)
        obtain ⟨v3, h5, O3, q1, q2, q3, q4, q5⟩ := app_row (K := kF) (T := EE.T) (h := h4.new h4.next (.cells (kF.enc (xc, g)) true)) (st := 31) (xt := 31) (news := [((xc, g) : Fl)]) (x := .slice (some ⟨h4.next, 0, none⟩) 1 1) (TL rfl) (TL rfl) ⟨rfl, rfl, by decide⟩ (TL rfl) (ho4.keep fun q hq => by have := hOo4 q hq; rw [get_new_ne (by omega)]) (by simp) (src_row1 (K := kF) (get_new_self _ _ _)) (by simp; omega) (fun q hq => by have := hOo4 q hq; rw [next_new_self]; omega)
        have hnx5 := q3.1
        rw [next_new_self] at hnx5
        have hk5 : ∀ q, q < h4.next → q ∉ Oo → h5.get q = h4.get q := fun q hq hn => by
          rw [q3.2 q (by rw [next_new_self]; omega) hn, get_new_ne (by omega)]
        have hO3 : ∀ q ∈ O3, h.next + 2 ≤ q ∧ q < h5.next ∧ q ≠ bk := fun q hq => by
          rcases q4 with rfl | rfl
          · exact ⟨(hOo4 q hq).1, q5 q hq, fun e => hbk.2.2 (e ▸ hq)⟩
          · have h9 := q5 q hq
            rw [List.mem_singleton, next_new_self] at hq
            exact ⟨by omega, h9, by omega⟩
        have hp5 := (hk5 h.next (by omega) (fun hm => by have := hOo4 _ hm; omega)).trans hp4
        have hr5 := (hk5 (h.next + 1) (by omega) (fun hm => by have := hOo4 _ hm; omega)).trans hr4
        have hb5 := (hk5 bk hbk.2.1 hbk.2.2).trans hb
        have hkk5 : Keep h h5 [] := ⟨by omega, fun q hq hn => (hk5 q (by omega) (fun hm => by have := hOo4 _ hm; omega)).trans (hkk.2 q hq hn)⟩
        clear q3 q4 q5 hk5 ho4 hOo4 hkk hf4
        repeat first | refine G_seq ?_ | refine G_reg ?_ | refine N_seq ?_ | refine N_block ?_ | refine G_block ?_ | refine G_skip ?_ | refine G_cT ?_ | refine G_cF ?_ | refine G_ret ?_ | refine U_seq_ret ?_ | refine U_block_ret ?_ | refine U_nil ?_ | refine S_nil ?_ | refine S_auto ?_
        refine S_step wants0 (o_indexAddr (by simp only [aev_tmp, aev_const, aev_func, aev_global, at_put, at_none, n_put, reduceIte, Nat.reduceEqDiff, Nat.reduceLT, zq, *]; first | done | rfl) (by simp only [aev_tmp, aev_const, aev_func, aev_global, at_put, at_none, n_put, reduceIte, Nat.reduceEqDiff, Nat.reduceLT, zq, *]; first | done | rfl) i1) ?_
        repeat first | refine G_seq ?_ | refine G_reg ?_ | refine N_seq ?_ | refine N_block ?_ | refine G_block ?_ | refine G_skip ?_ | refine G_cT ?_ | refine G_cF ?_ | refine G_ret ?_ | refine U_seq_ret ?_ | refine U_block_ret ?_ | refine U_nil ?_ | refine S_nil ?_ | refine S_auto ?_
        refine S_step wants0 (o_ld (by simp only [aev_tmp, aev_const, aev_func, aev_global, at_put, at_none, n_put, reduceIte, Nat.reduceEqDiff, Nat.reduceLT, zq, *]; first | done | rfl) (by exact TL rfl) (by rfl) (rd_cells (by simp (disch := omega) only [get_set_self, get_new_self, get_set_ne, get_new_ne, get_bump, next_set, next_new, Nat.lt_irrefl, reduceIte, next_kill, next_bump, *]; first | done | rfl)) w0) ?_
        repeat first | refine G_seq ?_ | refine G_reg ?_ | refine N_seq ?_ | refine N_block ?_ | refine G_block ?_ | refine G_skip ?_ | refine G_cT ?_ | refine G_cF ?_ | refine G_ret ?_ | refine U_seq_ret ?_ | refine U_block_ret ?_ | refine U_nil ?_ | refine S_nil ?_ | refine S_auto ?_
        refine S_step wants0 (o_buildSlice (by simp only [List.map, aev_tmp, aev_const, aev_func, aev_global, at_put, at_none, n_put, reduceIte, Nat.reduceEqDiff, Nat.reduceLT, zq, *]; first | done | rfl) (bs_row1 (K := kF) (x := ((xc, g) : Fl)) (TL rfl) (TL rfl) ⟨rfl, rfl, by decide⟩ (by decide) rfl)) ?_
        refine S_step wants0 (o_builtin (by simp only [List.map, aev_tmp, aev_const, aev_func, aev_global, at_put, at_none, n_put, reduceIte, Nat.reduceEqDiff, Nat.reduceLT, zq, *]; first | done | rfl) (bi_app q1)) ?_
        clear q1 hp4 hr4 hb
        repeat first | refine G_seq ?_ | refine G_reg ?_ | refine N_seq ?_ | refine N_block ?_ | refine G_block ?_ | refine G_skip ?_ | refine G_cT ?_ | refine G_cF ?_ | refine G_ret ?_ | refine U_seq_ret ?_ | refine U_block_ret ?_ | refine U_nil ?_ | refine S_nil ?_ | refine S_auto ?_
        refine S_step wants0 (o_buildSlice (by simp only [List.map, aev_tmp, aev_const, aev_func, aev_global, at_put, at_none, n_put, reduceIte, Nat.reduceEqDiff, Nat.reduceLT, zq, *]; first | done | rfl) (bs_row0 (K := kF) (TL rfl) (TL rfl) ⟨rfl, rfl, by decide⟩)) ?_
        repeat first | refine G_seq ?_ | refine G_reg ?_ | refine N_seq ?_ | refine N_block ?_ | refine G_block ?_ | refine G_skip ?_ | refine G_cT ?_ | refine G_cF ?_ | refine G_ret ?_ | refine U_seq_ret ?_ | refine U_block_ret ?_ | refine U_nil ?_ | refine S_nil ?_ | refine S_auto ?_
        have hO3n : ∀ q ∈ O3, q < h5.next := fun q hq => (hO3 q hq).2.1
        have hsl : (fs.set i (xc, xw - g)).length = fs.length := List.length_set ..
        refine G_loop (fun j2 a h' => ∃ (u : Nat) (nv : Value) (On : List Nat), u + j2 = fs.length ∧ a.n = 92 ∧ a.at 2 = .pointer (some ⟨h.next, 0, none⟩) ∧ a.at 4 = .pointer (some ⟨h.next + 1, 0, none⟩) ∧ a.at 6 = .slice (some ⟨bk, 0, none⟩) fs.length cc ∧ a.at 7 = v3 ∧ a.at 8 = .int .i64 (i : Int) ∧ a.at 9 = .int .i64 g ∧ a.at 10 = nv ∧ a.at 11 = .int .i64 (u : Int) ∧ RowAt kF h' ((fs.set i (xc, xw - g)).take u) nv On ∧ (∀ w ∈ On, h5.next ≤ w ∧ w < h'.next) ∧ Keep h5 h' []) fs.length (by omega) ⟨0, .slice (some ⟨h5.next, 0, none⟩) 0 0, [h5.next], by omega, by simp only [at_put, at_none, n_put, reduceIte, Nat.reduceEqDiff, Nat.reduceLT, zq, *]; first | done | rfl, by simp only [at_put, at_none, n_put, reduceIte, Nat.reduceEqDiff, Nat.reduceLT, zq, *]; first | done | rfl, by simp only [at_put, at_none, n_put, reduceIte, Nat.reduceEqDiff, Nat.reduceLT, zq, *]; first | done | rfl, by simp only [at_put, at_none, n_put, reduceIte, Nat.reduceEqDiff, Nat.reduceLT, zq, *]; first | done | rfl, by simp only [at_put, at_none, n_put, reduceIte, Nat.reduceEqDiff, Nat.reduceLT, zq, *]; first | done | rfl, by simp only [at_put, at_none, n_put, reduceIte, Nat.reduceEqDiff, Nat.reduceLT, zq, *]; first | done | rfl, by simp only [at_put, at_none, n_put, reduceIte, Nat.reduceEqDiff, Nat.reduceLT, zq, *]; first | done | rfl, by simp only [at_put, at_none, n_put, reduceIte, Nat.reduceEqDiff, Nat.reduceLT, zq, *]; first | done | rfl, by simp only [at_put, at_none, n_put, reduceIte, Nat.reduceEqDiff, Nat.reduceLT, zq, *]; first | done | rfl, row0 (get_new_self _ _ _), fun w hw => by rw [List.mem_singleton.1 hw, next_new_self]; omega, Keep.new _ _ _⟩ ?_
        clear e2 e4 e6 e7 e8 e9 hna a
        rintro j2 a h6 ⟨u, nv, On, huj, hna, e2, e4, e6, e7, e8, e9, e10, e11, hn6, hOn, hk6⟩
        have hb6 := (hk6.2 bk (by omega) (by simp)).trans hb5
        have hn56 := hk6.1
        by_cases hul : u < fs.length
        · have hul' : ((u : Int) < (fs.length : Int)) = True := eq_true (by omega)
          have hcu := (hcs u hul).1
          have i2 := ix u hul
          have hnt := List.take_succ_eq_append_getElem (l := fs.set i (xc, xw - g)) (i := u) (by rw [hsl]; exact hul)
          have hlt : ((fs.set i (xc, xw - g)).take u).length ≤ 20 := by rw [List.length_take, hsl]; omega
          obtain ⟨yc, yw, hye⟩ : ∃ yc yw, fs[u] = (yc, yw) := ⟨_, _, rfl⟩
          rw [hye] at hcu
          rw [List.getElem_set] at hnt
          repeat first | refine G_seq ?_ | refine G_reg ?_ | refine N_seq ?_ | refine N_block ?_ | refine G_block ?_ | refine G_skip ?_ | refine G_cT ?_ | refine G_cF ?_ | refine G_ret ?_ | refine U_seq_ret ?_ | refine U_block_ret ?_ | refine U_nil ?_ | refine S_nil ?_ | refine S_auto ?_
          refine S_step wants0 (o_builtin (by simp only [List.map, aev_tmp, aev_const, aev_func, aev_global, at_put, at_none, n_put, reduceIte, Nat.reduceEqDiff, Nat.reduceLT, zq, *]; first | done | rfl) (lenS (TL rfl))) ?_
          repeat first | refine G_seq ?_ | refine G_reg ?_ | refine N_seq ?_ | refine N_block ?_ | refine G_block ?_ | refine G_skip ?_ | refine G_cT ?_ | refine G_cF ?_ | refine G_ret ?_ | refine U_seq_ret ?_ | refine U_block_ret ?_ | refine U_nil ?_ | refine S_nil ?_ | refine S_auto ?_
          refine S_step wants0 (o_indexAddr (by simp only [aev_tmp, aev_const, aev_func, aev_global, at_put, at_none, n_put, reduceIte, Nat.reduceEqDiff, Nat.reduceLT, zq, *]; first | done | rfl) (by simp only [aev_tmp, aev_const, aev_func, aev_global, at_put, at_none, n_put, reduceIte, Nat.reduceEqDiff, Nat.reduceLT, zq, *]; first | done | rfl) i2) ?_
          refine S_step wants0 (o_ldA (by simp only [aev_tmp, aev_const, aev_func, aev_global, at_put, at_none, n_put, reduceIte, Nat.reduceEqDiff, Nat.reduceLT, zq, *]; first | done | rfl) (by exact TL rfl) (by rfl) (rd_cells (by simp (disch := omega) only [get_set_self, get_new_self, get_set_ne, get_new_ne, get_bump, next_set, next_new, Nat.lt_irrefl, reduceIte, next_kill, next_bump, *]; first | done | rfl)) (hcu.trans rfl)) ?_
          by_cases hui : i = u
          · rw [if_pos hui] at hnt
            have hxy : (xc, xw) = (yc, yw) := by rw [← hxe, ← hye]; subst hui; rfl
            obtain ⟨rfl, rfl⟩ := Prod.mk.inj hxy
            have hui' : ((u : Int) = (i : Int)) = True := eq_true (by omega)
            clear hui hxy
            repeat first | refine G_seq ?_ | refine G_reg ?_ | refine N_seq ?_ | refine N_block ?_ | refine G_block ?_ | refine G_skip ?_ | refine G_cT ?_ | refine G_cF ?_ | refine G_ret ?_ | refine U_seq_ret ?_ | refine U_block_ret ?_ | refine U_nil ?_ | refine S_nil ?_ | refine S_auto ?_
            obtain ⟨hh, hhe⟩ : ∃ hh, hh = ((h6.new h6.next (.cells [.int .i64 0, .int .i64 0] true)).set h6.next (.cells (kF.enc (xc, xw)) true)).set h6.next (.cells (kF.enc (xc, xw - g)) true) := ⟨_, rfl⟩
            have hhn : hh.next = h6.next + 1 := by rw [hhe, next_set, next_set, next_new_self]
            have hhg : ∀ q, q ≠ h6.next → hh.get q = h6.get q := fun q hq => by rw [hhe, get_set_ne hq, get_set_ne hq, get_new_ne hq]
            obtain ⟨v7, h7, O7, q1, q2, q3, q4, q5⟩ := app_row (K := kF) (T := EE.T) (h := hh.new hh.next (.cells (kF.enc (xc, xw - g)) true)) (st := 34) (xt := 34) (news := [((xc, xw - g) : Fl)]) (x := .slice (some ⟨hh.next, 0, none⟩) 1 1) (TL rfl) (TL rfl) ⟨rfl, rfl, by decide⟩ (TL rfl) (hn6.keep fun q hq => by have := hOn q hq; rw [get_new_ne (by omega), hhg q (by omega)]) (by simp) (src_row1 (K := kF) (get_new_self _ _ _)) (by simp only [List.length_singleton]; omega) (fun q hq => by have := hOn q hq; rw [next_new_self]; omega)
            have hnx7 := q3.1
            rw [next_new_self] at hnx7
            have hk7 : ∀ q, q < h5.next → h7.get q = h6.get q := fun q hq => by
              rw [q3.2 q (by rw [next_new_self]; omega) (fun hm => by have := hOn q hm; omega), get_new_ne (by omega), hhg q (by omega)]
            have hO7 : ∀ q ∈ O7, h5.next ≤ q ∧ q < h7.next := fun q hq => ⟨by
              rcases q4 with rfl | rfl
              · exact (hOn q hq).1
              · rw [List.mem_singleton, next_new_self] at hq; omega, q5 q hq⟩
            have hkk7 : Keep h5 h7 [] := ⟨by omega, fun q hq hn => (hk7 q hq).trans (hk6.2 q hq hn)⟩
            rw [← hnt] at q2
            clear hnt hn6 hOn q3 q4 q5 hk7 hhn hhg hnx7 hk6
            subst hhe
            refine S_step wants0 (o_buildSlice (by simp only [List.map, aev_tmp, aev_const, aev_func, aev_global, at_put, at_none, n_put, reduceIte, Nat.reduceEqDiff, Nat.reduceLT, zq, *]; first | done | rfl) (bs_row1 (K := kF) (x := ((xc, xw - g) : Fl)) (TL rfl) (TL rfl) ⟨rfl, rfl, by decide⟩ (by decide) rfl)) ?_
            refine S_step wants0 (o_builtin (by simp only [List.map, aev_tmp, aev_const, aev_func, aev_global, at_put, at_none, n_put, reduceIte, Nat.reduceEqDiff, Nat.reduceLT, zq, *]; first | done | rfl) (bi_app q1)) ?_
            clear q1
            repeat first | refine G_seq ?_ | refine G_reg ?_ | refine N_seq ?_ | refine N_block ?_ | refine G_block ?_ | refine G_skip ?_ | refine G_cT ?_ | refine G_cF ?_ | refine G_ret ?_ | refine U_seq_ret ?_ | refine U_block_ret ?_ | refine U_nil ?_ | refine S_nil ?_ | refine S_auto ?_
            refine N_nil ?_
            exact LQ_n (j2 - 1) (by omega) ⟨u + 1, v7, O7, by omega, by simp only [at_put, at_none, n_put, reduceIte, Nat.reduceEqDiff, Nat.reduceLT, zq, *]; first | done | rfl, by simp only [at_put, at_none, n_put, reduceIte, Nat.reduceEqDiff, Nat.reduceLT, zq, *]; first | done | rfl, by simp only [at_put, at_none, n_put, reduceIte, Nat.reduceEqDiff, Nat.reduceLT, zq, *]; first | done | rfl, by simp only [at_put, at_none, n_put, reduceIte, Nat.reduceEqDiff, Nat.reduceLT, zq, *]; first | done | rfl, by simp only [at_put, at_none, n_put, reduceIte, Nat.reduceEqDiff, Nat.reduceLT, zq, *]; first | done | rfl, by simp only [at_put, at_none, n_put, reduceIte, Nat.reduceEqDiff, Nat.reduceLT, zq, *]; first | done | rfl, by simp only [at_put, at_none, n_put, reduceIte, Nat.reduceEqDiff, Nat.reduceLT, zq, *]; first | done | rfl, by simp only [at_put, at_none, n_put, reduceIte, Nat.reduceEqDiff, Nat.reduceLT, zq, *]; first | done | rfl, by rw [Int.natCast_add]; simp only [at_put, at_none, n_put, reduceIte, Nat.reduceEqDiff, Nat.reduceLT, zq, *]; first | done | rfl, q2, hO7, hkk7⟩
          · rw [if_neg hui, hye] at hnt
            have hui' : ((u : Int) = (i : Int)) = False := eq_false (by omega)
            clear hui
            repeat first | refine G_seq ?_ | refine G_reg ?_ | refine N_seq ?_ | refine N_block ?_ | refine G_block ?_ | refine G_skip ?_ | refine G_cT ?_ | refine G_cF ?_ | refine G_ret ?_ | refine U_seq_ret ?_ | refine U_block_ret ?_ | refine U_nil ?_ | refine S_nil ?_ | refine S_auto ?_
            obtain ⟨hh, hhe⟩ : ∃ hh, hh = (h6.new h6.next (.cells [.int .i64 0, .int .i64 0] true)).set h6.next (.cells (kF.enc (yc, yw)) true) := ⟨_, rfl⟩
            have hhn : hh.next = h6.next + 1 := by rw [hhe, next_set, next_new_self]
            have hhg : ∀ q, q ≠ h6.next → hh.get q = h6.get q := fun q hq => by rw [hhe, get_set_ne hq, get_new_ne hq]
            obtain ⟨v7, h7, O7, q1, q2, q3, q4, q5⟩ := app_row (K := kF) (T := EE.T) (h := hh.new hh.next (.cells (kF.enc (yc, yw)) true)) (st := 34) (xt := 34) (news := [((yc, yw) : Fl)]) (x := .slice (some ⟨hh.next, 0, none⟩) 1 1) (TL rfl) (TL rfl) ⟨rfl, rfl, by decide⟩ (TL rfl) (hn6.keep fun q hq => by have := hOn q hq; rw [get_new_ne (by omega), hhg q (by omega)]) (by simp) (src_row1 (K := kF) (get_new_self _ _ _)) (by simp only [List.length_singleton]; omega) (fun q hq => by have := hOn q hq; rw [next_new_self]; omega)
            have hnx7 := q3.1
            rw [next_new_self] at hnx7
            have hk7 : ∀ q, q < h5.next → h7.get q = h6.get q := fun q hq => by
              rw [q3.2 q (by rw [next_new_self]; omega) (fun hm => by have := hOn q hm; omega), get_new_ne (by omega), hhg q (by omega)]
            have hO7 : ∀ q ∈ O7, h5.next ≤ q ∧ q < h7.next := fun q hq => ⟨by
              rcases q4 with rfl | rfl
              · exact (hOn q hq).1
              · rw [List.mem_singleton, next_new_self] at hq; omega, q5 q hq⟩
            have hkk7 : Keep h5 h7 [] := ⟨by omega, fun q hq hn => (hk7 q hq).trans (hk6.2 q hq hn)⟩
            rw [← hnt] at q2
            clear hnt hn6 hOn q3 q4 q5 hk7 hhn hhg hnx7 hk6
            subst hhe
            refine S_step wants0 (o_buildSlice (by simp only [List.map, aev_tmp, aev_const, aev_func, aev_global, at_put, at_none, n_put, reduceIte, Nat.reduceEqDiff, Nat.reduceLT, zq, *]; first | done | rfl) (bs_row1 (K := kF) (x := ((yc, yw) : Fl)) (TL rfl) (TL rfl) ⟨rfl, rfl, by decide⟩ (by decide) rfl)) ?_
            refine S_step wants0 (o_builtin (by simp only [List.map, aev_tmp, aev_const, aev_func, aev_global, at_put, at_none, n_put, reduceIte, Nat.reduceEqDiff, Nat.reduceLT, zq, *]; first | done | rfl) (bi_app q1)) ?_
            clear q1
            repeat first | refine G_seq ?_ | refine G_reg ?_ | refine N_seq ?_ | refine N_block ?_ | refine G_block ?_ | refine G_skip ?_ | refine G_cT ?_ | refine G_cF ?_ | refine G_ret ?_ | refine U_seq_ret ?_ | refine U_block_ret ?_ | refine U_nil ?_ | refine S_nil ?_ | refine S_auto ?_
            refine N_nil ?_
            exact LQ_n (j2 - 1) (by omega) ⟨u + 1, v7, O7, by omega, by simp only [at_put, at_none, n_put, reduceIte, Nat.reduceEqDiff, Nat.reduceLT, zq, *]; first | done | rfl, by simp only [at_put, at_none, n_put, reduceIte, Nat.reduceEqDiff, Nat.reduceLT, zq, *]; first | done | rfl, by simp only [at_put, at_none, n_put, reduceIte, Nat.reduceEqDiff, Nat.reduceLT, zq, *]; first | done | rfl, by simp only [at_put, at_none, n_put, reduceIte, Nat.reduceEqDiff, Nat.reduceLT, zq, *]; first | done | rfl, by simp only [at_put, at_none, n_put, reduceIte, Nat.reduceEqDiff, Nat.reduceLT, zq, *]; first | done | rfl, by simp only [at_put, at_none, n_put, reduceIte, Nat.reduceEqDiff, Nat.reduceLT, zq, *]; first | done | rfl, by simp only [at_put, at_none, n_put, reduceIte, Nat.reduceEqDiff, Nat.reduceLT, zq, *]; first | done | rfl, by simp only [at_put, at_none, n_put, reduceIte, Nat.reduceEqDiff, Nat.reduceLT, zq, *]; first | done | rfl, by rw [Int.natCast_add]; simp only [at_put, at_none, n_put, reduceIte, Nat.reduceEqDiff, Nat.reduceLT, zq, *]; first | done | rfl, q2, hO7, hkk7⟩
        · have hul' : ((u : Int) < (fs.length : Int)) = False := eq_false (by omega)
          obtain rfl : u = fs.length := by omega
          rw [List.take_of_length_le (by rw [hsl]; exact Nat.le_refl _)] at hn6
          repeat first | refine G_seq ?_ | refine G_reg ?_ | refine N_seq ?_ | refine N_block ?_ | refine G_block ?_ | refine G_skip ?_ | refine G_cT ?_ | refine G_cF ?_ | refine G_ret ?_ | refine U_seq_ret ?_ | refine U_block_ret ?_ | refine U_nil ?_ | refine S_nil ?_ | refine S_auto ?_
          refine S_step wants0 (o_builtin (by simp only [List.map, aev_tmp, aev_const, aev_func, aev_global, at_put, at_none, n_put, reduceIte, Nat.reduceEqDiff, Nat.reduceLT, zq, *]; first | done | rfl) (lenS (TL rfl))) ?_
          repeat first | refine G_seq ?_ | refine G_reg ?_ | refine N_seq ?_ | refine N_block ?_ | refine G_block ?_ | refine G_skip ?_ | refine G_cT ?_ | refine G_cF ?_ | refine G_ret ?_ | refine U_seq_ret ?_ | refine U_block_ret ?_ | refine U_nil ?_ | refine S_nil ?_ | refine S_auto ?_
          refine G_exit ?_
          repeat first | refine U_seq_exit ?_ | refine U_nil ?_ | refine LQ_exit ?_ | refine U_block_hit ?_
          have hp6 := (hk6.2 h.next (by omega) (by simp)).trans hp5
          have hr6 := (hk6.2 (h.next + 1) (by omega) (by simp)).trans hr5
          repeat first | refine G_seq ?_ | refine G_reg ?_ | refine N_seq ?_ | refine N_block ?_ | refine G_block ?_ | refine G_skip ?_ | refine G_cT ?_ | refine G_cF ?_ | refine G_ret ?_ | refine U_seq_ret ?_ | refine U_block_ret ?_ | refine U_nil ?_ | refine S_nil ?_ | refine S_auto ?_
          refine S_step wants0 (o_indexAddr (by simp only [aev_tmp, aev_const, aev_func, aev_global, at_put, at_none, n_put, reduceIte, Nat.reduceEqDiff, Nat.reduceLT, zq, *]; first | done | rfl) (by simp only [aev_tmp, aev_const, aev_func, aev_global, at_put, at_none, n_put, reduceIte, Nat.reduceEqDiff, Nat.reduceLT, zq, *]; first | done | rfl) i1) ?_
          repeat first | refine G_seq ?_ | refine G_reg ?_ | refine N_seq ?_ | refine N_block ?_ | refine G_block ?_ | refine G_skip ?_ | refine G_cT ?_ | refine G_cF ?_ | refine G_ret ?_ | refine U_seq_ret ?_ | refine U_block_ret ?_ | refine U_nil ?_ | refine S_nil ?_ | refine S_auto ?_
          refine S_step wants0 (o_ld (by simp only [aev_tmp, aev_const, aev_func, aev_global, at_put, at_none, n_put, reduceIte, Nat.reduceEqDiff, Nat.reduceLT, zq, *]; first | done | rfl) (by exact TL rfl) (by rfl) (rd_cells (by simp (disch := omega) only [get_set_self, get_new_self, get_set_ne, get_new_ne, get_bump, next_set, next_new, Nat.lt_irrefl, reduceIte, next_kill, next_bump, *]; first | done | rfl)) w0) ?_
          repeat first | refine G_seq ?_ | refine G_reg ?_ | refine N_seq ?_ | refine N_block ?_ | refine G_block ?_ | refine G_skip ?_ | refine G_cT ?_ | refine G_cF ?_ | refine G_ret ?_ | refine U_seq_ret ?_ | refine U_block_ret ?_ | refine U_nil ?_ | refine S_nil ?_ | refine S_auto ?_
          refine N_nil ?_
          refine LQ_n k (by omega) ⟨c - g, xc, true, fs.set i (xc, xw - g), out ++ [(xc, g)], nv, v3, On, O3, by simp only [at_put, at_none, n_put, reduceIte, Nat.reduceEqDiff, Nat.reduceLT, zq, *]; first | done | rfl, by simp only [at_put, at_none, n_put, reduceIte, Nat.reduceEqDiff, Nat.reduceLT, zq, *]; first | done | rfl, by simp only [at_put, at_none, n_put, reduceIte, Nat.reduceEqDiff, Nat.reduceLT, zq, *]; first | done | rfl, by simp only [at_put, at_none, n_put, reduceIte, Nat.reduceEqDiff, Nat.reduceLT, zq, *]; first | done | rfl, by simp only [at_put, at_none, n_put, reduceIte, Nat.reduceEqDiff, Nat.reduceLT, zq, *]; first | done | rfl, by simp (disch := omega) only [get_set_self, get_new_self, get_set_ne, get_new_ne, get_bump, next_set, next_new, Nat.lt_irrefl, reduceIte, next_kill, next_bump, *]; first | done | rfl, by simp (disch := omega) only [get_set_self, get_new_self, get_set_ne, get_new_ne, get_bump, next_set, next_new, Nat.lt_irrefl, reduceIte, next_kill, next_bump, *]; first | done | rfl, hn6.keep fun w hw => ?_, q2.keep fun w hw => ?_, fun w hw => ?_, fun w hw => ?_, ⟨?_, fun w hw hn => ?_⟩, hRs.symm, by omega, by omega, by rw [List.length_append, List.length_singleton]; omega, fun x hx => ?_, by rw [hsl]; exact hfl, ?_⟩
          · have := hOn w hw
            rw [get_set_ne (by omega), get_set_ne (by omega), get_set_ne (by omega)]
          · have := hO3 w hw
            rw [get_set_ne (by omega), get_set_ne (by omega), get_set_ne (by omega), hk6.2 w this.2.1 (by simp)]
          · have := hOn w hw
            simp only [next_set]
            exact ⟨by omega, this.2, fun hm => by have := hO3 w hm; omega⟩
          · have := hO3 w hw
            simp only [next_set]
            exact ⟨this.1, by omega⟩
          · simp only [next_set]; omega
          · rw [get_set_ne (by omega), get_set_ne (by omega), get_set_ne (by omega), hk6.2 w (by omega) (by simp), hkk5.2 w hw hn]
          · rcases List.mem_or_eq_of_mem_set hx with h8 | h8
            · exact hw x h8
            · rw [h8]; show xw - g ≤ _; omega
          · simp only [next_set]; omega
end
end Go.Proofs.Yteffhomollmpdaa.AM.SX

/- RobinPlays: the two rounds are the same (plain). -/
namespace Go.Proofs.Yteffhomollmpdaa.AM.SX
open Go Go.Proofs.Yteffhomollmpdaa.X
set_option linter.unusedVariables false
set_option linter.unusedSimpArgs false
/-! ### the first of a connection -/
def hd (c : Int) (l : List Fl) : Option Fl := l.find? fun x => decide (x.1 = c)
theorem hd_app (c : Int) (l m : List Fl) : hd c (l ++ m) = (hd c l).or (hd c m) := List.find?_append ..
theorem hd_one (c : Int) (y : Fl) : hd c [y] = if y.1 = c then some y else none := by
  unfold hd; by_cases h : y.1 = c <;> simp [h]
theorem hd_none {c : Int} {l : List Fl} : hd c l = none ↔ ∀ x ∈ l, x.1 ≠ c := by
  unfold hd; simp [List.find?_eq_none]
theorem hd_conn {c : Int} {l : List Fl} {x : Fl} (h : hd c l = some x) : x.1 = c ∧ x ∈ l := ⟨by have := List.find?_some h; simpa using this, List.mem_of_find?_eq_some h⟩
theorem hd_snoc {x y : Fl} {l : List Fl} : hd x.1 (l ++ [y]) = some x ↔ hd x.1 l = some x ∨ (hd y.1 l = none ∧ x = y) := by
  rw [hd_app, hd_one]
  cases h : hd x.1 l with
  | some z =>
    simp only [Option.or]
    constructor
    · intro e; exact .inl e
    · rintro (e | ⟨e1, e2⟩)
      · exact e
      · rw [← e2, h] at e1; cases e1
  | none =>
    simp only [Option.or]
    constructor
    · intro e
      split at e
      · rename_i hy
        cases e
        exact .inr ⟨h, rfl⟩
      · cases e
    · rintro (e | ⟨e1, rfl⟩)
      · cases e
      · rw [if_pos rfl]
theorem firstB_hd {l : List Fl} {c : Int} {k : Nat} : firstB l c k = true ↔ hd c (l.take k) = none := by
  unfold firstB
  rw [hd_none]
  simp
theorem cntF_iff {l : List Fl} {x : Fl} : ∀ k, k ≤ l.length → (x ∈ cntF l k ↔ 0 < x.2 ∧ hd x.1 (l.take k) = some x)
  | 0, _ => by simp [cntF, hd]
  | k + 1, hk => by
    have ih := cntF_iff (l := l) (x := x) k (by omega)
    rw [List.take_succ_eq_append_getElem (by omega), hd_snoc]
    unfold cntF
    rw [getD_at (by omega)]
    split
    · rename_i h
      rw [List.mem_append, List.mem_singleton, ih]
      have h1 := firstB_hd.1 h.1
      constructor
      · rintro (⟨a, b⟩ | rfl)
        · exact ⟨a, .inl b⟩
        · exact ⟨h.2, .inr ⟨h1, rfl⟩⟩
      · rintro ⟨a, b | ⟨b, rfl⟩⟩
        · exact .inl ⟨a, b⟩
        · exact .inr rfl
    · rename_i h
      rw [ih]
      constructor
      · rintro ⟨a, b⟩; exact ⟨a, .inl b⟩
      · rintro ⟨a, b | ⟨b, rfl⟩⟩
        · exact ⟨a, b⟩
        · exact absurd ⟨firstB_hd.2 b, a⟩ h
theorem di_snoc {l : List Fl} {y : Fl} (h : Di l) (hy : ∀ x ∈ l, x.1 ≠ y.1) : Di (l ++ [y]) := by
  unfold Di
  rw [List.map_append]
  refine List.nodup_append.2 ⟨h, by simp, fun a ha b hb => ?_⟩
  obtain ⟨x, hx, rfl⟩ := List.mem_map.1 ha
  have : b = y.1 := by simpa using hb
  rw [this]; exact hy x hx
theorem cntF_di {l : List Fl} : ∀ k, k ≤ l.length → Di (cntF l k)
  | 0, _ => List.nodup_nil
  | k + 1, hk => by
    have ih := cntF_di (l := l) k (by omega)
    unfold cntF
    split
    · rename_i h
      refine di_snoc ih fun x hx e => ?_
      have h1 := firstB_hd.1 h.1
      have h2 := ((cntF_iff k (by omega)).1 hx).2
      rw [e, h1] at h2; cases h2
    · exact ih
/-! ### sorting keeps the order of one connection's -/
def fc (c : Int) (l : List Fl) : List Fl := l.filter fun x => decide (x.1 = c)
theorem hd_fc (c : Int) (l : List Fl) : hd c l = (fc c l).head? := by
  unfold hd fc; rw [List.head?_filter]
theorem insAt_strict {S : List Fl} (x : Fl) : ∀ j, j ≤ S.length → (∀ (q : Nat) (hq : q < S.length), j ≤ q → x.1 < S[q].1) → ∀ (q : Nat) (hq : q < S.length), insAt S x j ≤ q → x.1 < S[q].1
  | 0, _, h => h
  | j + 1, hj, h => by
    have hjl : j < S.length := hj
    unfold insAt
    rw [getD_at hjl]
    by_cases hx : x.1 < S[j].1
    · rw [if_pos hx]
      exact insAt_strict x j (by omega) (fun q hq hjq => by
        rcases Nat.lt_or_ge j q with h4 | h4
        · exact h q hq h4
        · obtain rfl : q = j := by omega
          exact hx)
    · rw [if_neg hx]; exact h
theorem fc_insF (c : Int) (S : List Fl) (x : Fl) : fc c (insF S x) = fc c S ++ (if x.1 = c then [x] else []) := by
  have hs := insAt_strict (S := S) x S.length (Nat.le_refl _) (fun q hq h => absurd hq (by omega))
  unfold insF
  generalize insAt S x S.length = p at *
  have e : fc c S = fc c (S.take p) ++ fc c (S.drop p) := by
    unfold fc; rw [← List.filter_append, List.take_append_drop]
  rw [e]
  have e2 : fc c (S.take p ++ x :: S.drop p) = fc c (S.take p) ++ ((if x.1 = c then [x] else []) ++ fc c (S.drop p)) := by
    unfold fc
    rw [List.filter_append, List.filter_cons]
    by_cases h : x.1 = c <;> simp [h]
  rw [e2]
  by_cases h : x.1 = c
  · have : fc c (S.drop p) = [] := by
      unfold fc
      rw [List.filter_eq_nil_iff]
      intro y hy
      obtain ⟨i, hi, rfl⟩ := List.mem_iff_getElem.1 hy
      rw [List.length_drop] at hi
      rw [List.getElem_drop]
      have := hs (p + i) (by omega) (by omega)
      simp; omega
    rw [this]; simp
  · simp [h]
theorem fc_foldl (c : Int) : ∀ (l S : List Fl), fc c (l.foldl insF S) = fc c S ++ fc c l
  | [], S => by simp [fc]
  | x :: l, S => by
    rw [List.foldl_cons, fc_foldl c l, fc_insF, List.append_assoc]
    congr 1
    unfold fc
    rw [List.filter_cons]
    by_cases h : x.1 = c <;> simp [h]
theorem hd_sort (c : Int) (l : List Fl) : hd c (sortF l) = hd c l := by
  rw [hd_fc, hd_fc]
  unfold sortF
  rw [fc_foldl]; rfl
theorem comp_cond {S : List Fl} (hS : Up S) {k : Nat} (hk : k < S.length) : (0 < k ∧ (S.getD k (0, 0)).1 = (S.getD (k - 1) (0, 0)).1) ↔ hd S[k].1 (S.take k) ≠ none := by
  rw [getD_at hk, Ne, hd_none]
  constructor
  · rintro ⟨h0, e⟩ h
    rw [getD_at (by omega)] at e
    exact h _ (List.mem_iff_getElem.2 ⟨k - 1, by rw [List.length_take]; omega, by rw [List.getElem_take]⟩) e.symm
  · intro h
    have h0 : 0 < k := by
      rcases Nat.eq_zero_or_pos k with rfl | h1
      · exact absurd (fun x hx => by simp at hx) h
      · exact h1
    refine ⟨h0, ?_⟩
    rw [getD_at (by omega)]
    have hpw := List.pairwise_iff_getElem.1 hS
    have h9 := hpw (k - 1) k (by omega) hk (by omega)
    refine Classical.byContradiction fun hne => h fun x hx e => ?_
    obtain ⟨q, hq, rfl⟩ := List.mem_iff_getElem.1 hx
    rw [List.length_take] at hq
    rw [List.getElem_take] at e
    rcases Nat.lt_or_ge q (k - 1) with h4 | h4
    · have := hpw q (k - 1) (by omega) (by omega) h4
      omega
    · obtain rfl : q = k - 1 := by omega
      exact hne e.symm
theorem compN_iff {S : List Fl} (hS : Up S) {x : Fl} : ∀ k, k ≤ S.length → (x ∈ compN S k ↔ hd x.1 (S.take k) = some x)
  | 0, _ => by simp [compN, hd]
  | k + 1, hk => by
    have ih := compN_iff hS (x := x) k (by omega)
    have hc := comp_cond hS (k := k) (by omega)
    rw [List.take_succ_eq_append_getElem (by omega), hd_snoc]
    show x ∈ compN S k ++ (if 0 < k ∧ (S.getD k (0, 0)).1 = (S.getD (k - 1) (0, 0)).1 then [] else [S.getD k (0, 0)]) ↔ _
    rw [List.mem_append, ih]
    by_cases h : hd S[k].1 (S.take k) = none
    · rw [if_neg (fun hh => hc.1 hh h), getD_at (by omega), List.mem_singleton]
      constructor
      · rintro (a | a)
        · exact .inl a
        · exact .inr ⟨h, a⟩
      · rintro (a | ⟨_, a⟩)
        · exact .inl a
        · exact .inr a
    · rw [if_pos (hc.2 h)]
      constructor
      · rintro (a | a)
        · exact .inl a
        · cases a
      · rintro (a | ⟨a, _⟩)
        · exact .inl a
        · exact absurd a h
theorem compN_sub {S : List Fl} : ∀ k, k ≤ S.length → (compN S k).Sublist (S.take k)
  | 0, _ => by simp [compN]
  | k + 1, hk => by
    have ih := compN_sub (S := S) k (by omega)
    rw [List.take_succ_eq_append_getElem (by omega)]
    show (compN S k ++ (if 0 < k ∧ (S.getD k (0, 0)).1 = (S.getD (k - 1) (0, 0)).1 then [] else [S.getD k (0, 0)])).Sublist _
    refine ih.append ?_
    split
    · exact List.nil_sublist _
    · rw [getD_at (by omega)]; exact List.Sublist.refl _
theorem compN_di {S : List Fl} (hS : Up S) : ∀ k, k ≤ S.length → Di (compN S k)
  | 0, _ => List.nodup_nil
  | k + 1, hk => by
    have ih := compN_di hS k (by omega)
    have hc := comp_cond hS (k := k) (by omega)
    show Di (compN S k ++ (if 0 < k ∧ (S.getD k (0, 0)).1 = (S.getD (k - 1) (0, 0)).1 then [] else [S.getD k (0, 0)]))
    by_cases h : hd S[k].1 (S.take k) = none
    · rw [if_neg (fun hh => hc.1 hh h), getD_at (by omega)]
      exact di_snoc ih fun x hx e => hd_none.1 h x ((compN_sub k (by omega)).subset hx) e
    · rw [if_pos (hc.2 h), List.append_nil]; exact ih
/-- what counts is the same for both -/
theorem flows_cnt (l : List Fl) : Up (flowsF l) ∧ Di (flowsF l) ∧ ∀ x, x ∈ flowsF l ↔ x ∈ cntF l l.length := by
  have hS := sortF_up l
  have hsub := compN_sub (S := sortF l) _ (Nat.le_refl _)
  rw [List.take_length] at hsub
  refine ⟨hS.sublist ((delF_sub _).trans hsub), (compN_di hS _ (Nat.le_refl _)).sublist ((delF_sub _).map _), fun x => ?_⟩
  have h1 := compN_iff hS (x := x) _ (Nat.le_refl _)
  rw [List.take_length, hd_sort] at h1
  have h2 := cntF_iff (l := l) (x := x) _ (Nat.le_refl _)
  rw [List.take_length] at h2
  rw [h2, ← h1]
  unfold flowsF delF compF
  rw [List.mem_filter]
  constructor
  · rintro ⟨a, b⟩; exact ⟨by simpa using b, a⟩
  · rintro ⟨a, b⟩; exact ⟨b, by simpa using a⟩
/-! ### the next one -/
def IsNext (any : Bool) (la : Int) (S : Fl → Prop) (x : Fl) : Prop := S x ∧ ((any = true ∧ la < x.1 ∧ ∀ y, S y → la < y.1 → x.1 ≤ y.1) ∨ ((∀ y, S y → ¬ (any = true ∧ la < y.1)) ∧ ∀ y, S y → x.1 ≤ y.1))
theorem IsNext.same {any : Bool} {la : Int} {S : Fl → Prop} {x y : Fl} (hx : IsNext any la S x) (hy : IsNext any la S y) : x.1 = y.1 := by
  obtain ⟨sx, hx⟩ := hx
  obtain ⟨sy, hy⟩ := hy
  rcases hx with ⟨a, b, c⟩ | ⟨a, b⟩ <;> rcases hy with ⟨d, e, f⟩ | ⟨d, e⟩
  · have := c y sy e; have := f x sx b; omega
  · exact absurd ⟨a, b⟩ (d x sx)
  · exact absurd ⟨d, e⟩ (a y sy)
  · have := b y sy; have := e x sx; omega
theorem pickI_next {la : Int} {any : Bool} {lf : List Fl} (hu : Up lf) (h : 0 < lf.length) : IsNext any la (· ∈ lf) (lf[pickI la any lf]'(pickI_lt h)) := by
  refine ⟨List.getElem_mem _, ?_⟩
  have hpw := List.pairwise_iff_getElem.1 hu
  cases hf : lf.findIdx? fun x => any && decide (la < x.1) with
  | none =>
    have hp : pickI la any lf = 0 := by unfold pickI; rw [hf]; rfl
    simp only [hp]
    refine .inr ⟨fun y hy hh => ?_, fun y hy => ?_⟩
    · have := List.findIdx?_eq_none_iff.1 hf y hy
      simp [hh.1, hh.2] at this
    · obtain ⟨q, hq, rfl⟩ := List.mem_iff_getElem.1 hy
      rcases Nat.eq_zero_or_pos q with rfl | h0
      · exact Int.le_refl _
      · exact hpw 0 q h hq h0
  | some i =>
    have hp : pickI la any lf = i := by unfold pickI; rw [hf]; rfl
    simp only [hp]
    obtain ⟨hi, h1, h2⟩ := List.findIdx?_eq_some_iff_getElem.1 hf
    simp only [Bool.and_eq_true, decide_eq_true_eq] at h1
    refine .inl ⟨h1.1, h1.2, fun y hy hly => ?_⟩
    obtain ⟨q, hq, rfl⟩ := List.mem_iff_getElem.1 hy
    rcases Nat.lt_trichotomy q i with h4 | rfl | h4
    · have := h2 q h4
      simp [h1.1, hly] at this
    · exact Int.le_refl _
    · exact hpw i q hi hq h4
/-- the best of those that P holds for, in the first k -/
def BestOf (l : List Fl) (P : Fl → Prop) (k : Nat) : Option Nat → Prop
  | none => ∀ q (hq : q < l.length), q < k → ¬ P l[q]
  | some j => j < k ∧ ∃ hj : j < l.length, P l[j] ∧ ∀ q (hq : q < l.length), q < k → P l[q] → l[j].1 ≤ l[q].1
theorem BestOf.step {l : List Fl} {P : Fl → Prop} {k : Nat} {b : Option Nat} (hk : k < l.length) (h : BestOf l P k b) : (P l[k] ∧ lessO l l[k].1 b = true → BestOf l P (k + 1) (some k)) ∧ (¬ (P l[k] ∧ lessO l l[k].1 b = true) → BestOf l P (k + 1) b) := by
  refine ⟨fun ⟨hp, hl⟩ => ⟨by omega, hk, hp, fun q hq hqk hpq => ?_⟩, fun hn => ?_⟩
  · rcases Nat.lt_or_ge q k with h4 | h4
    · cases b with
      | none => exact absurd hpq (h q hq h4)
      | some j =>
        obtain ⟨_, hj, _, h5⟩ := h
        have := h5 q hq h4 hpq
        change decide (l[k].1 < (l.getD j (0, 0)).1) = true at hl
        rw [getD_at hj] at hl
        have : l[k].1 < l[j].1 := by simpa using hl
        omega
    · obtain rfl : q = k := by omega
      exact Int.le_refl _
  · cases b with
    | none =>
      intro q hq hqk hpq
      rcases Nat.lt_or_ge q k with h4 | h4
      · exact h q hq h4 hpq
      · obtain rfl : q = k := by omega
        exact hn ⟨hpq, rfl⟩
    | some j =>
      obtain ⟨h4, hj, h5, h6⟩ := h
      refine ⟨by omega, hj, h5, fun q hq hqk hpq => ?_⟩
      rcases Nat.lt_or_ge q k with h7 | h7
      · exact h6 q hq h7 hpq
      · obtain rfl : q = k := by omega
        refine Classical.byContradiction fun hlt => hn ⟨hpq, ?_⟩
        change decide (l[q].1 < (l.getD j (0, 0)).1) = true
        rw [getD_at hj]
        simp; omega
theorem pkS_best {any : Bool} {la : Int} {l : List Fl} : ∀ k, k ≤ l.length → BestOf l (fun x => 0 < x.2) k (pkS any la l k).1 ∧ BestOf l (fun x => 0 < x.2 ∧ any = true ∧ la < x.1) k (pkS any la l k).2
  | 0, _ => ⟨fun q hq h => absurd h (Nat.not_lt_zero _), fun q hq h => absurd h (Nat.not_lt_zero _)⟩
  | k + 1, hk => by
    obtain ⟨h1, h2⟩ := pkS_best (any := any) (la := la) (l := l) k (by omega)
    have s1 := h1.step (show k < l.length by omega)
    have s2 := h2.step (show k < l.length by omega)
    unfold pkS
    rw [getD_at (by omega)]
    by_cases hw : l[k].2 ≤ 0
    · rw [if_pos hw]
      exact ⟨s1.2 (fun h => by have := h.1; omega), s2.2 (fun h => by have := h.1.1; omega)⟩
    · rw [if_neg hw]
      refine ⟨?_, ?_⟩
      · dsimp only
        split
        · rename_i h; exact s1.1 ⟨by omega, h⟩
        · rename_i h; exact s1.2 (fun hh => h hh.2)
      · dsimp only
        split
        · rename_i h; exact s2.1 ⟨⟨by omega, h.1, h.2.1⟩, h.2.2⟩
        · rename_i h; exact s2.2 (fun hh => h ⟨hh.1.2.1, hh.1.2.2, hh.2⟩)
theorem pickD_none {any : Bool} {la : Int} {l : List Fl} (h : pickD any la l = none) : ∀ x ∈ l, ¬ 0 < x.2 := by
  obtain ⟨h1, h2⟩ := pkS_best (any := any) (la := la) (l := l) _ (Nat.le_refl _)
  unfold pickD at h
  split at h
  · cases h
  · rw [h] at h1
    intro x hx
    obtain ⟨q, hq, rfl⟩ := List.mem_iff_getElem.1 hx
    exact h1 q hq hq
theorem pickD_next {any : Bool} {la : Int} {l : List Fl} {i : Nat} (h : pickD any la l = some i) : ∃ hi : i < l.length, IsNext any la (fun x => x ∈ l ∧ 0 < x.2) l[i] := by
  obtain ⟨h1, h2⟩ := pkS_best (any := any) (la := la) (l := l) _ (Nat.le_refl _)
  unfold pickD at h
  split at h
  · rename_i k e
    cases h
    rw [e] at h2
    obtain ⟨_, hj, h3, h4⟩ := h2
    refine ⟨hj, ⟨List.getElem_mem _, h3.1⟩, .inl ⟨h3.2.1, h3.2.2, fun y hy hly => ?_⟩⟩
    obtain ⟨q, hq, rfl⟩ := List.mem_iff_getElem.1 hy.1
    exact h4 q hq hq ⟨hy.2, h3.2.1, hly⟩
  · rename_i e
    rw [h] at h1
    rw [e] at h2
    obtain ⟨_, hj, h3, h4⟩ := h1
    refine ⟨hj, ⟨List.getElem_mem _, h3⟩, .inr ⟨fun y hy hh => ?_, fun y hy => ?_⟩⟩
    · obtain ⟨q, hq, rfl⟩ := List.mem_iff_getElem.1 hy.1
      exact h2 q hq hq ⟨hy.2, hh.1, hh.2⟩
    · obtain ⟨q, hq, rfl⟩ := List.mem_iff_getElem.1 hy.1
      exact h4 q hq hq hy.2
/-! ### both rounds step by step -/
theorem Di.inj {l : List Fl} (h : Di l) {i j : Nat} (hi : i < l.length) (hj : j < l.length) (e : l[i].1 = l[j].1) : i = j := by
  rcases Nat.lt_trichotomy i j with h4 | h4 | h4
  · have := List.pairwise_iff_getElem.1 h i j (by simpa using hi) (by simpa using hj) h4
    simp only [List.getElem_map] at this
    exact absurd e this
  · exact h4
  · have := List.pairwise_iff_getElem.1 h j i (by simpa using hj) (by simpa using hi) h4
    simp only [List.getElem_map] at this
    exact absurd e.symm this
theorem Di.eq {l : List Fl} (h : Di l) {x y : Fl} (hx : x ∈ l) (hy : y ∈ l) (e : x.1 = y.1) : x = y := by
  obtain ⟨i, hi, rfl⟩ := List.mem_iff_getElem.1 hx
  obtain ⟨j, hj, rfl⟩ := List.mem_iff_getElem.1 hy
  obtain rfl := h.inj hi hj e
  rfl
theorem map_set {l : List Fl} {i : Nat} {y : Fl} (hi : i < l.length) (e : y.1 = l[i].1) : (l.set i y).map (·.1) = l.map (·.1) := by
  refine List.ext_getElem (by simp) fun q h1 h2 => ?_
  simp only [List.getElem_map, List.getElem_set]
  split
  · rename_i h; subst h; exact e
  · rfl
theorem Di.set {l : List Fl} (h : Di l) {i : Nat} {y : Fl} (hi : i < l.length) (e : y.1 = l[i].1) : Di (l.set i y) := by
  unfold Di; rw [map_set hi e]; exact h
theorem Di.mem_set {l : List Fl} (h : Di l) {i : Nat} {x y : Fl} (hi : i < l.length) (e : y.1 = l[i].1) : x ∈ l.set i y ↔ x = y ∨ (x ∈ l ∧ x.1 ≠ y.1) := by
  constructor
  · intro hx
    obtain ⟨q, hq, rfl⟩ := List.mem_iff_getElem.1 hx
    rw [List.length_set] at hq
    rw [List.getElem_set]
    split
    · exact .inl rfl
    · rename_i hne
      refine .inr ⟨List.getElem_mem _, fun e2 => hne (h.inj hi hq (e.symm.trans e2.symm))⟩
  · rintro (rfl | ⟨hx, hne⟩)
    · exact List.mem_iff_getElem.2 ⟨i, by simpa using hi, by simp⟩
    · obtain ⟨q, hq, rfl⟩ := List.mem_iff_getElem.1 hx
      refine List.mem_iff_getElem.2 ⟨q, by simpa using hq, ?_⟩
      rw [List.getElem_set, if_neg]
      rintro rfl
      exact hne e.symm
theorem Di.mem_erase {l : List Fl} (h : Di l) {i : Nat} {x : Fl} (hi : i < l.length) : x ∈ l.eraseIdx i ↔ x ∈ l ∧ x.1 ≠ l[i].1 := by
  rw [List.mem_eraseIdx_iff_getElem]
  constructor
  · rintro ⟨q, hq, hne, rfl⟩
    exact ⟨List.getElem_mem _, fun e => hne (h.inj hq hi e)⟩
  · rintro ⟨hx, hne⟩
    obtain ⟨q, hq, rfl⟩ := List.mem_iff_getElem.1 hx
    exact ⟨q, hq, fun e => hne (by subst e; rfl), rfl⟩
theorem rounds_same : ∀ (k : Nat) (c la : Int) (any : Bool) (fs lf out : List Fl), Di fs → Di lf → Up lf → (∀ x, x ∈ lf ↔ x ∈ fs ∧ 0 < x.2) → roundD k c la any fs out = roundL k c la any lf out
  | 0, c, la, any, fs, lf, out, d1, d2, hu, hm => rfl
  | k + 1, c, la, any, fs, lf, out, d1, d2, hu, hm => by
    unfold roundD roundL
    cases hp : pickD any la fs with
    | none =>
      have h0 : lf.length = 0 := by
        cases lf with
        | nil => rfl
        | cons x r =>
          have := (hm x).1 (.head _)
          exact absurd this.2 (pickD_none hp x this.1)
      rw [if_pos h0]
    | some i =>
      obtain ⟨hi, hn⟩ := pickD_next hp
      have hfi : fs[i] ∈ lf := (hm _).2 hn.1
      have hl0 : 0 < lf.length := List.length_pos_of_mem hfi
      have hil := pickI_lt (la := la) (any := any) hl0
      have hx2 := pickI_next (la := la) (any := any) hu hl0
      rw [if_neg (by omega)]
      dsimp only
      rw [getD_at hil, getD_at hi]
      have hS : (fun x => x ∈ lf) = (fun x => x ∈ fs ∧ 0 < x.2) := funext fun x => propext (hm x)
      have hx3 : IsNext any la (fun x => x ∈ fs ∧ 0 < x.2) lf[pickI la any lf] := by rw [← hS]; exact hx2
      have hxe : lf[pickI la any lf] = fs[i] := d2.eq (List.getElem_mem _) hfi (hx3.same hn)
      rw [hxe]
      by_cases hc : c < min fs[i].2 64
      · rw [if_pos hc, if_pos hc]
      · rw [if_neg hc, if_neg hc]
        have hw0 : 0 < fs[i].2 := hn.1.2
        have hd1 := d1.set (y := (fs[i].1, fs[i].2 - min fs[i].2 64)) hi rfl
        have hm1 : ∀ x, x ∈ fs.set i (fs[i].1, fs[i].2 - min fs[i].2 64) ↔ x = (fs[i].1, fs[i].2 - min fs[i].2 64) ∨ (x ∈ fs ∧ x.1 ≠ fs[i].1) := fun x => d1.mem_set hi rfl
        refine rounds_same k _ _ _ _ _ _ hd1 ?_ ?_ ?_
        · split
          · exact d2.sublist ((List.eraseIdx_sublist _ _).map _)
          · exact d2.set hil (by rw [hxe])
        · split
          · exact hu.sublist (List.eraseIdx_sublist _ _)
          · refine List.pairwise_iff_getElem.2 fun a b ha hb hab => ?_
            rw [List.length_set] at ha hb
            have := List.pairwise_iff_getElem.1 hu a b ha hb hab
            rw [List.getElem_set, List.getElem_set]
            split <;> split
            · omega
            · rename_i h1 h2; subst h1; rw [hxe] at this; exact this
            · rename_i h1 h2; subst h2; rw [hxe] at this; exact this
            · exact this
        · intro x
          rw [hm1]
          split
          · rename_i h0
            rw [d2.mem_erase hil, hm, hxe]
            constructor
            · rintro ⟨⟨a, b⟩, e⟩; exact ⟨.inr ⟨a, e⟩, b⟩
            · rintro ⟨rfl | ⟨a, e⟩, b⟩
              · rw [h0] at b; exact absurd b (Int.lt_irrefl 0)
              · exact ⟨⟨a, b⟩, e⟩
          · rename_i h0
            rw [d2.mem_set hil (by rw [hxe]), hm]
            have hpos : 0 < fs[i].2 - min fs[i].2 64 := by omega
            constructor
            · rintro (rfl | ⟨⟨a, b⟩, e⟩)
              · exact ⟨.inl rfl, hpos⟩
              · exact ⟨.inr ⟨a, e⟩, b⟩
            · rintro ⟨rfl | ⟨a, e⟩, b⟩
              · exact .inl rfl
              · exact .inr ⟨⟨a, b⟩, e⟩
/-- a round of both -/
theorem round_both (K : Nat) (c q la : Int) (any : Bool) (l : List Fl) : roundD K (if (cntF l l.length).length = 0 then c else c + q) la any (cntF l l.length) [] = roundL K (if (flowsF l).length = 0 then c else c + q) la any (flowsF l) [] := by
  obtain ⟨hu, hd, hm⟩ := flows_cnt l
  have hz : (cntF l l.length).length = 0 ↔ (flowsF l).length = 0 := by
    constructor
    · intro h
      cases e : flowsF l with
      | nil => rfl
      | cons x r =>
        have := (hm x).1 (by rw [e]; exact .head _)
        rw [List.eq_nil_of_length_eq_zero h] at this; cases this
    · intro h
      cases e : cntF l l.length with
      | nil => rfl
      | cons x r =>
        have := (hm x).2 (by rw [e]; exact .head _)
        rw [List.eq_nil_of_length_eq_zero h] at this; cases this
  have : (if (cntF l l.length).length = 0 then c else c + q) = (if (flowsF l).length = 0 then c else c + q) := by
    by_cases h : (cntF l l.length).length = 0
    · rw [if_pos h, if_pos (hz.1 h)]
    · rw [if_neg h, if_neg (fun h2 => h (hz.2 h2))]
  rw [this]
  refine rounds_same K _ la any _ _ [] (cntF_di _ (Nat.le_refl _)) hd hu fun x => ?_
  rw [hm]
  constructor
  · intro h; exact ⟨h, ((cntF_iff _ (Nat.le_refl _)).1 h).1⟩
  · intro h; exact h.1
end Go.Proofs.Yteffhomollmpdaa.AM.SX

/- RobinPlays: rows of rows of flows as a law's argument. -/
namespace Go.Proofs.Yteffhomollmpdaa.AM.SX
open Go Go.RowKit Go.Proofs Go.Proofs.Yteffhomollmpdaa.X Go.Proofs.YteffhomollmpdaaW.PrintWords
set_option linter.unusedVariables false
set_option linter.unusedSimpArgs false
set_option maxRecDepth 100000
@[reducible] def tokV (val : Nat → Value) (hv : ∀ i, ∃ A c, val i = .slice A 0 c) (low : Nat → Option Obj) : Tok where
  val := val
  one := fun i => by obtain ⟨A, c, h⟩ := hv i; rw [h]; rfl
  nb := fun i b => by obtain ⟨A, c, h⟩ := hv i; rw [h]; intro e; cases e
  low := low
theorem tbV_ok {N : Nat} {val : Nat → Value} (hv : ∀ i, ∃ A c, val i = .slice A 0 c) {low : Nat → Option Obj} : @TbOk (tokV val hv low) Try.prog 0 N tbL := by
  letI := tokV val hv low
  intro op vs v h o π g nx w ρ he hg hr hvs
  unfold tbL at h
  split at h
  · rename_i args ts i
    cases hts : lenTy ts with
    | false => rw [hts] at h; cases h
    | true =>
      rw [hts] at h
      have h : some (Value.int .i64 0) = some v := h
      obtain rfl := Option.some.inj h
      unfold lenTy at hts
      have ho : o.op = .call ⟨.builtin .len, args, ts⟩ := he
      have hts' : ts[0]? = some 29 ∨ ts[0]? = some 45 ∨ ts[0]? = some 22 := by
        split at hts
        · rename_i t e
          simp only [Bool.or_eq_true, beqd, decide_eq_true_eq] at hts
          rcases hts with (rfl | rfl) | rfl
          · exact .inl (by rw [← Array.getElem?_toList, e]; rfl)
          · exact .inr (.inl (by rw [← Array.getElem?_toList, e]; rfl))
          · exact .inr (.inr (by rw [← Array.getElem?_toList, e]; rfl))
        · cases hts
      have hops : (Op.call ⟨.builtin .len, args, ts⟩).operands.toList.map ρ = args.toList.map ρ := by simp [Op.operands, Call.operands]
      rw [hops] at hvs
      obtain ⟨A, c, hic⟩ := hv i
      have hx : args.map ρ = #[.slice A 0 c] := by
        have h1 : args.toList.map ρ = [.slice A 0 c] := by
          generalize args.toList.map ρ = z at hvs
          cases hvs with
          | cons h1 h2 =>
            cases h2
            have h3 := tok_inv h1
            rw [h3, ← hic]; rfl
        apply Array.toList_inj.1
        simpa using h1
      refine ⟨.int .i64 0, ?_, .int _ _⟩
      have hexec : (execOp ρ o).run Try.prog w = (builtin .len ts o.type (args.map fun | .const _ => true | _ => false) (args.map ρ)).run Try.prog w := by
        unfold execOp
        rw [ho]
        rfl
      rw [hexec, hx]
      have hu : Try.prog.underlying 29 = some (.slice 47) := by kernel_rfl
      have hu2 := run_under (w := w) hu
      have hv : Try.prog.underlying 45 = some (.slice 3) := by kernel_rfl
      have hv2 := run_under (w := w) hv
      have hw : Try.prog.underlying 22 = some (.slice 29) := by kernel_rfl
      have hw2 := run_under (w := w) hw
      rcases hts' with hts' | hts' | hts'
      · simp [builtin, Builtin.len_, hts', hu2, goInt, Sem.run_pure, Sem.run_bind, Result.andThen]
      · simp [builtin, Builtin.len_, hts', hv2, goInt, Sem.run_pure, Sem.run_bind, Result.andThen]
      · simp [builtin, Builtin.len_, hts', hw2, goInt, Sem.run_pure, Sem.run_bind, Result.andThen]
  · cases h
/-- the rows as the machine has them -/
def RowsAt (h : AHeap) (ls : List (List Fl)) (sv : Value) (vs : List Value) (lim : Nat) : Prop :=
  vs.length = ls.length ∧ ((ls = [] ∧ ∃ k, sv = .chan (some k)) ∨ ∃ b, b < lim ∧ sv = .slice (some ⟨b, 0, none⟩) ls.length (CAPX + 1) ∧ h.get b = some (.ro vs)) ∧ ∀ i (h1 : i < vs.length) (h2 : i < ls.length), ls[i].length ≤ 9223372036854775807 ∧ ∃ ids, FlowsAt2 h ls[i] vs[i] ids ∧ ∀ w ∈ ids, w < lim
theorem RowsAt.keep {h h' : AHeap} {ls : List (List Fl)} {sv : Value} {vs : List Value} {lim : Nat} (hr : RowsAt h ls sv vs lim) (hk : ∀ w, w < lim → h'.get w = h.get w) : RowsAt h' ls sv vs lim := by
  obtain ⟨h1, h2, h3⟩ := hr
  refine ⟨h1, ?_, fun i a b => ?_⟩
  · rcases h2 with h2 | ⟨b, h4, h5, h6⟩
    · exact .inl h2
    · exact .inr ⟨b, h4, h5, (hk b h4).trans h6⟩
  · obtain ⟨h4, ids, h5, h6⟩ := h3 i a b
    exact ⟨h4, ids, h5.keep fun w hw => hk w (h6 w hw), h6⟩
def kRows : Kd (List Fl) := Kd.slice 47 kP
/-- a law over a number and rows of rows of flows -/
theorem law_rows {n f : Nat} {q : Int} {W : World} {A : Option Addr} {c : Nat} {ls : List (List Fl)} (hr : Kd.C kRows W A ls.length ls) (hlc : ls.length ≤ c)
    (run : ∀ (h0 : AHeap) (sv : Value) (vs : List Value), RowsAt h0 ls sv vs h0.next → C EE n f [.int .i64 q, sv] h0 fun v _ => v = .bool true) :
    Calls Try.prog f #[.int .i64 q, .slice A ls.length c] W fun e W' => e = .returned (.bool true) ∧ Below W.heap.size W W' := by
  by_cases hl : ls.length = 0
  · have hnil := List.eq_nil_of_length_eq_zero hl
    subst hnil
    have hval : ∀ i : Nat, ∃ A' c', (fun _ : Nat => Value.slice A 0 c) i = .slice A' 0 c' := fun _ => ⟨A, c, rfl⟩
    letI := tokV (fun _ => .slice A 0 c) hval (fun b => W.heap[b]?)
    obtain ⟨v, h', h1, rfl⟩ := C_out (run ⟨.nil, 0⟩ (.chan (some 0)) [] ⟨rfl, .inl ⟨rfl, 0, rfl⟩, fun i h1 h2 => absurd h1 (Nat.not_lt_zero _)⟩)
    refine law_calls_from (sound X_ok (tbV_ok hval) n) h1 piG_gr (hr_nil (fun id hid => if_neg (Nat.not_lt.2 hid)) ⟨Nat.le_refl _, fun b _ => rfl⟩) ?_ (fun b => own_nil)
    exact .cons (.int _ _) (.cons (VR.tok 0) .nil)
  · have h0 : 0 < ls.length := by omega
    obtain ⟨hlen, _, hC⟩ := hr
    obtain ⟨⟨bk, of, sp⟩, rfl, hC2⟩ := hC h0
    clear hC
    have hcell : ∀ i (hi : i < ls.length), ∃ A' c', W.cell? ((⟨bk, of, sp⟩ : Addr).add (i * 1 + 0)) = some (.slice A' ls[i].length c') ∧ ls[i].length ≤ c' ∧ Kd.C kP W A' ls[i].length ls[i] := by
      intro i hi
      obtain ⟨cs, _, ⟨A', c', rfl, h3, h4⟩, h5⟩ := hC2 i ls[i] (List.getElem?_eq_getElem hi)
      exact ⟨A', c', h5 0 _ rfl, h3, h4⟩
    obtain ⟨ds, t, fr, hb, hsp⟩ : ∃ ds t fr, W.heap[bk]? = some (.cells ds t fr) ∧ sp = none := by
      obtain ⟨A', c', h1, _⟩ := hcell 0 h0
      have h3 : W.cell? (⟨bk, of, sp⟩ : Addr) = some (.slice A' (ls[0]'h0).length c') := h1
      unfold World.cell? at h3
      split at h3
      · rename_i ds t fr hb
        refine ⟨ds, t, fr, hb, ?_⟩
        cases sp with
        | none => rfl
        | some q => simp at h3
      · cases h3
    subst hsp
    have hcell2 : ∀ i (hi : i < ls.length), ∃ A' c', ds[of + i]? = some (.slice A' ls[i].length c') ∧ ls[i].length ≤ c' ∧ Kd.C kP W A' ls[i].length ls[i] := by
      intro i hi
      obtain ⟨A', c', h1, h2, h3⟩ := hcell i hi
      refine ⟨A', c', ?_, h2, h3⟩
      have hadd : (⟨bk, of, none⟩ : Addr).add (i * 1 + 0) = ⟨bk, of + i, none⟩ := by
        unfold Addr.add
        split
        · rename_i hz; rw [show i = 0 by omega]; rfl
        · simp
      rw [hadd] at h1
      unfold World.cell? at h1
      simpa [hb] using h1
    clear hcell hC2
    have hpart : ∀ i (hi : i < ls.length), 0 < ls[i].length → ∃ L : Loc, ∃ c', L.b < W.heap.size ∧ ds[of + i]? = some (.slice (some ⟨L.b, L.d, none⟩) ls[i].length c') ∧ ls[i].length ≤ c' ∧ L.n = L.d + c' ∧ ∃ es t' fr', W.heap[L.b]? = some (.cells es t' fr') ∧ ∀ j v, (kF.fl ls[i])[j]? = some v → es[L.d + j]? = some v := by
      intro i hi hp
      obtain ⟨A', c', h1, h2, h3⟩ := hcell2 i hi
      obtain ⟨b2, o2, es, t2, fr2, rfl, hb2, hcc⟩ := flows_cells h3 hp
      refine ⟨⟨b2, o2, o2 + c'⟩, c', (Array.getElem?_eq_some_iff.1 hb2).1, h1, h2, rfl, es, t2, fr2, hb2, fun j v hj => ?_⟩
      obtain ⟨hj2, hj3⟩ := fl_at hj
      have := hcc (j / 2) hj2 (j % 2) v hj3
      rwa [show j / 2 * 2 + j % 2 = j by omega] at this
    have hbl : bk < W.heap.size := (Array.getElem?_eq_some_iff.1 hb).1
    -- the tokens, the places
    have hch1 : ∃ val : Nat → Value, (∀ i, ∃ A' c', val i = .slice A' 0 c') ∧ ∀ i (hi : i < ls.length), ls[i].length = 0 → ds[of + i]? = some (val i) := by
      refine ⟨fun i => if h : i < ls.length ∧ (ls[i]?.getD []).length = 0 then (ds[of + i]?).getD .nilFunc else .slice none 0 0, fun i => ?_, fun i hi hz => ?_⟩
      · by_cases h : i < ls.length ∧ (ls[i]?.getD []).length = 0
        · obtain ⟨A', c', h1, _⟩ := hcell2 i h.1
          have hz : ls[i].length = 0 := by have := h.2; rwa [List.getElem?_eq_getElem h.1] at this
          refine ⟨A', c', ?_⟩
          show (if _ : _ then _ else _) = _
          rw [dif_pos h, h1, hz]; rfl
        · exact ⟨none, 0, dif_neg h⟩
      · obtain ⟨A', c', h1, _⟩ := hcell2 i hi
        show ds[of + i]? = some (if h : i < ls.length ∧ (ls[i]?.getD []).length = 0 then (ds[of + i]?).getD .nilFunc else .slice none 0 0)
        rw [dif_pos ⟨hi, by rw [List.getElem?_eq_getElem hi]; exact hz⟩, h1]; rfl
    obtain ⟨val, hval, hv1⟩ := hch1
    have hch2 : ∃ loc : Nat → Loc, (∀ i (hi : i < ls.length), (loc i).b < W.heap.size ∧ (ls[i].length = 0 → loc i = ⟨bk, of, of⟩) ∧ (0 < ls[i].length → ∃ c', ds[of + i]? = some (.slice (some ⟨(loc i).b, (loc i).d, none⟩) ls[i].length c') ∧ ls[i].length ≤ c' ∧ (loc i).n = (loc i).d + c' ∧ ∃ es t' fr', W.heap[(loc i).b]? = some (.cells es t' fr') ∧ ∀ j v, (kF.fl ls[i])[j]? = some v → es[(loc i).d + j]? = some v)) := by
      have : ∀ i, ∃ L : Loc, ∀ (hi : i < ls.length), L.b < W.heap.size ∧ (ls[i].length = 0 → L = ⟨bk, of, of⟩) ∧ (0 < ls[i].length → ∃ c', ds[of + i]? = some (.slice (some ⟨L.b, L.d, none⟩) ls[i].length c') ∧ ls[i].length ≤ c' ∧ L.n = L.d + c' ∧ ∃ es t' fr', W.heap[L.b]? = some (.cells es t' fr') ∧ ∀ j v, (kF.fl ls[i])[j]? = some v → es[L.d + j]? = some v) := by
        intro i
        by_cases hi : i < ls.length
        · by_cases hp : 0 < ls[i].length
          · obtain ⟨L, c', h1, h2, h3, h4, h5⟩ := hpart i hi hp
            exact ⟨L, fun _ => ⟨h1, fun h => absurd h (by omega), fun _ => ⟨c', h2, h3, h4, h5⟩⟩⟩
          · exact ⟨⟨bk, of, of⟩, fun _ => ⟨hbl, fun _ => rfl, fun h => absurd h hp⟩⟩
        · exact ⟨⟨bk, of, of⟩, fun h => absurd h hi⟩
      exact ⟨fun i => (this i).choose, fun i hi => (this i).choose_spec hi⟩
    obtain ⟨loc, hloc⟩ := hch2
    letI := tokV val hval (fun b => W.heap[b]?)
    let vs : List Value := ls.mapIdx fun i l => if l.length = 0 then .chan (some i) else .slice (some ⟨0 + (i + 1), 0, none⟩) l.length (CAPX + 1)
    let objs : List (List Value) := vs :: ls.map fun l => kF.fl l
    let locs : Nat → Loc := fun i => match i with | 0 => ⟨bk, of, of + c⟩ | i + 1 => loc i
    have hvl : vs.length = ls.length := by simp [vs]
    have hol : objs.length = ls.length + 1 := by simp [objs]
    have hvi : ∀ i (hi : i < ls.length), vs[i]'(by omega) = if ls[i].length = 0 then .chan (some i) else .slice (some ⟨0 + (i + 1), 0, none⟩) ls[i].length (CAPX + 1) := fun i hi => by simp [vs]
    have hoi : ∀ i (hi : i < ls.length), objs[i + 1]'(by omega) = kF.fl ls[i] := fun i hi => by simp [objs]
    obtain ⟨v, h', h1, rfl⟩ := C_out (run (inH 0 objs) (.slice (some ⟨0 + 0, 0, none⟩) ls.length (CAPX + 1)) vs ⟨hvl, .inr ⟨0 + 0, by show _ < 0 + objs.length; omega, rfl, inH_get 0 objs 0 (by omega)⟩, fun i a b => by
      obtain ⟨A', c', _, _, h9⟩ := hcell2 i b
      refine ⟨h9.2.1, ?_⟩
      rw [hvi i b]
      by_cases hz : ls[i].length = 0
      · rw [if_pos hz]
        exact ⟨[], .inl ⟨List.eq_nil_of_length_eq_zero hz, ⟨i, rfl⟩, rfl⟩, fun w hw => by cases hw⟩
      · rw [if_neg hz]
        exact ⟨[0 + (i + 1)], .inr ⟨_, rfl, by rw [inH_get 0 objs (i + 1) (by omega), hoi i b], rfl⟩, fun w hw => by rw [List.mem_singleton.1 hw]; show _ < 0 + objs.length; omega⟩⟩)
    refine law_calls_from (π := piO 0 locs objs.length) (sound X_ok (tbV_ok hval) n) h1 piO_gr (hr_in ⟨Nat.le_refl _, fun b _ => rfl⟩ fun i hi => ?_) ?_ (fun b => own_in)
    · cases i with
      | zero =>
        refine ⟨hbl, ds, t, fr, hb, fun j v hj => ?_⟩
        have hj : vs[j]? = some v := hj
        obtain ⟨hjl, rfl⟩ := List.getElem?_eq_some_iff.1 hj
        have hj2 : j < ls.length := by omega
        show ∃ u, ds[of + j]? = some u ∧ _
        rw [hvi j hj2]
        by_cases hz : ls[j].length = 0
        · rw [if_pos hz]
          exact ⟨_, hv1 j hj2 hz, VR.tok j⟩
        · rw [if_neg hz]
          obtain ⟨c', g1, g2, g3, _⟩ := (hloc j hj2).2.2 (by omega)
          refine ⟨_, g1, ?_⟩
          have := VR.slice (π := piO 0 locs objs.length) (id := 0 + (j + 1)) (o := 0) (len := ls[j].length) (cap := CAPX + 1) (cap' := c') (piO_at (by omega)) (.inr ⟨1, rfl, by omega, by show (loc j).d + 0 + c' * 1 = (loc j).n; omega, g2⟩)
          exact this
      | succ i =>
        have hi2 : i < ls.length := by omega
        obtain ⟨g1, g2, g3⟩ := hloc i hi2
        refine ⟨g1, ?_⟩
        rw [hoi i hi2]
        by_cases hz : ls[i].length = 0
        · rw [show locs (i + 1) = ⟨bk, of, of⟩ from g2 hz]
          refine ⟨ds, t, fr, hb, fun j v hj => ?_⟩
          rw [List.eq_nil_of_length_eq_zero hz] at hj
          simp [Enc.fl] at hj
        · obtain ⟨c', _, _, _, es, t', fr', g4, g5⟩ := g3 (by omega)
          refine ⟨es, t', fr', g4, fun j v hj => ⟨v, g5 j v hj, ?_⟩⟩
          obtain ⟨hj2, hj3⟩ := fl_at hj
          rcases (by omega : j % 2 = 0 ∨ j % 2 = 1) with e | e <;> rw [e] at hj3 <;> obtain rfl := Option.some.inj hj3 <;> exact .int _ _
    · refine .cons (.int _ _) (.cons ?_ .nil)
      have := VR.slice (π := piO 0 locs objs.length) (id := 0 + 0) (o := 0) (len := ls.length) (cap := CAPX + 1) (cap' := c) (piO_at (by omega)) (.inr ⟨1, rfl, by omega, by show of + 0 + c * 1 = of + c; omega, hlc⟩)
      exact this
end Go.Proofs.Yteffhomollmpdaa.AM.SX

/- RobinPlays on the machine: the run. -/
namespace Go.Proofs.Yteffhomollmpdaa.AM.SX
open Go Go.Proofs.Yteffhomollmpdaa.X
set_option linter.unusedVariables false
set_option linter.unusedSimpArgs false
set_option maxRecDepth 100000
set_option maxHeartbeats 8000000
attribute [local irreducible] astep0 aev awants abin abuild
theorem cntF_mem {l : List Fl} {x : Fl} {k : Nat} (hk : k ≤ l.length) (h : x ∈ cntF l k) : x ∈ l := List.mem_of_mem_take (hd_conn ((cntF_iff k hk).1 h).2).2
theorem len_rows {n : Nat} {ops : Array Oper} {os : List Oper} {a : AAct} {h : AHeap} {Q : AAct → AHeap → Prop} {dst : Option Nat} {ty : Nat} {pos : String} {aft : Array Edge} {args : Array Operand} {ls : List (List Fl)} {sv : Value} {vs : List Value} {lim : Nat} (hs : RowsAt h ls sv vs lim) (hl : args.toList.map (aev a) = [sv]) (hh : S EE (acall EE n) ops os (a.put dst (.int .i64 (ls.length : Int))) h Q) : S EE (acall EE n) ops (⟨dst, .call ⟨.builtin .len, args, #[22]⟩, ty, pos, aft, none⟩ :: os) a h Q := by
  rcases hs with ⟨_, ⟨rfl, ⟨k, rfl⟩⟩ | ⟨b, _, rfl, _⟩, _⟩
  · refine S_tb wants0 ?_ rfl (l := [.chan (some k)]) ?_ rfl hh
    · have hT : EE.T.get 22 = _ := TL rfl
      simp only [astep0, hl]
      simp only [abuiltin, alen, hT]
    · simpa [Op.operands, Call.operands] using hl
  · exact S_step wants0 (o_builtin hl (lenS (TL rfl))) hh
theorem plays_run {n K : Nat} (hK : 2097152 < K ∧ K ≤ 2200000) (hn : K + 400 ≤ n) (q0 : Int) (ls : List (List Fl)) (hnl : ∀ l ∈ ls, l.length + 400 ≤ n) (h0 : AHeap) (sv : Value) (vs : List Value) (hr : RowsAt h0 ls sv vs h0.next) : C EE (n + 1) 3 [.int .i64 q0, sv] h0 fun v _ => v = .bool true := by
  obtain ⟨hK1, hK2⟩ := hK
  refine C_in (E_X _) F_plays rfl rfl rfl ?_
  intro a hna hat
  have e0 := hat 0 _ rfl
  have e1 := hat 1 _ rfl
  replace hna : a.n = 85 := hna
  clear hat
  obtain ⟨m, rfl⟩ : ∃ m, n = m + 1 := ⟨n - 1, by omega⟩
  repeat first | refine G_seq ?_ | refine G_reg ?_ | refine N_seq ?_ | refine N_block ?_ | refine G_block ?_ | refine G_skip ?_ | refine G_cT ?_ | refine G_cF ?_ | refine G_ret ?_ | refine U_seq_ret ?_ | refine U_block_ret ?_ | refine U_nil ?_ | refine S_nil ?_ | refine S_auto ?_
  refine S_call wants0 (by simp only [aev_tmp, aev_const, aev_func, aev_global, at_put, at_none, n_put, reduceIte, Nat.reduceEqDiff, Nat.reduceLT, zq, *]; first | done | rfl) (E_Y _) (by simp only [List.map, aev_tmp, aev_const, aev_func, aev_global, at_put, at_none, n_put, reduceIte, Nat.reduceEqDiff, Nat.reduceLT, zq, *]; first | done | rfl) ?_
  refine (new_spec q0).mono ?_
  rintro r h1 ⟨rfl, rfl⟩
  have hq : 1 ≤ min (max q0 1) 1048576 ∧ min (max q0 1) 1048576 ≤ 1048576 := by omega
  repeat first | refine G_seq ?_ | refine G_reg ?_ | refine N_seq ?_ | refine N_block ?_ | refine G_block ?_ | refine G_skip ?_ | refine G_cT ?_ | refine G_cF ?_ | refine G_ret ?_ | refine U_seq_ret ?_ | refine U_block_ret ?_ | refine U_nil ?_ | refine S_nil ?_ | refine S_auto ?_
  refine S_step wants0 (o_bin (by simp only [aev_tmp, aev_const, aev_func, aev_global, at_put, at_none, n_put, reduceIte, Nat.reduceEqDiff, Nat.reduceLT, zq, *]; first | done | rfl) (by simp only [aev_tmp, aev_const, aev_func, aev_global, at_put, at_none, n_put, reduceIte, Nat.reduceEqDiff, Nat.reduceLT, zq, *]; first | done | rfl) (b_nilP (TL rfl))) ?_
  repeat first | refine G_seq ?_ | refine G_reg ?_ | refine N_seq ?_ | refine N_block ?_ | refine G_block ?_ | refine G_skip ?_ | refine G_cT ?_ | refine G_cF ?_ | refine G_ret ?_ | refine U_seq_ret ?_ | refine U_block_ret ?_ | refine U_nil ?_ | refine S_nil ?_ | refine S_noG ?_ | refine S_auto ?_
  refine S_call (by first | exact wants0 | exact (wantsG rfl rfl (by simp only [n_put, *]; decide) (by simp only [at_put, at_none, n_put, reduceIte, Nat.reduceEqDiff, Nat.reduceLT, cond_true, cond_false, ne_eq, not_true_eq_false, not_false_eq_true, decide_true, decide_false, Bool.not_true, Bool.not_false, eq_self, Int.lt_irrefl, Int.le_refl, *]; first | done | rfl)).trans rfl) (by simp only [aev_tmp, aev_const, aev_func, aev_global, at_put, at_none, n_put, reduceIte, Nat.reduceEqDiff, Nat.reduceLT, zq, *]; first | done | rfl) (E_Y _) (by simp only [List.map, aev_tmp, aev_const, aev_func, aev_global, at_put, at_none, n_put, reduceIte, Nat.reduceEqDiff, Nat.reduceLT, zq, *]; first | done | rfl) ?_
  refine C_x E_Xl rfl ?_
  repeat first | refine G_seq ?_ | refine G_reg ?_ | refine N_seq ?_ | refine N_block ?_ | refine G_block ?_ | refine G_skip ?_ | refine G_cT ?_ | refine G_cF ?_ | refine G_ret ?_ | refine U_seq_ret ?_ | refine U_block_ret ?_ | refine U_nil ?_ | refine S_nil ?_ | refine S_noG ?_ | refine S_auto ?_
  have hr1 : RowsAt (h0.new h0.next (.cells [.int .i64 (min (max q0 1) 1048576), .int .i64 0, .int .i64 0, .bool false] true)) ls sv vs h0.next := hr.keep fun w hw => get_new_ne (by omega)
  refine len_rows hr1 (by simp only [List.map, aev_tmp, aev_const, aev_func, aev_global, at_put, at_none, n_put, reduceIte, Nat.reduceEqDiff, Nat.reduceLT, zq, *]; first | done | rfl) ?_
  by_cases h30 : (30 : Int) < (ls.length : Int)
  · have h30' : ((30 : Int) < (ls.length : Int)) = True := eq_true h30
    clear h30
    repeat first | refine G_seq ?_ | refine G_reg ?_ | refine N_seq ?_ | refine N_block ?_ | refine G_block ?_ | refine G_skip ?_ | refine G_cT ?_ | refine G_cF ?_ | refine G_ret ?_ | refine U_seq_ret ?_ | refine U_block_ret ?_ | refine U_nil ?_ | refine S_nil ?_ | refine S_noG ?_ | refine S_auto ?_
    refine FQ_in (by first | exact .inr rfl | exact .inl rfl) (by first | exact ares1 (by simp only [at_put, at_none, n_put, reduceIte, Nat.reduceEqDiff, Nat.reduceLT, zq, *]; first | done | rfl) | exact ares2 (by simp only [at_put, at_none, n_put, reduceIte, Nat.reduceEqDiff, Nat.reduceLT, zq, *]; first | done | rfl) (by simp only [at_put, at_none, n_put, reduceIte, Nat.reduceEqDiff, Nat.reduceLT, zq, *]; first | done | rfl)) ?_
    rfl
  have h30' : ((30 : Int) < (ls.length : Int)) = False := eq_false h30
  repeat first | refine G_seq ?_ | refine G_reg ?_ | refine N_seq ?_ | refine N_block ?_ | refine G_block ?_ | refine G_skip ?_ | refine G_cT ?_ | refine G_cF ?_ | refine G_ret ?_ | refine U_seq_ret ?_ | refine U_block_ret ?_ | refine U_nil ?_ | refine S_nil ?_ | refine S_noG ?_ | refine S_auto ?_
  refine S_call wants0 (by simp only [aev_tmp, aev_const, aev_func, aev_global, at_put, at_none, n_put, reduceIte, Nat.reduceEqDiff, Nat.reduceLT, zq, *]; first | done | rfl) (E_Y _) (by simp only [List.map, aev_tmp, aev_const, aev_func, aev_global, at_put, at_none, n_put, reduceIte, Nat.reduceEqDiff, Nat.reduceLT, zq, *]; first | done | rfl) ?_
  refine C_le (show m - 1 + 2 = m + 1 by omega) ?_
  refine (dnew_spec q0).mono ?_
  rintro _ h2 ⟨rfl, hk2⟩
  generalize min (max q0 1) 1048576 = q at *
  have hn2 := hk2.1
  rw [next_new_self] at hn2
  have hp2 : h2.get h0.next = some (.cells [.int .i64 q, .int .i64 0, .int .i64 0, .bool false] true) := by rw [hk2.2 _ (by rw [next_new_self]; omega) (by simp), get_new_self]
  have hr2 : RowsAt h2 ls sv vs h0.next := hr1.keep fun w hw => hk2.2 w (by rw [next_new_self]; omega) (by simp)
  clear hr1 hk2 hr
  repeat first | refine G_seq ?_ | refine G_reg ?_ | refine N_seq ?_ | refine N_block ?_ | refine G_block ?_ | refine G_skip ?_ | refine G_cT ?_ | refine G_cF ?_ | refine G_ret ?_ | refine U_seq_ret ?_ | refine U_block_ret ?_ | refine U_nil ?_ | refine S_nil ?_ | refine S_auto ?_
  generalize hpe : h0.next = p at *
  obtain ⟨h3, hh3⟩ : ∃ h3, h3 = (h2.new h2.next (.cells [.int .i64 0, .int .i64 0, .int .i64 0, .bool false] true)).set h2.next (.cells [.int .i64 q, .int .i64 0, .int .i64 0, .bool false] true) := ⟨_, rfl⟩
  have hm3 : h3.get h2.next = some (.cells [.int .i64 q, .int .i64 0, .int .i64 0, .bool false] true) := by rw [hh3, get_set_self]
  have hk3 : ∀ w, w < h2.next → h3.get w = h2.get w := fun w hw => by rw [hh3, get_set_ne (by omega), get_new_ne (by omega)]
  have hn3 : h3.next = h2.next + 1 := by rw [hh3, next_set, next_new_self]
  have hp3 := (hk3 p (by omega)).trans hp2
  have hr3 := hr2.keep fun w hw => hk3 w (by omega)
  have hhe : ∀ {n : Nat} {ops : Array Oper} {os : List Oper} {a : AAct} {Q : AAct → AHeap → Prop}, S EE (acall EE n) ops os a h3 Q → S EE (acall EE n) ops os a ((h2.new h2.next (.cells [.int .i64 0, .int .i64 0, .int .i64 0, .bool false] true)).set h2.next (.cells [.int .i64 q, .int .i64 0, .int .i64 0, .bool false] true)) Q := fun h => by rw [← hh3]; exact h
  generalize h2.next = pm at *
  refine hhe ?_
  clear hhe hh3 hk3 hp2 hr2
  refine len_rows hr3 (by simp only [List.map, aev_tmp, aev_const, aev_func, aev_global, at_put, at_none, n_put, reduceIte, Nat.reduceEqDiff, Nat.reduceLT, zq, *]; first | done | rfl) ?_
  repeat first | refine G_seq ?_ | refine G_reg ?_ | refine N_seq ?_ | refine N_block ?_ | refine G_block ?_ | refine G_skip ?_ | refine G_cT ?_ | refine G_cF ?_ | refine G_ret ?_ | refine U_seq_ret ?_ | refine U_block_ret ?_ | refine U_nil ?_ | refine S_nil ?_ | refine S_auto ?_
  refine G_loop (fun j a h' => ∃ (i : Nat) (c la : Int) (any : Bool), i + j = ls.length ∧ a.n = 85 ∧ a.at 5 = .pointer (some ⟨p, 0, none⟩) ∧ a.at 6 = .pointer (some ⟨pm, 0, none⟩) ∧ a.at 27 = sv ∧ a.at 28 = .int .i64 (ls.length : Int) ∧ a.at 29 = .int .i64 (i : Int) ∧ RowsAt h' ls sv vs p ∧ h'.get p = some (.cells [.int .i64 q, .int .i64 c, .int .i64 la, .bool any] true) ∧ h'.get pm = some (.cells [.int .i64 q, .int .i64 c, .int .i64 la, .bool any] true) ∧ 0 ≤ c ∧ c ≤ 1048576 ∧ pm < h'.next) ls.length (by omega) ⟨0, 0, 0, false, by omega, by simp only [at_put, at_none, n_put, reduceIte, Nat.reduceEqDiff, Nat.reduceLT, zq, *]; first | done | rfl, by simp only [at_put, at_none, n_put, reduceIte, Nat.reduceEqDiff, Nat.reduceLT, zq, *]; first | done | rfl, by simp only [at_put, at_none, n_put, reduceIte, Nat.reduceEqDiff, Nat.reduceLT, zq, *]; first | done | rfl, by simp only [at_put, at_none, n_put, reduceIte, Nat.reduceEqDiff, Nat.reduceLT, zq, *]; first | done | rfl, by simp only [at_put, at_none, n_put, reduceIte, Nat.reduceEqDiff, Nat.reduceLT, zq, *]; first | done | rfl, by simp only [at_put, at_none, n_put, reduceIte, Nat.reduceEqDiff, Nat.reduceLT, zq, *]; first | done | rfl, hr3, hp3, hm3, by omega, by omega, by omega⟩ ?_
  clear e0 e1 hna hm3 hn3 hp3 hr3 a
  rintro j a h4 ⟨i, c, la, any, hij, hna, e5, e6, e27, e28, e29, hr, hp, hm, hc0, hc1, hmn⟩
  by_cases hil : i < ls.length
  · have hil' : ((i : Int) < (ls.length : Int)) = True := eq_true (by omega)
    obtain ⟨hvl, hsv, hri⟩ := id hr
    obtain ⟨b, hbp, rfl, hgb⟩ : ∃ b, b < p ∧ sv = .slice (some ⟨b, 0, none⟩) ls.length (CAPX + 1) ∧ h4.get b = some (.ro vs) := by
      rcases hsv with ⟨rfl, _⟩ | h9
      · exact absurd hil (Nat.not_lt_zero _)
      · exact h9
    obtain ⟨hlb, ids, hfl, hids⟩ := hri i (by omega) hil
    have hvi : vs[i]? = some (vs[i]'(by omega)) := List.getElem?_eq_getElem _
    have hnli := hnl _ (List.getElem_mem hil)
    generalize vs[i]'(by omega) = v at *
    generalize ls[i] = l at *
    have i1 : aindexAddr EE.T 22 (.slice (some ⟨b, 0, none⟩) ls.length (CAPX + 1)) (.int .i64 (i : Int)) = some (.pointer (some ⟨b, i, none⟩)) := by
      simp only [aindexAddr, TL (t := 22) rfl, TL (t := 29) rfl]
      rw [if_pos ⟨Int.natCast_nonneg _, by omega⟩]
      simp
    clear hsv hri hvl
    repeat first | refine G_seq ?_ | refine G_reg ?_ | refine N_seq ?_ | refine N_block ?_ | refine G_block ?_ | refine G_skip ?_ | refine G_cT ?_ | refine G_cF ?_ | refine G_ret ?_ | refine U_seq_ret ?_ | refine U_block_ret ?_ | refine U_nil ?_ | refine S_nil ?_ | refine S_auto ?_
    refine S_step wants0 (o_indexAddr (by simp only [aev_tmp, aev_const, aev_func, aev_global, at_put, at_none, n_put, reduceIte, Nat.reduceEqDiff, Nat.reduceLT, zq, *]; first | done | rfl) (by simp only [aev_tmp, aev_const, aev_func, aev_global, at_put, at_none, n_put, reduceIte, Nat.reduceEqDiff, Nat.reduceLT, zq, *]; first | done | rfl) i1) ?_
    refine S_step wants0 (o_ld (by simp only [aev_tmp, aev_const, aev_func, aev_global, at_put, at_none, n_put, reduceIte, Nat.reduceEqDiff, Nat.reduceLT, zq, *]; first | done | rfl) (by exact TL rfl) (by rfl) (rd_ro hgb) hvi) ?_
    clear i1 hvi hgb
    repeat first | refine G_seq ?_ | refine G_reg ?_ | refine N_seq ?_ | refine N_block ?_ | refine G_block ?_ | refine G_skip ?_ | refine G_cT ?_ | refine G_cF ?_ | refine G_ret ?_ | refine U_seq_ret ?_ | refine U_block_ret ?_ | refine U_nil ?_ | refine S_nil ?_ | refine S_auto ?_
    refine S_call wants0 (by simp only [aev_tmp, aev_const, aev_func, aev_global, at_put, at_none, n_put, reduceIte, Nat.reduceEqDiff, Nat.reduceLT, zq, *]; first | done | rfl) (E_Y _) (by simp only [List.map, aev_tmp, aev_const, aev_func, aev_global, at_put, at_none, n_put, reduceIte, Nat.reduceEqDiff, Nat.reduceLT, zq, *]; first | done | rfl) ?_
    refine (small_spec (n := m) 2000 hfl (fun w hw => by have := hids w hw; omega) hlb (by omega)).mono ?_
    rintro fv h5 ⟨O1, hf5, hO1, hk5⟩
    have hsl := smallF_len 2000 l
    have hsle := smallF_le (most := 2000) (l := l)
    generalize smallF 2000 l = fs at *
    have hn5 := hk5.1
    have hp5 := (hk5.2 p (by omega) (by simp)).trans hp
    have hm5 := (hk5.2 pm (by omega) (by simp)).trans hm
    have hr5 := hr.keep fun w hw => hk5.2 w (by omega) (by simp)
    have hO1' : ∀ w ∈ O1, pm < w ∧ w < h5.next := fun w hw => by have := hO1 w hw; omega
    clear hfl hids hlb hk5 hp hm hr hO1 hnli
    repeat first | refine G_seq ?_ | refine G_reg ?_ | refine N_seq ?_ | refine N_block ?_ | refine G_block ?_ | refine G_skip ?_ | refine G_cT ?_ | refine G_cF ?_ | refine G_ret ?_ | refine U_seq_ret ?_ | refine U_block_ret ?_ | refine U_nil ?_ | refine S_nil ?_ | refine S_auto ?_
    refine G_drawX _ rfl (by kernel_rfl) ?_
    refine DG_r wants0 (by rfl) (by rfl) (o_ldA (by simp only [aev_tmp, aev_const, aev_func, aev_global, at_put, at_none, n_put, reduceIte, Nat.reduceEqDiff, Nat.reduceLT, zq, *]; first | done | rfl) (by exact TL rfl) (by rfl) (rd_cells (by exact hm5)) (by rfl)) ?_
    refine DG_p wants0 (by rfl) (by rfl) (o_move (by simp only [aev_tmp, aev_const, aev_func, aev_global, at_put, at_none, n_put, reduceIte, Nat.reduceEqDiff, Nat.reduceLT, zq, *]; first | done | rfl)) ?_
    refine DG_call wants0 (by rfl) (by simp only [aev_tmp, aev_const, aev_func, aev_global, at_put, at_none, n_put, reduceIte, Nat.reduceEqDiff, Nat.reduceLT, zq, *]; first | done | rfl) (E_Y _) (by simp only [List.map, aev_tmp, aev_const, aev_func, aev_global, at_put, at_none, n_put, reduceIte, Nat.reduceEqDiff, Nat.reduceLT, zq, *]; first | done | rfl) ?_
    have hf5b : RowAt kF (bump h5 10) fs fv O1 := hf5.keep fun w hw => get_bump _ _ _
    refine (as_spec (n := m) (h := bump h5 10) hf5b (fun w hw => by have := hO1' w hw; rw [next_bump]; omega) (by omega) (by omega)).mono ?_
    rintro av h6 ⟨O2, hf6, hO2, hk6⟩
    have hn6 := hk6.1
    rw [next_bump] at hn6
    have hp6 := (hk6.2 p (by rw [next_bump]; omega) (by simp)).trans hp5
    have hm6 := (hk6.2 pm (by rw [next_bump]; omega) (by simp)).trans hm5
    refine DG_call wants0 (by kernel_rfl) (by simp only [aev_tmp, aev_const, aev_func, aev_global, at_put, at_none, n_put, reduceIte, Nat.reduceEqDiff, Nat.reduceLT, zq, *]; first | done | rfl) (E_Y _) (by simp only [List.map, aev_tmp, aev_const, aev_func, aev_global, at_put, at_none, n_put, reduceIte, Nat.reduceEqDiff, Nat.reduceLT, zq, *]; first | done | rfl) ?_
    have hwle : WLe (cntF fs fs.length) := fun x hx => by have := hsle x (cntF_mem (Nat.le_refl _) hx); omega
    have hwok : WOk (flowsF fs) := flowsF_wok fun x hx => by have := hsle x hx; omega
    refine (dround_spec (n := m) (K := K) (h := h6) (q := q) (c := c) (la := la) (any := any) hf6 (fun w hw => (hO2 w hw).2) (by omega) hwle hq ⟨hc0, hc1⟩ (by omega) (by omega) (by omega)).mono ?_
    rintro _ h7 ⟨R, gv, O3, hR, rfl, hg7, hO3, hk7⟩
    have hn7 := hk7.1
    have hp7 := (hk7.2 p (by omega) (by simp)).trans hp6
    have hm7 := (hk7.2 pm (by omega) (by simp)).trans hm6
    refine DG_p wants0 (by rfl) (by rfl) (o_move (by simp only [aev_tmp, aev_const, aev_func, aev_global, at_put, at_none, n_put, reduceIte, Nat.reduceEqDiff, Nat.reduceLT, zq, *]; first | done | rfl)) ?_
    refine DG_p wants0 (by rfl) (by rfl) (o_ext (by simp only [aev_tmp, aev_const, aev_func, aev_global, at_put, at_none, n_put, reduceIte, Nat.reduceEqDiff, Nat.reduceLT, zq, *]; first | done | rfl) (by rfl)) ?_
    refine DG_p wants0 (by rfl) (by rfl) (o_ext (by simp only [aev_tmp, aev_const, aev_func, aev_global, at_put, at_none, n_put, reduceIte, Nat.reduceEqDiff, Nat.reduceLT, zq, *]; first | done | rfl) (by rfl)) ?_
    refine DG_new wants0 (by rfl) (o_alloc (by exact TL rfl) (by rfl)) (by exact get_new_self _ _ _) ?_
    refine DG_w1 wants0 (by rfl) (by kernel_rfl) (by kernel_rfl) (o_st (by simp only [aev_tmp, aev_const, aev_func, aev_global, at_put, at_none, n_put, reduceIte, Nat.reduceEqDiff, Nat.reduceLT, zq, *]; first | done | rfl) (by simp only [aev_tmp, aev_const, aev_func, aev_global, at_put, at_none, n_put, reduceIte, Nat.reduceEqDiff, Nat.reduceLT, zq, *]; first | done | rfl) (by exact TL rfl) (by rfl) (by exact get_set_self _ _ _) (by rfl) (by rfl)) ?_
    refine DG_p wants0 (by rfl) (by rfl) (o_assign (by simp only [aev_tmp, aev_const, aev_func, aev_global, at_put, at_none, n_put, reduceIte, Nat.reduceEqDiff, Nat.reduceLT, zq, *]; first | done | rfl)) ?_
    refine DG_nil ⟨?_, ?_⟩
    · refine List.all_eq_true.2 fun d hd => ?_
      obtain rfl := List.mem_singleton.1 hd
      refine reads_in (by kernel_rfl) (reads_in (by kernel_rfl) (reads_here (o_ldA (by simp only [aev_tmp, aev_const, aev_func, aev_global, at_put, at_none, n_put, reduceIte, Nat.reduceEqDiff, Nat.reduceLT, zq, *]; first | done | rfl) (by exact TL rfl) (by rfl) (rd_cells (by exact hm6)) (by rfl)) (by exact veq_self rfl) (reads_last (o_ldA (by simp only [aev_tmp, aev_const, aev_func, aev_global, at_put, at_none, n_put, reduceIte, Nat.reduceEqDiff, Nat.reduceLT, zq, *]; first | done | rfl) (by exact TL rfl) (by rfl) (rd_cells (by exact hm5)) (by rfl)) (by exact veq_self rfl))))
    obtain ⟨c', la', any', out⟩ := R
    have hf7 : RowAt kF h7 fs fv O1 := (hf5b.keep fun w hw => hk6.2 w (by have := hO1' w hw; rw [next_bump]; omega) (by simp)).keep fun w hw => hk7.2 w (by have := hO1' w hw; omega) (by simp)
    have hr7 : RowsAt h7 ls (.slice (some ⟨b, 0, none⟩) ls.length (CAPX + 1)) vs p := (hr5.keep fun w hw => (hk6.2 w (by rw [next_bump]; omega) (by simp)).trans (get_bump _ _ _)).keep fun w hw => hk7.2 w (by omega) (by simp)
    replace hg7 : RowAt kF h7 out gv O3 := hg7
    refine N_seq ?_
    refine G_gen (fun a h' => a.n = 85 ∧ a.at 5 = .pointer (some ⟨p, 0, none⟩) ∧ a.at 6 = .pointer (some ⟨pm, 0, none⟩) ∧ a.at 8 = fv ∧ a.at 9 = .pointer (some ⟨h5.next + 7, 0, none⟩) ∧ a.at 10 = gv ∧ a.at 27 = .slice (some ⟨b, 0, none⟩) ls.length (CAPX + 1) ∧ a.at 28 = .int .i64 (ls.length : Int) ∧ a.at 29 = .int .i64 (i : Int) ∧ h'.get p = some (.cells [.int .i64 q, .int .i64 c, .int .i64 la, .bool any] true) ∧ h'.get pm = some (.cells [.int .i64 q, .int .i64 c, .int .i64 la, .bool any] true) ∧ h'.get (h5.next + 7) = some (.cells [.int .i64 q, .int .i64 c', .int .i64 la', .bool any'] true) ∧ RowAt kF h' fs fv O1 ∧ RowAt kF h' out gv O3 ∧ RowsAt h' ls (.slice (some ⟨b, 0, none⟩) ls.length (CAPX + 1)) vs p ∧ h'.next = h7.next) ⟨by simp only [at_put, at_none, n_put, reduceIte, Nat.reduceEqDiff, Nat.reduceLT, zq, *]; first | done | rfl, by simp only [at_put, at_none, n_put, reduceIte, Nat.reduceEqDiff, Nat.reduceLT, zq, *]; first | done | rfl, by simp only [at_put, at_none, n_put, reduceIte, Nat.reduceEqDiff, Nat.reduceLT, zq, *]; first | done | rfl, by simp only [at_put, at_none, n_put, reduceIte, Nat.reduceEqDiff, Nat.reduceLT, zq, *]; first | done | rfl, by simp only [at_put, at_none, n_put, reduceIte, Nat.reduceEqDiff, Nat.reduceLT, zq, *]; first | done | rfl, by simp only [at_put, at_none, n_put, reduceIte, Nat.reduceEqDiff, Nat.reduceLT, zq, *]; first | done | rfl, by simp only [at_put, at_none, n_put, reduceIte, Nat.reduceEqDiff, Nat.reduceLT, zq, *]; first | done | rfl, by simp only [at_put, at_none, n_put, reduceIte, Nat.reduceEqDiff, Nat.reduceLT, zq, *]; first | done | rfl, by simp only [at_put, at_none, n_put, reduceIte, Nat.reduceEqDiff, Nat.reduceLT, zq, *]; first | done | rfl, ?_, ?_, ?_, hf7.keep fun w hw => ?_, hg7.keep fun w hw => ?_, hr7.keep fun w hw => ?_, rfl⟩ ?_
    · exact (get_set_ne (by omega)).trans ((get_set_ne (by omega)).trans hp7)
    · exact (get_set_ne (by omega)).trans ((get_set_ne (by omega)).trans hm7)
    · exact (get_set_self _ _ _).trans (by rw [← hR])
    · have := hO1' w hw
      exact (get_set_ne (by omega)).trans (get_set_ne (by omega))
    · have := hO3 w hw
      exact (get_set_ne (by omega)).trans (get_set_ne (by omega))
    · exact (get_set_ne (by omega)).trans (get_set_ne (by omega))
    clear e5 e6 e27 e28 e29 hna a hp5 hm5 hr5 hf5 hf5b hf6 hk6 hp6 hm6 hk7 hp7 hm7 hf7 hg7 hr7 hO2
    rintro a h8 ⟨hna, e5, e6, e8, e9, e10, e27, e28, e29, hp8, hm8, hw8, hf8, hg8, hr8, hn8⟩
    have hO1n : ∀ w ∈ O1, pm < w ∧ w < h5.next := hO1'
    have hO3n : ∀ w ∈ O3, h5.next + 10 ≤ w ∧ w < h7.next := fun w hw => by have := hO3 w hw; omega
    have hcK : 0 ≤ (if (flowsF fs).length = 0 then c else c + q) := by split <;> omega
    have hRc := roundL_c K (if (flowsF fs).length = 0 then c else c + q) la any (flowsF fs) [] hcK hwok
    have hR64 := roundL_lt64 K (if (flowsF fs).length = 0 then c else c + q) la any (flowsF fs) [] hcK (by split <;> omega) hwok
    have hRo := roundL_out K (if (flowsF fs).length = 0 then c else c + q) la any (flowsF fs) [] (fun _ => True) hwok (fun _ _ => trivial) (fun g hg => by cases hg)
    rw [round_both] at hR
    rw [← hR] at hRc hR64 hRo
    replace hRc : 0 ≤ c' ∧ _ := hRc
    replace hR64 : c' < 64 := hR64
    replace hRo : _ ∧ out.length ≤ 0 + K := hRo
    have hc0' := hRc.1
    have hol := hRo.2
    clear hRc hRo hcK hO3 hO1'
    repeat first | refine G_seq ?_ | refine G_reg ?_ | refine N_seq ?_ | refine N_block ?_ | refine G_block ?_ | refine G_skip ?_ | refine G_cT ?_ | refine G_cF ?_ | refine G_ret ?_ | refine U_seq_ret ?_ | refine U_block_ret ?_ | refine U_nil ?_ | refine S_nil ?_ | refine S_auto ?_
    refine S_call wants0 (by simp only [aev_tmp, aev_const, aev_func, aev_global, at_put, at_none, n_put, reduceIte, Nat.reduceEqDiff, Nat.reduceLT, zq, *]; first | done | rfl) (E_Y _) (by simp only [List.map, aev_tmp, aev_const, aev_func, aev_global, at_put, at_none, n_put, reduceIte, Nat.reduceEqDiff, Nat.reduceLT, zq, *]; first | done | rfl) ?_
    have hf9 : RowAt kF (h8.set pm (.cells [.int .i64 q, .int .i64 c', .int .i64 la', .bool any'] true)) fs fv O1 := hf8.keep fun w hw => get_set_ne (by have := hO1n w hw; omega)
    refine (round_spec (n := m) (K := K) (h := h8.set pm (.cells [.int .i64 q, .int .i64 c', .int .i64 la', .bool any'] true)) (by rw [get_set_ne (by omega)]; exact hp8) (by rw [next_set]; omega) hf9 (fun w hw => by have := hO1n w hw; rw [next_set]; omega) hsl hwok (Nat.le_trans (flowsF_len _) hsl) hq ⟨hc0, hc1⟩ (by omega) (by omega) (by omega)).mono ?_
    rintro g2 h9 ⟨R2, O4, hR2, hg9, hO4, hp9, hk9⟩
    rw [← hR] at hR2
    subst hR2
    replace hg9 : RowAt kF h9 out g2 O4 := hg9
    replace hp9 : h9.get p = some (.cells [.int .i64 q, .int .i64 c', .int .i64 la', .bool any'] true) := hp9
    have hn9 := hk9.1
    rw [next_set] at hn9
    have hm9 : h9.get pm = some (.cells [.int .i64 q, .int .i64 c', .int .i64 la', .bool any'] true) := (hk9.2 pm (by rw [next_set]; omega) (by simp; omega)).trans (get_set_self _ _ _)
    have hd9 : RowAt kF h9 out gv O3 := (hg8.keep fun w hw => get_set_ne (by have := hO3n w hw; omega)).keep fun w hw => hk9.2 w (by have := hO3n w hw; rw [next_set]; omega) (by have := hO3n w hw; simp; omega)
    have hr9 : RowsAt h9 ls (.slice (some ⟨b, 0, none⟩) ls.length (CAPX + 1)) vs p := (hr8.keep fun w hw => get_set_ne (by omega)).keep fun w hw => hk9.2 w (by rw [next_set]; omega) (by simp; omega)
    clear hf9 hf8 hg8 hr8 hp8 hm8 hw8 hk9 hR hwok hwle
    have hnn : ((out.length : Int) ≠ (out.length : Int)) = False := by simp
    have hcc : ∀ x : Int, (x ≠ x) = False := fun x => by simp
    repeat first | refine G_seq ?_ | refine G_reg ?_ | refine N_seq ?_ | refine N_block ?_ | refine G_block ?_ | refine G_skip ?_ | refine G_cT ?_ | refine G_cF ?_ | refine G_ret ?_ | refine U_seq_ret ?_ | refine U_block_ret ?_ | refine U_nil ?_ | refine S_nil ?_ | refine S_auto ?_
    refine G_draw [7] [] (by kernel_rfl) ?_
    repeat first | refine D1_nil0 ?_ | refine D2_nil ?_ | refine D_noG ?_ | refine D_pure ?_ | refine D_rd ?_ | refine D2_pure' ?_
    refine D1_rd wants0 (by rfl) (by rfl) (fun _ => o_builtin (by simp only [List.map, aev_tmp, aev_const, aev_func, aev_global, at_put, at_none, n_put, reduceIte, Nat.reduceEqDiff, Nat.reduceLT, zq, *]; first | done | rfl) (hg9.lenB (TL rfl))) (by first | exact veq_self rfl | assumption) ?_
    repeat first | refine D1_nil0 ?_ | refine D2_nil ?_ | refine D_noG ?_ | refine D_pure ?_ | refine D_rd ?_ | refine D2_pure' ?_
    refine D1_rd wants0 (by rfl) (by rfl) (fun _ => o_builtin (by simp only [List.map, aev_tmp, aev_const, aev_func, aev_global, at_put, at_none, n_put, reduceIte, Nat.reduceEqDiff, Nat.reduceLT, zq, *]; first | done | rfl) (hd9.lenB (TL rfl))) (by first | exact veq_self rfl | assumption) ?_
    repeat first | refine D1_nil0 ?_ | refine D2_nil ?_ | refine D_noG ?_ | refine D_pure ?_ | refine D_rd ?_ | refine D2_pure' ?_
    refine D1_qcall (by first | exact wants0 | exact (wantsG rfl rfl (by simp only [n_put, *]; decide) (by simp only [at_put, at_none, n_put, reduceIte, Nat.reduceEqDiff, Nat.reduceLT, cond_true, cond_false, ne_eq, not_true_eq_false, not_false_eq_true, decide_true, decide_false, Bool.not_true, Bool.not_false, eq_self, Int.lt_irrefl, Int.le_refl, *]; first | done | rfl)).trans rfl) (by rfl) (by simp only [aev_tmp, aev_const, aev_func, aev_global, at_put, at_none, n_put, reduceIte, Nat.reduceEqDiff, Nat.reduceLT, zq, *]; first | done | rfl) (E_Y _) (by simp only [List.map, aev_tmp, aev_const, aev_func, aev_global, at_put, at_none, n_put, reduceIte, Nat.reduceEqDiff, Nat.reduceLT, zq, *]; first | done | rfl) ?_
    have hp9b : (bump h9 12).get p = some (.cells [.int .i64 q, .int .i64 c', .int .i64 la', .bool any'] true) := hp9
    refine (credit_spec (n := m) hp9b).mono ?_
    rintro _ h10 ⟨rfl, he⟩
    refine ⟨he, ?_⟩
    clear he h10 hp9b
    repeat first | refine D1_nil0 ?_ | refine D2_nil ?_ | refine D_noG ?_ | refine D_pure ?_ | refine D_rd ?_ | refine D2_pure' ?_
    repeat first | refine G_seq ?_ | refine G_reg ?_ | refine N_seq ?_ | refine N_block ?_ | refine G_block ?_ | refine G_skip ?_ | refine G_cT ?_ | refine G_cF ?_ | refine G_ret ?_ | refine U_seq_ret ?_ | refine U_block_ret ?_ | refine U_nil ?_ | refine S_nil ?_ | refine S_auto ?_
    refine S_step wants0 (o_builtin (by simp only [List.map, aev_tmp, aev_const, aev_func, aev_global, at_put, at_none, n_put, reduceIte, Nat.reduceEqDiff, Nat.reduceLT, zq, *]; first | done | rfl) (hg9.lenB (TL rfl))) ?_
    repeat first | refine G_seq ?_ | refine G_reg ?_ | refine N_seq ?_ | refine N_block ?_ | refine G_block ?_ | refine G_skip ?_ | refine G_cT ?_ | refine G_cF ?_ | refine G_ret ?_ | refine U_seq_ret ?_ | refine U_block_ret ?_ | refine U_nil ?_ | refine S_nil ?_ | refine S_auto ?_
    have hO4n : ∀ w ∈ O4, h7.next ≤ w ∧ w < h9.next := fun w hw => by have := hO4 w hw; rw [next_set] at this; omega
    refine G_loop (fun j3 a h' => ∃ u : Nat, u + j3 = out.length ∧ a.n = 85 ∧ a.at 5 = .pointer (some ⟨p, 0, none⟩) ∧ a.at 6 = .pointer (some ⟨pm, 0, none⟩) ∧ a.at 10 = gv ∧ a.at 27 = .slice (some ⟨b, 0, none⟩) ls.length (CAPX + 1) ∧ a.at 28 = .int .i64 (ls.length : Int) ∧ a.at 29 = .int .i64 (i : Int) ∧ a.at 58 = g2 ∧ a.at 59 = .int .i64 (out.length : Int) ∧ a.at 60 = .int .i64 (u : Int) ∧ Keep h9 h' []) out.length (by omega) ⟨0, by omega, by simp only [at_put, at_none, n_put, reduceIte, Nat.reduceEqDiff, Nat.reduceLT, zq, *]; first | done | rfl, by simp only [at_put, at_none, n_put, reduceIte, Nat.reduceEqDiff, Nat.reduceLT, zq, *]; first | done | rfl, by simp only [at_put, at_none, n_put, reduceIte, Nat.reduceEqDiff, Nat.reduceLT, zq, *]; first | done | rfl, by simp only [at_put, at_none, n_put, reduceIte, Nat.reduceEqDiff, Nat.reduceLT, zq, *]; first | done | rfl, by simp only [at_put, at_none, n_put, reduceIte, Nat.reduceEqDiff, Nat.reduceLT, zq, *]; first | done | rfl, by simp only [at_put, at_none, n_put, reduceIte, Nat.reduceEqDiff, Nat.reduceLT, zq, *]; first | done | rfl, by simp only [at_put, at_none, n_put, reduceIte, Nat.reduceEqDiff, Nat.reduceLT, zq, *]; first | done | rfl, by simp only [at_put, at_none, n_put, reduceIte, Nat.reduceEqDiff, Nat.reduceLT, zq, *]; first | done | rfl, by simp only [at_put, at_none, n_put, reduceIte, Nat.reduceEqDiff, Nat.reduceLT, zq, *]; first | done | rfl, by simp only [at_put, at_none, n_put, reduceIte, Nat.reduceEqDiff, Nat.reduceLT, zq, *]; first | done | rfl, Keep.bump _ _ _⟩ ?_
    clear e5 e6 e8 e9 e10 e27 e28 e29 hna a hnn
    rintro j3 a h10 ⟨u, huj, hna, e5, e6, e10, e27, e28, e29, e58, e59, e60, hk10⟩
    have hg10 := hg9.keep fun w hw => hk10.2 w (hO4n w hw).2 (by simp)
    have hd10 := hd9.keep fun w hw => hk10.2 w (by have := hO3n w hw; omega) (by simp)
    by_cases hut : u < out.length
    · have hut' : ((u : Int) < (out.length : Int)) = True := eq_true (by omega)
      obtain ⟨bx, cs, g1, g3, gm, gc, _⟩ := hg10.index (T := EE.T) (st := 36) (TL rfl) (TL rfl) ⟨rfl, rfl, by decide⟩ hut
      obtain ⟨bz, ds, g4, g5, gn, _, gd⟩ := hd10.index (T := EE.T) (st := 31) (TL rfl) (TL rfl) ⟨rfl, rfl, by decide⟩ hut
      have hbx := hO4n bx gm
      have hbz := hO3n bz gn
      have hn10 := hk10.1
      obtain ⟨xc, xw, hxe⟩ : ∃ xc xw, out[u] = (xc, xw) := ⟨_, _, rfl⟩
      have d0 := gd 0 (by decide)
      have d1 := gd 1 (by decide)
      rw [hxe] at gc d0 d1
      replace d0 : ds[u * kF.sz + 0]? = some (.int .i64 xc) := d0
      replace d1 : ds[u * kF.sz + 1]? = some (.int .i64 xw) := d1
      clear hg10 hd10 gd hp9 hm9 hr9 hg9 hd9
      repeat first | refine G_seq ?_ | refine G_reg ?_ | refine N_seq ?_ | refine N_block ?_ | refine G_block ?_ | refine G_skip ?_ | refine G_cT ?_ | refine G_cF ?_ | refine G_ret ?_ | refine U_seq_ret ?_ | refine U_block_ret ?_ | refine U_nil ?_ | refine S_nil ?_ | refine S_auto ?_
      refine S_step wants0 (o_indexAddr (by simp only [aev_tmp, aev_const, aev_func, aev_global, at_put, at_none, n_put, reduceIte, Nat.reduceEqDiff, Nat.reduceLT, zq, *]; first | done | rfl) (by simp only [aev_tmp, aev_const, aev_func, aev_global, at_put, at_none, n_put, reduceIte, Nat.reduceEqDiff, Nat.reduceLT, zq, *]; first | done | rfl) g1) ?_
      refine S_step wants0 (o_ldA (by simp only [aev_tmp, aev_const, aev_func, aev_global, at_put, at_none, n_put, reduceIte, Nat.reduceEqDiff, Nat.reduceLT, zq, *]; first | done | rfl) (by exact TL rfl) (by rfl) (rd_cells (by simp (disch := omega) only [get_set_self, get_new_self, get_set_ne, get_new_ne, get_bump, next_set, next_new, Nat.lt_irrefl, reduceIte, next_kill, next_bump, *]; first | done | rfl)) (gc.trans rfl)) ?_
      repeat first | refine G_seq ?_ | refine G_reg ?_ | refine N_seq ?_ | refine N_block ?_ | refine G_block ?_ | refine G_skip ?_ | refine G_cT ?_ | refine G_cF ?_ | refine G_ret ?_ | refine U_seq_ret ?_ | refine U_block_ret ?_ | refine U_nil ?_ | refine S_nil ?_ | refine S_auto ?_
      clear g1 g3 gc
      refine G_draw [] [] (by kernel_rfl) ?_
      repeat first | refine D1_nil0 ?_ | refine D2_nil ?_ | refine D_noG ?_ | refine D_pure ?_ | refine D_rd ?_ | refine D2_pure' ?_
      refine D1_pure (by first | exact wants0 | exact (wantsG rfl rfl (by simp only [n_put, *]; decide) (by simp only [at_put, at_none, n_put, reduceIte, Nat.reduceEqDiff, Nat.reduceLT, cond_true, cond_false, ne_eq, not_true_eq_false, not_false_eq_true, decide_true, decide_false, Bool.not_true, Bool.not_false, eq_self, Int.lt_irrefl, Int.le_refl, *]; first | done | rfl)).trans rfl) (by rfl) (by rfl) (fun _ _ => o_indexAddr (by simp only [aev_tmp, aev_const, aev_func, aev_global, at_put, at_none, n_put, reduceIte, Nat.reduceEqDiff, Nat.reduceLT, zq, *]; first | done | rfl) (by simp only [aev_tmp, aev_const, aev_func, aev_global, at_put, at_none, n_put, reduceIte, Nat.reduceEqDiff, Nat.reduceLT, zq, *]; first | done | rfl) g4) ?_
      repeat first | refine D1_nil0 ?_ | refine D2_nil ?_ | refine D_noG ?_ | refine D_pure ?_ | refine D_rd ?_ | refine D2_pure' ?_
      refine D1_rd (by first | exact wants0 | exact (wantsG rfl rfl (by simp only [n_put, *]; decide) (by simp only [at_put, at_none, n_put, reduceIte, Nat.reduceEqDiff, Nat.reduceLT, cond_true, cond_false, ne_eq, not_true_eq_false, not_false_eq_true, decide_true, decide_false, Bool.not_true, Bool.not_false, eq_self, Int.lt_irrefl, Int.le_refl, *]; first | done | rfl)).trans rfl) (by rfl) (by rfl) (fun _ => o_ld (by simp only [aev_tmp, aev_const, aev_func, aev_global, at_put, at_none, n_put, reduceIte, Nat.reduceEqDiff, Nat.reduceLT, zq, *]; first | done | rfl) (by exact TL rfl) (by rfl) (rd_cells (by simp (disch := omega) only [get_set_self, get_new_self, get_set_ne, get_new_ne, get_bump, next_set, next_new, Nat.lt_irrefl, reduceIte, next_kill, next_bump, *]; first | done | rfl)) d0) (by first | exact veq_self rfl | assumption) ?_
      repeat first | refine D1_nil0 ?_ | refine D2_nil ?_ | refine D_noG ?_ | refine D_pure ?_ | refine D_rd ?_ | refine D2_pure' ?_
      refine D1_pure (by first | exact wants0 | exact (wantsG rfl rfl (by simp only [n_put, *]; decide) (by simp only [at_put, at_none, n_put, reduceIte, Nat.reduceEqDiff, Nat.reduceLT, cond_true, cond_false, ne_eq, not_true_eq_false, not_false_eq_true, decide_true, decide_false, Bool.not_true, Bool.not_false, eq_self, Int.lt_irrefl, Int.le_refl, *]; first | done | rfl)).trans rfl) (by rfl) (by rfl) (fun _ _ => o_indexAddr (by simp only [aev_tmp, aev_const, aev_func, aev_global, at_put, at_none, n_put, reduceIte, Nat.reduceEqDiff, Nat.reduceLT, zq, *]; first | done | rfl) (by simp only [aev_tmp, aev_const, aev_func, aev_global, at_put, at_none, n_put, reduceIte, Nat.reduceEqDiff, Nat.reduceLT, zq, *]; first | done | rfl) g4) ?_
      repeat first | refine D1_nil0 ?_ | refine D2_nil ?_ | refine D_noG ?_ | refine D_pure ?_ | refine D_rd ?_ | refine D2_pure' ?_
      refine D1_rd (by first | exact wants0 | exact (wantsG rfl rfl (by simp only [n_put, *]; decide) (by simp only [at_put, at_none, n_put, reduceIte, Nat.reduceEqDiff, Nat.reduceLT, cond_true, cond_false, ne_eq, not_true_eq_false, not_false_eq_true, decide_true, decide_false, Bool.not_true, Bool.not_false, eq_self, Int.lt_irrefl, Int.le_refl, *]; first | done | rfl)).trans rfl) (by rfl) (by rfl) (fun _ => o_ld (by simp only [aev_tmp, aev_const, aev_func, aev_global, at_put, at_none, n_put, reduceIte, Nat.reduceEqDiff, Nat.reduceLT, zq, *]; first | done | rfl) (by exact TL rfl) (by rfl) (rd_cells (by simp (disch := omega) only [get_set_self, get_new_self, get_set_ne, get_new_ne, get_bump, next_set, next_new, Nat.lt_irrefl, reduceIte, next_kill, next_bump, *]; first | done | rfl)) d1) (by first | exact veq_self rfl | assumption) ?_
      repeat first | refine D1_nil0 ?_ | refine D2_nil ?_ | refine D_noG ?_ | refine D_pure ?_ | refine D_rd ?_ | refine D2_pure' ?_
      repeat first | refine G_seq ?_ | refine G_reg ?_ | refine N_seq ?_ | refine N_block ?_ | refine G_block ?_ | refine G_skip ?_ | refine G_cT ?_ | refine G_cF ?_ | refine G_ret ?_ | refine U_seq_ret ?_ | refine U_block_ret ?_ | refine U_nil ?_ | refine S_nil ?_ | refine S_auto ?_
      refine N_nil ?_
      exact LQ_n (j3 - 1) (by omega) ⟨u + 1, by omega, by simp only [at_put, at_none, n_put, reduceIte, Nat.reduceEqDiff, Nat.reduceLT, zq, *]; first | done | rfl, by simp only [at_put, at_none, n_put, reduceIte, Nat.reduceEqDiff, Nat.reduceLT, zq, *]; first | done | rfl, by simp only [at_put, at_none, n_put, reduceIte, Nat.reduceEqDiff, Nat.reduceLT, zq, *]; first | done | rfl, by simp only [at_put, at_none, n_put, reduceIte, Nat.reduceEqDiff, Nat.reduceLT, zq, *]; first | done | rfl, by simp only [at_put, at_none, n_put, reduceIte, Nat.reduceEqDiff, Nat.reduceLT, zq, *]; first | done | rfl, by simp only [at_put, at_none, n_put, reduceIte, Nat.reduceEqDiff, Nat.reduceLT, zq, *]; first | done | rfl, by simp only [at_put, at_none, n_put, reduceIte, Nat.reduceEqDiff, Nat.reduceLT, zq, *]; first | done | rfl, by simp only [at_put, at_none, n_put, reduceIte, Nat.reduceEqDiff, Nat.reduceLT, zq, *]; first | done | rfl, by simp only [at_put, at_none, n_put, reduceIte, Nat.reduceEqDiff, Nat.reduceLT, zq, *]; first | done | rfl, by rw [Int.natCast_add]; simp only [at_put, at_none, n_put, reduceIte, Nat.reduceEqDiff, Nat.reduceLT, zq, *]; first | done | rfl, ⟨by simp only [next_set, next_bump, next_new, Nat.lt_irrefl, reduceIte]; omega, fun w hw hn => by rw [get_bump, get_set_ne (by omega), get_new_ne (by omega), hk10.2 w hw hn]⟩⟩
    · have hut' : ((u : Int) < (out.length : Int)) = False := eq_false (by omega)
      obtain rfl : u = out.length := by omega
      have hp10 := (hk10.2 p (by omega) (by simp)).trans hp9
      have hm10 := (hk10.2 pm (by omega) (by simp)).trans hm9
      have hr10 := hr9.keep fun w hw => hk10.2 w (by omega) (by simp)
      have hn10 := hk10.1
      clear hp9 hm9 hr9 hg10 hd10 hk10
      repeat first | refine G_seq ?_ | refine G_reg ?_ | refine N_seq ?_ | refine N_block ?_ | refine G_block ?_ | refine G_skip ?_ | refine G_cT ?_ | refine G_cF ?_ | refine G_ret ?_ | refine U_seq_ret ?_ | refine U_block_ret ?_ | refine U_nil ?_ | refine S_nil ?_ | refine S_auto ?_
      refine G_exit ?_
      repeat first | refine U_seq_exit ?_ | refine U_nil ?_ | refine LQ_exit ?_ | refine U_block_hit ?_
      repeat first | refine G_seq ?_ | refine G_reg ?_ | refine N_seq ?_ | refine N_block ?_ | refine G_block ?_ | refine G_skip ?_ | refine G_cT ?_ | refine G_cF ?_ | refine G_ret ?_ | refine U_seq_ret ?_ | refine U_block_ret ?_ | refine U_nil ?_ | refine S_nil ?_ | refine S_auto ?_
      refine N_nil ?_
      exact LQ_n (j - 1) (by omega) ⟨i + 1, c', la', any', by omega, by simp only [at_put, at_none, n_put, reduceIte, Nat.reduceEqDiff, Nat.reduceLT, zq, *]; first | done | rfl, by simp only [at_put, at_none, n_put, reduceIte, Nat.reduceEqDiff, Nat.reduceLT, zq, *]; first | done | rfl, by simp only [at_put, at_none, n_put, reduceIte, Nat.reduceEqDiff, Nat.reduceLT, zq, *]; first | done | rfl, by simp only [at_put, at_none, n_put, reduceIte, Nat.reduceEqDiff, Nat.reduceLT, zq, *]; first | done | rfl, by simp only [at_put, at_none, n_put, reduceIte, Nat.reduceEqDiff, Nat.reduceLT, zq, *]; first | done | rfl, by rw [Int.natCast_add]; simp only [at_put, at_none, n_put, reduceIte, Nat.reduceEqDiff, Nat.reduceLT, zq, *]; first | done | rfl, hr10, hp10, hm10, hc0', by omega, by omega⟩
  · have hil' : ((i : Int) < (ls.length : Int)) = False := eq_false (by omega)
    repeat first | refine G_seq ?_ | refine G_reg ?_ | refine N_seq ?_ | refine N_block ?_ | refine G_block ?_ | refine G_skip ?_ | refine G_cT ?_ | refine G_cF ?_ | refine G_ret ?_ | refine U_seq_ret ?_ | refine U_block_ret ?_ | refine U_nil ?_ | refine S_nil ?_ | refine S_auto ?_
    refine G_exit ?_
    repeat first | refine U_seq_exit ?_ | refine U_nil ?_ | refine LQ_exit ?_ | refine U_block_hit ?_
    repeat first | refine G_seq ?_ | refine G_reg ?_ | refine N_seq ?_ | refine N_block ?_ | refine G_block ?_ | refine G_skip ?_ | refine G_cT ?_ | refine G_cF ?_ | refine G_ret ?_ | refine U_seq_ret ?_ | refine U_block_ret ?_ | refine U_nil ?_ | refine S_nil ?_ | refine S_auto ?_
    refine FQ_in (by first | exact .inr rfl | exact .inl rfl) (by first | exact ares1 (by simp only [at_put, at_none, n_put, reduceIte, Nat.reduceEqDiff, Nat.reduceLT, zq, *]; first | done | rfl) | exact ares2 (by simp only [at_put, at_none, n_put, reduceIte, Nat.reduceEqDiff, Nat.reduceLT, zq, *]; first | done | rfl) (by simp only [at_put, at_none, n_put, reduceIte, Nat.reduceEqDiff, Nat.reduceLT, zq, *]; first | done | rfl)) ?_
    rfl
end Go.Proofs.Yteffhomollmpdaa.AM.SX
