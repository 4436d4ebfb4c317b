import Derived.Test.YtffockklleanmaaSXA
import Derived.Test.YtffockklleanmaaSXR
/- The document's pool in the machine's memory; what only reads it. -/
namespace Go.Proofs.Ytffockklleanmaa.AM.SX
open Go
set_option linter.unusedVariables false
set_option linter.unusedSimpArgs false
set_option maxRecDepth 100000
set_option maxHeartbeats 4000000
attribute [local irreducible] astep0 aev awants abin abuild
structure HD where
  h : Int
  st : Int
  since : Int
  aim : ByteArray
def kH : Enc HD := ⟨4, fun x => [.int .i64 x.h, .int .i64 x.st, .int .i64 x.since, .string x.aim], fun _ => rfl, by decide, fun _ => rfl⟩
structure DP where
  most : Int
  last : Int
  rests : Int
  all : List HD
abbrev dv (d : DP) (sv : Value) : Value := .agg ⟨[.int .i64 d.most, .int .i64 d.last, .int .i64 d.rests, sv]⟩
/-- a document's pool: its value, the block of its row -/
def DPAt (h : AHeap) (d : DP) (sv : Value) (O : List Nat) : Prop := RowAt kH h d.all sv O ∧ ∀ i ∈ O, i < h.next
theorem F_between : EE.F.get 37 = some Try.f37 := by kernel_rfl
theorem F_dnew : EE.F.get 21 = some Try.f21 := by kernel_rfl
theorem F_dfind : EE.F.get 41 = some Try.f41 := by kernel_rfl
theorem F_dstate : EE.F.get 32 = some Try.f32 := by kernel_rfl
theorem F_daim : EE.F.get 34 = some Try.f34 := by kernel_rfl
theorem F_dwith : EE.F.get 38 = some Try.f38 := by kernel_rfl
theorem F_dshut : EE.F.get 28 = some Try.f28 := by kernel_rfl
theorem F_djoined : EE.F.get 24 = some Try.f24 := by kernel_rfl
theorem F_drest : EE.F.get 26 = some Try.f26 := by kernel_rfl
theorem F_dtake : EE.F.get 22 = some Try.f22 := by kernel_rfl
/-- the place of a handle, or -1 -/
inductive FindR (l : List HD) (k : Int) : Int → Prop where
  | none (hq : ∀ (q : Nat) (hq : q < l.length), l[q].h ≠ k) : FindR l k (-1)
  | some (i : Nat) (hi : i < l.length) (he : l[i].h = k) (hq : ∀ (q : Nat) (hq : q < l.length), q < i → l[q].h ≠ k) : FindR l k i
def dget (l : List HD) (k : Int) : Option HD := l.find? fun x => x.h == k
def dstate (l : List HD) (k : Int) : Int := match dget l k with | some x => x.st | none => 0
def daim (l : List HD) (k : Int) : ByteArray := match dget l k with | some x => x.aim | none => ⟨#[]⟩
theorem dget_none {l : List HD} {k : Int} (hq : ∀ (q : Nat) (hq : q < l.length), l[q].h ≠ k) : dget l k = none := by
  unfold dget
  rw [List.find?_eq_none]
  intro x hx
  obtain ⟨i, hi, rfl⟩ := List.mem_iff_getElem.1 hx
  simpa using hq i hi
theorem dget_some {l : List HD} {k : Int} {i : Nat} (hi : i < l.length) (he : l[i].h = k) (hq : ∀ (q : Nat) (hq : q < l.length), q < i → l[q].h ≠ k) : dget l k = some l[i] := by
  unfold dget
  rw [List.find?_eq_some_iff_getElem]
  exact ⟨by simpa using he, i, hi, rfl, fun j hj => by simpa using hq j (by omega) hj⟩
section
variable {n : Nat} {h : AHeap}
theorem between_spec (x lo hi : Int) : C EE (n + 1) 37 [.int .i64 x, .int .i64 lo, .int .i64 hi] h fun r h' => r = .int .i64 (if x < lo then lo else if hi < x then hi else x) ∧ h' = h := by
  refine C_in (E_X _) F_between rfl rfl rfl ?_
  intro a hn hat
  have e0 := hat 0 _ rfl
  have e1 := hat 1 _ rfl
  have e2 := hat 2 _ rfl
  replace hn : a.n = 16 := hn
  clear hat
  by_cases h1 : x < lo
  · repeat first | refine G_seq ?_ | refine G_reg ?_ | refine N_seq ?_ | refine N_block ?_ | refine G_block ?_ | refine G_skip ?_ | refine G_cT ?_ | refine G_cF ?_ | refine G_ret ?_ | refine U_seq_ret ?_ | refine U_block_ret ?_ | refine U_nil ?_ | refine S_nil ?_ | refine S_auto ?_
    refine FQ_in (by first | exact .inr rfl | exact .inl rfl) (by first | exact ares1 (by simp only [at_put, at_none, n_put, reduceIte, Nat.reduceEqDiff, Nat.reduceLT, zq, *]; first | done | rfl) | exact ares2 (by simp only [at_put, at_none, n_put, reduceIte, Nat.reduceEqDiff, Nat.reduceLT, zq, *]; first | done | rfl) (by simp only [at_put, at_none, n_put, reduceIte, Nat.reduceEqDiff, Nat.reduceLT, zq, *]; first | done | rfl)) ?_
    exact ⟨by rw [if_pos h1]; rfl, rfl⟩
  · by_cases h2 : hi < x
    · repeat first | refine G_seq ?_ | refine G_reg ?_ | refine N_seq ?_ | refine N_block ?_ | refine G_block ?_ | refine G_skip ?_ | refine G_cT ?_ | refine G_cF ?_ | refine G_ret ?_ | refine U_seq_ret ?_ | refine U_block_ret ?_ | refine U_nil ?_ | refine S_nil ?_ | refine S_auto ?_
      refine FQ_in (by first | exact .inr rfl | exact .inl rfl) (by first | exact ares1 (by simp only [at_put, at_none, n_put, reduceIte, Nat.reduceEqDiff, Nat.reduceLT, zq, *]; first | done | rfl) | exact ares2 (by simp only [at_put, at_none, n_put, reduceIte, Nat.reduceEqDiff, Nat.reduceLT, zq, *]; first | done | rfl) (by simp only [at_put, at_none, n_put, reduceIte, Nat.reduceEqDiff, Nat.reduceLT, zq, *]; first | done | rfl)) ?_
      exact ⟨by rw [if_neg h1, if_pos h2]; rfl, rfl⟩
    · repeat first | refine G_seq ?_ | refine G_reg ?_ | refine N_seq ?_ | refine N_block ?_ | refine G_block ?_ | refine G_skip ?_ | refine G_cT ?_ | refine G_cF ?_ | refine G_ret ?_ | refine U_seq_ret ?_ | refine U_block_ret ?_ | refine U_nil ?_ | refine S_nil ?_ | refine S_auto ?_
      refine FQ_in (by first | exact .inr rfl | exact .inl rfl) (by first | exact ares1 (by simp only [at_put, at_none, n_put, reduceIte, Nat.reduceEqDiff, Nat.reduceLT, zq, *]; first | done | rfl) | exact ares2 (by simp only [at_put, at_none, n_put, reduceIte, Nat.reduceEqDiff, Nat.reduceLT, zq, *]; first | done | rfl) (by simp only [at_put, at_none, n_put, reduceIte, Nat.reduceEqDiff, Nat.reduceLT, zq, *]; first | done | rfl)) ?_
      exact ⟨by rw [if_neg h1, if_neg h2]; rfl, rfl⟩
theorem dfind_spec {d : DP} {sv : Value} {O : List Nat} (hd : DPAt h d sv O) (hn : d.all.length + 2 ≤ n) (hl : d.all.length < 1000000) (k : Int) : C EE (n + 1) 41 [dv d sv, .int .i64 k] h fun r h' => ∃ i, r = .int .i64 i ∧ FindR d.all k i ∧ Keep h h' [] := by
  obtain ⟨mo, la, re, l⟩ := d
  obtain ⟨hv, hO⟩ := hd
  replace hv : RowAt kH h l sv O := hv
  replace hn : l.length + 2 ≤ n := hn
  replace hl : l.length < 1000000 := hl
  refine C_in (E_X _) F_dfind rfl rfl rfl ?_
  intro a hna hat
  have e0 := hat 0 _ rfl
  have e1 := hat 1 _ rfl
  replace hna : a.n = 22 := hna
  replace e0 : a.at 0 = .agg ⟨[.int .i64 mo, .int .i64 la, .int .i64 re, sv]⟩ := e0
  clear hat
  obtain ⟨A, c, rfl⟩ := hv.len
  repeat first | refine G_seq ?_ | refine G_reg ?_ | refine N_seq ?_ | refine N_block ?_ | refine G_block ?_ | refine G_skip ?_ | refine G_cT ?_ | refine G_cF ?_ | refine G_ret ?_ | refine U_seq_ret ?_ | refine U_block_ret ?_ | refine U_nil ?_ | refine S_nil ?_ | refine S_auto ?_
  refine G_loop (fun j a h' => ∃ i : Nat, i + j = l.length ∧ h' = h.new h.next (.cells [.int .i64 mo, .int .i64 la, .int .i64 re, .slice A l.length c] true) ∧ a.n = 22 ∧ a.at 1 = .int .i64 k ∧ a.at 2 = .pointer (some ⟨h.next, 0, none⟩) ∧ a.at 5 = .int .i64 (i : Int) ∧ ∀ (q : Nat) (hq : q < l.length), q < i → l[q].h ≠ k) l.length (by omega) ⟨0, by omega, rfl, by simp only [at_put, at_none, n_put, reduceIte, Nat.reduceEqDiff, Nat.reduceLT, zq, *]; first | done | rfl, by simp only [at_put, at_none, n_put, reduceIte, Nat.reduceEqDiff, Nat.reduceLT, zq, *]; first | done | rfl, by simp only [at_put, at_none, n_put, reduceIte, Nat.reduceEqDiff, Nat.reduceLT, zq, *]; first | done | rfl, by simp only [at_put, at_none, n_put, reduceIte, Nat.reduceEqDiff, Nat.reduceLT, zq, *]; first | done | rfl, fun q hq h0 => absurd h0 (Nat.not_lt_zero _)⟩ ?_
  clear e0 e1 hna a
  rintro j a h' ⟨i, hij, rfl, hna, e1, e2, e5, hq⟩
  have hv' : RowAt kH (h.new h.next (.cells [.int .i64 mo, .int .i64 la, .int .i64 re, .slice A l.length c] true)) l (.slice A l.length c) O := hv.keep fun i hi => get_new_ne (by have := hO i hi; omega)
  repeat first | refine G_seq ?_ | refine G_reg ?_ | refine N_seq ?_ | refine N_block ?_ | refine G_block ?_ | refine G_skip ?_ | refine G_cT ?_ | refine G_cF ?_ | refine G_ret ?_ | refine U_seq_ret ?_ | refine U_block_ret ?_ | refine U_nil ?_ | refine S_nil ?_ | refine S_auto ?_
  refine S_step wants0 (o_builtin (by simp only [List.map, aev_tmp, aev_const, aev_func, aev_global, at_put, at_none, n_put, reduceIte, Nat.reduceEqDiff, Nat.reduceLT, zq, *]; first | done | rfl) (hv'.lenB (TL rfl))) ?_
  by_cases hil : i < l.length
  · have hil' : (i : Int) < (l.length : Int) := by omega
    obtain ⟨bk, cs, g1, g2, _, _, g3⟩ := hv'.index (T := EE.T) (st := 59) (TL rfl) (TL rfl) ⟨rfl, rfl, by decide⟩ hil
    have g30 := g3 0 (by decide)
    clear g3
    repeat first | refine G_seq ?_ | refine G_reg ?_ | refine N_seq ?_ | refine N_block ?_ | refine G_block ?_ | refine G_skip ?_ | refine G_cT ?_ | refine G_cF ?_ | refine G_ret ?_ | refine U_seq_ret ?_ | refine U_block_ret ?_ | refine U_nil ?_ | refine S_nil ?_ | refine S_auto ?_
    refine S_step wants0 (o_indexAddr (by simp only [aev_tmp, aev_const, aev_func, aev_global, at_put, at_none, n_put, reduceIte, Nat.reduceEqDiff, Nat.reduceLT, zq, *]; first | done | rfl) (by simp only [aev_tmp, aev_const, aev_func, aev_global, at_put, at_none, n_put, reduceIte, Nat.reduceEqDiff, Nat.reduceLT, zq, *]; first | done | rfl) g1) ?_
    repeat first | refine G_seq ?_ | refine G_reg ?_ | refine N_seq ?_ | refine N_block ?_ | refine G_block ?_ | refine G_skip ?_ | refine G_cT ?_ | refine G_cF ?_ | refine G_ret ?_ | refine U_seq_ret ?_ | refine U_block_ret ?_ | refine U_nil ?_ | refine S_nil ?_ | refine S_auto ?_
    refine S_step wants0 (o_ld (by simp only [aev_tmp, aev_const, aev_func, aev_global, at_put, at_none, n_put, reduceIte, Nat.reduceEqDiff, Nat.reduceLT, zq, *]; first | done | rfl) (TL rfl) rfl (rd_cells g2) (g30.trans rfl)) ?_
    by_cases he : l[i].h = k
    · have hx := FindR.some i hil he hq
      clear g1 g2 g30 hq hv hv'
      repeat first | refine G_seq ?_ | refine G_reg ?_ | refine N_seq ?_ | refine N_block ?_ | refine G_block ?_ | refine G_skip ?_ | refine G_cT ?_ | refine G_cF ?_ | refine G_ret ?_ | refine U_seq_ret ?_ | refine U_block_ret ?_ | refine U_nil ?_ | refine S_nil ?_ | refine S_auto ?_
      refine LQ_ret ?_
      repeat first | refine G_seq ?_ | refine G_reg ?_ | refine N_seq ?_ | refine N_block ?_ | refine G_block ?_ | refine G_skip ?_ | refine G_cT ?_ | refine G_cF ?_ | refine G_ret ?_ | refine U_seq_ret ?_ | refine U_block_ret ?_ | refine U_nil ?_ | refine S_nil ?_ | refine S_auto ?_
      refine FQ_in (by first | exact .inr rfl | exact .inl rfl) (by first | exact ares1 (by simp only [at_put, at_none, n_put, reduceIte, Nat.reduceEqDiff, Nat.reduceLT, zq, *]; first | done | rfl) | exact ares2 (by simp only [at_put, at_none, n_put, reduceIte, Nat.reduceEqDiff, Nat.reduceLT, zq, *]; first | done | rfl) (by simp only [at_put, at_none, n_put, reduceIte, Nat.reduceEqDiff, Nat.reduceLT, zq, *]; first | done | rfl)) ?_
      exact ⟨_, rfl, hx, Keep.new _ _ _⟩
    · clear g1 g2 g30
      repeat first | refine G_seq ?_ | refine G_reg ?_ | refine N_seq ?_ | refine N_block ?_ | refine G_block ?_ | refine G_skip ?_ | refine G_cT ?_ | refine G_cF ?_ | refine G_ret ?_ | refine U_seq_ret ?_ | refine U_block_ret ?_ | refine U_nil ?_ | refine S_nil ?_ | refine S_auto ?_
      refine N_nil ?_
      refine LQ_n (j - 1) (by omega) ⟨i + 1, by omega, rfl, by simp only [at_put, at_none, n_put, reduceIte, Nat.reduceEqDiff, Nat.reduceLT, zq, *]; first | done | rfl, by simp only [at_put, at_none, n_put, reduceIte, Nat.reduceEqDiff, Nat.reduceLT, zq, *]; first | done | rfl, by simp only [at_put, at_none, n_put, reduceIte, Nat.reduceEqDiff, Nat.reduceLT, zq, *]; first | done | rfl, by simp only [at_put, at_none, n_put, reduceIte, Nat.reduceEqDiff, Nat.reduceLT, zq, *]; first | done | rfl, fun q hql hqi => ?_⟩
      rcases Nat.lt_or_ge q i with h1 | h1
      · exact hq q hql h1
      · obtain rfl : q = i := by omega
        exact he
  · have hil' : ¬ (i : Int) < (l.length : Int) := by omega
    have hx := FindR.none (fun q hql => hq q hql (by omega))
    clear hq
    repeat first | refine G_seq ?_ | refine G_reg ?_ | refine N_seq ?_ | refine N_block ?_ | refine G_block ?_ | refine G_skip ?_ | refine G_cT ?_ | refine G_cF ?_ | refine G_ret ?_ | refine U_seq_ret ?_ | refine U_block_ret ?_ | refine U_nil ?_ | refine S_nil ?_ | refine S_auto ?_
    refine G_exit ?_
    repeat first | refine U_seq_exit ?_ | refine U_nil ?_ | refine LQ_exit ?_ | refine U_block_hit ?_
    repeat first | refine G_seq ?_ | refine G_reg ?_ | refine N_seq ?_ | refine N_block ?_ | refine G_block ?_ | refine G_skip ?_ | refine G_cT ?_ | refine G_cF ?_ | refine G_ret ?_ | refine U_seq_ret ?_ | refine U_block_ret ?_ | refine U_nil ?_ | refine S_nil ?_ | refine S_auto ?_
    refine FQ_in (by first | exact .inr rfl | exact .inl rfl) (by first | exact ares1 (by simp only [at_put, at_none, n_put, reduceIte, Nat.reduceEqDiff, Nat.reduceLT, zq, *]; first | done | rfl) | exact ares2 (by simp only [at_put, at_none, n_put, reduceIte, Nat.reduceEqDiff, Nat.reduceLT, zq, *]; first | done | rfl) (by simp only [at_put, at_none, n_put, reduceIte, Nat.reduceEqDiff, Nat.reduceLT, zq, *]; first | done | rfl)) ?_
    exact ⟨_, rfl, hx, Keep.new _ _ _⟩
theorem DPAt.keep {h h' : AHeap} {d : DP} {sv : Value} {O : List Nat} (hd : DPAt h d sv O) (hk : Keep h h' []) : DPAt h' d sv O :=
  ⟨hd.1.keep fun i hi => hk.2 i (hd.2 i hi) (by simp), fun i hi => Nat.lt_of_lt_of_le (hd.2 i hi) hk.1⟩
theorem dstate_spec {d : DP} {sv : Value} {O : List Nat} (hd : DPAt h d sv O) (hn : d.all.length + 2 ≤ n) (hl : d.all.length < 1000000) (k : Int) : C EE (n + 2) 32 [dv d sv, .int .i64 k] h fun r h' => r = .int .i64 (dstate d.all k) ∧ Keep h h' [] := by
  obtain ⟨mo, la, re, l⟩ := d
  obtain ⟨A, c, rfl⟩ := hd.1.len
  refine C_in (E_X _) F_dstate rfl rfl rfl ?_
  intro a hna hat
  have e0 := hat 0 _ rfl
  have e1 := hat 1 _ rfl
  replace hna : a.n = 17 := hna
  replace e0 : a.at 0 = .agg ⟨[.int .i64 mo, .int .i64 la, .int .i64 re, .slice A l.length c]⟩ := e0
  clear hat
  repeat first | refine G_seq ?_ | refine G_reg ?_ | refine N_seq ?_ | refine N_block ?_ | refine G_block ?_ | refine G_skip ?_ | refine G_cT ?_ | refine G_cF ?_ | refine G_ret ?_ | refine U_seq_ret ?_ | refine U_block_ret ?_ | refine U_nil ?_ | refine S_nil ?_ | refine S_auto ?_
  have hd1 := hd.keep (Keep.new h (.cells [.int .i64 mo, .int .i64 la, .int .i64 re, .slice A l.length c] true) [])
  have hb1 : (h.new h.next (.cells [.int .i64 mo, .int .i64 la, .int .i64 re, .slice A l.length c] true)).get h.next = some (.cells [.int .i64 mo, .int .i64 la, .int .i64 re, .slice A l.length c] true) := get_new_self _ _ _
  refine S_call wants0 (by simp only [aev_tmp, aev_const, aev_func, aev_global, at_put, at_none, n_put, reduceIte, Nat.reduceEqDiff, Nat.reduceLT, zq, *]; first | done | rfl) (E_Y _) (by simp only [List.map, aev_tmp, aev_const, aev_func, aev_global, at_put, at_none, n_put, reduceIte, Nat.reduceEqDiff, Nat.reduceLT, zq, *]; first | done | rfl) ?_
  refine (dfind_spec hd1 hn hl k).mono ?_
  rintro r h2 ⟨fi, rfl, hf, hk⟩
  have hb2 := (hk.2 h.next (by rw [next_new_self]; omega) (by simp)).trans hb1
  have hkk : Keep h h2 [] := (Keep.new h _ []).trans hk (fun i hi => .inl hi)
  have hd2 := (hd1.keep hk).1
  replace hd2 : RowAt kH h2 l (.slice A l.length c) O := hd2
  clear hb1 hk hd1 hd hn hl
  cases hf with
  | none hq =>
    have hg := dget_none hq
    have c1 : ((-1 : Int) < 0) = True := by decide
    clear hd2 hq
    repeat first | refine G_seq ?_ | refine G_reg ?_ | refine N_seq ?_ | refine N_block ?_ | refine G_block ?_ | refine G_skip ?_ | refine G_cT ?_ | refine G_cF ?_ | refine G_ret ?_ | refine U_seq_ret ?_ | refine U_block_ret ?_ | refine U_nil ?_ | refine S_nil ?_ | refine S_auto ?_
    refine FQ_in (by first | exact .inr rfl | exact .inl rfl) (by first | exact ares1 (by simp only [at_put, at_none, n_put, reduceIte, Nat.reduceEqDiff, Nat.reduceLT, zq, *]; first | done | rfl) | exact ares2 (by simp only [at_put, at_none, n_put, reduceIte, Nat.reduceEqDiff, Nat.reduceLT, zq, *]; first | done | rfl) (by simp only [at_put, at_none, n_put, reduceIte, Nat.reduceEqDiff, Nat.reduceLT, zq, *]; first | done | rfl)) ?_
    exact ⟨by unfold dstate; rw [hg]; rfl, hkk⟩
  | some i hi he hq =>
    have hg := dget_some hi he hq
    have c1 : ((i : Int) < 0) = False := by simp
    obtain ⟨bk, cs, g1, g2, _, _, g3⟩ := hd2.index (T := EE.T) (st := 59) (TL rfl) (TL rfl) ⟨rfl, rfl, by decide⟩ hi
    have g31 := g3 1 (by decide)
    clear hd2 hq g3
    repeat first | refine G_seq ?_ | refine G_reg ?_ | refine N_seq ?_ | refine N_block ?_ | refine G_block ?_ | refine G_skip ?_ | refine G_cT ?_ | refine G_cF ?_ | refine G_ret ?_ | refine U_seq_ret ?_ | refine U_block_ret ?_ | refine U_nil ?_ | refine S_nil ?_ | refine S_auto ?_
    refine S_step wants0 (o_indexAddr (by simp only [aev_tmp, aev_const, aev_func, aev_global, at_put, at_none, n_put, reduceIte, Nat.reduceEqDiff, Nat.reduceLT, zq, *]; first | done | rfl) (by simp only [aev_tmp, aev_const, aev_func, aev_global, at_put, at_none, n_put, reduceIte, Nat.reduceEqDiff, Nat.reduceLT, zq, *]; first | done | rfl) g1) ?_
    repeat first | refine G_seq ?_ | refine G_reg ?_ | refine N_seq ?_ | refine N_block ?_ | refine G_block ?_ | refine G_skip ?_ | refine G_cT ?_ | refine G_cF ?_ | refine G_ret ?_ | refine U_seq_ret ?_ | refine U_block_ret ?_ | refine U_nil ?_ | refine S_nil ?_ | refine S_auto ?_
    refine S_step wants0 (o_ld (by simp only [aev_tmp, aev_const, aev_func, aev_global, at_put, at_none, n_put, reduceIte, Nat.reduceEqDiff, Nat.reduceLT, zq, *]; first | done | rfl) (TL rfl) rfl (rd_cells g2) (g31.trans rfl)) ?_
    clear g1 g2 g31
    repeat first | refine G_seq ?_ | refine G_reg ?_ | refine N_seq ?_ | refine N_block ?_ | refine G_block ?_ | refine G_skip ?_ | refine G_cT ?_ | refine G_cF ?_ | refine G_ret ?_ | refine U_seq_ret ?_ | refine U_block_ret ?_ | refine U_nil ?_ | refine S_nil ?_ | refine S_auto ?_
    refine FQ_in (by first | exact .inr rfl | exact .inl rfl) (by first | exact ares1 (by simp only [at_put, at_none, n_put, reduceIte, Nat.reduceEqDiff, Nat.reduceLT, zq, *]; first | done | rfl) | exact ares2 (by simp only [at_put, at_none, n_put, reduceIte, Nat.reduceEqDiff, Nat.reduceLT, zq, *]; first | done | rfl) (by simp only [at_put, at_none, n_put, reduceIte, Nat.reduceEqDiff, Nat.reduceLT, zq, *]; first | done | rfl)) ?_
    exact ⟨by unfold dstate; rw [hg]; rfl, hkk⟩
theorem daim_spec {d : DP} {sv : Value} {O : List Nat} (hd : DPAt h d sv O) (hn : d.all.length + 2 ≤ n) (hl : d.all.length < 1000000) (k : Int) : C EE (n + 2) 34 [dv d sv, .int .i64 k] h fun r h' => r = .string (daim d.all k) ∧ Keep h h' [] := by
  obtain ⟨mo, la, re, l⟩ := d
  obtain ⟨A, c, rfl⟩ := hd.1.len
  refine C_in (E_X _) F_daim rfl rfl rfl ?_
  intro a hna hat
  have e0 := hat 0 _ rfl
  have e1 := hat 1 _ rfl
  replace hna : a.n = 17 := hna
  replace e0 : a.at 0 = .agg ⟨[.int .i64 mo, .int .i64 la, .int .i64 re, .slice A l.length c]⟩ := e0
  clear hat
  repeat first | refine G_seq ?_ | refine G_reg ?_ | refine N_seq ?_ | refine N_block ?_ | refine G_block ?_ | refine G_skip ?_ | refine G_cT ?_ | refine G_cF ?_ | refine G_ret ?_ | refine U_seq_ret ?_ | refine U_block_ret ?_ | refine U_nil ?_ | refine S_nil ?_ | refine S_auto ?_
  have hd1 := hd.keep (Keep.new h (.cells [.int .i64 mo, .int .i64 la, .int .i64 re, .slice A l.length c] true) [])
  have hb1 : (h.new h.next (.cells [.int .i64 mo, .int .i64 la, .int .i64 re, .slice A l.length c] true)).get h.next = some (.cells [.int .i64 mo, .int .i64 la, .int .i64 re, .slice A l.length c] true) := get_new_self _ _ _
  refine S_call wants0 (by simp only [aev_tmp, aev_const, aev_func, aev_global, at_put, at_none, n_put, reduceIte, Nat.reduceEqDiff, Nat.reduceLT, zq, *]; first | done | rfl) (E_Y _) (by simp only [List.map, aev_tmp, aev_const, aev_func, aev_global, at_put, at_none, n_put, reduceIte, Nat.reduceEqDiff, Nat.reduceLT, zq, *]; first | done | rfl) ?_
  refine (dfind_spec hd1 hn hl k).mono ?_
  rintro r h2 ⟨fi, rfl, hf, hk⟩
  have hb2 := (hk.2 h.next (by rw [next_new_self]; omega) (by simp)).trans hb1
  have hkk : Keep h h2 [] := (Keep.new h _ []).trans hk (fun i hi => .inl hi)
  have hd2 := (hd1.keep hk).1
  replace hd2 : RowAt kH h2 l (.slice A l.length c) O := hd2
  clear hb1 hk hd1 hd hn hl
  cases hf with
  | none hq =>
    have hg := dget_none hq
    have c1 : ((-1 : Int) < 0) = True := by decide
    clear hd2 hq
    repeat first | refine G_seq ?_ | refine G_reg ?_ | refine N_seq ?_ | refine N_block ?_ | refine G_block ?_ | refine G_skip ?_ | refine G_cT ?_ | refine G_cF ?_ | refine G_ret ?_ | refine U_seq_ret ?_ | refine U_block_ret ?_ | refine U_nil ?_ | refine S_nil ?_ | refine S_auto ?_
    refine FQ_in (by first | exact .inr rfl | exact .inl rfl) (by first | exact ares1 (by simp only [at_put, at_none, n_put, reduceIte, Nat.reduceEqDiff, Nat.reduceLT, zq, *]; first | done | rfl) | exact ares2 (by simp only [at_put, at_none, n_put, reduceIte, Nat.reduceEqDiff, Nat.reduceLT, zq, *]; first | done | rfl) (by simp only [at_put, at_none, n_put, reduceIte, Nat.reduceEqDiff, Nat.reduceLT, zq, *]; first | done | rfl)) ?_
    exact ⟨by unfold daim; rw [hg]; rfl, hkk⟩
  | some i hi he hq =>
    have hg := dget_some hi he hq
    have c1 : ((i : Int) < 0) = False := by simp
    obtain ⟨bk, cs, g1, g2, _, _, g3⟩ := hd2.index (T := EE.T) (st := 59) (TL rfl) (TL rfl) ⟨rfl, rfl, by decide⟩ hi
    have g31 := g3 3 (by decide)
    clear hd2 hq g3
    repeat first | refine G_seq ?_ | refine G_reg ?_ | refine N_seq ?_ | refine N_block ?_ | refine G_block ?_ | refine G_skip ?_ | refine G_cT ?_ | refine G_cF ?_ | refine G_ret ?_ | refine U_seq_ret ?_ | refine U_block_ret ?_ | refine U_nil ?_ | refine S_nil ?_ | refine S_auto ?_
    refine S_step wants0 (o_indexAddr (by simp only [aev_tmp, aev_const, aev_func, aev_global, at_put, at_none, n_put, reduceIte, Nat.reduceEqDiff, Nat.reduceLT, zq, *]; first | done | rfl) (by simp only [aev_tmp, aev_const, aev_func, aev_global, at_put, at_none, n_put, reduceIte, Nat.reduceEqDiff, Nat.reduceLT, zq, *]; first | done | rfl) g1) ?_
    repeat first | refine G_seq ?_ | refine G_reg ?_ | refine N_seq ?_ | refine N_block ?_ | refine G_block ?_ | refine G_skip ?_ | refine G_cT ?_ | refine G_cF ?_ | refine G_ret ?_ | refine U_seq_ret ?_ | refine U_block_ret ?_ | refine U_nil ?_ | refine S_nil ?_ | refine S_auto ?_
    refine S_step wants0 (o_ld (by simp only [aev_tmp, aev_const, aev_func, aev_global, at_put, at_none, n_put, reduceIte, Nat.reduceEqDiff, Nat.reduceLT, zq, *]; first | done | rfl) (TL rfl) rfl (rd_cells g2) (g31.trans rfl)) ?_
    clear g1 g2 g31
    repeat first | refine G_seq ?_ | refine G_reg ?_ | refine N_seq ?_ | refine N_block ?_ | refine G_block ?_ | refine G_skip ?_ | refine G_cT ?_ | refine G_cF ?_ | refine G_ret ?_ | refine U_seq_ret ?_ | refine U_block_ret ?_ | refine U_nil ?_ | refine S_nil ?_ | refine S_auto ?_
    refine FQ_in (by first | exact .inr rfl | exact .inl rfl) (by first | exact ares1 (by simp only [at_put, at_none, n_put, reduceIte, Nat.reduceEqDiff, Nat.reduceLT, zq, *]; first | done | rfl) | exact ares2 (by simp only [at_put, at_none, n_put, reduceIte, Nat.reduceEqDiff, Nat.reduceLT, zq, *]; first | done | rfl) (by simp only [at_put, at_none, n_put, reduceIte, Nat.reduceEqDiff, Nat.reduceLT, zq, *]; first | done | rfl)) ?_
    exact ⟨by unfold daim; rw [hg]; rfl, hkk⟩
end
end Go.Proofs.Ytffockklleanmaa.AM.SX

/- The document's pool: with, Shut, New. -/
namespace Go.Proofs.Ytffockklleanmaa.AM.SX
open Go
set_option linter.unusedVariables false
set_option linter.unusedSimpArgs false
set_option maxRecDepth 100000
set_option maxHeartbeats 4000000
attribute [local irreducible] astep0 aev awants abin abuild
def withI (x : HD) (l : List HD) : List HD := l.map fun y => if y.h = x.h then x else y
def hasH (k : Int) (l : List HD) : Bool := l.any fun y => decide (y.h = k)
def withF (x : HD) (l : List HD) : List HD := if hasH x.h l = true then withI x l else withI x l ++ [x]
theorem withI_len (x : HD) (l : List HD) : (withI x l).length = l.length := by simp [withI]
theorem withI_take {x : HD} {l : List HD} {i : Nat} (hi : i < l.length) : withI x (l.take (i + 1)) = withI x (l.take i) ++ [if l[i].h = x.h then x else l[i]] := by
  unfold withI; rw [List.take_succ_eq_append_getElem hi, List.map_append]; rfl
theorem hasH_take {k : Int} {l : List HD} {i : Nat} (hi : i < l.length) : hasH k (l.take (i + 1)) = (hasH k (l.take i) || decide (l[i].h = k)) := by
  unfold hasH; rw [List.take_succ_eq_append_getElem hi, List.any_append]; simp
theorem Keep.fresh {h h' h'' : AHeap} {O : List Nat} (k : Keep h h' []) (k' : Keep h' h'' O) (ho : ∀ i ∈ O, h.next ≤ i) : Keep h h'' [] := k.trans k' fun i hi => .inr (ho i hi)
section
variable {n : Nat} {h : AHeap}
theorem dnew_spec (most : Int) : C EE (n + 2) 21 [.int .i64 most] h fun r h' => r = dv ⟨min (max most 0) 64, 0, 0, []⟩ (.slice none 0 0) ∧ Keep h h' [] := by
  refine C_in (E_X _) F_dnew rfl rfl rfl ?_
  intro a hna hat
  have e0 := hat 0 _ rfl
  replace hna : a.n = 6 := hna
  clear hat
  repeat first | refine G_seq ?_ | refine G_reg ?_ | refine N_seq ?_ | refine N_block ?_ | refine G_block ?_ | refine G_skip ?_ | refine G_cT ?_ | refine G_cF ?_ | refine G_ret ?_ | refine U_seq_ret ?_ | refine U_block_ret ?_ | refine U_nil ?_ | refine S_nil ?_ | refine S_auto ?_
  refine S_call wants0 (by simp only [aev_tmp, aev_const, aev_func, aev_global, at_put, at_none, n_put, reduceIte, Nat.reduceEqDiff, Nat.reduceLT, zq, *]; first | done | rfl) (E_Y _) (by simp only [List.map, aev_tmp, aev_const, aev_func, aev_global, at_put, at_none, n_put, reduceIte, Nat.reduceEqDiff, Nat.reduceLT, zq, *]; first | done | rfl) ?_
  refine (between_spec most 0 64).mono ?_
  rintro r h2 ⟨rfl, rfl⟩
  repeat first | refine G_seq ?_ | refine G_reg ?_ | refine N_seq ?_ | refine N_block ?_ | refine G_block ?_ | refine G_skip ?_ | refine G_cT ?_ | refine G_cF ?_ | refine G_ret ?_ | refine U_seq_ret ?_ | refine U_block_ret ?_ | refine U_nil ?_ | refine S_nil ?_ | refine S_auto ?_
  refine FQ_in (by first | exact .inr rfl | exact .inl rfl) (aresC1 (by simp only [at_put, at_none, n_put, reduceIte, Nat.reduceEqDiff, Nat.reduceLT, zq, *]; first | done | rfl) (ldA (TL rfl) rfl (rd_cells (by simp (disch := omega) only [get_set_self, get_new_self, get_set_ne, get_new_ne, get_bump, next_set, next_new, Nat.lt_irrefl, reduceIte, next_kill, next_bump, *]; first | done | rfl)) rfl)) ?_
  refine ⟨?_, ⟨by simp only [next_set, next_new, Nat.lt_irrefl, reduceIte]; omega, fun i hi _ => by simp (disch := omega) only [get_set_self, get_new_self, get_set_ne, get_new_ne, get_bump, next_set, next_new, Nat.lt_irrefl, reduceIte, next_kill, next_bump, *]; first | done | rfl⟩⟩
  rw [show (if most < 0 then 0 else if 64 < most then 64 else most) = min (max most 0) 64 by split; omega; split <;> omega]
  rfl
theorem dwith_spec {d : DP} {sv : Value} {O : List Nat} (hd : DPAt h d sv O) (hn : d.all.length + 2 ≤ n) (hl : d.all.length < 1000000) (x : HD) : C EE (n + 1) 38 [dv d sv, .agg ⟨kH.enc x⟩] h fun r h' => ∃ sv' O', r = dv { d with all := withF x d.all } sv' ∧ DPAt h' { d with all := withF x d.all } sv' O' ∧ Keep h h' [] ∧ ∀ i ∈ O', h.next ≤ i := by
  obtain ⟨mo, la, re, l⟩ := d
  obtain ⟨xh, xs, xc, xa⟩ := x
  obtain ⟨A, c, rfl⟩ := hd.1.len
  obtain ⟨hv, hO⟩ := hd
  replace hv : RowAt kH h l (.slice A l.length c) O := hv
  replace hn : l.length + 2 ≤ n := hn
  replace hl : l.length < 1000000 := hl
  refine C_in (E_X _) F_dwith rfl rfl rfl ?_
  intro a hna hat
  have e0 := hat 0 _ rfl
  have e1 := hat 1 _ rfl
  replace hna : a.n = 46 := hna
  replace e0 : a.at 0 = .agg ⟨[.int .i64 mo, .int .i64 la, .int .i64 re, .slice A l.length c]⟩ := e0
  replace e1 : a.at 1 = .agg ⟨[.int .i64 xh, .int .i64 xs, .int .i64 xc, .string xa]⟩ := e1
  clear hat
  repeat first | refine G_seq ?_ | refine G_reg ?_ | refine N_seq ?_ | refine N_block ?_ | refine G_block ?_ | refine G_skip ?_ | refine G_cT ?_ | refine G_cF ?_ | refine G_ret ?_ | refine U_seq_ret ?_ | refine U_block_ret ?_ | refine U_nil ?_ | refine S_nil ?_ | refine S_auto ?_
  refine S_step wants0 (o_buildSlice (by simp only [List.map, aev_tmp, aev_const, aev_func, aev_global, at_put, at_none, n_put, reduceIte, Nat.reduceEqDiff, Nat.reduceLT, zq, *]; first | done | rfl) (bs_row0 (K := kH) (TL rfl) (TL rfl) ⟨rfl, rfl, by decide⟩)) ?_
  repeat first | refine G_seq ?_ | refine G_reg ?_ | refine N_seq ?_ | refine N_block ?_ | refine G_block ?_ | refine G_skip ?_ | refine G_cT ?_ | refine G_cF ?_ | refine G_ret ?_ | refine U_seq_ret ?_ | refine U_block_ret ?_ | refine U_nil ?_ | refine S_nil ?_ | refine S_auto ?_
  refine G_loop (fun j a h' => ∃ (i : Nat) (rv : Value) (O' : List Nat), i + j = l.length ∧ a.n = 46 ∧ a.at 2 = .pointer (some ⟨h.next, 0, none⟩) ∧ a.at 3 = .pointer (some ⟨h.next + 1, 0, none⟩) ∧ a.at 4 = .pointer (some ⟨h.next + 2, 0, none⟩) ∧ a.at 5 = rv ∧ a.at 6 = .bool (hasH xh (l.take i)) ∧ a.at 7 = .int .i64 (i : Int) ∧ RowAt kH h' (withI ⟨xh, xs, xc, xa⟩ (l.take i)) rv O' ∧ (∀ q ∈ O', h.next + 3 ≤ q ∧ q < h'.next) ∧ Keep h h' [] ∧ h.next + 3 ≤ h'.next ∧ h'.get h.next = some (.cells [.int .i64 mo, .int .i64 la, .int .i64 re, .slice A l.length c] true) ∧ h'.get (h.next + 1) = some (.cells [.int .i64 xh, .int .i64 xs, .int .i64 xc, .string xa] true) ∧ ∃ r1 r2 r3 r4, h'.get (h.next + 2) = some (.cells [r1, r2, r3, r4] true)) l.length (by omega) ⟨0, .slice (some ⟨h.next + 3, 0, none⟩) 0 0, [h.next + 3], by omega, by simp only [at_put, at_none, n_put, reduceIte, Nat.reduceEqDiff, Nat.reduceLT, zq, *]; first | done | rfl, by simp (disch := omega) only [at_put, at_none, n_put, reduceIte, Nat.reduceEqDiff, Nat.reduceLT, get_set_self, get_new_self, get_set_ne, get_new_ne, get_bump, next_set, next_new, Nat.lt_irrefl, next_kill, next_bump, cond_true, cond_false, *]; first | done | rfl, by simp (disch := omega) only [at_put, at_none, n_put, reduceIte, Nat.reduceEqDiff, Nat.reduceLT, get_set_self, get_new_self, get_set_ne, get_new_ne, get_bump, next_set, next_new, Nat.lt_irrefl, next_kill, next_bump, cond_true, cond_false, *]; first | done | rfl, by simp (disch := omega) only [at_put, at_none, n_put, reduceIte, Nat.reduceEqDiff, Nat.reduceLT, get_set_self, get_new_self, get_set_ne, get_new_ne, get_bump, next_set, next_new, Nat.lt_irrefl, next_kill, next_bump, cond_true, cond_false, *]; first | done | rfl, by simp (disch := omega) only [at_put, at_none, n_put, reduceIte, Nat.reduceEqDiff, Nat.reduceLT, get_set_self, get_new_self, get_set_ne, get_new_ne, get_bump, next_set, next_new, Nat.lt_irrefl, next_kill, next_bump, cond_true, cond_false, *]; first | done | rfl, by simp only [at_put, at_none, n_put, reduceIte, Nat.reduceEqDiff, Nat.reduceLT, zq, *]; first | done | rfl, by simp only [at_put, at_none, n_put, reduceIte, Nat.reduceEqDiff, Nat.reduceLT, zq, *]; first | done | rfl, row0 (by simp (disch := omega) only [get_set_self, get_new_self, get_set_ne, get_new_ne, get_bump, next_set, next_new, Nat.lt_irrefl, reduceIte, next_kill, next_bump, *]; first | done | rfl), ?_, ⟨?_, fun i hi _ => by simp (disch := omega) only [get_set_self, get_new_self, get_set_ne, get_new_ne, get_bump, next_set, next_new, Nat.lt_irrefl, reduceIte, next_kill, next_bump, *]; first | done | rfl⟩, ?_, by simp (disch := omega) only [get_set_self, get_new_self, get_set_ne, get_new_ne, get_bump, next_set, next_new, Nat.lt_irrefl, reduceIte, next_kill, next_bump, *]; first | done | rfl, by simp (disch := omega) only [get_set_self, get_new_self, get_set_ne, get_new_ne, get_bump, next_set, next_new, Nat.lt_irrefl, reduceIte, next_kill, next_bump, *]; first | done | rfl, _, _, _, _, by simp (disch := omega) only [get_set_self, get_new_self, get_set_ne, get_new_ne, get_bump, next_set, next_new, Nat.lt_irrefl, reduceIte, next_kill, next_bump, *]; first | done | rfl⟩ ?_
  · intro q hq; simp only [List.mem_singleton] at hq; subst hq; simp only [next_new, Nat.lt_irrefl, reduceIte]; omega
  · simp only [next_new, Nat.lt_irrefl, reduceIte]; omega
  · simp only [next_new, Nat.lt_irrefl, reduceIte]; omega
  clear e0 e1 hna a
  rintro j a h' ⟨i, rv, O', hij, hna, e2, e3, e4, e5, e6, e7, hrow, hO', hk, hnx, gp, gx, r1, r2, r3, r4, gr⟩
  have hv' : RowAt kH h' l (.slice A l.length c) O := hv.keep fun i hi => hk.2 i (hO i hi) (by simp)
  have hrl : (withI ⟨xh, xs, xc, xa⟩ (l.take i)).length ≤ l.length := by rw [withI_len]; simp; omega
  repeat first | refine G_seq ?_ | refine G_reg ?_ | refine N_seq ?_ | refine N_block ?_ | refine G_block ?_ | refine G_skip ?_ | refine G_cT ?_ | refine G_cF ?_ | refine G_ret ?_ | refine U_seq_ret ?_ | refine U_block_ret ?_ | refine U_nil ?_ | refine S_nil ?_ | refine S_auto ?_
  refine S_step wants0 (o_builtin (by simp only [List.map, aev_tmp, aev_const, aev_func, aev_global, at_put, at_none, n_put, reduceIte, Nat.reduceEqDiff, Nat.reduceLT, zq, *]; first | done | rfl) (hv'.lenB (TL rfl))) ?_
  by_cases hil : i < l.length
  · have hil' : (i : Int) < (l.length : Int) := by omega
    have hwt := withI_take (x := ⟨xh, xs, xc, xa⟩) hil
    have hht := hasH_take (k := xh) hil
    have hvq : veq (.slice A l.length c) (.slice A l.length c) = true := hv'.veq
    obtain ⟨bk, cs, g1, g2, gm, gc, g3⟩ := hv'.index (T := EE.T) (st := 59) (TL rfl) (TL rfl) ⟨rfl, rfl, by decide⟩ hil
    have hbk : bk < h'.next := Nat.lt_of_lt_of_le (hO bk gm) hk.1
    have g30 := g3 0 (by decide)
    clear g3
    repeat first | refine G_seq ?_ | refine G_reg ?_ | refine N_seq ?_ | refine N_block ?_ | refine G_block ?_ | refine G_skip ?_ | refine G_cT ?_ | refine G_cF ?_ | refine G_ret ?_ | refine U_seq_ret ?_ | refine U_block_ret ?_ | refine U_nil ?_ | refine S_nil ?_ | refine S_auto ?_
    refine G_draw [] [] (by kernel_rfl) ?_
    repeat first | refine D1_nil0 ?_ | refine D2_nil ?_ | refine D_pure ?_ | refine D_rd ?_ | refine D2_pure' ?_
    refine D1_pure wants0 rfl rfl (fun _ _ => o_indexAddr (by simp only [aev_tmp, aev_const, aev_func, aev_global, at_put, at_none, n_put, reduceIte, Nat.reduceEqDiff, Nat.reduceLT, zq, *]; first | done | rfl) (by simp only [aev_tmp, aev_const, aev_func, aev_global, at_put, at_none, n_put, reduceIte, Nat.reduceEqDiff, Nat.reduceLT, zq, *]; first | done | rfl) g1) ?_
    repeat first | refine D1_nil0 ?_ | refine D2_nil ?_ | refine D_pure ?_ | refine D_rd ?_ | refine D2_pure' ?_
    refine D1_rd wants0 rfl rfl (fun _ => o_ld (by simp only [aev_tmp, aev_const, aev_func, aev_global, at_put, at_none, n_put, reduceIte, Nat.reduceEqDiff, Nat.reduceLT, zq, *]; first | done | rfl) (TL rfl) rfl (rd_cells (by simp (disch := omega) only [get_set_self, get_new_self, get_set_ne, get_new_ne, get_bump, next_set, next_new, Nat.lt_irrefl, reduceIte, next_kill, next_bump, *]; first | done | rfl)) (g30.trans rfl)) (by first | exact veq_self rfl | assumption) ?_
    repeat first | refine D1_nil0 ?_ | refine D2_nil ?_ | refine D_pure ?_ | refine D_rd ?_ | refine D2_pure' ?_
    by_cases he : l[i].h = xh
    · have e9 : (if l[i].h = (⟨xh, xs, xc, xa⟩ : HD).h then (⟨xh, xs, xc, xa⟩ : HD) else l[i]) = ⟨xh, xs, xc, xa⟩ := if_pos he
      rw [e9] at hwt
      have e10 : decide (l[i].h = xh) = true := by simpa using he
      rw [e10, Bool.or_true] at hht
      clear g1 g2 g30 e9 e10 hv'
      obtain ⟨v2, h3, O3, q1, q2, q3, q4, q5⟩ := app_row (K := kH) (T := EE.T) (h := (bump h' 9).new (h'.next + 9) (.cells (kH.enc ⟨xh, xs, xc, xa⟩) true)) (st := 59) (xt := 59) (news := [(⟨xh, xs, xc, xa⟩ : HD)]) (x := .slice (some ⟨h'.next + 9, 0, none⟩) 1 1) (TL rfl) (TL rfl) ⟨rfl, rfl, by decide⟩ (TL rfl) (hrow.keep fun q hq => by have := hO' q hq; simp (disch := omega) only [get_set_self, get_new_self, get_set_ne, get_new_ne, get_bump, next_set, next_new, Nat.lt_irrefl, reduceIte, next_kill, next_bump, *]; first | done | rfl) (by simp) (src_row1 (by simp (disch := omega) only [get_set_self, get_new_self, get_set_ne, get_new_ne, get_bump, next_set, next_new, Nat.lt_irrefl, reduceIte, next_kill, next_bump, *]; first | done | rfl)) (by rw [withI_len]; simp; omega) (fun q hq => by have := hO' q hq; simp only [next_new, next_bump, Nat.lt_irrefl, reduceIte]; omega)
      have hK : Keep h' h3 O' := ⟨by have := q3.1; simp only [next_new, next_bump, Nat.lt_irrefl, reduceIte] at this; omega, fun q hq hn => by rw [q3.2 q (by simp only [next_new, next_bump, Nat.lt_irrefl, reduceIte]; omega) hn]; simp (disch := omega) only [get_set_self, get_new_self, get_set_ne, get_new_ne, get_bump, next_set, next_new, Nat.lt_irrefl, reduceIte, next_kill, next_bump, *]; first | done | rfl⟩
      have hnn : ∀ q, q < h.next + 3 → q ∉ O' := fun q hq hm => by have := hO' q hm; omega
      have gp3 := (hK.2 h.next (by omega) (hnn _ (by omega))).trans gp
      have gx3 := (hK.2 (h.next + 1) (by omega) (hnn _ (by omega))).trans gx
      have gr3 := (hK.2 (h.next + 2) (by omega) (hnn _ (by omega))).trans gr
      have hO3 : ∀ q ∈ O3, h.next + 3 ≤ q ∧ q < h3.next := fun q hq => ⟨by
        rcases q4 with rfl | rfl
        · exact (hO' q hq).1
        · simp only [List.mem_singleton, next_new, next_bump, Nat.lt_irrefl, reduceIte] at hq; omega, q5 q hq⟩
      have hk3 : Keep h h3 [] := hk.fresh hK fun q hq => by have := hO' q hq; omega
      have hnx3 : h.next + 3 ≤ h3.next := Nat.le_trans hnx hK.1
      rw [← hwt] at q2
      clear hrow q3 q4 q5 hK hnn hk hO'
      repeat first | refine G_seq ?_ | refine G_reg ?_ | refine N_seq ?_ | refine N_block ?_ | refine G_block ?_ | refine G_skip ?_ | refine G_cT ?_ | refine G_cF ?_ | refine G_ret ?_ | refine U_seq_ret ?_ | refine U_block_ret ?_ | refine U_nil ?_ | refine S_nil ?_ | refine S_auto ?_
      refine S_step wants0 (o_buildSlice (by simp only [List.map, aev_tmp, aev_const, aev_func, aev_global, at_put, at_none, n_put, reduceIte, Nat.reduceEqDiff, Nat.reduceLT, zq, *]; first | done | rfl) (bs_row1 (K := kH) (x := ⟨xh, xs, xc, xa⟩) (TL rfl) (TL rfl) ⟨rfl, rfl, by decide⟩ (by decide) rfl)) ?_
      refine S_step wants0 (o_builtin (by simp only [List.map, aev_tmp, aev_const, aev_func, aev_global, at_put, at_none, n_put, reduceIte, Nat.reduceEqDiff, Nat.reduceLT, zq, *]; first | done | rfl) (bi_app q1)) ?_
      clear q1 gp gx gr
      repeat first | refine G_seq ?_ | refine G_reg ?_ | refine N_seq ?_ | refine N_block ?_ | refine G_block ?_ | refine G_skip ?_ | refine G_cT ?_ | refine G_cF ?_ | refine G_ret ?_ | refine U_seq_ret ?_ | refine U_block_ret ?_ | refine U_nil ?_ | refine S_nil ?_ | refine S_auto ?_
      refine N_nil ?_
      exact LQ_n (j - 1) (by omega) ⟨i + 1, _, O3, by omega, by simp only [at_put, at_none, n_put, reduceIte, Nat.reduceEqDiff, Nat.reduceLT, zq, *]; first | done | rfl, by simp only [at_put, at_none, n_put, reduceIte, Nat.reduceEqDiff, Nat.reduceLT, zq, *]; first | done | rfl, by simp only [at_put, at_none, n_put, reduceIte, Nat.reduceEqDiff, Nat.reduceLT, zq, *]; first | done | rfl, by simp only [at_put, at_none, n_put, reduceIte, Nat.reduceEqDiff, Nat.reduceLT, zq, *]; first | done | rfl, by simp only [at_put, at_none, n_put, reduceIte, Nat.reduceEqDiff, Nat.reduceLT, zq, *]; first | done | rfl, by rw [hht]; simp only [at_put, at_none, n_put, reduceIte, Nat.reduceEqDiff, Nat.reduceLT, zq, *]; first | done | rfl, by rw [Int.natCast_add]; simp only [at_put, at_none, n_put, reduceIte, Nat.reduceEqDiff, Nat.reduceLT, zq, *]; first | done | rfl, q2, hO3, hk3, hnx3, gp3, gx3, _, _, _, _, gr3⟩
    · have e9 : (if l[i].h = (⟨xh, xs, xc, xa⟩ : HD).h then (⟨xh, xs, xc, xa⟩ : HD) else l[i]) = l[i] := if_neg he
      rw [e9] at hwt
      have e10 : decide (l[i].h = xh) = false := by simpa using he
      rw [e10, Bool.or_false] at hht
      clear g30 e9 e10 hv'
      obtain ⟨v2, h3, O3, q1, q2, q3, q4, q5⟩ := app_row (K := kH) (T := EE.T) (h := (bump h' 9).new (h'.next + 9) (.cells (kH.enc l[i]) true)) (st := 59) (xt := 59) (news := [l[i]]) (x := .slice (some ⟨h'.next + 9, 0, none⟩) 1 1) (TL rfl) (TL rfl) ⟨rfl, rfl, by decide⟩ (TL rfl) (hrow.keep fun q hq => by have := hO' q hq; simp (disch := omega) only [get_set_self, get_new_self, get_set_ne, get_new_ne, get_bump, next_set, next_new, Nat.lt_irrefl, reduceIte, next_kill, next_bump, *]; first | done | rfl) (by simp) (src_row1 (by simp (disch := omega) only [get_set_self, get_new_self, get_set_ne, get_new_ne, get_bump, next_set, next_new, Nat.lt_irrefl, reduceIte, next_kill, next_bump, *]; first | done | rfl)) (by rw [withI_len]; simp; omega) (fun q hq => by have := hO' q hq; simp only [next_new, next_bump, Nat.lt_irrefl, reduceIte]; omega)
      have hK : Keep h' h3 O' := ⟨by have := q3.1; simp only [next_new, next_bump, Nat.lt_irrefl, reduceIte] at this; omega, fun q hq hn => by rw [q3.2 q (by simp only [next_new, next_bump, Nat.lt_irrefl, reduceIte]; omega) hn]; simp (disch := omega) only [get_set_self, get_new_self, get_set_ne, get_new_ne, get_bump, next_set, next_new, Nat.lt_irrefl, reduceIte, next_kill, next_bump, *]; first | done | rfl⟩
      have hnn : ∀ q, q < h.next + 3 → q ∉ O' := fun q hq hm => by have := hO' q hm; omega
      have gp3 := (hK.2 h.next (by omega) (hnn _ (by omega))).trans gp
      have gx3 := (hK.2 (h.next + 1) (by omega) (hnn _ (by omega))).trans gx
      have gr3 := (hK.2 (h.next + 2) (by omega) (hnn _ (by omega))).trans gr
      have hO3 : ∀ q ∈ O3, h.next + 3 ≤ q ∧ q < h3.next := fun q hq => ⟨by
        rcases q4 with rfl | rfl
        · exact (hO' q hq).1
        · simp only [List.mem_singleton, next_new, next_bump, Nat.lt_irrefl, reduceIte] at hq; omega, q5 q hq⟩
      have hk3 : Keep h h3 [] := hk.fresh hK fun q hq => by have := hO' q hq; omega
      have hnx3 : h.next + 3 ≤ h3.next := Nat.le_trans hnx hK.1
      rw [← hwt] at q2
      clear hrow q3 q4 q5 hK hnn hk hO'
      repeat first | refine G_seq ?_ | refine G_reg ?_ | refine N_seq ?_ | refine N_block ?_ | refine G_block ?_ | refine G_skip ?_ | refine G_cT ?_ | refine G_cF ?_ | refine G_ret ?_ | refine U_seq_ret ?_ | refine U_block_ret ?_ | refine U_nil ?_ | refine S_nil ?_ | refine S_auto ?_
      refine S_step wants0 (o_indexAddr (by simp only [aev_tmp, aev_const, aev_func, aev_global, at_put, at_none, n_put, reduceIte, Nat.reduceEqDiff, Nat.reduceLT, zq, *]; first | done | rfl) (by simp only [aev_tmp, aev_const, aev_func, aev_global, at_put, at_none, n_put, reduceIte, Nat.reduceEqDiff, Nat.reduceLT, zq, *]; first | done | rfl) g1) ?_
      refine S_step wants0 (o_ldA (by simp only [aev_tmp, aev_const, aev_func, aev_global, at_put, at_none, n_put, reduceIte, Nat.reduceEqDiff, Nat.reduceLT, zq, *]; first | done | rfl) (TL rfl) rfl (rd_cells (by simp (disch := omega) only [get_set_self, get_new_self, get_set_ne, get_new_ne, get_bump, next_set, next_new, Nat.lt_irrefl, reduceIte, next_kill, next_bump, *]; first | done | rfl)) gc) ?_
      refine S_step wants0 (o_buildSlice (by simp only [List.map, aev_tmp, aev_const, aev_func, aev_global, at_put, at_none, n_put, reduceIte, Nat.reduceEqDiff, Nat.reduceLT, zq, *]; first | done | rfl) (bs_row1 (K := kH) (x := l[i]) (TL rfl) (TL rfl) ⟨rfl, rfl, by decide⟩ (by decide) rfl)) ?_
      refine S_step wants0 (o_builtin (by simp only [List.map, aev_tmp, aev_const, aev_func, aev_global, at_put, at_none, n_put, reduceIte, Nat.reduceEqDiff, Nat.reduceLT, zq, *]; first | done | rfl) (bi_app q1)) ?_
      clear q1 gp gx gr g1 g2 gc
      repeat first | refine G_seq ?_ | refine G_reg ?_ | refine N_seq ?_ | refine N_block ?_ | refine G_block ?_ | refine G_skip ?_ | refine G_cT ?_ | refine G_cF ?_ | refine G_ret ?_ | refine U_seq_ret ?_ | refine U_block_ret ?_ | refine U_nil ?_ | refine S_nil ?_ | refine S_auto ?_
      refine N_nil ?_
      exact LQ_n (j - 1) (by omega) ⟨i + 1, _, O3, by omega, by simp only [at_put, at_none, n_put, reduceIte, Nat.reduceEqDiff, Nat.reduceLT, zq, *]; first | done | rfl, by simp only [at_put, at_none, n_put, reduceIte, Nat.reduceEqDiff, Nat.reduceLT, zq, *]; first | done | rfl, by simp only [at_put, at_none, n_put, reduceIte, Nat.reduceEqDiff, Nat.reduceLT, zq, *]; first | done | rfl, by simp only [at_put, at_none, n_put, reduceIte, Nat.reduceEqDiff, Nat.reduceLT, zq, *]; first | done | rfl, by simp only [at_put, at_none, n_put, reduceIte, Nat.reduceEqDiff, Nat.reduceLT, zq, *]; first | done | rfl, by rw [hht]; simp only [at_put, at_none, n_put, reduceIte, Nat.reduceEqDiff, Nat.reduceLT, zq, *]; first | done | rfl, by rw [Int.natCast_add]; simp only [at_put, at_none, n_put, reduceIte, Nat.reduceEqDiff, Nat.reduceLT, zq, *]; first | done | rfl, q2, hO3, hk3, hnx3, gp3, gx3, _, _, _, _, gr3⟩
  · have hil' : ¬ (i : Int) < (l.length : Int) := by omega
    obtain rfl : i = l.length := by omega
    rw [List.take_length] at hrow e6 hrl
    have hov := hrow.one
    repeat first | refine G_seq ?_ | refine G_reg ?_ | refine N_seq ?_ | refine N_block ?_ | refine G_block ?_ | refine G_skip ?_ | refine G_cT ?_ | refine G_cF ?_ | refine G_ret ?_ | refine U_seq_ret ?_ | refine U_block_ret ?_ | refine U_nil ?_ | refine S_nil ?_ | refine S_auto ?_
    refine G_exit ?_
    repeat first | refine U_seq_exit ?_ | refine U_nil ?_ | refine LQ_exit ?_ | refine U_block_hit ?_
    repeat first | refine G_seq ?_ | refine G_reg ?_ | refine N_seq ?_ | refine N_block ?_ | refine G_block ?_ | refine G_skip ?_ | refine G_cT ?_ | refine G_cF ?_ | refine G_ret ?_ | refine U_seq_ret ?_ | refine U_block_ret ?_ | refine U_nil ?_ | refine S_nil ?_ | refine S_auto ?_
    have hall : ({ most := mo, last := la, rests := re, all := l } : DP).all = l := rfl
    cases hh : hasH xh l with
    | true =>
      rw [hh] at e6
      have hw : withF ⟨xh, xs, xc, xa⟩ l = withI ⟨xh, xs, xc, xa⟩ l := if_pos hh
      repeat first | refine G_seq ?_ | refine G_reg ?_ | refine N_seq ?_ | refine N_block ?_ | refine G_block ?_ | refine G_skip ?_ | refine G_cT ?_ | refine G_cF ?_ | refine G_ret ?_ | refine U_seq_ret ?_ | refine U_block_ret ?_ | refine U_nil ?_ | refine S_nil ?_ | refine S_auto ?_
      refine S_step wants0 (o_st1 (by simp only [aev_tmp, aev_const, aev_func, aev_global, at_put, at_none, n_put, reduceIte, Nat.reduceEqDiff, Nat.reduceLT, zq, *]; first | done | rfl) (by simp only [aev_tmp, aev_const, aev_func, aev_global, at_put, at_none, n_put, reduceIte, Nat.reduceEqDiff, Nat.reduceLT, zq, *]; first | done | rfl) (TL rfl) rfl hov (by simp (disch := omega) only [get_set_self, get_new_self, get_set_ne, get_new_ne, get_bump, next_set, next_new, Nat.lt_irrefl, reduceIte, next_kill, next_bump, *]; first | done | rfl) rfl) ?_
      obtain ⟨A2, c2, rfl⟩ := hrow.len
      repeat first | refine G_seq ?_ | refine G_reg ?_ | refine N_seq ?_ | refine N_block ?_ | refine G_block ?_ | refine G_skip ?_ | refine G_cT ?_ | refine G_cF ?_ | refine G_ret ?_ | refine U_seq_ret ?_ | refine U_block_ret ?_ | refine U_nil ?_ | refine S_nil ?_ | refine S_auto ?_
      refine FQ_in (by first | exact .inr rfl | exact .inl rfl) (aresC1 (by simp only [at_put, at_none, n_put, reduceIte, Nat.reduceEqDiff, Nat.reduceLT, zq, *]; first | done | rfl) (ldA (TL rfl) rfl (rd_cells (by simp (disch := omega) only [get_set_self, get_new_self, get_set_ne, get_new_ne, get_bump, next_set, next_new, Nat.lt_irrefl, reduceIte, next_kill, next_bump, *]; first | done | rfl)) rfl)) ?_
      refine ⟨_, O', rfl, ?_, ⟨?_, fun i hi _ => ?_⟩, fun q hq => by have := hO' q hq; omega⟩
      · refine ⟨?_, fun q hq => by have := hO' q hq; simp only [next_set]; omega⟩
        show RowAt kH _ (withF ⟨xh, xs, xc, xa⟩ l) _ O'
        rw [hw]
        exact hrow.keep fun q hq => by have := hO' q hq; simp (disch := omega) only [get_set_self, get_new_self, get_set_ne, get_new_ne, get_bump, next_set, next_new, Nat.lt_irrefl, reduceIte, next_kill, next_bump, *]; first | done | rfl
      · simp only [next_set]; omega
      · rw [← hk.2 i hi (by simp)]; simp (disch := omega) only [get_set_self, get_new_self, get_set_ne, get_new_ne, get_bump, next_set, next_new, Nat.lt_irrefl, reduceIte, next_kill, next_bump, *]; first | done | rfl
    | false =>
      rw [hh] at e6
      have hw : withF ⟨xh, xs, xc, xa⟩ l = withI ⟨xh, xs, xc, xa⟩ l ++ [⟨xh, xs, xc, xa⟩] := if_neg (by show ¬ hasH xh l = true; rw [hh]; simp)
      obtain ⟨v2, h3, O3, q1, q2, q3, q4, q5⟩ := app_row (K := kH) (T := EE.T) (h := h'.new h'.next (.cells (kH.enc ⟨xh, xs, xc, xa⟩) true)) (st := 59) (xt := 59) (news := [(⟨xh, xs, xc, xa⟩ : HD)]) (x := .slice (some ⟨h'.next, 0, none⟩) 1 1) (TL rfl) (TL rfl) ⟨rfl, rfl, by decide⟩ (TL rfl) (hrow.keep fun q hq => by have := hO' q hq; simp (disch := omega) only [get_set_self, get_new_self, get_set_ne, get_new_ne, get_bump, next_set, next_new, Nat.lt_irrefl, reduceIte, next_kill, next_bump, *]; first | done | rfl) (by simp) (src_row1 (by simp (disch := omega) only [get_set_self, get_new_self, get_set_ne, get_new_ne, get_bump, next_set, next_new, Nat.lt_irrefl, reduceIte, next_kill, next_bump, *]; first | done | rfl)) (by rw [withI_len]; simp; omega) (fun q hq => by have := hO' q hq; simp only [next_new, Nat.lt_irrefl, reduceIte]; omega)
      have hK : Keep h' h3 O' := ⟨by have := q3.1; simp only [next_new, Nat.lt_irrefl, reduceIte] at this; omega, fun q hq hn => by rw [q3.2 q (by simp only [next_new, Nat.lt_irrefl, reduceIte]; omega) hn]; simp (disch := omega) only [get_set_self, get_new_self, get_set_ne, get_new_ne, get_bump, next_set, next_new, Nat.lt_irrefl, reduceIte, next_kill, next_bump, *]; first | done | rfl⟩
      have hnn : ∀ q, q < h.next + 3 → q ∉ O' := fun q hq hm => by have := hO' q hm; omega
      have gp3 := (hK.2 h.next (by omega) (hnn _ (by omega))).trans gp
      have gx3 := (hK.2 (h.next + 1) (by omega) (hnn _ (by omega))).trans gx
      have gr3 := (hK.2 (h.next + 2) (by omega) (hnn _ (by omega))).trans gr
      have hO3 : ∀ q ∈ O3, h.next + 3 ≤ q ∧ q < h3.next := fun q hq => ⟨by
        rcases q4 with rfl | rfl
        · exact (hO' q hq).1
        · simp only [List.mem_singleton, next_new, Nat.lt_irrefl, reduceIte] at hq; omega, q5 q hq⟩
      have hk3 : Keep h h3 [] := hk.fresh hK fun q hq => by have := hO' q hq; omega
      have hnx3 : h.next + 3 ≤ h3.next := Nat.le_trans hnx hK.1
      rw [← hw] at q2
      have hov3 := q2.one
      clear hrow q3 q4 q5 hK hnn hk hO' hw
      repeat first | refine G_seq ?_ | refine G_reg ?_ | refine N_seq ?_ | refine N_block ?_ | refine G_block ?_ | refine G_skip ?_ | refine G_cT ?_ | refine G_cF ?_ | refine G_ret ?_ | refine U_seq_ret ?_ | refine U_block_ret ?_ | refine U_nil ?_ | refine S_nil ?_ | refine S_auto ?_
      refine S_step wants0 (o_buildSlice (by simp only [List.map, aev_tmp, aev_const, aev_func, aev_global, at_put, at_none, n_put, reduceIte, Nat.reduceEqDiff, Nat.reduceLT, zq, *]; first | done | rfl) (bs_row1 (K := kH) (x := ⟨xh, xs, xc, xa⟩) (TL rfl) (TL rfl) ⟨rfl, rfl, by decide⟩ (by decide) rfl)) ?_
      refine S_step wants0 (o_builtin (by simp only [List.map, aev_tmp, aev_const, aev_func, aev_global, at_put, at_none, n_put, reduceIte, Nat.reduceEqDiff, Nat.reduceLT, zq, *]; first | done | rfl) (bi_app q1)) ?_
      clear q1 gp gx gr
      repeat first | refine G_seq ?_ | refine G_reg ?_ | refine N_seq ?_ | refine N_block ?_ | refine G_block ?_ | refine G_skip ?_ | refine G_cT ?_ | refine G_cF ?_ | refine G_ret ?_ | refine U_seq_ret ?_ | refine U_block_ret ?_ | refine U_nil ?_ | refine S_nil ?_ | refine S_auto ?_
      refine S_step wants0 (o_st1 (by simp only [aev_tmp, aev_const, aev_func, aev_global, at_put, at_none, n_put, reduceIte, Nat.reduceEqDiff, Nat.reduceLT, zq, *]; first | done | rfl) (by simp only [aev_tmp, aev_const, aev_func, aev_global, at_put, at_none, n_put, reduceIte, Nat.reduceEqDiff, Nat.reduceLT, zq, *]; first | done | rfl) (TL rfl) rfl hov3 (by simp (disch := omega) only [get_set_self, get_new_self, get_set_ne, get_new_ne, get_bump, next_set, next_new, Nat.lt_irrefl, reduceIte, next_kill, next_bump, *]; first | done | rfl) rfl) ?_
      obtain ⟨A2, c2, rfl⟩ := q2.len
      repeat first | refine G_seq ?_ | refine G_reg ?_ | refine N_seq ?_ | refine N_block ?_ | refine G_block ?_ | refine G_skip ?_ | refine G_cT ?_ | refine G_cF ?_ | refine G_ret ?_ | refine U_seq_ret ?_ | refine U_block_ret ?_ | refine U_nil ?_ | refine S_nil ?_ | refine S_auto ?_
      refine FQ_in (by first | exact .inr rfl | exact .inl rfl) (aresC1 (by simp only [at_put, at_none, n_put, reduceIte, Nat.reduceEqDiff, Nat.reduceLT, zq, *]; first | done | rfl) (ldA (TL rfl) rfl (rd_cells (by simp (disch := omega) only [get_set_self, get_new_self, get_set_ne, get_new_ne, get_bump, next_set, next_new, Nat.lt_irrefl, reduceIte, next_kill, next_bump, *]; first | done | rfl)) rfl)) ?_
      refine ⟨_, O3, rfl, ?_, ⟨?_, fun i hi _ => ?_⟩, fun q hq => by have := hO3 q hq; omega⟩
      · refine ⟨?_, fun q hq => by have := hO3 q hq; simp only [next_set]; omega⟩
        exact q2.keep fun q hq => by have := hO3 q hq; simp (disch := omega) only [get_set_self, get_new_self, get_set_ne, get_new_ne, get_bump, next_set, next_new, Nat.lt_irrefl, reduceIte, next_kill, next_bump, *]; first | done | rfl
      · simp only [next_set]; omega
      · rw [← hk3.2 i hi (by simp)]; simp (disch := omega) only [get_set_self, get_new_self, get_set_ne, get_new_ne, get_bump, next_set, next_new, Nat.lt_irrefl, reduceIte, next_kill, next_bump, *]; first | done | rfl
end
end Go.Proofs.Ytffockklleanmaa.AM.SX

/- The document's pool: Shut, Joined, Rest. -/
namespace Go.Proofs.Ytffockklleanmaa.AM.SX
open Go
set_option linter.unusedVariables false
set_option linter.unusedSimpArgs false
set_option maxRecDepth 100000
set_option maxHeartbeats 4000000
attribute [local irreducible] astep0 aev awants abin abuild
def outF (k : Int) (l : List HD) : List HD := l.filter fun y => decide (y.h ≠ k)
theorem outF_take {k : Int} {l : List HD} {i : Nat} (hi : i < l.length) : outF k (l.take (i + 1)) = if l[i].h ≠ k then outF k (l.take i) ++ [l[i]] else outF k (l.take i) := by
  unfold outF; rw [List.take_succ_eq_append_getElem hi, List.filter_append]
  by_cases h : l[i].h = k <;> simp [h]
theorem outF_le (k : Int) (l : List HD) : (outF k l).length ≤ l.length := List.length_filter_le _ _
def joinD (d : DP) (k : Int) : DP × Bool := match dget d.all k with
  | some x => if x.st = 1 then ({ d with all := withF ⟨x.h, 2, x.since, x.aim⟩ d.all }, true) else (d, false)
  | none => (d, false)
def restD (d : DP) (k : Int) : DP × Bool := match dget d.all k with
  | some x => if x.st = 2 then ({ d with rests := d.rests + 1, all := withF ⟨x.h, 3, d.rests + 1, x.aim⟩ d.all }, true) else (d, false)
  | none => (d, false)
section
variable {n : Nat} {h : AHeap}
theorem dshut_spec {d : DP} {sv : Value} {O : List Nat} (hd : DPAt h d sv O) (hn : d.all.length + 2 ≤ n) (hl : d.all.length < 1000000) (k : Int) : C EE (n + 1) 28 [dv d sv, .int .i64 k] h fun r h' => ∃ sv' O', r = .tuple #[dv { d with all := outF k d.all } sv', .bool (decide ((outF k d.all).length < d.all.length))] ∧ DPAt h' { d with all := outF k d.all } sv' O' ∧ Keep h h' [] ∧ ∀ i ∈ O', h.next ≤ i := by
  obtain ⟨mo, la, re, l⟩ := d
  obtain ⟨A, c, rfl⟩ := hd.1.len
  obtain ⟨hv, hO⟩ := hd
  replace hv : RowAt kH h l (.slice A l.length c) O := hv
  replace hn : l.length + 2 ≤ n := hn
  replace hl : l.length < 1000000 := hl
  refine C_in (E_X _) F_dshut rfl rfl rfl ?_
  intro a hna hat
  have e0 := hat 0 _ rfl
  have e1 := hat 1 _ rfl
  replace hna : a.n = 43 := hna
  replace e0 : a.at 0 = .agg ⟨[.int .i64 mo, .int .i64 la, .int .i64 re, .slice A l.length c]⟩ := e0
  clear hat
  repeat first | refine G_seq ?_ | refine G_reg ?_ | refine N_seq ?_ | refine N_block ?_ | refine G_block ?_ | refine G_skip ?_ | refine G_cT ?_ | refine G_cF ?_ | refine G_ret ?_ | refine U_seq_ret ?_ | refine U_block_ret ?_ | refine U_nil ?_ | refine S_nil ?_ | refine S_auto ?_
  refine S_step wants0 (o_buildSlice (by simp only [List.map, aev_tmp, aev_const, aev_func, aev_global, at_put, at_none, n_put, reduceIte, Nat.reduceEqDiff, Nat.reduceLT, zq, *]; first | done | rfl) (bs_row0 (K := kH) (TL rfl) (TL rfl) ⟨rfl, rfl, by decide⟩)) ?_
  repeat first | refine G_seq ?_ | refine G_reg ?_ | refine N_seq ?_ | refine N_block ?_ | refine G_block ?_ | refine G_skip ?_ | refine G_cT ?_ | refine G_cF ?_ | refine G_ret ?_ | refine U_seq_ret ?_ | refine U_block_ret ?_ | refine U_nil ?_ | refine S_nil ?_ | refine S_auto ?_
  refine G_loop (fun j a h' => ∃ (i : Nat) (rv : Value) (O' : List Nat), i + j = l.length ∧ a.n = 43 ∧ a.at 1 = .int .i64 k ∧ a.at 2 = .pointer (some ⟨h.next, 0, none⟩) ∧ a.at 4 = .pointer (some ⟨h.next + 1, 0, none⟩) ∧ a.at 6 = rv ∧ a.at 7 = .int .i64 (i : Int) ∧ RowAt kH h' (outF k (l.take i)) rv O' ∧ (∀ q ∈ O', h.next + 2 ≤ q ∧ q < h'.next) ∧ Keep h h' [] ∧ h.next + 2 ≤ h'.next ∧ h'.get h.next = some (.cells [.int .i64 mo, .int .i64 la, .int .i64 re, .slice A l.length c] true) ∧ ∃ r1 r2 r3 r4, h'.get (h.next + 1) = some (.cells [r1, r2, r3, r4] true)) l.length (by omega) ⟨0, .slice (some ⟨h.next + 2, 0, none⟩) 0 0, [h.next + 2], by omega, by simp only [at_put, at_none, n_put, reduceIte, Nat.reduceEqDiff, Nat.reduceLT, zq, *]; first | done | rfl, by simp only [at_put, at_none, n_put, reduceIte, Nat.reduceEqDiff, Nat.reduceLT, zq, *]; first | done | rfl, by simp (disch := omega) only [at_put, at_none, n_put, reduceIte, Nat.reduceEqDiff, Nat.reduceLT, get_set_self, get_new_self, get_set_ne, get_new_ne, get_bump, next_set, next_new, Nat.lt_irrefl, next_kill, next_bump, cond_true, cond_false, *]; first | done | rfl, by simp (disch := omega) only [at_put, at_none, n_put, reduceIte, Nat.reduceEqDiff, Nat.reduceLT, get_set_self, get_new_self, get_set_ne, get_new_ne, get_bump, next_set, next_new, Nat.lt_irrefl, next_kill, next_bump, cond_true, cond_false, *]; first | done | rfl, by simp (disch := omega) only [at_put, at_none, n_put, reduceIte, Nat.reduceEqDiff, Nat.reduceLT, get_set_self, get_new_self, get_set_ne, get_new_ne, get_bump, next_set, next_new, Nat.lt_irrefl, next_kill, next_bump, cond_true, cond_false, *]; first | done | rfl, by simp only [at_put, at_none, n_put, reduceIte, Nat.reduceEqDiff, Nat.reduceLT, zq, *]; first | done | rfl, row0 (by simp (disch := omega) only [get_set_self, get_new_self, get_set_ne, get_new_ne, get_bump, next_set, next_new, Nat.lt_irrefl, reduceIte, next_kill, next_bump, *]; first | done | rfl), ?_, ⟨?_, fun i hi _ => by simp (disch := omega) only [get_set_self, get_new_self, get_set_ne, get_new_ne, get_bump, next_set, next_new, Nat.lt_irrefl, reduceIte, next_kill, next_bump, *]; first | done | rfl⟩, ?_, by simp (disch := omega) only [get_set_self, get_new_self, get_set_ne, get_new_ne, get_bump, next_set, next_new, Nat.lt_irrefl, reduceIte, next_kill, next_bump, *]; first | done | rfl, _, _, _, _, by simp (disch := omega) only [get_set_self, get_new_self, get_set_ne, get_new_ne, get_bump, next_set, next_new, Nat.lt_irrefl, reduceIte, next_kill, next_bump, *]; first | done | rfl⟩ ?_
  · intro q hq; simp only [List.mem_singleton] at hq; subst hq; simp only [next_new, Nat.lt_irrefl, reduceIte]; omega
  · simp only [next_new, Nat.lt_irrefl, reduceIte]; omega
  · simp only [next_new, Nat.lt_irrefl, reduceIte]; omega
  clear e0 e1 hna a
  rintro j a h' ⟨i, rv, O', hij, hna, e1, e2, e4, e6, e7, hrow, hO', hk, hnx, gp, r1, r2, r3, r4, gr⟩
  have hv' : RowAt kH h' l (.slice A l.length c) O := hv.keep fun i hi => hk.2 i (hO i hi) (by simp)
  have hrl : (outF k (l.take i)).length ≤ l.length := Nat.le_trans (outF_le _ _) (by simp; omega)
  repeat first | refine G_seq ?_ | refine G_reg ?_ | refine N_seq ?_ | refine N_block ?_ | refine G_block ?_ | refine G_skip ?_ | refine G_cT ?_ | refine G_cF ?_ | refine G_ret ?_ | refine U_seq_ret ?_ | refine U_block_ret ?_ | refine U_nil ?_ | refine S_nil ?_ | refine S_auto ?_
  refine S_step wants0 (o_builtin (by simp only [List.map, aev_tmp, aev_const, aev_func, aev_global, at_put, at_none, n_put, reduceIte, Nat.reduceEqDiff, Nat.reduceLT, zq, *]; first | done | rfl) (hv'.lenB (TL rfl))) ?_
  by_cases hil : i < l.length
  · have hil' : (i : Int) < (l.length : Int) := by omega
    have hot := outF_take (k := k) hil
    obtain ⟨bk, cs, g1, g2, gm, gc, g3⟩ := hv'.index (T := EE.T) (st := 59) (TL rfl) (TL rfl) ⟨rfl, rfl, by decide⟩ hil
    have hbk : bk < h'.next := Nat.lt_of_lt_of_le (hO bk gm) hk.1
    have g30 := g3 0 (by decide)
    clear g3
    repeat first | refine G_seq ?_ | refine G_reg ?_ | refine N_seq ?_ | refine N_block ?_ | refine G_block ?_ | refine G_skip ?_ | refine G_cT ?_ | refine G_cF ?_ | refine G_ret ?_ | refine U_seq_ret ?_ | refine U_block_ret ?_ | refine U_nil ?_ | refine S_nil ?_ | refine S_auto ?_
    refine S_step wants0 (o_indexAddr (by simp only [aev_tmp, aev_const, aev_func, aev_global, at_put, at_none, n_put, reduceIte, Nat.reduceEqDiff, Nat.reduceLT, zq, *]; first | done | rfl) (by simp only [aev_tmp, aev_const, aev_func, aev_global, at_put, at_none, n_put, reduceIte, Nat.reduceEqDiff, Nat.reduceLT, zq, *]; first | done | rfl) g1) ?_
    repeat first | refine G_seq ?_ | refine G_reg ?_ | refine N_seq ?_ | refine N_block ?_ | refine G_block ?_ | refine G_skip ?_ | refine G_cT ?_ | refine G_cF ?_ | refine G_ret ?_ | refine U_seq_ret ?_ | refine U_block_ret ?_ | refine U_nil ?_ | refine S_nil ?_ | refine S_auto ?_
    refine S_step wants0 (o_ld (by simp only [aev_tmp, aev_const, aev_func, aev_global, at_put, at_none, n_put, reduceIte, Nat.reduceEqDiff, Nat.reduceLT, zq, *]; first | done | rfl) (TL rfl) rfl (rd_cells (by simp (disch := omega) only [get_set_self, get_new_self, get_set_ne, get_new_ne, get_bump, next_set, next_new, Nat.lt_irrefl, reduceIte, next_kill, next_bump, *]; first | done | rfl)) (g30.trans rfl)) ?_
    by_cases he : l[i].h = k
    · rw [if_neg (by simpa using he)] at hot
      clear g1 g2 g30 gc hv'
      rw [← hot] at hrow
      clear hot
      repeat first | refine G_seq ?_ | refine G_reg ?_ | refine N_seq ?_ | refine N_block ?_ | refine G_block ?_ | refine G_skip ?_ | refine G_cT ?_ | refine G_cF ?_ | refine G_ret ?_ | refine U_seq_ret ?_ | refine U_block_ret ?_ | refine U_nil ?_ | refine S_nil ?_ | refine S_auto ?_
      refine N_nil ?_
      exact LQ_n (j - 1) (by omega) ⟨i + 1, rv, O', by omega, by simp only [at_put, at_none, n_put, reduceIte, Nat.reduceEqDiff, Nat.reduceLT, zq, *]; first | done | rfl, by simp only [at_put, at_none, n_put, reduceIte, Nat.reduceEqDiff, Nat.reduceLT, zq, *]; first | done | rfl, by simp only [at_put, at_none, n_put, reduceIte, Nat.reduceEqDiff, Nat.reduceLT, zq, *]; first | done | rfl, by simp only [at_put, at_none, n_put, reduceIte, Nat.reduceEqDiff, Nat.reduceLT, zq, *]; first | done | rfl, by simp only [at_put, at_none, n_put, reduceIte, Nat.reduceEqDiff, Nat.reduceLT, zq, *]; first | done | rfl, by rw [Int.natCast_add]; simp only [at_put, at_none, n_put, reduceIte, Nat.reduceEqDiff, Nat.reduceLT, zq, *]; first | done | rfl, hrow, hO', hk, hnx, gp, _, _, _, _, gr⟩
    · rw [if_pos he] at hot
      clear g30 hv'
      obtain ⟨v2, h3, O3, q1, q2, q3, q4, q5⟩ := app_row (K := kH) (T := EE.T) (h := h'.new h'.next (.cells (kH.enc l[i]) true)) (st := 59) (xt := 59) (news := [l[i]]) (x := .slice (some ⟨h'.next, 0, none⟩) 1 1) (TL rfl) (TL rfl) ⟨rfl, rfl, by decide⟩ (TL rfl) (hrow.keep fun q hq => by have := hO' q hq; simp (disch := omega) only [get_set_self, get_new_self, get_set_ne, get_new_ne, get_bump, next_set, next_new, Nat.lt_irrefl, reduceIte, next_kill, next_bump, *]; first | done | rfl) (by simp) (src_row1 (by simp (disch := omega) only [get_set_self, get_new_self, get_set_ne, get_new_ne, get_bump, next_set, next_new, Nat.lt_irrefl, reduceIte, next_kill, next_bump, *]; first | done | rfl)) (by simp; omega) (fun q hq => by have := hO' q hq; simp only [next_new, Nat.lt_irrefl, reduceIte]; omega)
      have hK : Keep h' h3 O' := ⟨by have := q3.1; simp only [next_new, Nat.lt_irrefl, reduceIte] at this; omega, fun q hq hn => by rw [q3.2 q (by simp only [next_new, Nat.lt_irrefl, reduceIte]; omega) hn]; simp (disch := omega) only [get_set_self, get_new_self, get_set_ne, get_new_ne, get_bump, next_set, next_new, Nat.lt_irrefl, reduceIte, next_kill, next_bump, *]; first | done | rfl⟩
      have hnn : ∀ q, q < h.next + 2 → q ∉ O' := fun q hq hm => by have := hO' q hm; omega
      have gp3 := (hK.2 h.next (by omega) (hnn _ (by omega))).trans gp
      have gr3 := (hK.2 (h.next + 1) (by omega) (hnn _ (by omega))).trans gr
      have hO3 : ∀ q ∈ O3, h.next + 2 ≤ q ∧ q < h3.next := fun q hq => ⟨by
        rcases q4 with rfl | rfl
        · exact (hO' q hq).1
        · simp only [List.mem_singleton, next_new, Nat.lt_irrefl, reduceIte] at hq; omega, q5 q hq⟩
      have hk3 : Keep h h3 [] := hk.fresh hK fun q hq => by have := hO' q hq; omega
      have hnx3 : h.next + 2 ≤ h3.next := Nat.le_trans hnx hK.1
      rw [← hot] at q2
      clear hrow q3 q4 q5 hK hnn hk hO' hot
      repeat first | refine G_seq ?_ | refine G_reg ?_ | refine N_seq ?_ | refine N_block ?_ | refine G_block ?_ | refine G_skip ?_ | refine G_cT ?_ | refine G_cF ?_ | refine G_ret ?_ | refine U_seq_ret ?_ | refine U_block_ret ?_ | refine U_nil ?_ | refine S_nil ?_ | refine S_auto ?_
      refine S_step wants0 (o_indexAddr (by simp only [aev_tmp, aev_const, aev_func, aev_global, at_put, at_none, n_put, reduceIte, Nat.reduceEqDiff, Nat.reduceLT, zq, *]; first | done | rfl) (by simp only [aev_tmp, aev_const, aev_func, aev_global, at_put, at_none, n_put, reduceIte, Nat.reduceEqDiff, Nat.reduceLT, zq, *]; first | done | rfl) g1) ?_
      refine S_step wants0 (o_ldA (by simp only [aev_tmp, aev_const, aev_func, aev_global, at_put, at_none, n_put, reduceIte, Nat.reduceEqDiff, Nat.reduceLT, zq, *]; first | done | rfl) (TL rfl) rfl (rd_cells (by simp (disch := omega) only [get_set_self, get_new_self, get_set_ne, get_new_ne, get_bump, next_set, next_new, Nat.lt_irrefl, reduceIte, next_kill, next_bump, *]; first | done | rfl)) gc) ?_
      refine S_step wants0 (o_buildSlice (by simp only [List.map, aev_tmp, aev_const, aev_func, aev_global, at_put, at_none, n_put, reduceIte, Nat.reduceEqDiff, Nat.reduceLT, zq, *]; first | done | rfl) (bs_row1 (K := kH) (x := l[i]) (TL rfl) (TL rfl) ⟨rfl, rfl, by decide⟩ (by decide) rfl)) ?_
      refine S_step wants0 (o_builtin (by simp only [List.map, aev_tmp, aev_const, aev_func, aev_global, at_put, at_none, n_put, reduceIte, Nat.reduceEqDiff, Nat.reduceLT, zq, *]; first | done | rfl) (bi_app q1)) ?_
      clear q1 gp gr g1 g2 gc
      repeat first | refine G_seq ?_ | refine G_reg ?_ | refine N_seq ?_ | refine N_block ?_ | refine G_block ?_ | refine G_skip ?_ | refine G_cT ?_ | refine G_cF ?_ | refine G_ret ?_ | refine U_seq_ret ?_ | refine U_block_ret ?_ | refine U_nil ?_ | refine S_nil ?_ | refine S_auto ?_
      refine N_nil ?_
      exact LQ_n (j - 1) (by omega) ⟨i + 1, _, O3, by omega, by simp only [at_put, at_none, n_put, reduceIte, Nat.reduceEqDiff, Nat.reduceLT, zq, *]; first | done | rfl, by simp only [at_put, at_none, n_put, reduceIte, Nat.reduceEqDiff, Nat.reduceLT, zq, *]; first | done | rfl, by simp only [at_put, at_none, n_put, reduceIte, Nat.reduceEqDiff, Nat.reduceLT, zq, *]; first | done | rfl, by simp only [at_put, at_none, n_put, reduceIte, Nat.reduceEqDiff, Nat.reduceLT, zq, *]; first | done | rfl, by simp only [at_put, at_none, n_put, reduceIte, Nat.reduceEqDiff, Nat.reduceLT, zq, *]; first | done | rfl, by rw [Int.natCast_add]; simp only [at_put, at_none, n_put, reduceIte, Nat.reduceEqDiff, Nat.reduceLT, zq, *]; first | done | rfl, q2, hO3, hk3, hnx3, gp3, _, _, _, _, gr3⟩
  · have hil' : ¬ (i : Int) < (l.length : Int) := by omega
    obtain rfl : i = l.length := by omega
    rw [List.take_length] at hrow hrl
    have hov := hrow.one
    have hdd : decide (((outF k l).length : Int) < (l.length : Int)) = decide ((outF k l).length < l.length) := decide_eq_decide.2 (by omega)
    repeat first | refine G_seq ?_ | refine G_reg ?_ | refine N_seq ?_ | refine N_block ?_ | refine G_block ?_ | refine G_skip ?_ | refine G_cT ?_ | refine G_cF ?_ | refine G_ret ?_ | refine U_seq_ret ?_ | refine U_block_ret ?_ | refine U_nil ?_ | refine S_nil ?_ | refine S_auto ?_
    refine G_exit ?_
    repeat first | refine U_seq_exit ?_ | refine U_nil ?_ | refine LQ_exit ?_ | refine U_block_hit ?_
    repeat first | refine G_seq ?_ | refine G_reg ?_ | refine N_seq ?_ | refine N_block ?_ | refine G_block ?_ | refine G_skip ?_ | refine G_cT ?_ | refine G_cF ?_ | refine G_ret ?_ | refine U_seq_ret ?_ | refine U_block_ret ?_ | refine U_nil ?_ | refine S_nil ?_ | refine S_auto ?_
    refine S_step wants0 (o_builtin (by simp only [List.map, aev_tmp, aev_const, aev_func, aev_global, at_put, at_none, n_put, reduceIte, Nat.reduceEqDiff, Nat.reduceLT, zq, *]; first | done | rfl) (hrow.lenB (TL rfl))) ?_
    repeat first | refine G_seq ?_ | refine G_reg ?_ | refine N_seq ?_ | refine N_block ?_ | refine G_block ?_ | refine G_skip ?_ | refine G_cT ?_ | refine G_cF ?_ | refine G_ret ?_ | refine U_seq_ret ?_ | refine U_block_ret ?_ | refine U_nil ?_ | refine S_nil ?_ | refine S_auto ?_
    refine S_step wants0 (o_builtin (by simp only [List.map, aev_tmp, aev_const, aev_func, aev_global, at_put, at_none, n_put, reduceIte, Nat.reduceEqDiff, Nat.reduceLT, zq, *]; first | done | rfl) (hv'.lenB (TL rfl))) ?_
    repeat first | refine G_seq ?_ | refine G_reg ?_ | refine N_seq ?_ | refine N_block ?_ | refine G_block ?_ | refine G_skip ?_ | refine G_cT ?_ | refine G_cF ?_ | refine G_ret ?_ | refine U_seq_ret ?_ | refine U_block_ret ?_ | refine U_nil ?_ | refine S_nil ?_ | refine S_auto ?_
    refine S_step wants0 (o_st1 (by simp only [aev_tmp, aev_const, aev_func, aev_global, at_put, at_none, n_put, reduceIte, Nat.reduceEqDiff, Nat.reduceLT, zq, *]; first | done | rfl) (by simp only [aev_tmp, aev_const, aev_func, aev_global, at_put, at_none, n_put, reduceIte, Nat.reduceEqDiff, Nat.reduceLT, zq, *]; first | done | rfl) (TL rfl) rfl hov (by simp (disch := omega) only [get_set_self, get_new_self, get_set_ne, get_new_ne, get_bump, next_set, next_new, Nat.lt_irrefl, reduceIte, next_kill, next_bump, *]; first | done | rfl) rfl) ?_
    obtain ⟨A2, c2, rfl⟩ := hrow.len
    repeat first | refine G_seq ?_ | refine G_reg ?_ | refine N_seq ?_ | refine N_block ?_ | refine G_block ?_ | refine G_skip ?_ | refine G_cT ?_ | refine G_cF ?_ | refine G_ret ?_ | refine U_seq_ret ?_ | refine U_block_ret ?_ | refine U_nil ?_ | refine S_nil ?_ | refine S_auto ?_
    refine FQ_in (by first | exact .inr rfl | exact .inl rfl) (aresCT (by simp only [at_put, at_none, n_put, reduceIte, Nat.reduceEqDiff, Nat.reduceLT, zq, *]; first | done | rfl) (ldA (TL rfl) rfl (rd_cells (by simp (disch := omega) only [get_set_self, get_new_self, get_set_ne, get_new_ne, get_bump, next_set, next_new, Nat.lt_irrefl, reduceIte, next_kill, next_bump, *]; first | done | rfl)) rfl) (by simp only [at_put, at_none, n_put, reduceIte, Nat.reduceEqDiff, Nat.reduceLT, zq, *]; first | done | rfl)) ?_
    refine ⟨_, O', rfl, ?_, ⟨?_, fun i hi _ => ?_⟩, fun q hq => by have := hO' q hq; omega⟩
    · exact ⟨hrow.keep fun q hq => by have := hO' q hq; simp (disch := omega) only [get_set_self, get_new_self, get_set_ne, get_new_ne, get_bump, next_set, next_new, Nat.lt_irrefl, reduceIte, next_kill, next_bump, *]; first | done | rfl, fun q hq => by have := hO' q hq; simp only [next_set]; omega⟩
    · simp only [next_set]; omega
    · rw [← hk.2 i hi (by simp)]; simp (disch := omega) only [get_set_self, get_new_self, get_set_ne, get_new_ne, get_bump, next_set, next_new, Nat.lt_irrefl, reduceIte, next_kill, next_bump, *]; first | done | rfl
theorem djoined_spec {d : DP} {sv : Value} {O : List Nat} (hd : DPAt h d sv O) (hn : d.all.length + 2 ≤ n) (hl : d.all.length < 1000000) (k : Int) : C EE (n + 2) 24 [dv d sv, .int .i64 k] h fun r h' => ∃ sv' O', r = .tuple #[dv (joinD d k).1 sv', .bool (joinD d k).2] ∧ DPAt h' (joinD d k).1 sv' O' ∧ Keep h h' [] ∧ ∀ i ∈ O', i ∈ O ∨ h.next ≤ i := by
  obtain ⟨mo, la, re, l⟩ := d
  obtain ⟨A, c, rfl⟩ := hd.1.len
  refine C_in (E_X _) F_djoined rfl rfl rfl ?_
  intro a hna hat
  have e0 := hat 0 _ rfl
  have e1 := hat 1 _ rfl
  replace hna : a.n = 32 := hna
  replace e0 : a.at 0 = .agg ⟨[.int .i64 mo, .int .i64 la, .int .i64 re, .slice A l.length c]⟩ := e0
  clear hat
  repeat first | refine G_seq ?_ | refine G_reg ?_ | refine N_seq ?_ | refine N_block ?_ | refine G_block ?_ | refine G_skip ?_ | refine G_cT ?_ | refine G_cF ?_ | refine G_ret ?_ | refine U_seq_ret ?_ | refine U_block_ret ?_ | refine U_nil ?_ | refine S_nil ?_ | refine S_auto ?_
  refine S_call wants0 (by simp only [aev_tmp, aev_const, aev_func, aev_global, at_put, at_none, n_put, reduceIte, Nat.reduceEqDiff, Nat.reduceLT, zq, *]; first | done | rfl) (E_Y _) (by simp only [List.map, aev_tmp, aev_const, aev_func, aev_global, at_put, at_none, n_put, reduceIte, Nat.reduceEqDiff, Nat.reduceLT, zq, *]; first | done | rfl) ?_
  have hd1 := (hd.keep (Keep.new h (.cells [.int .i64 mo, .int .i64 la, .int .i64 re, .slice A l.length c] true) [])).keep (Keep.new _ (.cells [.int .i64 0, .int .i64 0, .int .i64 0, .slice none 0 0] true) [])
  refine (dfind_spec hd1 hn hl k).mono ?_
  rintro r h2 ⟨fi, rfl, hf, hk⟩
  have hkk : Keep h h2 [] := ((Keep.new h _ []).trans (Keep.new _ _ []) (fun i hi => .inl hi)).trans hk (fun i hi => .inl hi)
  have hnx2 : h.next + 2 ≤ h2.next := by have := hk.1; simp only [next_new, Nat.lt_irrefl, reduceIte] at this; omega
  have gp2 : h2.get h.next = some (.cells [.int .i64 mo, .int .i64 la, .int .i64 re, .slice A l.length c] true) := (hk.2 h.next (by simp only [next_new, Nat.lt_irrefl, reduceIte]; omega) (by simp)).trans (by simp (disch := omega) only [get_set_self, get_new_self, get_set_ne, get_new_ne, get_bump, next_set, next_new, Nat.lt_irrefl, reduceIte, next_kill, next_bump, *]; first | done | rfl)
  have gr2 : h2.get (h.next + 1) = some (.cells [.int .i64 0, .int .i64 0, .int .i64 0, .slice none 0 0] true) := (hk.2 (h.next + 1) (by simp only [next_new, Nat.lt_irrefl, reduceIte]; omega) (by simp)).trans (by simp (disch := omega) only [get_set_self, get_new_self, get_set_ne, get_new_ne, get_bump, next_set, next_new, Nat.lt_irrefl, reduceIte, next_kill, next_bump, *]; first | done | rfl)
  have hd2 := hd1.keep hk
  have hv2 : RowAt kH h2 l (.slice A l.length c) O := hd2.1
  have hO2 : ∀ i ∈ O, i < h.next := hd.2
  clear hk hd1 hd
  cases hf with
  | none hq =>
    have hg := dget_none hq
    have hj : joinD ⟨mo, la, re, l⟩ k = (⟨mo, la, re, l⟩, false) := by unfold joinD; dsimp only; rw [hg]
    have c1 : ((-1 : Int) < 0) = True := by decide
    rw [hj]
    clear hq hj hn hl
    repeat first | refine G_seq ?_ | refine G_reg ?_ | refine N_seq ?_ | refine N_block ?_ | refine G_block ?_ | refine G_skip ?_ | refine G_cT ?_ | refine G_cF ?_ | refine G_ret ?_ | refine U_seq_ret ?_ | refine U_block_ret ?_ | refine U_nil ?_ | refine S_nil ?_ | refine S_noG ?_ | refine S_auto ?_
    refine FQ_in (by first | exact .inr rfl | exact .inl rfl) (aresCT (by simp only [at_put, at_none, n_put, reduceIte, Nat.reduceEqDiff, Nat.reduceLT, zq, *]; first | done | rfl) (ldA (TL rfl) rfl (rd_cells (by simp (disch := omega) only [get_set_self, get_new_self, get_set_ne, get_new_ne, get_bump, next_set, next_new, Nat.lt_irrefl, reduceIte, next_kill, next_bump, *]; first | done | rfl)) rfl) (by simp only [at_put, at_none, n_put, reduceIte, Nat.reduceEqDiff, Nat.reduceLT, zq, *]; first | done | rfl)) ?_
    refine ⟨_, O, rfl, ⟨hv2.keep fun q hq => by have := hO2 q hq; simp (disch := omega) only [get_set_self, get_new_self, get_set_ne, get_new_ne, get_bump, next_set, next_new, Nat.lt_irrefl, reduceIte, next_kill, next_bump, *]; first | done | rfl, fun q hq => by have := hO2 q hq; simp only [next_set]; omega⟩, ⟨?_, fun i hi _ => ?_⟩, fun q hq => .inl hq⟩
    · simp only [next_set]; omega
    · rw [← hkk.2 i hi (by simp)]; simp (disch := omega) only [get_set_self, get_new_self, get_set_ne, get_new_ne, get_bump, next_set, next_new, Nat.lt_irrefl, reduceIte, next_kill, next_bump, *]; first | done | rfl
  | some i hi he hq =>
    have hg := dget_some hi he hq
    have c1 : ((i : Int) < 0) = False := by simp
    obtain ⟨bk, cs, g1, g2, gm, gc, g3⟩ := hv2.index (T := EE.T) (st := 59) (TL rfl) (TL rfl) ⟨rfl, rfl, by decide⟩ hi
    have hbk : bk < h.next := hO2 bk gm
    have g31 := g3 1 (by decide)
    clear g3
    repeat first | refine G_seq ?_ | refine G_reg ?_ | refine N_seq ?_ | refine N_block ?_ | refine G_block ?_ | refine G_skip ?_ | refine G_cT ?_ | refine G_cF ?_ | refine G_ret ?_ | refine U_seq_ret ?_ | refine U_block_ret ?_ | refine U_nil ?_ | refine S_nil ?_ | refine S_noG ?_ | refine S_auto ?_
    refine S_step (by first | exact wants0 | exact (wantsG rfl rfl (by simp only [n_put, *]; decide) (by simp only [at_put, at_none, n_put, reduceIte, Nat.reduceEqDiff, Nat.reduceLT, cond_true, cond_false, ne_eq, not_true_eq_false, not_false_eq_true, decide_true, decide_false, Bool.not_true, Bool.not_false, eq_self, Int.lt_irrefl, Int.le_refl, *]; first | done | rfl)).trans rfl) (o_indexAddr (by simp only [aev_tmp, aev_const, aev_func, aev_global, at_put, at_none, n_put, reduceIte, Nat.reduceEqDiff, Nat.reduceLT, zq, *]; first | done | rfl) (by simp only [aev_tmp, aev_const, aev_func, aev_global, at_put, at_none, n_put, reduceIte, Nat.reduceEqDiff, Nat.reduceLT, zq, *]; first | done | rfl) g1) ?_
    repeat first | refine G_seq ?_ | refine G_reg ?_ | refine N_seq ?_ | refine N_block ?_ | refine G_block ?_ | refine G_skip ?_ | refine G_cT ?_ | refine G_cF ?_ | refine G_ret ?_ | refine U_seq_ret ?_ | refine U_block_ret ?_ | refine U_nil ?_ | refine S_nil ?_ | refine S_noG ?_ | refine S_auto ?_
    refine S_step (by first | exact wants0 | exact (wantsG rfl rfl (by simp only [n_put, *]; decide) (by simp only [at_put, at_none, n_put, reduceIte, Nat.reduceEqDiff, Nat.reduceLT, cond_true, cond_false, ne_eq, not_true_eq_false, not_false_eq_true, decide_true, decide_false, Bool.not_true, Bool.not_false, eq_self, Int.lt_irrefl, Int.le_refl, *]; first | done | rfl)).trans rfl) (o_ld (by simp only [aev_tmp, aev_const, aev_func, aev_global, at_put, at_none, n_put, reduceIte, Nat.reduceEqDiff, Nat.reduceLT, zq, *]; first | done | rfl) (TL rfl) rfl (rd_cells g2) (g31.trans rfl)) ?_
    by_cases hs : l[i].st = 1
    · have hj : joinD ⟨mo, la, re, l⟩ k = (⟨mo, la, re, withF ⟨k, 2, l[i].since, l[i].aim⟩ l⟩, true) := by unfold joinD; dsimp only; rw [hg]; dsimp only; rw [if_pos hs, he]
      rw [hj]
      clear hq g31 hj
      repeat first | refine G_seq ?_ | refine G_reg ?_ | refine N_seq ?_ | refine N_block ?_ | refine G_block ?_ | refine G_skip ?_ | refine G_cT ?_ | refine G_cF ?_ | refine G_ret ?_ | refine U_seq_ret ?_ | refine U_block_ret ?_ | refine U_nil ?_ | refine S_nil ?_ | refine S_noG ?_ | refine S_auto ?_
      refine S_step wants0 (o_indexAddr (by simp only [aev_tmp, aev_const, aev_func, aev_global, at_put, at_none, n_put, reduceIte, Nat.reduceEqDiff, Nat.reduceLT, zq, *]; first | done | rfl) (by simp only [aev_tmp, aev_const, aev_func, aev_global, at_put, at_none, n_put, reduceIte, Nat.reduceEqDiff, Nat.reduceLT, zq, *]; first | done | rfl) g1) ?_
      refine S_step wants0 (o_ldA (by simp only [aev_tmp, aev_const, aev_func, aev_global, at_put, at_none, n_put, reduceIte, Nat.reduceEqDiff, Nat.reduceLT, zq, *]; first | done | rfl) (TL rfl) rfl (rd_cells (by simp (disch := omega) only [get_set_self, get_new_self, get_set_ne, get_new_ne, get_bump, next_set, next_new, Nat.lt_irrefl, reduceIte, next_kill, next_bump, *]; first | done | rfl)) (gc.trans rfl)) ?_
      repeat first | refine G_seq ?_ | refine G_reg ?_ | refine N_seq ?_ | refine N_block ?_ | refine G_block ?_ | refine G_skip ?_ | refine G_cT ?_ | refine G_cF ?_ | refine G_ret ?_ | refine U_seq_ret ?_ | refine U_block_ret ?_ | refine U_nil ?_ | refine S_nil ?_ | refine S_auto ?_
      refine S_call wants0 (by simp only [aev_tmp, aev_const, aev_func, aev_global, at_put, at_none, n_put, reduceIte, Nat.reduceEqDiff, Nat.reduceLT, zq, *]; first | done | rfl) (E_Y _) (by simp only [List.map, aev_tmp, aev_const, aev_func, aev_global, at_put, at_none, n_put, reduceIte, Nat.reduceEqDiff, Nat.reduceLT, zq, *]; first | done | rfl) ?_
      clear g1 gc
      refine C_le rfl ((dwith_spec (n := n) (d := ⟨mo, la, re, l⟩) (O := O) ⟨hv2.keep fun q hq => by have := hO2 q hq; simp (disch := omega) only [get_set_self, get_new_self, get_set_ne, get_new_ne, get_bump, next_set, next_new, Nat.lt_irrefl, reduceIte, next_kill, next_bump, *]; first | done | rfl, fun q hq => by have := hO2 q hq; simp only [next_set, next_new, Nat.lt_irrefl, reduceIte]; omega⟩ hn hl ⟨k, 2, l[i].since, l[i].aim⟩).mono ?_)
      rintro r h4 ⟨sv', O', rfl, hd4, hk4, hO4⟩
      have gr4 : h4.get (h.next + 1) = some (.cells [.int .i64 0, .int .i64 0, .int .i64 0, .slice none 0 0] true) := (hk4.2 (h.next + 1) (by simp only [next_set, next_new, Nat.lt_irrefl, reduceIte]; omega) (by simp)).trans (by simp (disch := omega) only [get_set_self, get_new_self, get_set_ne, get_new_ne, get_bump, next_set, next_new, Nat.lt_irrefl, reduceIte, next_kill, next_bump, *]; first | done | rfl)
      have hnx4 := hk4.1
      simp only [next_set, next_new, Nat.lt_irrefl, reduceIte] at hnx4 hO4
      have hkk4 : ∀ q, q < h.next → h4.get q = h.get q := fun q hq => by
        rw [hk4.2 q (by simp only [next_set, next_new, Nat.lt_irrefl, reduceIte]; omega) (by simp), ← hkk.2 q hq (by simp)]; simp (disch := omega) only [get_set_self, get_new_self, get_set_ne, get_new_ne, get_bump, next_set, next_new, Nat.lt_irrefl, reduceIte, next_kill, next_bump, *]; first | done | rfl
      obtain ⟨A4, c4, rfl⟩ := hd4.1.len
      clear g2 gp2 gr2 hv2 hd2 hkk hk4
      repeat first | refine G_seq ?_ | refine G_reg ?_ | refine N_seq ?_ | refine N_block ?_ | refine G_block ?_ | refine G_skip ?_ | refine G_cT ?_ | refine G_cF ?_ | refine G_ret ?_ | refine U_seq_ret ?_ | refine U_block_ret ?_ | refine U_nil ?_ | refine S_nil ?_ | refine S_auto ?_
      refine FQ_in (by first | exact .inr rfl | exact .inl rfl) (aresCT (by simp only [at_put, at_none, n_put, reduceIte, Nat.reduceEqDiff, Nat.reduceLT, zq, *]; first | done | rfl) (ldA (TL rfl) rfl (rd_cells (by simp (disch := omega) only [get_set_self, get_new_self, get_set_ne, get_new_ne, get_bump, next_set, next_new, Nat.lt_irrefl, reduceIte, next_kill, next_bump, *]; first | done | rfl)) rfl) (by simp only [at_put, at_none, n_put, reduceIte, Nat.reduceEqDiff, Nat.reduceLT, zq, *]; first | done | rfl)) ?_
      refine ⟨_, O', rfl, ⟨hd4.1.keep fun q hq => by have := hO4 q hq; simp (disch := omega) only [get_set_self, get_new_self, get_set_ne, get_new_ne, get_bump, next_set, next_new, Nat.lt_irrefl, reduceIte, next_kill, next_bump, *]; first | done | rfl, fun q hq => by have := hd4.2 q hq; simp only [next_set]; omega⟩, ⟨?_, fun i hi _ => ?_⟩, fun q hq => .inr (by have := hO4 q hq; omega)⟩
      · simp only [next_set]; omega
      · rw [← hkk4 i hi]; simp (disch := omega) only [get_set_self, get_new_self, get_set_ne, get_new_ne, get_bump, next_set, next_new, Nat.lt_irrefl, reduceIte, next_kill, next_bump, *]; first | done | rfl
    · have hj : joinD ⟨mo, la, re, l⟩ k = (⟨mo, la, re, l⟩, false) := by unfold joinD; dsimp only; rw [hg]; dsimp only; rw [if_neg hs]
      rw [hj]
      clear hq g31 hj g1 g2 gc hn hl
      repeat first | refine G_seq ?_ | refine G_reg ?_ | refine N_seq ?_ | refine N_block ?_ | refine G_block ?_ | refine G_skip ?_ | refine G_cT ?_ | refine G_cF ?_ | refine G_ret ?_ | refine U_seq_ret ?_ | refine U_block_ret ?_ | refine U_nil ?_ | refine S_nil ?_ | refine S_noG ?_ | refine S_auto ?_
      refine FQ_in (by first | exact .inr rfl | exact .inl rfl) (aresCT (by simp only [at_put, at_none, n_put, reduceIte, Nat.reduceEqDiff, Nat.reduceLT, zq, *]; first | done | rfl) (ldA (TL rfl) rfl (rd_cells (by simp (disch := omega) only [get_set_self, get_new_self, get_set_ne, get_new_ne, get_bump, next_set, next_new, Nat.lt_irrefl, reduceIte, next_kill, next_bump, *]; first | done | rfl)) rfl) (by simp only [at_put, at_none, n_put, reduceIte, Nat.reduceEqDiff, Nat.reduceLT, zq, *]; first | done | rfl)) ?_
      refine ⟨_, O, rfl, ⟨hv2.keep fun q hq => by have := hO2 q hq; simp (disch := omega) only [get_set_self, get_new_self, get_set_ne, get_new_ne, get_bump, next_set, next_new, Nat.lt_irrefl, reduceIte, next_kill, next_bump, *]; first | done | rfl, fun q hq => by have := hO2 q hq; simp only [next_set]; omega⟩, ⟨?_, fun i hi _ => ?_⟩, fun q hq => .inl hq⟩
      · simp only [next_set]; omega
      · rw [← hkk.2 i hi (by simp)]; simp (disch := omega) only [get_set_self, get_new_self, get_set_ne, get_new_ne, get_bump, next_set, next_new, Nat.lt_irrefl, reduceIte, next_kill, next_bump, *]; first | done | rfl
theorem drest_spec {d : DP} {sv : Value} {O : List Nat} (hd : DPAt h d sv O) (hn : d.all.length + 2 ≤ n) (hl : d.all.length < 1000000) (hr : 0 ≤ d.rests ∧ d.rests < 1000000) (k : Int) : C EE (n + 2) 26 [dv d sv, .int .i64 k] h fun r h' => ∃ sv' O', r = .tuple #[dv (restD d k).1 sv', .bool (restD d k).2] ∧ DPAt h' (restD d k).1 sv' O' ∧ Keep h h' [] ∧ ∀ i ∈ O', i ∈ O ∨ h.next ≤ i := by
  obtain ⟨mo, la, re, l⟩ := d
  obtain ⟨A, c, rfl⟩ := hd.1.len
  replace hr : 0 ≤ re ∧ re < 1000000 := hr
  obtain ⟨hr0, hr1⟩ := hr
  refine C_in (E_X _) F_drest rfl rfl rfl ?_
  intro a hna hat
  have e0 := hat 0 _ rfl
  have e1 := hat 1 _ rfl
  replace hna : a.n = 39 := hna
  replace e0 : a.at 0 = .agg ⟨[.int .i64 mo, .int .i64 la, .int .i64 re, .slice A l.length c]⟩ := e0
  clear hat
  repeat first | refine G_seq ?_ | refine G_reg ?_ | refine N_seq ?_ | refine N_block ?_ | refine G_block ?_ | refine G_skip ?_ | refine G_cT ?_ | refine G_cF ?_ | refine G_ret ?_ | refine U_seq_ret ?_ | refine U_block_ret ?_ | refine U_nil ?_ | refine S_nil ?_ | refine S_auto ?_
  refine S_call wants0 (by simp only [aev_tmp, aev_const, aev_func, aev_global, at_put, at_none, n_put, reduceIte, Nat.reduceEqDiff, Nat.reduceLT, zq, *]; first | done | rfl) (E_Y _) (by simp only [List.map, aev_tmp, aev_const, aev_func, aev_global, at_put, at_none, n_put, reduceIte, Nat.reduceEqDiff, Nat.reduceLT, zq, *]; first | done | rfl) ?_
  have hd1 := (hd.keep (Keep.new h (.cells [.int .i64 mo, .int .i64 la, .int .i64 re, .slice A l.length c] true) [])).keep (Keep.new _ (.cells [.int .i64 0, .int .i64 0, .int .i64 0, .slice none 0 0] true) [])
  refine (dfind_spec hd1 hn hl k).mono ?_
  rintro r h2 ⟨fi, rfl, hf, hk⟩
  have hkk : Keep h h2 [] := ((Keep.new h _ []).trans (Keep.new _ _ []) (fun i hi => .inl hi)).trans hk (fun i hi => .inl hi)
  have hnx2 : h.next + 2 ≤ h2.next := by have := hk.1; simp only [next_new, Nat.lt_irrefl, reduceIte] at this; omega
  have gp2 : h2.get h.next = some (.cells [.int .i64 mo, .int .i64 la, .int .i64 re, .slice A l.length c] true) := (hk.2 h.next (by simp only [next_new, Nat.lt_irrefl, reduceIte]; omega) (by simp)).trans (by simp (disch := omega) only [get_set_self, get_new_self, get_set_ne, get_new_ne, get_bump, next_set, next_new, Nat.lt_irrefl, reduceIte, next_kill, next_bump, *]; first | done | rfl)
  have gr2 : h2.get (h.next + 1) = some (.cells [.int .i64 0, .int .i64 0, .int .i64 0, .slice none 0 0] true) := (hk.2 (h.next + 1) (by simp only [next_new, Nat.lt_irrefl, reduceIte]; omega) (by simp)).trans (by simp (disch := omega) only [get_set_self, get_new_self, get_set_ne, get_new_ne, get_bump, next_set, next_new, Nat.lt_irrefl, reduceIte, next_kill, next_bump, *]; first | done | rfl)
  have hd2 := hd1.keep hk
  have hv2 : RowAt kH h2 l (.slice A l.length c) O := hd2.1
  have hO2 : ∀ i ∈ O, i < h.next := hd.2
  clear hk hd1 hd
  cases hf with
  | none hq =>
    have hg := dget_none hq
    have hj : restD ⟨mo, la, re, l⟩ k = (⟨mo, la, re, l⟩, false) := by unfold restD; dsimp only; rw [hg]
    have c1 : ((-1 : Int) < 0) = True := by decide
    rw [hj]
    clear hq hj hn hl
    repeat first | refine G_seq ?_ | refine G_reg ?_ | refine N_seq ?_ | refine N_block ?_ | refine G_block ?_ | refine G_skip ?_ | refine G_cT ?_ | refine G_cF ?_ | refine G_ret ?_ | refine U_seq_ret ?_ | refine U_block_ret ?_ | refine U_nil ?_ | refine S_nil ?_ | refine S_noG ?_ | refine S_auto ?_
    refine FQ_in (by first | exact .inr rfl | exact .inl rfl) (aresCT (by simp only [at_put, at_none, n_put, reduceIte, Nat.reduceEqDiff, Nat.reduceLT, zq, *]; first | done | rfl) (ldA (TL rfl) rfl (rd_cells (by simp (disch := omega) only [get_set_self, get_new_self, get_set_ne, get_new_ne, get_bump, next_set, next_new, Nat.lt_irrefl, reduceIte, next_kill, next_bump, *]; first | done | rfl)) rfl) (by simp only [at_put, at_none, n_put, reduceIte, Nat.reduceEqDiff, Nat.reduceLT, zq, *]; first | done | rfl)) ?_
    refine ⟨_, O, rfl, ⟨hv2.keep fun q hq => by have := hO2 q hq; simp (disch := omega) only [get_set_self, get_new_self, get_set_ne, get_new_ne, get_bump, next_set, next_new, Nat.lt_irrefl, reduceIte, next_kill, next_bump, *]; first | done | rfl, fun q hq => by have := hO2 q hq; simp only [next_set]; omega⟩, ⟨?_, fun i hi _ => ?_⟩, fun q hq => .inl hq⟩
    · simp only [next_set]; omega
    · rw [← hkk.2 i hi (by simp)]; simp (disch := omega) only [get_set_self, get_new_self, get_set_ne, get_new_ne, get_bump, next_set, next_new, Nat.lt_irrefl, reduceIte, next_kill, next_bump, *]; first | done | rfl
  | some i hi he hq =>
    have hg := dget_some hi he hq
    have c1 : ((i : Int) < 0) = False := by simp
    obtain ⟨bk, cs, g1, g2, gm, gc, g3⟩ := hv2.index (T := EE.T) (st := 59) (TL rfl) (TL rfl) ⟨rfl, rfl, by decide⟩ hi
    have hbk : bk < h.next := hO2 bk gm
    have g31 := g3 1 (by decide)
    clear g3
    repeat first | refine G_seq ?_ | refine G_reg ?_ | refine N_seq ?_ | refine N_block ?_ | refine G_block ?_ | refine G_skip ?_ | refine G_cT ?_ | refine G_cF ?_ | refine G_ret ?_ | refine U_seq_ret ?_ | refine U_block_ret ?_ | refine U_nil ?_ | refine S_nil ?_ | refine S_noG ?_ | refine S_auto ?_
    refine S_step (by first | exact wants0 | exact (wantsG rfl rfl (by simp only [n_put, *]; decide) (by simp only [at_put, at_none, n_put, reduceIte, Nat.reduceEqDiff, Nat.reduceLT, cond_true, cond_false, ne_eq, not_true_eq_false, not_false_eq_true, decide_true, decide_false, Bool.not_true, Bool.not_false, eq_self, Int.lt_irrefl, Int.le_refl, *]; first | done | rfl)).trans rfl) (o_indexAddr (by simp only [aev_tmp, aev_const, aev_func, aev_global, at_put, at_none, n_put, reduceIte, Nat.reduceEqDiff, Nat.reduceLT, zq, *]; first | done | rfl) (by simp only [aev_tmp, aev_const, aev_func, aev_global, at_put, at_none, n_put, reduceIte, Nat.reduceEqDiff, Nat.reduceLT, zq, *]; first | done | rfl) g1) ?_
    repeat first | refine G_seq ?_ | refine G_reg ?_ | refine N_seq ?_ | refine N_block ?_ | refine G_block ?_ | refine G_skip ?_ | refine G_cT ?_ | refine G_cF ?_ | refine G_ret ?_ | refine U_seq_ret ?_ | refine U_block_ret ?_ | refine U_nil ?_ | refine S_nil ?_ | refine S_noG ?_ | refine S_auto ?_
    refine S_step (by first | exact wants0 | exact (wantsG rfl rfl (by simp only [n_put, *]; decide) (by simp only [at_put, at_none, n_put, reduceIte, Nat.reduceEqDiff, Nat.reduceLT, cond_true, cond_false, ne_eq, not_true_eq_false, not_false_eq_true, decide_true, decide_false, Bool.not_true, Bool.not_false, eq_self, Int.lt_irrefl, Int.le_refl, *]; first | done | rfl)).trans rfl) (o_ld (by simp only [aev_tmp, aev_const, aev_func, aev_global, at_put, at_none, n_put, reduceIte, Nat.reduceEqDiff, Nat.reduceLT, zq, *]; first | done | rfl) (TL rfl) rfl (rd_cells g2) (g31.trans rfl)) ?_
    by_cases hs : l[i].st = 2
    · have hj : restD ⟨mo, la, re, l⟩ k = (⟨mo, la, re + 1, withF ⟨k, 3, re + 1, l[i].aim⟩ l⟩, true) := by unfold restD; dsimp only; rw [hg]; dsimp only; rw [if_pos hs, he]
      rw [hj]
      clear hq g31 hj
      repeat first | refine G_seq ?_ | refine G_reg ?_ | refine N_seq ?_ | refine N_block ?_ | refine G_block ?_ | refine G_skip ?_ | refine G_cT ?_ | refine G_cF ?_ | refine G_ret ?_ | refine U_seq_ret ?_ | refine U_block_ret ?_ | refine U_nil ?_ | refine S_nil ?_ | refine S_noG ?_ | refine S_auto ?_
      refine S_step wants0 (o_indexAddr (by simp only [aev_tmp, aev_const, aev_func, aev_global, at_put, at_none, n_put, reduceIte, Nat.reduceEqDiff, Nat.reduceLT, zq, *]; first | done | rfl) (by simp only [aev_tmp, aev_const, aev_func, aev_global, at_put, at_none, n_put, reduceIte, Nat.reduceEqDiff, Nat.reduceLT, zq, *]; first | done | rfl) g1) ?_
      refine S_step wants0 (o_ldA (by simp only [aev_tmp, aev_const, aev_func, aev_global, at_put, at_none, n_put, reduceIte, Nat.reduceEqDiff, Nat.reduceLT, zq, *]; first | done | rfl) (TL rfl) rfl (rd_cells (by simp (disch := omega) only [get_set_self, get_new_self, get_set_ne, get_new_ne, get_bump, next_set, next_new, Nat.lt_irrefl, reduceIte, next_kill, next_bump, *]; first | done | rfl)) (gc.trans rfl)) ?_
      repeat first | refine G_seq ?_ | refine G_reg ?_ | refine N_seq ?_ | refine N_block ?_ | refine G_block ?_ | refine G_skip ?_ | refine G_cT ?_ | refine G_cF ?_ | refine G_ret ?_ | refine U_seq_ret ?_ | refine U_block_ret ?_ | refine U_nil ?_ | refine S_nil ?_ | refine S_auto ?_
      refine S_call wants0 (by simp only [aev_tmp, aev_const, aev_func, aev_global, at_put, at_none, n_put, reduceIte, Nat.reduceEqDiff, Nat.reduceLT, zq, *]; first | done | rfl) (E_Y _) (by simp only [List.map, aev_tmp, aev_const, aev_func, aev_global, at_put, at_none, n_put, reduceIte, Nat.reduceEqDiff, Nat.reduceLT, zq, *]; first | done | rfl) ?_
      clear g1 gc
      refine C_le rfl ((dwith_spec (n := n) (d := ⟨mo, la, re + 1, l⟩) (O := O) ⟨hv2.keep fun q hq => by have := hO2 q hq; simp (disch := omega) only [get_set_self, get_new_self, get_set_ne, get_new_ne, get_bump, next_set, next_new, Nat.lt_irrefl, reduceIte, next_kill, next_bump, *]; first | done | rfl, fun q hq => by have := hO2 q hq; simp only [next_set, next_new, Nat.lt_irrefl, reduceIte]; omega⟩ hn hl ⟨k, 3, re + 1, l[i].aim⟩).mono ?_)
      rintro r h4 ⟨sv', O', rfl, hd4, hk4, hO4⟩
      have gr4 : h4.get (h.next + 1) = some (.cells [.int .i64 0, .int .i64 0, .int .i64 0, .slice none 0 0] true) := (hk4.2 (h.next + 1) (by simp only [next_set, next_new, Nat.lt_irrefl, reduceIte]; omega) (by simp)).trans (by simp (disch := omega) only [get_set_self, get_new_self, get_set_ne, get_new_ne, get_bump, next_set, next_new, Nat.lt_irrefl, reduceIte, next_kill, next_bump, *]; first | done | rfl)
      have hnx4 := hk4.1
      simp only [next_set, next_new, Nat.lt_irrefl, reduceIte] at hnx4 hO4
      have hkk4 : ∀ q, q < h.next → h4.get q = h.get q := fun q hq => by
        rw [hk4.2 q (by simp only [next_set, next_new, Nat.lt_irrefl, reduceIte]; omega) (by simp), ← hkk.2 q hq (by simp)]; simp (disch := omega) only [get_set_self, get_new_self, get_set_ne, get_new_ne, get_bump, next_set, next_new, Nat.lt_irrefl, reduceIte, next_kill, next_bump, *]; first | done | rfl
      obtain ⟨A4, c4, rfl⟩ := hd4.1.len
      clear g2 gp2 gr2 hv2 hd2 hkk hk4
      repeat first | refine G_seq ?_ | refine G_reg ?_ | refine N_seq ?_ | refine N_block ?_ | refine G_block ?_ | refine G_skip ?_ | refine G_cT ?_ | refine G_cF ?_ | refine G_ret ?_ | refine U_seq_ret ?_ | refine U_block_ret ?_ | refine U_nil ?_ | refine S_nil ?_ | refine S_auto ?_
      refine FQ_in (by first | exact .inr rfl | exact .inl rfl) (aresCT (by simp only [at_put, at_none, n_put, reduceIte, Nat.reduceEqDiff, Nat.reduceLT, zq, *]; first | done | rfl) (ldA (TL rfl) rfl (rd_cells (by simp (disch := omega) only [get_set_self, get_new_self, get_set_ne, get_new_ne, get_bump, next_set, next_new, Nat.lt_irrefl, reduceIte, next_kill, next_bump, *]; first | done | rfl)) rfl) (by simp only [at_put, at_none, n_put, reduceIte, Nat.reduceEqDiff, Nat.reduceLT, zq, *]; first | done | rfl)) ?_
      refine ⟨_, O', rfl, ⟨hd4.1.keep fun q hq => by have := hO4 q hq; simp (disch := omega) only [get_set_self, get_new_self, get_set_ne, get_new_ne, get_bump, next_set, next_new, Nat.lt_irrefl, reduceIte, next_kill, next_bump, *]; first | done | rfl, fun q hq => by have := hd4.2 q hq; simp only [next_set]; omega⟩, ⟨?_, fun i hi _ => ?_⟩, fun q hq => .inr (by have := hO4 q hq; omega)⟩
      · simp only [next_set]; omega
      · rw [← hkk4 i hi]; simp (disch := omega) only [get_set_self, get_new_self, get_set_ne, get_new_ne, get_bump, next_set, next_new, Nat.lt_irrefl, reduceIte, next_kill, next_bump, *]; first | done | rfl
    · have hj : restD ⟨mo, la, re, l⟩ k = (⟨mo, la, re, l⟩, false) := by unfold restD; dsimp only; rw [hg]; dsimp only; rw [if_neg hs]
      rw [hj]
      clear hq g31 hj g1 g2 gc hn hl
      repeat first | refine G_seq ?_ | refine G_reg ?_ | refine N_seq ?_ | refine N_block ?_ | refine G_block ?_ | refine G_skip ?_ | refine G_cT ?_ | refine G_cF ?_ | refine G_ret ?_ | refine U_seq_ret ?_ | refine U_block_ret ?_ | refine U_nil ?_ | refine S_nil ?_ | refine S_noG ?_ | refine S_auto ?_
      refine FQ_in (by first | exact .inr rfl | exact .inl rfl) (aresCT (by simp only [at_put, at_none, n_put, reduceIte, Nat.reduceEqDiff, Nat.reduceLT, zq, *]; first | done | rfl) (ldA (TL rfl) rfl (rd_cells (by simp (disch := omega) only [get_set_self, get_new_self, get_set_ne, get_new_ne, get_bump, next_set, next_new, Nat.lt_irrefl, reduceIte, next_kill, next_bump, *]; first | done | rfl)) rfl) (by simp only [at_put, at_none, n_put, reduceIte, Nat.reduceEqDiff, Nat.reduceLT, zq, *]; first | done | rfl)) ?_
      refine ⟨_, O, rfl, ⟨hv2.keep fun q hq => by have := hO2 q hq; simp (disch := omega) only [get_set_self, get_new_self, get_set_ne, get_new_ne, get_bump, next_set, next_new, Nat.lt_irrefl, reduceIte, next_kill, next_bump, *]; first | done | rfl, fun q hq => by have := hO2 q hq; simp only [next_set]; omega⟩, ⟨?_, fun i hi _ => ?_⟩, fun q hq => .inl hq⟩
      · simp only [next_set]; omega
      · rw [← hkk.2 i hi (by simp)]; simp (disch := omega) only [get_set_self, get_new_self, get_set_ne, get_new_ne, get_bump, next_set, next_new, Nat.lt_irrefl, reduceIte, next_kill, next_bump, *]; first | done | rfl
end
end Go.Proofs.Ytffockklleanmaa.AM.SX

/- The document's pool: Take. -/
namespace Go.Proofs.Ytffockklleanmaa.AM.SX
open Go
set_option linter.unusedVariables false
set_option linter.unusedSimpArgs false
set_option maxRecDepth 100000
set_option maxHeartbeats 8000000
attribute [local irreducible] astep0 aev awants abin abuild
theorem G_join2 {E : Env} {cf : CallF} {n : Nat} {k : List Fr} {x y c : Code} {a : AAct} {h : AHeap} {Q : QT} (P : AAct → AHeap → Prop) (h1 : G E cf n [.seq c] x a h (JQ E cf n (.seq y :: k) Q P)) (h2 : ∀ a h, P a h → G E cf n k y a h Q) : G E cf n (.seq c :: .seq y :: k) x a h Q := by
  unfold G at h1 ⊢
  refine R.mono h1 ?_
  intro e a h g
  have key : ∀ e a h, JQ E cf n (.seq y :: k) Q P e a h → U E cf n (.seq y :: k) Q e a h := by
    intro e a h he
    unfold JQ at he
    cases e with
    | normal => have := h2 a h he; unfold G at this; unfold U; exact this
    | _ => exact he
  cases e with
  | normal =>
    unfold U at g ⊢
    refine R.mono g ?_
    intro e a h g
    unfold U at g
    exact key e a h g
  | _ =>
    unfold U at g ⊢
    unfold U at g
    exact key _ a h g
theorem wantsU {a : AAct} {ops : Array Oper} {dst : Option Nat} {op : Op} {ty : Nat} {pos : String} {aft : Array Edge} {j d : Nat} {w : Bool} {p : Oper} (hp : ops[j]? = some p) (hd : p.dst = some d) (hn : d < a.n) (hb : a.at d = undef) : awants ops a ⟨dst, op, ty, pos, aft, some (j, w)⟩ = false := by
  unfold awants
  simp only [hp, hd, hb, bltd, hn, decide_true, cond_true]
  rfl
theorem D_noU {cf : CallF} {qs lq : List Nat} {ops : Array Oper} {base : Nat} {Q : AAct → AHeap → Prop} {h : AHeap} {r : List (Oper × Nat)} {a : AAct} {p : Pend} {dst : Option Nat} {ty : Nat} {pos : String} {aft : Array Edge} {op : Op} {i : Nat} {ls : LsT} {j d : Nat} {w : Bool} {q : Oper} (hh : D1 EE cf qs lq ops base Q h r (a.put dst undef) p ls) (hp : ops[j]? = some q := by rfl) (hd : q.dst = some d := by rfl) (hn : d < a.n := by simp only [n_put, *]; decide) (hb : a.at d = undef := by simp only [at_put, at_none, n_put, reduceIte, Nat.reduceEqDiff, Nat.reduceLT, cond_true, cond_false, ne_eq, not_true_eq_false, not_false_eq_true, decide_true, decide_false, Bool.not_true, Bool.not_false, eq_self, Int.lt_irrefl, Int.le_refl, *]; first | done | rfl) : D1 EE cf qs lq ops base Q h ((⟨dst, op, ty, pos, aft, some (j, w)⟩, i) :: r) a p ls := D1_no (wantsU hp hd hn hb) hh
theorem veq_dv {d : DP} {sv : Value} (h : vok1 sv = true) : veq (dv d sv) (dv d sv) = true := veq_self (by show (true && (true && (true && (vok1 sv && true)))) = true; rw [h]; rfl)
/-- of the first b handles the newest of an aim; the oldest -/
inductive NwP (l : List HD) (aim : ByteArray) (b : Nat) : Int → Prop where
  | none (hq : ∀ (q : Nat) (hq : q < l.length), q < b → ¬ (l[q].st = 3 ∧ l[q].aim = aim)) : NwP l aim b (-1)
  | some (i : Nat) (hi : i < l.length) (hib : i < b) (hs : l[i].st = 3) (ha : l[i].aim = aim) (hm : ∀ (q : Nat) (hq : q < l.length), q < b → l[q].st = 3 → l[q].aim = aim → l[q].since ≤ l[i].since) : NwP l aim b i
inductive OlP (l : List HD) (b : Nat) : Int → Prop where
  | none (hq : ∀ (q : Nat) (hq : q < l.length), q < b → l[q].st ≠ 3) : OlP l b (-1)
  | some (i : Nat) (hi : i < l.length) (hib : i < b) (hs : l[i].st = 3) (hm : ∀ (q : Nat) (hq : q < l.length), q < b → l[q].st = 3 → l[i].since ≤ l[q].since) : OlP l b i
theorem lt_succ_cases {q b : Nat} (h : q < b + 1) : q < b ∨ q = b := by omega
theorem NwP.skip {l : List HD} {aim : ByteArray} {b : Nat} {w : Int} (h : NwP l aim b w) (hb : b < l.length) (hn : ¬ (l[b].st = 3 ∧ l[b].aim = aim)) : NwP l aim (b + 1) w := by
  cases h with
  | none hq => exact .none fun q hql hqb => by rcases lt_succ_cases hqb with h1 | rfl; exact hq q hql h1; exact hn
  | some i hi hib hs ha hm => exact .some i hi (by omega) hs ha fun q hql hqb g1 g2 => by rcases lt_succ_cases hqb with h1 | rfl; exact hm q hql h1 g1 g2; exact absurd ⟨g1, g2⟩ hn
theorem NwP.take {l : List HD} {aim : ByteArray} {b : Nat} {w : Int} (h : NwP l aim b w) (hb : b < l.length) (h1 : l[b].st = 3) (h2 : l[b].aim = aim) (hc : ∀ (i : Nat) (hi : i < l.length), w = i → l[i].since < l[b].since) : NwP l aim (b + 1) b :=
  .some b hb (by omega) h1 h2 fun q hql hqb g1 g2 => by
    rcases lt_succ_cases hqb with h3 | rfl
    · cases h with
      | none hq => exact absurd ⟨g1, g2⟩ (hq q hql h3)
      | some i hi hib hs ha hm => have := hm q hql h3 g1 g2; have := hc i hi rfl; omega
    · exact Int.le_refl _
theorem NwP.stay {l : List HD} {aim : ByteArray} {b i : Nat} (h : NwP l aim b i) (hb : b < l.length) (hi : i < l.length) (hc : l[b].since ≤ l[i].since) : NwP l aim (b + 1) i := by
  generalize hw : (i : Int) = w at h
  cases h with
  | none hq => omega
  | some i' hi' hib hs ha hm =>
    obtain rfl : i = i' := by omega
    exact .some i hi (by omega) hs ha fun q hql hqb g1 g2 => by rcases lt_succ_cases hqb with h1 | rfl; exact hm q hql h1 g1 g2; exact hc
theorem OlP.skip {l : List HD} {b : Nat} {w : Int} (h : OlP l b w) (hb : b < l.length) (hn : l[b].st ≠ 3) : OlP l (b + 1) w := by
  cases h with
  | none hq => exact .none fun q hql hqb => by rcases lt_succ_cases hqb with h1 | rfl; exact hq q hql h1; exact hn
  | some i hi hib hs hm => exact .some i hi (by omega) hs fun q hql hqb g1 => by rcases lt_succ_cases hqb with h1 | rfl; exact hm q hql h1 g1; exact absurd g1 hn
theorem OlP.take {l : List HD} {b : Nat} {w : Int} (h : OlP l b w) (hb : b < l.length) (h1 : l[b].st = 3) (hc : ∀ (i : Nat) (hi : i < l.length), w = i → l[b].since < l[i].since) : OlP l (b + 1) b :=
  .some b hb (by omega) h1 fun q hql hqb g1 => by
    rcases lt_succ_cases hqb with h3 | rfl
    · cases h with
      | none hq => exact absurd g1 (hq q hql h3)
      | some i hi hib hs hm => have := hm q hql h3 g1; have := hc i hi rfl; omega
    · exact Int.le_refl _
theorem OlP.stay {l : List HD} {b i : Nat} (h : OlP l b i) (hb : b < l.length) (hi : i < l.length) (hc : l[i].since ≤ l[b].since) : OlP l (b + 1) i := by
  generalize hw : (i : Int) = w at h
  cases h with
  | none hq => omega
  | some i' hi' hib hs hm =>
    obtain rfl : i = i' := by omega
    exact .some i hi (by omega) hs fun q hql hqb g1 => by rcases lt_succ_cases hqb with h1 | rfl; exact hm q hql h1 g1; exact hc
/-- what the document's Take gives -/
inductive TakeD (d : DP) (aim : ByteArray) : Int → Int → Bool → Int → DP → Prop where
  | lent (i : Nat) (hi : i < d.all.length) (hp : NwP d.all aim d.all.length i) : TakeD d aim d.all[i].h 0 false 0 { d with all := withF ⟨d.all[i].h, 2, d.all[i].since, d.all[i].aim⟩ d.all }
  | full (hn : NwP d.all aim d.all.length (-1)) (hf : d.most ≤ d.all.length) (ho : OlP d.all d.all.length (-1)) : TakeD d aim 0 0 false 6 d
  | shut (hn : NwP d.all aim d.all.length (-1)) (hf : d.most ≤ d.all.length) (i : Nat) (hi : i < d.all.length) (ho : OlP d.all d.all.length i) : TakeD d aim (d.last + 1) d.all[i].h true 0 { d with last := d.last + 1, all := withF ⟨d.last + 1, 1, 0, aim⟩ (outF d.all[i].h d.all) }
  | fresh (hn : NwP d.all aim d.all.length (-1)) (hf : ¬ d.most ≤ d.all.length) : TakeD d aim (d.last + 1) 0 true 0 { d with last := d.last + 1, all := withF ⟨d.last + 1, 1, 0, aim⟩ d.all }
section
variable {n : Nat} {h : AHeap}
theorem dtake_spec {d : DP} {sv : Value} {O : List Nat} (hd : DPAt h d sv O) (hn : d.all.length + 2 ≤ n) (hl : d.all.length < 1000000) (hla : 0 ≤ d.last ∧ d.last < 1000000) (aim : ByteArray) : C EE (n + 2) 22 [dv d sv, .string aim] h fun r h' => ∃ H S F e d' sv' O', r = .tuple #[dv d' sv', .agg ⟨[.int .i64 H, .int .i64 S, .bool F]⟩, .int .i64 e] ∧ TakeD d aim H S F e d' ∧ DPAt h' d' sv' O' ∧ Keep h h' [] ∧ ∀ i ∈ O', i ∈ O ∨ h.next ≤ i := by
  obtain ⟨mo, la, re, l⟩ := d
  obtain ⟨A, c, rfl⟩ := hd.1.len
  replace hla : 0 ≤ la ∧ la < 1000000 := hla
  obtain ⟨hla0, hla1⟩ := hla
  obtain ⟨hv, hO⟩ := hd
  replace hv : RowAt kH h l (.slice A l.length c) O := hv
  replace hn : l.length + 2 ≤ n := hn
  replace hl : l.length < 1000000 := hl
  refine C_in (E_X _) F_dtake rfl rfl rfl ?_
  intro a hna hat
  have e0 := hat 0 _ rfl
  have e1 := hat 1 _ rfl
  replace hna : a.n = 118 := hna
  replace e0 : a.at 0 = .agg ⟨[.int .i64 mo, .int .i64 la, .int .i64 re, .slice A l.length c]⟩ := e0
  clear hat
  repeat first | refine G_seq ?_ | refine G_reg ?_ | refine N_seq ?_ | refine N_block ?_ | refine G_block ?_ | refine G_skip ?_ | refine G_cT ?_ | refine G_cF ?_ | refine G_ret ?_ | refine U_seq_ret ?_ | refine U_block_ret ?_ | refine U_nil ?_ | refine S_nil ?_ | refine S_auto ?_
  refine G_loop (fun j a h' => ∃ (i : Nat) (nw od : Int), i + j = l.length ∧ a.n = 118 ∧ a.at 1 = .string aim ∧ a.at 2 = .pointer (some ⟨h.next, 0, none⟩) ∧ a.at 4 = .pointer (some ⟨h.next + 1, 0, none⟩) ∧ a.at 5 = .pointer (some ⟨h.next + 2, 0, none⟩) ∧ a.at 7 = .int .i64 nw ∧ a.at 8 = .int .i64 od ∧ a.at 9 = .int .i64 (i : Int) ∧ NwP l aim i nw ∧ OlP l i od ∧ Keep h h' [] ∧ h.next + 3 ≤ h'.next ∧ h'.get h.next = some (.cells [.int .i64 mo, .int .i64 la, .int .i64 re, .slice A l.length c] true) ∧ h'.get (h.next + 1) = some (.cells [.int .i64 0, .int .i64 0, .int .i64 0, .slice none 0 0] true) ∧ h'.get (h.next + 2) = some (.cells [.int .i64 0, .int .i64 0, .bool false] true)) l.length (by omega) ⟨0, -1, -1, by omega, by simp only [at_put, at_none, n_put, reduceIte, Nat.reduceEqDiff, Nat.reduceLT, zq, *]; first | done | rfl, by simp only [at_put, at_none, n_put, reduceIte, Nat.reduceEqDiff, Nat.reduceLT, zq, *]; first | done | rfl, by simp (disch := omega) only [at_put, at_none, n_put, reduceIte, Nat.reduceEqDiff, Nat.reduceLT, get_set_self, get_new_self, get_set_ne, get_new_ne, get_bump, next_set, next_new, Nat.lt_irrefl, next_kill, next_bump, cond_true, cond_false, *]; first | done | rfl, by simp (disch := omega) only [at_put, at_none, n_put, reduceIte, Nat.reduceEqDiff, Nat.reduceLT, get_set_self, get_new_self, get_set_ne, get_new_ne, get_bump, next_set, next_new, Nat.lt_irrefl, next_kill, next_bump, cond_true, cond_false, *]; first | done | rfl, by simp (disch := omega) only [at_put, at_none, n_put, reduceIte, Nat.reduceEqDiff, Nat.reduceLT, get_set_self, get_new_self, get_set_ne, get_new_ne, get_bump, next_set, next_new, Nat.lt_irrefl, next_kill, next_bump, cond_true, cond_false, *]; first | done | rfl, by simp only [at_put, at_none, n_put, reduceIte, Nat.reduceEqDiff, Nat.reduceLT, zq, *]; first | done | rfl, by simp only [at_put, at_none, n_put, reduceIte, Nat.reduceEqDiff, Nat.reduceLT, zq, *]; first | done | rfl, by simp only [at_put, at_none, n_put, reduceIte, Nat.reduceEqDiff, Nat.reduceLT, zq, *]; first | done | rfl, .none fun q hq h0 => absurd h0 (Nat.not_lt_zero _), .none fun q hq h0 => absurd h0 (Nat.not_lt_zero _), ⟨?_, fun i hi _ => by simp (disch := omega) only [get_set_self, get_new_self, get_set_ne, get_new_ne, get_bump, next_set, next_new, Nat.lt_irrefl, reduceIte, next_kill, next_bump, *]; first | done | rfl⟩, ?_, by simp (disch := omega) only [get_set_self, get_new_self, get_set_ne, get_new_ne, get_bump, next_set, next_new, Nat.lt_irrefl, reduceIte, next_kill, next_bump, *]; first | done | rfl, by simp (disch := omega) only [get_set_self, get_new_self, get_set_ne, get_new_ne, get_bump, next_set, next_new, Nat.lt_irrefl, reduceIte, next_kill, next_bump, *]; first | done | rfl, by simp (disch := omega) only [get_set_self, get_new_self, get_set_ne, get_new_ne, get_bump, next_set, next_new, Nat.lt_irrefl, reduceIte, next_kill, next_bump, *]; first | done | rfl⟩ ?_
  · simp only [next_new, Nat.lt_irrefl, reduceIte]; omega
  · simp only [next_new, Nat.lt_irrefl, reduceIte]; omega
  clear e0 e1 hna a
  rintro j a h' ⟨i, nw, od, hij, hna, e1, e2, e4, e5, e7, e8, e9, hnw, hod, hk, hnx, gp, gr, gl⟩
  have hv' : RowAt kH h' l (.slice A l.length c) O := hv.keep fun i hi => hk.2 i (hO i hi) (by simp)
  have hvq : veq (.slice A l.length c) (.slice A l.length c) = true := hv.veq
  repeat first | refine G_seq ?_ | refine G_reg ?_ | refine N_seq ?_ | refine N_block ?_ | refine G_block ?_ | refine G_skip ?_ | refine G_cT ?_ | refine G_cF ?_ | refine G_ret ?_ | refine U_seq_ret ?_ | refine U_block_ret ?_ | refine U_nil ?_ | refine S_nil ?_ | refine S_auto ?_
  refine S_step wants0 (o_builtin (by simp only [List.map, aev_tmp, aev_const, aev_func, aev_global, at_put, at_none, n_put, reduceIte, Nat.reduceEqDiff, Nat.reduceLT, zq, *]; first | done | rfl) (hv'.lenB (TL rfl))) ?_
  by_cases hil : i < l.length
  · have hil' : (i : Int) < (l.length : Int) := by omega
    obtain ⟨bk, cs, g1, g2, gm, gc, g3⟩ := hv'.index (T := EE.T) (st := 59) (TL rfl) (TL rfl) ⟨rfl, rfl, by decide⟩ hil
    have hbk : bk < h'.next := Nat.lt_of_lt_of_le (hO bk gm) hk.1
    clear g3
    repeat first | refine G_seq ?_ | refine G_reg ?_ | refine N_seq ?_ | refine N_block ?_ | refine G_block ?_ | refine G_skip ?_ | refine G_cT ?_ | refine G_cF ?_ | refine G_ret ?_ | refine U_seq_ret ?_ | refine U_block_ret ?_ | refine U_nil ?_ | refine S_nil ?_ | refine S_auto ?_
    refine S_step wants0 (o_indexAddr (by simp only [aev_tmp, aev_const, aev_func, aev_global, at_put, at_none, n_put, reduceIte, Nat.reduceEqDiff, Nat.reduceLT, zq, *]; first | done | rfl) (by simp only [aev_tmp, aev_const, aev_func, aev_global, at_put, at_none, n_put, reduceIte, Nat.reduceEqDiff, Nat.reduceLT, zq, *]; first | done | rfl) g1) ?_
    refine S_step wants0 (o_ldA (by simp only [aev_tmp, aev_const, aev_func, aev_global, at_put, at_none, n_put, reduceIte, Nat.reduceEqDiff, Nat.reduceLT, zq, *]; first | done | rfl) (TL rfl) rfl (rd_cells (by simp (disch := omega) only [get_set_self, get_new_self, get_set_ne, get_new_ne, get_bump, next_set, next_new, Nat.lt_irrefl, reduceIte, next_kill, next_bump, *]; first | done | rfl)) (gc.trans rfl)) ?_
    clear g1 g2 gc gm
    by_cases hs : l[i].st = 3
    · repeat first | refine G_seq ?_ | refine G_reg ?_ | refine N_seq ?_ | refine N_block ?_ | refine G_block ?_ | refine G_skip ?_ | refine G_cT ?_ | refine G_cF ?_ | refine G_ret ?_ | refine U_seq_ret ?_ | refine U_block_ret ?_ | refine U_nil ?_ | refine S_nil ?_ | refine S_auto ?_
      refine G_join2 (fun a h2 => ∃ nw' : Int, a.n = 118 ∧ a.at 1 = .string aim ∧ a.at 2 = .pointer (some ⟨h.next, 0, none⟩) ∧ a.at 4 = .pointer (some ⟨h.next + 1, 0, none⟩) ∧ a.at 5 = .pointer (some ⟨h.next + 2, 0, none⟩) ∧ a.at 7 = .int .i64 nw' ∧ a.at 8 = .int .i64 od ∧ a.at 9 = .int .i64 (i : Int) ∧ a.at 10 = .pointer (some ⟨h'.next, 0, none⟩) ∧ NwP l aim (i + 1) nw' ∧ Keep h h2 [] ∧ h'.next + 1 ≤ h2.next ∧ h2.get h.next = some (.cells [.int .i64 mo, .int .i64 la, .int .i64 re, .slice A l.length c] true) ∧ h2.get (h.next + 1) = some (.cells [.int .i64 0, .int .i64 0, .int .i64 0, .slice none 0 0] true) ∧ h2.get (h.next + 2) = some (.cells [.int .i64 0, .int .i64 0, .bool false] true) ∧ h2.get h'.next = some (.cells [.int .i64 l[i].h, .int .i64 3, .int .i64 l[i].since, .string l[i].aim] true)) ?_ ?_
      · have hfin : ∀ N : Nat, Keep h (bump (((h'.new h'.next (.cells [.int .i64 0, .int .i64 0, .int .i64 0, .string ⟨#[]⟩] true))).set h'.next (.cells [.int .i64 l[i].h, .int .i64 l[i].st, .int .i64 l[i].since, .string l[i].aim] true)) N) [] := fun N => ⟨by simp only [next_bump, next_set, next_new, Nat.lt_irrefl, reduceIte]; omega, fun q hq _ => by rw [← hk.2 q hq (by simp)]; simp (disch := omega) only [get_set_self, get_new_self, get_set_ne, get_new_ne, get_bump, next_set, next_new, Nat.lt_irrefl, reduceIte, next_kill, next_bump, *]; first | done | rfl⟩
        refine G_draw [] [] (by kernel_rfl) ?_
        repeat first | refine D1_nil0 ?_ | refine D2_nil ?_ | refine D_noG ?_ | refine D_noU ?_ | refine D_pure ?_ | refine D_rd ?_ | refine D2_pure' ?_
        by_cases ha : l[i].aim = aim
        · cases hnw with
          | none hq =>
            have c1 : ((-1 : Int) < 0) = True := by decide
            have hP := NwP.take (.none hq) hil hs ha (fun i hi e => by omega)
            clear hq
            repeat first | refine D1_nil0 ?_ | refine D2_nil ?_ | refine D_noG ?_ | refine D_noU ?_ | refine D_pure ?_ | refine D_rd ?_ | refine D2_pure' ?_
            repeat first | refine G_seq ?_ | refine G_reg ?_ | refine N_seq ?_ | refine N_block ?_ | refine G_block ?_ | refine G_skip ?_ | refine G_cT ?_ | refine G_cF ?_ | refine G_ret ?_ | refine U_seq_ret ?_ | refine U_block_ret ?_ | refine U_nil ?_ | refine S_nil ?_ | refine S_auto ?_
            refine N_nil ?_
            exact JQ_n ⟨(i : Int), by simp only [at_put, at_none, n_put, reduceIte, Nat.reduceEqDiff, Nat.reduceLT, zq, *]; first | done | rfl, by simp only [at_put, at_none, n_put, reduceIte, Nat.reduceEqDiff, Nat.reduceLT, zq, *]; first | done | rfl, by simp only [at_put, at_none, n_put, reduceIte, Nat.reduceEqDiff, Nat.reduceLT, zq, *]; first | done | rfl, by simp only [at_put, at_none, n_put, reduceIte, Nat.reduceEqDiff, Nat.reduceLT, zq, *]; first | done | rfl, by simp only [at_put, at_none, n_put, reduceIte, Nat.reduceEqDiff, Nat.reduceLT, zq, *]; first | done | rfl, by simp only [at_put, at_none, n_put, reduceIte, Nat.reduceEqDiff, Nat.reduceLT, zq, *]; first | done | rfl, by simp only [at_put, at_none, n_put, reduceIte, Nat.reduceEqDiff, Nat.reduceLT, zq, *]; first | done | rfl, by simp only [at_put, at_none, n_put, reduceIte, Nat.reduceEqDiff, Nat.reduceLT, zq, *]; first | done | rfl, by simp only [at_put, at_none, n_put, reduceIte, Nat.reduceEqDiff, Nat.reduceLT, zq, *]; first | done | rfl, hP, by exact hfin _, by simp only [next_bump, next_set, next_new, Nat.lt_irrefl, reduceIte]; omega, by simp (disch := omega) only [get_set_self, get_new_self, get_set_ne, get_new_ne, get_bump, next_set, next_new, Nat.lt_irrefl, reduceIte, next_kill, next_bump, *]; first | done | rfl, by simp (disch := omega) only [get_set_self, get_new_self, get_set_ne, get_new_ne, get_bump, next_set, next_new, Nat.lt_irrefl, reduceIte, next_kill, next_bump, *]; first | done | rfl, by simp (disch := omega) only [get_set_self, get_new_self, get_set_ne, get_new_ne, get_bump, next_set, next_new, Nat.lt_irrefl, reduceIte, next_kill, next_bump, *]; first | done | rfl, by simp (disch := omega) only [get_set_self, get_new_self, get_set_ne, get_new_ne, get_bump, next_set, next_new, Nat.lt_irrefl, reduceIte, next_kill, next_bump, *]; first | done | rfl⟩
          | some w hw hwb hws hwa hm =>
            have c1 : ((w : Int) < 0) = False := by simp
            have hnw := NwP.some w hw hwb hws hwa hm
            obtain ⟨bw, cw, q1, q2, qm, _, q3⟩ := hv'.index (T := EE.T) (st := 59) (TL rfl) (TL rfl) ⟨rfl, rfl, by decide⟩ hw
            have hbw : bw < h'.next := Nat.lt_of_lt_of_le (hO bw qm) hk.1
            have q32 := q3 2 (by decide)
            clear q3 hm hws hwa
            repeat first | refine D1_nil0 ?_ | refine D2_nil ?_ | refine D_noG ?_ | refine D_noU ?_ | refine D_pure ?_ | refine D_rd ?_ | refine D2_pure' ?_
            refine D1_pure (by first | exact wants0 | exact (wantsG rfl rfl (by simp only [n_put, *]; decide) (by simp only [at_put, at_none, n_put, reduceIte, Nat.reduceEqDiff, Nat.reduceLT, cond_true, cond_false, ne_eq, not_true_eq_false, not_false_eq_true, decide_true, decide_false, Bool.not_true, Bool.not_false, eq_self, Int.lt_irrefl, Int.le_refl, *]; first | done | rfl)).trans rfl) rfl rfl (fun _ _ => o_indexAddr (by simp only [aev_tmp, aev_const, aev_func, aev_global, at_put, at_none, n_put, reduceIte, Nat.reduceEqDiff, Nat.reduceLT, zq, *]; first | done | rfl) (by simp only [aev_tmp, aev_const, aev_func, aev_global, at_put, at_none, n_put, reduceIte, Nat.reduceEqDiff, Nat.reduceLT, zq, *]; first | done | rfl) q1) ?_
            repeat first | refine D1_nil0 ?_ | refine D2_nil ?_ | refine D_noG ?_ | refine D_noU ?_ | refine D_pure ?_ | refine D_rd ?_ | refine D2_pure' ?_
            refine D1_rd (by first | exact wants0 | exact (wantsG rfl rfl (by simp only [n_put, *]; decide) (by simp only [at_put, at_none, n_put, reduceIte, Nat.reduceEqDiff, Nat.reduceLT, cond_true, cond_false, ne_eq, not_true_eq_false, not_false_eq_true, decide_true, decide_false, Bool.not_true, Bool.not_false, eq_self, Int.lt_irrefl, Int.le_refl, *]; first | done | rfl)).trans rfl) rfl rfl (fun _ => o_ld (by simp only [aev_tmp, aev_const, aev_func, aev_global, at_put, at_none, n_put, reduceIte, Nat.reduceEqDiff, Nat.reduceLT, zq, *]; first | done | rfl) (TL rfl) rfl (rd_cells (by simp (disch := omega) only [get_set_self, get_new_self, get_set_ne, get_new_ne, get_bump, next_set, next_new, Nat.lt_irrefl, reduceIte, next_kill, next_bump, *]; first | done | rfl)) (q32.trans rfl)) (by first | exact veq_self rfl | assumption) ?_
            by_cases hgt : l[w].since < l[i].since
            · have hP := hnw.take hil hs ha (fun i' hi' e => by obtain rfl : w = i' := by omega
                                                                exact hgt)
              clear q1 q2 q32 hnw
              repeat first | refine D1_nil0 ?_ | refine D2_nil ?_ | refine D_noG ?_ | refine D_noU ?_ | refine D_pure ?_ | refine D_rd ?_ | refine D2_pure' ?_
              repeat first | refine G_seq ?_ | refine G_reg ?_ | refine N_seq ?_ | refine N_block ?_ | refine G_block ?_ | refine G_skip ?_ | refine G_cT ?_ | refine G_cF ?_ | refine G_ret ?_ | refine U_seq_ret ?_ | refine U_block_ret ?_ | refine U_nil ?_ | refine S_nil ?_ | refine S_auto ?_
              refine N_nil ?_
              exact JQ_n ⟨(i : Int), by simp only [at_put, at_none, n_put, reduceIte, Nat.reduceEqDiff, Nat.reduceLT, zq, *]; first | done | rfl, by simp only [at_put, at_none, n_put, reduceIte, Nat.reduceEqDiff, Nat.reduceLT, zq, *]; first | done | rfl, by simp only [at_put, at_none, n_put, reduceIte, Nat.reduceEqDiff, Nat.reduceLT, zq, *]; first | done | rfl, by simp only [at_put, at_none, n_put, reduceIte, Nat.reduceEqDiff, Nat.reduceLT, zq, *]; first | done | rfl, by simp only [at_put, at_none, n_put, reduceIte, Nat.reduceEqDiff, Nat.reduceLT, zq, *]; first | done | rfl, by simp only [at_put, at_none, n_put, reduceIte, Nat.reduceEqDiff, Nat.reduceLT, zq, *]; first | done | rfl, by simp only [at_put, at_none, n_put, reduceIte, Nat.reduceEqDiff, Nat.reduceLT, zq, *]; first | done | rfl, by simp only [at_put, at_none, n_put, reduceIte, Nat.reduceEqDiff, Nat.reduceLT, zq, *]; first | done | rfl, by simp only [at_put, at_none, n_put, reduceIte, Nat.reduceEqDiff, Nat.reduceLT, zq, *]; first | done | rfl, hP, by exact hfin _, by simp only [next_bump, next_set, next_new, Nat.lt_irrefl, reduceIte]; omega, by simp (disch := omega) only [get_set_self, get_new_self, get_set_ne, get_new_ne, get_bump, next_set, next_new, Nat.lt_irrefl, reduceIte, next_kill, next_bump, *]; first | done | rfl, by simp (disch := omega) only [get_set_self, get_new_self, get_set_ne, get_new_ne, get_bump, next_set, next_new, Nat.lt_irrefl, reduceIte, next_kill, next_bump, *]; first | done | rfl, by simp (disch := omega) only [get_set_self, get_new_self, get_set_ne, get_new_ne, get_bump, next_set, next_new, Nat.lt_irrefl, reduceIte, next_kill, next_bump, *]; first | done | rfl, by simp (disch := omega) only [get_set_self, get_new_self, get_set_ne, get_new_ne, get_bump, next_set, next_new, Nat.lt_irrefl, reduceIte, next_kill, next_bump, *]; first | done | rfl⟩
            · have hP := hnw.stay hil hw (by omega)
              clear q1 q2 q32 hnw
              repeat first | refine D1_nil0 ?_ | refine D2_nil ?_ | refine D_noG ?_ | refine D_noU ?_ | refine D_pure ?_ | refine D_rd ?_ | refine D2_pure' ?_
              repeat first | refine G_seq ?_ | refine G_reg ?_ | refine N_seq ?_ | refine N_block ?_ | refine G_block ?_ | refine G_skip ?_ | refine G_cT ?_ | refine G_cF ?_ | refine G_ret ?_ | refine U_seq_ret ?_ | refine U_block_ret ?_ | refine U_nil ?_ | refine S_nil ?_ | refine S_auto ?_
              refine N_nil ?_
              exact JQ_n ⟨(w : Int), by simp only [at_put, at_none, n_put, reduceIte, Nat.reduceEqDiff, Nat.reduceLT, zq, *]; first | done | rfl, by simp only [at_put, at_none, n_put, reduceIte, Nat.reduceEqDiff, Nat.reduceLT, zq, *]; first | done | rfl, by simp only [at_put, at_none, n_put, reduceIte, Nat.reduceEqDiff, Nat.reduceLT, zq, *]; first | done | rfl, by simp only [at_put, at_none, n_put, reduceIte, Nat.reduceEqDiff, Nat.reduceLT, zq, *]; first | done | rfl, by simp only [at_put, at_none, n_put, reduceIte, Nat.reduceEqDiff, Nat.reduceLT, zq, *]; first | done | rfl, by simp only [at_put, at_none, n_put, reduceIte, Nat.reduceEqDiff, Nat.reduceLT, zq, *]; first | done | rfl, by simp only [at_put, at_none, n_put, reduceIte, Nat.reduceEqDiff, Nat.reduceLT, zq, *]; first | done | rfl, by simp only [at_put, at_none, n_put, reduceIte, Nat.reduceEqDiff, Nat.reduceLT, zq, *]; first | done | rfl, by simp only [at_put, at_none, n_put, reduceIte, Nat.reduceEqDiff, Nat.reduceLT, zq, *]; first | done | rfl, hP, by exact hfin _, by simp only [next_bump, next_set, next_new, Nat.lt_irrefl, reduceIte]; omega, by simp (disch := omega) only [get_set_self, get_new_self, get_set_ne, get_new_ne, get_bump, next_set, next_new, Nat.lt_irrefl, reduceIte, next_kill, next_bump, *]; first | done | rfl, by simp (disch := omega) only [get_set_self, get_new_self, get_set_ne, get_new_ne, get_bump, next_set, next_new, Nat.lt_irrefl, reduceIte, next_kill, next_bump, *]; first | done | rfl, by simp (disch := omega) only [get_set_self, get_new_self, get_set_ne, get_new_ne, get_bump, next_set, next_new, Nat.lt_irrefl, reduceIte, next_kill, next_bump, *]; first | done | rfl, by simp (disch := omega) only [get_set_self, get_new_self, get_set_ne, get_new_ne, get_bump, next_set, next_new, Nat.lt_irrefl, reduceIte, next_kill, next_bump, *]; first | done | rfl⟩
        · have hP := hnw.skip hil (fun e => ha e.2)
          clear hnw
          repeat first | refine D1_nil0 ?_ | refine D2_nil ?_ | refine D_noG ?_ | refine D_noU ?_ | refine D_pure ?_ | refine D_rd ?_ | refine D2_pure' ?_
          repeat first | refine G_seq ?_ | refine G_reg ?_ | refine N_seq ?_ | refine N_block ?_ | refine G_block ?_ | refine G_skip ?_ | refine G_cT ?_ | refine G_cF ?_ | refine G_ret ?_ | refine U_seq_ret ?_ | refine U_block_ret ?_ | refine U_nil ?_ | refine S_nil ?_ | refine S_auto ?_
          refine N_nil ?_
          exact JQ_n ⟨nw, by simp only [at_put, at_none, n_put, reduceIte, Nat.reduceEqDiff, Nat.reduceLT, zq, *]; first | done | rfl, by simp only [at_put, at_none, n_put, reduceIte, Nat.reduceEqDiff, Nat.reduceLT, zq, *]; first | done | rfl, by simp only [at_put, at_none, n_put, reduceIte, Nat.reduceEqDiff, Nat.reduceLT, zq, *]; first | done | rfl, by simp only [at_put, at_none, n_put, reduceIte, Nat.reduceEqDiff, Nat.reduceLT, zq, *]; first | done | rfl, by simp only [at_put, at_none, n_put, reduceIte, Nat.reduceEqDiff, Nat.reduceLT, zq, *]; first | done | rfl, by simp only [at_put, at_none, n_put, reduceIte, Nat.reduceEqDiff, Nat.reduceLT, zq, *]; first | done | rfl, by simp only [at_put, at_none, n_put, reduceIte, Nat.reduceEqDiff, Nat.reduceLT, zq, *]; first | done | rfl, by simp only [at_put, at_none, n_put, reduceIte, Nat.reduceEqDiff, Nat.reduceLT, zq, *]; first | done | rfl, by simp only [at_put, at_none, n_put, reduceIte, Nat.reduceEqDiff, Nat.reduceLT, zq, *]; first | done | rfl, hP, by exact hfin _, by simp only [next_bump, next_set, next_new, Nat.lt_irrefl, reduceIte]; omega, by simp (disch := omega) only [get_set_self, get_new_self, get_set_ne, get_new_ne, get_bump, next_set, next_new, Nat.lt_irrefl, reduceIte, next_kill, next_bump, *]; first | done | rfl, by simp (disch := omega) only [get_set_self, get_new_self, get_set_ne, get_new_ne, get_bump, next_set, next_new, Nat.lt_irrefl, reduceIte, next_kill, next_bump, *]; first | done | rfl, by simp (disch := omega) only [get_set_self, get_new_self, get_set_ne, get_new_ne, get_bump, next_set, next_new, Nat.lt_irrefl, reduceIte, next_kill, next_bump, *]; first | done | rfl, by simp (disch := omega) only [get_set_self, get_new_self, get_set_ne, get_new_ne, get_bump, next_set, next_new, Nat.lt_irrefl, reduceIte, next_kill, next_bump, *]; first | done | rfl⟩
      · have hnx0 := hnx
        clear hna e1 e2 e4 e5 e7 e8 e9 hnx gp gr gl a
        rintro a h2 ⟨nw', hna, e1, e2, e4, e5, e7, e8, e9, e10, hP, hk2, hnx, gp, gr, gl, gx⟩
        have hnx3 : h.next + 3 ≤ h2.next := by omega
        have hv2 : RowAt kH h2 l (.slice A l.length c) O := hv.keep fun i hi => hk2.2 i (hO i hi) (by simp)
        have hfin : ∀ N : Nat, Keep h (bump h2 N) [] := fun N => ⟨by simp only [next_bump]; omega, fun q hq _ => by rw [← hk2.2 q hq (by simp)]; rfl⟩
        refine G_seq ?_
        refine G_draw [] [] (by kernel_rfl) ?_
        repeat first | refine D1_nil0 ?_ | refine D2_nil ?_ | refine D_noG ?_ | refine D_noU ?_ | refine D_pure ?_ | refine D_rd ?_ | refine D2_pure' ?_
        cases hod with
        | none hq =>
          have c1 : ((-1 : Int) < 0) = True := by decide
          have hP2 := OlP.take (.none hq) hil hs (fun i hi e => by omega)
          clear hq
          repeat first | refine D1_nil0 ?_ | refine D2_nil ?_ | refine D_noG ?_ | refine D_noU ?_ | refine D_pure ?_ | refine D_rd ?_ | refine D2_pure' ?_
          repeat first | refine G_seq ?_ | refine G_reg ?_ | refine N_seq ?_ | refine N_block ?_ | refine G_block ?_ | refine G_skip ?_ | refine G_cT ?_ | refine G_cF ?_ | refine G_ret ?_ | refine U_seq_ret ?_ | refine U_block_ret ?_ | refine U_nil ?_ | refine S_nil ?_ | refine S_auto ?_
          refine N_nil ?_
          exact LQ_n (j - 1) (by omega) ⟨i + 1, nw', (i : Int), by omega, by simp only [at_put, at_none, n_put, reduceIte, Nat.reduceEqDiff, Nat.reduceLT, zq, *]; first | done | rfl, by simp only [at_put, at_none, n_put, reduceIte, Nat.reduceEqDiff, Nat.reduceLT, zq, *]; first | done | rfl, by simp only [at_put, at_none, n_put, reduceIte, Nat.reduceEqDiff, Nat.reduceLT, zq, *]; first | done | rfl, by simp only [at_put, at_none, n_put, reduceIte, Nat.reduceEqDiff, Nat.reduceLT, zq, *]; first | done | rfl, by simp only [at_put, at_none, n_put, reduceIte, Nat.reduceEqDiff, Nat.reduceLT, zq, *]; first | done | rfl, by simp only [at_put, at_none, n_put, reduceIte, Nat.reduceEqDiff, Nat.reduceLT, zq, *]; first | done | rfl, by simp only [at_put, at_none, n_put, reduceIte, Nat.reduceEqDiff, Nat.reduceLT, zq, *]; first | done | rfl, by rw [Int.natCast_add]; simp only [at_put, at_none, n_put, reduceIte, Nat.reduceEqDiff, Nat.reduceLT, zq, *]; first | done | rfl, hP, hP2, hfin _, by simp only [next_bump]; omega, by simp (disch := omega) only [get_set_self, get_new_self, get_set_ne, get_new_ne, get_bump, next_set, next_new, Nat.lt_irrefl, reduceIte, next_kill, next_bump, *]; first | done | rfl, by simp (disch := omega) only [get_set_self, get_new_self, get_set_ne, get_new_ne, get_bump, next_set, next_new, Nat.lt_irrefl, reduceIte, next_kill, next_bump, *]; first | done | rfl, by simp (disch := omega) only [get_set_self, get_new_self, get_set_ne, get_new_ne, get_bump, next_set, next_new, Nat.lt_irrefl, reduceIte, next_kill, next_bump, *]; first | done | rfl⟩
        | some w hw hwb hws hm =>
          have c1 : ((w : Int) < 0) = False := by simp
          have hod := OlP.some w hw hwb hws hm
          obtain ⟨bw, cw, q1, q2, qm, _, q3⟩ := hv2.index (T := EE.T) (st := 59) (TL rfl) (TL rfl) ⟨rfl, rfl, by decide⟩ hw
          have q32 := q3 2 (by decide)
          clear q3 hm hws
          repeat first | refine D1_nil0 ?_ | refine D2_nil ?_ | refine D_noG ?_ | refine D_noU ?_ | refine D_pure ?_ | refine D_rd ?_ | refine D2_pure' ?_
          refine D1_pure (by first | exact wants0 | exact (wantsG rfl rfl (by simp only [n_put, *]; decide) (by simp only [at_put, at_none, n_put, reduceIte, Nat.reduceEqDiff, Nat.reduceLT, cond_true, cond_false, ne_eq, not_true_eq_false, not_false_eq_true, decide_true, decide_false, Bool.not_true, Bool.not_false, eq_self, Int.lt_irrefl, Int.le_refl, *]; first | done | rfl)).trans rfl) rfl rfl (fun _ _ => o_indexAddr (by simp only [aev_tmp, aev_const, aev_func, aev_global, at_put, at_none, n_put, reduceIte, Nat.reduceEqDiff, Nat.reduceLT, zq, *]; first | done | rfl) (by simp only [aev_tmp, aev_const, aev_func, aev_global, at_put, at_none, n_put, reduceIte, Nat.reduceEqDiff, Nat.reduceLT, zq, *]; first | done | rfl) q1) ?_
          repeat first | refine D1_nil0 ?_ | refine D2_nil ?_ | refine D_noG ?_ | refine D_noU ?_ | refine D_pure ?_ | refine D_rd ?_ | refine D2_pure' ?_
          refine D1_rd (by first | exact wants0 | exact (wantsG rfl rfl (by simp only [n_put, *]; decide) (by simp only [at_put, at_none, n_put, reduceIte, Nat.reduceEqDiff, Nat.reduceLT, cond_true, cond_false, ne_eq, not_true_eq_false, not_false_eq_true, decide_true, decide_false, Bool.not_true, Bool.not_false, eq_self, Int.lt_irrefl, Int.le_refl, *]; first | done | rfl)).trans rfl) rfl rfl (fun _ => o_ld (by simp only [aev_tmp, aev_const, aev_func, aev_global, at_put, at_none, n_put, reduceIte, Nat.reduceEqDiff, Nat.reduceLT, zq, *]; first | done | rfl) (TL rfl) rfl (rd_cells (by simp (disch := omega) only [get_set_self, get_new_self, get_set_ne, get_new_ne, get_bump, next_set, next_new, Nat.lt_irrefl, reduceIte, next_kill, next_bump, *]; first | done | rfl)) (q32.trans rfl)) (by first | exact veq_self rfl | assumption) ?_
          by_cases hgt : l[i].since < l[w].since
          · have hP2 := hod.take hil hs (fun i' hi' e => by obtain rfl : w = i' := by omega
                                                            exact hgt)
            clear q1 q2 q32 hod
            repeat first | refine D1_nil0 ?_ | refine D2_nil ?_ | refine D_noG ?_ | refine D_noU ?_ | refine D_pure ?_ | refine D_rd ?_ | refine D2_pure' ?_
            repeat first | refine G_seq ?_ | refine G_reg ?_ | refine N_seq ?_ | refine N_block ?_ | refine G_block ?_ | refine G_skip ?_ | refine G_cT ?_ | refine G_cF ?_ | refine G_ret ?_ | refine U_seq_ret ?_ | refine U_block_ret ?_ | refine U_nil ?_ | refine S_nil ?_ | refine S_auto ?_
            refine N_nil ?_
            exact LQ_n (j - 1) (by omega) ⟨i + 1, nw', (i : Int), by omega, by simp only [at_put, at_none, n_put, reduceIte, Nat.reduceEqDiff, Nat.reduceLT, zq, *]; first | done | rfl, by simp only [at_put, at_none, n_put, reduceIte, Nat.reduceEqDiff, Nat.reduceLT, zq, *]; first | done | rfl, by simp only [at_put, at_none, n_put, reduceIte, Nat.reduceEqDiff, Nat.reduceLT, zq, *]; first | done | rfl, by simp only [at_put, at_none, n_put, reduceIte, Nat.reduceEqDiff, Nat.reduceLT, zq, *]; first | done | rfl, by simp only [at_put, at_none, n_put, reduceIte, Nat.reduceEqDiff, Nat.reduceLT, zq, *]; first | done | rfl, by simp only [at_put, at_none, n_put, reduceIte, Nat.reduceEqDiff, Nat.reduceLT, zq, *]; first | done | rfl, by simp only [at_put, at_none, n_put, reduceIte, Nat.reduceEqDiff, Nat.reduceLT, zq, *]; first | done | rfl, by rw [Int.natCast_add]; simp only [at_put, at_none, n_put, reduceIte, Nat.reduceEqDiff, Nat.reduceLT, zq, *]; first | done | rfl, hP, hP2, hfin _, by simp only [next_bump]; omega, by simp (disch := omega) only [get_set_self, get_new_self, get_set_ne, get_new_ne, get_bump, next_set, next_new, Nat.lt_irrefl, reduceIte, next_kill, next_bump, *]; first | done | rfl, by simp (disch := omega) only [get_set_self, get_new_self, get_set_ne, get_new_ne, get_bump, next_set, next_new, Nat.lt_irrefl, reduceIte, next_kill, next_bump, *]; first | done | rfl, by simp (disch := omega) only [get_set_self, get_new_self, get_set_ne, get_new_ne, get_bump, next_set, next_new, Nat.lt_irrefl, reduceIte, next_kill, next_bump, *]; first | done | rfl⟩
          · have hP2 := hod.stay hil hw (by omega)
            clear q1 q2 q32 hod
            repeat first | refine D1_nil0 ?_ | refine D2_nil ?_ | refine D_noG ?_ | refine D_noU ?_ | refine D_pure ?_ | refine D_rd ?_ | refine D2_pure' ?_
            repeat first | refine G_seq ?_ | refine G_reg ?_ | refine N_seq ?_ | refine N_block ?_ | refine G_block ?_ | refine G_skip ?_ | refine G_cT ?_ | refine G_cF ?_ | refine G_ret ?_ | refine U_seq_ret ?_ | refine U_block_ret ?_ | refine U_nil ?_ | refine S_nil ?_ | refine S_auto ?_
            refine N_nil ?_
            exact LQ_n (j - 1) (by omega) ⟨i + 1, nw', (w : Int), by omega, by simp only [at_put, at_none, n_put, reduceIte, Nat.reduceEqDiff, Nat.reduceLT, zq, *]; first | done | rfl, by simp only [at_put, at_none, n_put, reduceIte, Nat.reduceEqDiff, Nat.reduceLT, zq, *]; first | done | rfl, by simp only [at_put, at_none, n_put, reduceIte, Nat.reduceEqDiff, Nat.reduceLT, zq, *]; first | done | rfl, by simp only [at_put, at_none, n_put, reduceIte, Nat.reduceEqDiff, Nat.reduceLT, zq, *]; first | done | rfl, by simp only [at_put, at_none, n_put, reduceIte, Nat.reduceEqDiff, Nat.reduceLT, zq, *]; first | done | rfl, by simp only [at_put, at_none, n_put, reduceIte, Nat.reduceEqDiff, Nat.reduceLT, zq, *]; first | done | rfl, by simp only [at_put, at_none, n_put, reduceIte, Nat.reduceEqDiff, Nat.reduceLT, zq, *]; first | done | rfl, by rw [Int.natCast_add]; simp only [at_put, at_none, n_put, reduceIte, Nat.reduceEqDiff, Nat.reduceLT, zq, *]; first | done | rfl, hP, hP2, hfin _, by simp only [next_bump]; omega, by simp (disch := omega) only [get_set_self, get_new_self, get_set_ne, get_new_ne, get_bump, next_set, next_new, Nat.lt_irrefl, reduceIte, next_kill, next_bump, *]; first | done | rfl, by simp (disch := omega) only [get_set_self, get_new_self, get_set_ne, get_new_ne, get_bump, next_set, next_new, Nat.lt_irrefl, reduceIte, next_kill, next_bump, *]; first | done | rfl, by simp (disch := omega) only [get_set_self, get_new_self, get_set_ne, get_new_ne, get_bump, next_set, next_new, Nat.lt_irrefl, reduceIte, next_kill, next_bump, *]; first | done | rfl⟩
    · have hP := hnw.skip hil (fun e => hs e.1)
      have hP2 := hod.skip hil hs
      clear hnw hod
      repeat first | refine G_seq ?_ | refine G_reg ?_ | refine N_seq ?_ | refine N_block ?_ | refine G_block ?_ | refine G_skip ?_ | refine G_cT ?_ | refine G_cF ?_ | refine G_ret ?_ | refine U_seq_ret ?_ | refine U_block_ret ?_ | refine U_nil ?_ | refine S_nil ?_ | refine S_auto ?_
      refine G_exit ?_
      repeat first | refine U_seq_exit ?_ | refine U_nil ?_ | refine LQ_exit ?_ | refine U_block_hit ?_
      repeat first | refine G_seq ?_ | refine G_reg ?_ | refine N_seq ?_ | refine N_block ?_ | refine G_block ?_ | refine G_skip ?_ | refine G_cT ?_ | refine G_cF ?_ | refine G_ret ?_ | refine U_seq_ret ?_ | refine U_block_ret ?_ | refine U_nil ?_ | refine S_nil ?_ | refine S_auto ?_
      refine N_nil ?_
      have hfin : ∀ (x : AHeap), x = x → Keep h (((h'.new h'.next (.cells [.int .i64 0, .int .i64 0, .int .i64 0, .string ⟨#[]⟩] true))).set h'.next (.cells [.int .i64 l[i].h, .int .i64 l[i].st, .int .i64 l[i].since, .string l[i].aim] true)) [] := fun _ _ => ⟨by simp only [next_bump, next_set, next_new, Nat.lt_irrefl, reduceIte]; omega, fun q hq _ => by rw [← hk.2 q hq (by simp)]; simp (disch := omega) only [get_set_self, get_new_self, get_set_ne, get_new_ne, get_bump, next_set, next_new, Nat.lt_irrefl, reduceIte, next_kill, next_bump, *]; first | done | rfl⟩
      exact LQ_n (j - 1) (by omega) ⟨i + 1, nw, od, by omega, by simp only [at_put, at_none, n_put, reduceIte, Nat.reduceEqDiff, Nat.reduceLT, zq, *]; first | done | rfl, by simp only [at_put, at_none, n_put, reduceIte, Nat.reduceEqDiff, Nat.reduceLT, zq, *]; first | done | rfl, by simp only [at_put, at_none, n_put, reduceIte, Nat.reduceEqDiff, Nat.reduceLT, zq, *]; first | done | rfl, by simp only [at_put, at_none, n_put, reduceIte, Nat.reduceEqDiff, Nat.reduceLT, zq, *]; first | done | rfl, by simp only [at_put, at_none, n_put, reduceIte, Nat.reduceEqDiff, Nat.reduceLT, zq, *]; first | done | rfl, by simp only [at_put, at_none, n_put, reduceIte, Nat.reduceEqDiff, Nat.reduceLT, zq, *]; first | done | rfl, by simp only [at_put, at_none, n_put, reduceIte, Nat.reduceEqDiff, Nat.reduceLT, zq, *]; first | done | rfl, by rw [Int.natCast_add]; simp only [at_put, at_none, n_put, reduceIte, Nat.reduceEqDiff, Nat.reduceLT, zq, *]; first | done | rfl, hP, hP2, by exact hfin h rfl, by simp only [next_set, next_new, Nat.lt_irrefl, reduceIte]; omega, by simp (disch := omega) only [get_set_self, get_new_self, get_set_ne, get_new_ne, get_bump, next_set, next_new, Nat.lt_irrefl, reduceIte, next_kill, next_bump, *]; first | done | rfl, by simp (disch := omega) only [get_set_self, get_new_self, get_set_ne, get_new_ne, get_bump, next_set, next_new, Nat.lt_irrefl, reduceIte, next_kill, next_bump, *]; first | done | rfl, by simp (disch := omega) only [get_set_self, get_new_self, get_set_ne, get_new_ne, get_bump, next_set, next_new, Nat.lt_irrefl, reduceIte, next_kill, next_bump, *]; first | done | rfl⟩
  · have hil' : ¬ (i : Int) < (l.length : Int) := by omega
    obtain rfl : i = l.length := by omega
    repeat first | refine G_seq ?_ | refine G_reg ?_ | refine N_seq ?_ | refine N_block ?_ | refine G_block ?_ | refine G_skip ?_ | refine G_cT ?_ | refine G_cF ?_ | refine G_ret ?_ | refine U_seq_ret ?_ | refine U_block_ret ?_ | refine U_nil ?_ | refine S_nil ?_ | refine S_auto ?_
    refine G_exit ?_
    repeat first | refine U_seq_exit ?_ | refine U_nil ?_ | refine LQ_exit ?_ | refine U_block_hit ?_
    repeat first | refine G_seq ?_ | refine G_reg ?_ | refine N_seq ?_ | refine N_block ?_ | refine G_block ?_ | refine G_skip ?_ | refine G_cT ?_ | refine G_cF ?_ | refine G_ret ?_ | refine U_seq_ret ?_ | refine U_block_ret ?_ | refine U_nil ?_ | refine S_nil ?_ | refine S_auto ?_
    cases hnw with
    | some w hw hwb hws hwa hm =>
      have hT : TakeD ⟨mo, la, re, l⟩ aim l[w].h 0 false 0 ⟨mo, la, re, withF ⟨l[w].h, 2, l[w].since, l[w].aim⟩ l⟩ := .lent w hw (.some w hw hwb hws hwa hm)
      have c1 : ((0 : Int) ≤ (w : Int)) = True := by simp
      obtain ⟨bk, cs, g1, g2, gm, gc, g3⟩ := hv'.index (T := EE.T) (st := 59) (TL rfl) (TL rfl) ⟨rfl, rfl, by decide⟩ hw
      clear hws hwa hm g3 hod
      repeat first | refine G_seq ?_ | refine G_reg ?_ | refine N_seq ?_ | refine N_block ?_ | refine G_block ?_ | refine G_skip ?_ | refine G_cT ?_ | refine G_cF ?_ | refine G_ret ?_ | refine U_seq_ret ?_ | refine U_block_ret ?_ | refine U_nil ?_ | refine S_nil ?_ | refine S_auto ?_
      refine S_step wants0 (o_indexAddr (by simp only [aev_tmp, aev_const, aev_func, aev_global, at_put, at_none, n_put, reduceIte, Nat.reduceEqDiff, Nat.reduceLT, zq, *]; first | done | rfl) (by simp only [aev_tmp, aev_const, aev_func, aev_global, at_put, at_none, n_put, reduceIte, Nat.reduceEqDiff, Nat.reduceLT, zq, *]; first | done | rfl) g1) ?_
      refine S_step wants0 (o_ldA (by simp only [aev_tmp, aev_const, aev_func, aev_global, at_put, at_none, n_put, reduceIte, Nat.reduceEqDiff, Nat.reduceLT, zq, *]; first | done | rfl) (TL rfl) rfl (rd_cells (by simp (disch := omega) only [get_set_self, get_new_self, get_set_ne, get_new_ne, get_bump, next_set, next_new, Nat.lt_irrefl, reduceIte, next_kill, next_bump, *]; first | done | rfl)) (gc.trans rfl)) ?_
      clear g1 g2 gc gm
      have hva : veq (.agg ⟨[.int .i64 mo, .int .i64 la, .int .i64 re, .slice A l.length c]⟩) (.agg ⟨[.int .i64 mo, .int .i64 la, .int .i64 re, .slice A l.length c]⟩) = true := veq_dv (d := ⟨mo, la, re, l⟩) hv.vok
      repeat first | refine G_seq ?_ | refine G_reg ?_ | refine N_seq ?_ | refine N_block ?_ | refine G_block ?_ | refine G_skip ?_ | refine G_cT ?_ | refine G_cF ?_ | refine G_ret ?_ | refine U_seq_ret ?_ | refine U_block_ret ?_ | refine U_nil ?_ | refine S_nil ?_ | refine S_auto ?_
      refine G_draw [] [4] (by kernel_rfl) ?_
      repeat first | refine D1_nil0 ?_ | refine D2_nil ?_ | refine D_pure ?_ | refine D_rd ?_ | refine D2_pure' ?_
      refine D1_call wants0 rfl (by simp only [aev_tmp, aev_const, aev_func, aev_global, at_put, at_none, n_put, reduceIte, Nat.reduceEqDiff, Nat.reduceLT, zq, *]; first | done | rfl) (E_Y _) (by simp only [List.map, aev_tmp, aev_const, aev_func, aev_global, at_put, at_none, n_put, reduceIte, Nat.reduceEqDiff, Nat.reduceLT, zq, *]; first | done | rfl) ?_
      refine C_le rfl ((dwith_spec (n := n) (d := ⟨mo, la, re, l⟩) (O := O) ⟨hv'.keep fun q hq => by have := hO q hq; have := hk.1; simp (disch := omega) only [get_set_self, get_new_self, get_set_ne, get_new_ne, get_bump, next_set, next_new, Nat.lt_irrefl, reduceIte, next_kill, next_bump, *]; first | done | rfl, fun q hq => by have := hO q hq; have := hk.1; simp only [next_bump, next_set, next_new, Nat.lt_irrefl, reduceIte]; omega⟩ hn hl ⟨l[w].h, 2, l[w].since, l[w].aim⟩).mono ?_)
      rintro r h4 ⟨sv', O', rfl, hd4, hk4, hO4⟩
      have gr4 : h4.get (h.next + 1) = some (.cells [.int .i64 0, .int .i64 0, .int .i64 0, .slice none 0 0] true) := (hk4.2 (h.next + 1) (by simp only [next_bump, next_set, next_new, Nat.lt_irrefl, reduceIte]; omega) (by simp)).trans (by simp (disch := omega) only [get_set_self, get_new_self, get_set_ne, get_new_ne, get_bump, next_set, next_new, Nat.lt_irrefl, reduceIte, next_kill, next_bump, *]; first | done | rfl)
      have gl4 : h4.get (h.next + 2) = some (.cells [.int .i64 0, .int .i64 0, .bool false] true) := (hk4.2 (h.next + 2) (by simp only [next_bump, next_set, next_new, Nat.lt_irrefl, reduceIte]; omega) (by simp)).trans (by simp (disch := omega) only [get_set_self, get_new_self, get_set_ne, get_new_ne, get_bump, next_set, next_new, Nat.lt_irrefl, reduceIte, next_kill, next_bump, *]; first | done | rfl)
      have gx4 : h4.get h'.next = some (.cells [.int .i64 l[w].h, .int .i64 2, .int .i64 l[w].since, .string l[w].aim] true) := (hk4.2 h'.next (by simp only [next_bump, next_set, next_new, Nat.lt_irrefl, reduceIte]; omega) (by simp)).trans (by simp (disch := omega) only [get_set_self, get_new_self, get_set_ne, get_new_ne, get_bump, next_set, next_new, Nat.lt_irrefl, reduceIte, next_kill, next_bump, *]; first | done | rfl)
      have hnx4 := hk4.1
      simp only [next_bump, next_set, next_new, Nat.lt_irrefl, reduceIte] at hnx4 hO4
      have hkk4 : ∀ q, q < h.next → h4.get q = h.get q := fun q hq => by
        rw [hk4.2 q (by simp only [next_bump, next_set, next_new, Nat.lt_irrefl, reduceIte]; omega) (by simp), ← hk.2 q hq (by simp)]; simp (disch := omega) only [get_set_self, get_new_self, get_set_ne, get_new_ne, get_bump, next_set, next_new, Nat.lt_irrefl, reduceIte, next_kill, next_bump, *]; first | done | rfl
      obtain ⟨A4, c4, rfl⟩ := hd4.1.len
      refine ⟨.nil, ?_⟩
      clear hk4 hv'
      repeat first | refine D1_nil0 ?_ | refine D2_nil ?_ | refine D_pure ?_ | refine D_rd ?_ | refine D2_pure' ?_
      refine D2_rd (v := .int .i64 l[w].h) wants0 rfl rfl (fun hh hm nid => ?_) (by first | exact veq_self rfl | assumption) ?_
      · rcases List.mem_cons.1 hm with rfl | hm
        · exact o_ld (by simp only [aev_tmp, aev_const, aev_func, aev_global, at_put, at_none, n_put, reduceIte, Nat.reduceEqDiff, Nat.reduceLT, zq, *]; first | done | rfl) (TL rfl) rfl (rd_cells (by simp (disch := omega) only [get_set_self, get_new_self, get_set_ne, get_new_ne, get_bump, next_set, next_new, Nat.lt_irrefl, reduceIte, next_kill, next_bump, *]; first | done | rfl)) rfl
        · rw [List.mem_singleton.1 hm]
          exact o_ld (by simp only [aev_tmp, aev_const, aev_func, aev_global, at_put, at_none, n_put, reduceIte, Nat.reduceEqDiff, Nat.reduceLT, zq, *]; first | done | rfl) (TL rfl) rfl (rd_cells (by simp (disch := omega) only [get_set_self, get_new_self, get_set_ne, get_new_ne, get_bump, next_set, next_new, Nat.lt_irrefl, reduceIte, next_kill, next_bump, *]; first | done | rfl)) rfl
      repeat first | refine D1_nil0 ?_ | refine D2_nil ?_ | refine D_pure ?_ | refine D_rd ?_ | refine D2_pure' ?_
      refine D2_wr wants0 rfl (o_st (by simp only [aev_tmp, aev_const, aev_func, aev_global, at_put, at_none, n_put, reduceIte, Nat.reduceEqDiff, Nat.reduceLT, zq, *]; first | done | rfl) (by simp only [aev_tmp, aev_const, aev_func, aev_global, at_put, at_none, n_put, reduceIte, Nat.reduceEqDiff, Nat.reduceLT, zq, *]; first | done | rfl) (TL rfl) rfl (by simp (disch := omega) only [get_set_self, get_new_self, get_set_ne, get_new_ne, get_bump, next_set, next_new, Nat.lt_irrefl, reduceIte, next_kill, next_bump, *]; first | done | rfl) rfl rfl) (.cons (fun _ => o_ld (by simp only [aev_tmp, aev_const, aev_func, aev_global, at_put, at_none, n_put, reduceIte, Nat.reduceEqDiff, Nat.reduceLT, zq, *]; first | done | rfl) (TL rfl) rfl (rd_cells (by simp (disch := omega) only [get_set_self, get_new_self, get_set_ne, get_new_ne, get_bump, next_set, next_new, Nat.lt_irrefl, reduceIte, next_kill, next_bump, *]; first | done | rfl)) rfl) .nil) ?_
      refine D2_wr wants0 rfl (o_st (by simp only [aev_tmp, aev_const, aev_func, aev_global, at_put, at_none, n_put, reduceIte, Nat.reduceEqDiff, Nat.reduceLT, zq, *]; first | done | rfl) (by simp only [aev_tmp, aev_const, aev_func, aev_global, at_put, at_none, n_put, reduceIte, Nat.reduceEqDiff, Nat.reduceLT, zq, *]; first | done | rfl) (TL rfl) rfl (by simp (disch := omega) only [get_set_self, get_new_self, get_set_ne, get_new_ne, get_bump, next_set, next_new, Nat.lt_irrefl, reduceIte, next_kill, next_bump, *]; first | done | rfl) rfl rfl) (.cons (fun _ => o_ld (by simp only [aev_tmp, aev_const, aev_func, aev_global, at_put, at_none, n_put, reduceIte, Nat.reduceEqDiff, Nat.reduceLT, zq, *]; first | done | rfl) (TL rfl) rfl (rd_cells (by simp (disch := omega) only [get_set_self, get_new_self, get_set_ne, get_new_ne, get_bump, next_set, next_new, Nat.lt_irrefl, reduceIte, next_kill, next_bump, *]; first | done | rfl)) rfl) .nil) ?_
      repeat first | refine D1_nil0 ?_ | refine D2_nil ?_ | refine D_pure ?_ | refine D_rd ?_ | refine D2_pure' ?_
      repeat first | refine G_seq ?_ | refine G_reg ?_ | refine N_seq ?_ | refine N_block ?_ | refine G_block ?_ | refine G_skip ?_ | refine G_cT ?_ | refine G_cF ?_ | refine G_ret ?_ | refine U_seq_ret ?_ | refine U_block_ret ?_ | refine U_nil ?_ | refine S_nil ?_ | refine S_auto ?_
      refine FQ_in (by first | exact .inr rfl | exact .inl rfl) (aresCCT (by simp only [at_put, at_none, n_put, reduceIte, Nat.reduceEqDiff, Nat.reduceLT, zq, *]; first | done | rfl) (by simp only [at_put, at_none, n_put, reduceIte, Nat.reduceEqDiff, Nat.reduceLT, zq, *]; first | done | rfl) (ldA (TL rfl) rfl (rd_cells (by simp (disch := omega) only [get_set_self, get_new_self, get_set_ne, get_new_ne, get_bump, next_set, next_new, Nat.lt_irrefl, reduceIte, next_kill, next_bump, *]; first | done | rfl)) rfl) (ldA (TL rfl) rfl (rd_cells (by simp (disch := omega) only [get_set_self, get_new_self, get_set_ne, get_new_ne, get_bump, next_set, next_new, Nat.lt_irrefl, reduceIte, next_kill, next_bump, *]; first | done | rfl)) rfl) (by simp only [at_put, at_none, n_put, reduceIte, Nat.reduceEqDiff, Nat.reduceLT, zq, *]; first | done | rfl)) ?_
      refine ⟨_, _, _, _, _, _, O', rfl, hT, ⟨hd4.1.keep fun q hq => by have := hO4 q hq; simp (disch := omega) only [get_set_self, get_new_self, get_set_ne, get_new_ne, get_bump, next_set, next_new, Nat.lt_irrefl, reduceIte, next_kill, next_bump, *]; first | done | rfl, fun q hq => by have := hd4.2 q hq; simp only [next_set]; omega⟩, ⟨by simp only [next_set]; omega, fun q hq _ => by rw [← hkk4 q hq]; simp (disch := omega) only [get_set_self, get_new_self, get_set_ne, get_new_ne, get_bump, next_set, next_new, Nat.lt_irrefl, reduceIte, next_kill, next_bump, *]; first | done | rfl⟩, fun q hq => .inr (by have := hO4 q hq; omega)⟩
    | none hq =>
      have hN : NwP l aim l.length (-1) := .none hq
      have c1 : ((0 : Int) ≤ (-1 : Int)) = False := by decide
      clear hq
      refine G_cF ?_
      refine G_skip ?_
      refine N_seq ?_
      refine G_seq ?_
      refine G_reg ?_
      repeat first | refine S_nil ?_ | refine S_auto ?_
      refine N_seq ?_
      refine G_seq ?_
      refine G_join (fun a h2 => ∃ (l1 : List HD) (sv1 : Value) (O1 : List Nat) (S : Int), a.n = 118 ∧ a.at 1 = .string aim ∧ a.at 2 = .pointer (some ⟨h.next, 0, none⟩) ∧ a.at 4 = .pointer (some ⟨h.next + 1, 0, none⟩) ∧ a.at 5 = .pointer (some ⟨h.next + 2, 0, none⟩) ∧ a.at 12 = .pointer (some ⟨h'.next, 0, none⟩) ∧ h2.get h.next = some (.cells [.int .i64 mo, .int .i64 la, .int .i64 re, sv1] true) ∧ h2.get (h.next + 1) = some (.cells [.int .i64 0, .int .i64 0, .int .i64 0, .slice none 0 0] true) ∧ h2.get (h.next + 2) = some (.cells [.int .i64 0, .int .i64 0, .bool false] true) ∧ h2.get h'.next = some (.cells [.int .i64 0, .int .i64 S, .bool true] true) ∧ RowAt kH h2 l1 sv1 O1 ∧ (∀ q ∈ O1, (q ∈ O ∨ h'.next + 1 ≤ q) ∧ q < h2.next) ∧ Keep h h2 [] ∧ h'.next + 1 ≤ h2.next ∧ l1.length ≤ l.length ∧ TakeD ⟨mo, la, re, l⟩ aim (la + 1) S true 0 ⟨mo, la + 1, re, withF ⟨la + 1, 1, 0, aim⟩ l1⟩) ?_ ?_
      · have hkc : ∀ o1 o2 : AObj, Keep h ((h'.new h'.next o1).set h'.next o2) [] := fun o1 o2 => ⟨by simp only [next_bump, next_set, next_new, Nat.lt_irrefl, reduceIte]; omega, fun q hq _ => by rw [← hk.2 q hq (by simp)]; simp (disch := omega) only [get_set_self, get_new_self, get_set_ne, get_new_ne, get_bump, next_set, next_new, Nat.lt_irrefl, reduceIte, next_kill, next_bump, *]; first | done | rfl⟩
        repeat first | refine G_seq ?_ | refine G_reg ?_ | refine N_seq ?_ | refine N_block ?_ | refine G_block ?_ | refine G_skip ?_ | refine G_cT ?_ | refine G_cF ?_ | refine G_ret ?_ | refine U_seq_ret ?_ | refine U_block_ret ?_ | refine U_nil ?_ | refine S_nil ?_ | refine S_auto ?_
        refine S_step wants0 (o_builtin (by simp only [List.map, aev_tmp, aev_const, aev_func, aev_global, at_put, at_none, n_put, reduceIte, Nat.reduceEqDiff, Nat.reduceLT, zq, *]; first | done | rfl) (hv'.lenB (TL rfl))) ?_
        by_cases hf : mo ≤ (l.length : Int)
        · repeat first | refine G_seq ?_ | refine G_reg ?_ | refine N_seq ?_ | refine N_block ?_ | refine G_block ?_ | refine G_skip ?_ | refine G_cT ?_ | refine G_cF ?_ | refine G_ret ?_ | refine U_seq_ret ?_ | refine U_block_ret ?_ | refine U_nil ?_ | refine S_nil ?_ | refine S_auto ?_
          cases hod with
          | none hq =>
            have hT : TakeD ⟨mo, la, re, l⟩ aim 0 0 false 6 ⟨mo, la, re, l⟩ := .full hN hf (.none hq)
            have c2 : ((-1 : Int) < 0) = True := by decide
            clear hq hN
            repeat first | refine G_seq ?_ | refine G_reg ?_ | refine N_seq ?_ | refine N_block ?_ | refine G_block ?_ | refine G_skip ?_ | refine G_cT ?_ | refine G_cF ?_ | refine G_ret ?_ | refine U_seq_ret ?_ | refine U_block_ret ?_ | refine U_nil ?_ | refine S_nil ?_ | refine S_auto ?_
            refine JQ_ret ?_
            repeat first | refine G_seq ?_ | refine G_reg ?_ | refine N_seq ?_ | refine N_block ?_ | refine G_block ?_ | refine G_skip ?_ | refine G_cT ?_ | refine G_cF ?_ | refine G_ret ?_ | refine U_seq_ret ?_ | refine U_block_ret ?_ | refine U_nil ?_ | refine S_nil ?_ | refine S_auto ?_
            refine FQ_in (by first | exact .inr rfl | exact .inl rfl) (aresCCT (by simp only [at_put, at_none, n_put, reduceIte, Nat.reduceEqDiff, Nat.reduceLT, zq, *]; first | done | rfl) (by simp only [at_put, at_none, n_put, reduceIte, Nat.reduceEqDiff, Nat.reduceLT, zq, *]; first | done | rfl) (ldA (TL rfl) rfl (rd_cells (by simp (disch := omega) only [get_set_self, get_new_self, get_set_ne, get_new_ne, get_bump, next_set, next_new, Nat.lt_irrefl, reduceIte, next_kill, next_bump, *]; first | done | rfl)) rfl) (ldA (TL rfl) rfl (rd_cells (by simp (disch := omega) only [get_set_self, get_new_self, get_set_ne, get_new_ne, get_bump, next_set, next_new, Nat.lt_irrefl, reduceIte, next_kill, next_bump, *]; first | done | rfl)) rfl) (by simp only [at_put, at_none, n_put, reduceIte, Nat.reduceEqDiff, Nat.reduceLT, zq, *]; first | done | rfl)) ?_
            refine ⟨_, _, _, _, _, _, O, rfl, hT, ⟨hv'.keep fun q hq => by have := hO q hq; simp (disch := omega) only [get_set_self, get_new_self, get_set_ne, get_new_ne, get_bump, next_set, next_new, Nat.lt_irrefl, reduceIte, next_kill, next_bump, *]; first | done | rfl, fun q hq => by have := hO q hq; simp only [next_bump, next_set, next_new, Nat.lt_irrefl, reduceIte]; omega⟩, ⟨by simp only [next_bump, next_set, next_new, Nat.lt_irrefl, reduceIte]; omega, fun q hq _ => by rw [← hk.2 q hq (by simp)]; simp (disch := omega) only [get_set_self, get_new_self, get_set_ne, get_new_ne, get_bump, next_set, next_new, Nat.lt_irrefl, reduceIte, next_kill, next_bump, *]; first | done | rfl⟩, fun q hq => .inl hq⟩
          | some w hw hwb hws hm =>
            have hT : TakeD ⟨mo, la, re, l⟩ aim (la + 1) l[w].h true 0 ⟨mo, la + 1, re, withF ⟨la + 1, 1, 0, aim⟩ (outF l[w].h l)⟩ := .shut hN hf w hw (.some w hw hwb hws hm)
            have c2 : ((w : Int) < 0) = False := by simp
            obtain ⟨bk, cs, g1, g2, gm, gc, g3⟩ := hv'.index (T := EE.T) (st := 59) (TL rfl) (TL rfl) ⟨rfl, rfl, by decide⟩ hw
            have hbk : bk < h'.next := Nat.lt_of_lt_of_le (hO bk gm) hk.1
            have g30 := g3 0 (by decide)
            clear hws hm g3 hN
            repeat first | refine G_seq ?_ | refine G_reg ?_ | refine N_seq ?_ | refine N_block ?_ | refine G_block ?_ | refine G_skip ?_ | refine G_cT ?_ | refine G_cF ?_ | refine G_ret ?_ | refine U_seq_ret ?_ | refine U_block_ret ?_ | refine U_nil ?_ | refine S_nil ?_ | refine S_auto ?_
            refine S_step wants0 (o_indexAddr (by simp only [aev_tmp, aev_const, aev_func, aev_global, at_put, at_none, n_put, reduceIte, Nat.reduceEqDiff, Nat.reduceLT, zq, *]; first | done | rfl) (by simp only [aev_tmp, aev_const, aev_func, aev_global, at_put, at_none, n_put, reduceIte, Nat.reduceEqDiff, Nat.reduceLT, zq, *]; first | done | rfl) g1) ?_
            repeat first | refine G_seq ?_ | refine G_reg ?_ | refine N_seq ?_ | refine N_block ?_ | refine G_block ?_ | refine G_skip ?_ | refine G_cT ?_ | refine G_cF ?_ | refine G_ret ?_ | refine U_seq_ret ?_ | refine U_block_ret ?_ | refine U_nil ?_ | refine S_nil ?_ | refine S_auto ?_
            refine S_step wants0 (o_ld (by simp only [aev_tmp, aev_const, aev_func, aev_global, at_put, at_none, n_put, reduceIte, Nat.reduceEqDiff, Nat.reduceLT, zq, *]; first | done | rfl) (TL rfl) rfl (rd_cells (by simp (disch := omega) only [get_set_self, get_new_self, get_set_ne, get_new_ne, get_bump, next_set, next_new, Nat.lt_irrefl, reduceIte, next_kill, next_bump, *]; first | done | rfl)) (g30.trans rfl)) ?_
            clear g1 g2 gc gm g30
            repeat first | refine G_seq ?_ | refine G_reg ?_ | refine N_seq ?_ | refine N_block ?_ | refine G_block ?_ | refine G_skip ?_ | refine G_cT ?_ | refine G_cF ?_ | refine G_ret ?_ | refine U_seq_ret ?_ | refine U_block_ret ?_ | refine U_nil ?_ | refine S_nil ?_ | refine S_auto ?_
            refine S_call wants0 (by simp only [aev_tmp, aev_const, aev_func, aev_global, at_put, at_none, n_put, reduceIte, Nat.reduceEqDiff, Nat.reduceLT, zq, *]; first | done | rfl) (E_Y _) (by simp only [List.map, aev_tmp, aev_const, aev_func, aev_global, at_put, at_none, n_put, reduceIte, Nat.reduceEqDiff, Nat.reduceLT, zq, *]; first | done | rfl) ?_
            refine C_le rfl ((dshut_spec (n := n) (d := ⟨mo, la, re, l⟩) (O := O) ⟨hv'.keep fun q hq => by have := hO q hq; have := hk.1; simp (disch := omega) only [get_set_self, get_new_self, get_set_ne, get_new_ne, get_bump, next_set, next_new, Nat.lt_irrefl, reduceIte, next_kill, next_bump, *]; first | done | rfl, fun q hq => by have := hO q hq; have := hk.1; simp only [next_bump, next_set, next_new, Nat.lt_irrefl, reduceIte]; omega⟩ hn hl l[w].h).mono ?_)
            rintro r h4 ⟨sv', O', rfl, hd4, hk4, hO4⟩
            have gp4 : h4.get h.next = some (.cells [.int .i64 mo, .int .i64 la, .int .i64 re, .slice A l.length c] true) := (hk4.2 h.next (by simp only [next_bump, next_set, next_new, Nat.lt_irrefl, reduceIte]; omega) (by simp)).trans (by simp (disch := omega) only [get_set_self, get_new_self, get_set_ne, get_new_ne, get_bump, next_set, next_new, Nat.lt_irrefl, reduceIte, next_kill, next_bump, *]; first | done | rfl)
            have gr4 : h4.get (h.next + 1) = some (.cells [.int .i64 0, .int .i64 0, .int .i64 0, .slice none 0 0] true) := (hk4.2 (h.next + 1) (by simp only [next_bump, next_set, next_new, Nat.lt_irrefl, reduceIte]; omega) (by simp)).trans (by simp (disch := omega) only [get_set_self, get_new_self, get_set_ne, get_new_ne, get_bump, next_set, next_new, Nat.lt_irrefl, reduceIte, next_kill, next_bump, *]; first | done | rfl)
            have gl4 : h4.get (h.next + 2) = some (.cells [.int .i64 0, .int .i64 0, .bool false] true) := (hk4.2 (h.next + 2) (by simp only [next_bump, next_set, next_new, Nat.lt_irrefl, reduceIte]; omega) (by simp)).trans (by simp (disch := omega) only [get_set_self, get_new_self, get_set_ne, get_new_ne, get_bump, next_set, next_new, Nat.lt_irrefl, reduceIte, next_kill, next_bump, *]; first | done | rfl)
            have gx4 : h4.get h'.next = some (.cells [.int .i64 0, .int .i64 l[w].h, .bool true] true) := (hk4.2 h'.next (by simp only [next_bump, next_set, next_new, Nat.lt_irrefl, reduceIte]; omega) (by simp)).trans (by simp (disch := omega) only [get_set_self, get_new_self, get_set_ne, get_new_ne, get_bump, next_set, next_new, Nat.lt_irrefl, reduceIte, next_kill, next_bump, *]; first | done | rfl)
            have hnx4 := hk4.1
            simp only [next_bump, next_set, next_new, Nat.lt_irrefl, reduceIte] at hnx4 hO4
            have hkk4 : ∀ q, q < h.next → h4.get q = h.get q := fun q hq => by
              rw [hk4.2 q (by simp only [next_bump, next_set, next_new, Nat.lt_irrefl, reduceIte]; omega) (by simp), ← hk.2 q hq (by simp)]; simp (disch := omega) only [get_set_self, get_new_self, get_set_ne, get_new_ne, get_bump, next_set, next_new, Nat.lt_irrefl, reduceIte, next_kill, next_bump, *]; first | done | rfl
            obtain ⟨A4, c4, rfl⟩ := hd4.1.len
            clear hk4
            repeat first | refine G_seq ?_ | refine G_reg ?_ | refine N_seq ?_ | refine N_block ?_ | refine G_block ?_ | refine G_skip ?_ | refine G_cT ?_ | refine G_cF ?_ | refine G_ret ?_ | refine U_seq_ret ?_ | refine U_block_ret ?_ | refine U_nil ?_ | refine S_nil ?_ | refine S_auto ?_
            refine N_nil ?_
            exact JQ_n ⟨outF l[w].h l, _, O', l[w].h, by simp only [at_put, at_none, n_put, reduceIte, Nat.reduceEqDiff, Nat.reduceLT, zq, *]; first | done | rfl, by simp only [at_put, at_none, n_put, reduceIte, Nat.reduceEqDiff, Nat.reduceLT, zq, *]; first | done | rfl, by simp only [at_put, at_none, n_put, reduceIte, Nat.reduceEqDiff, Nat.reduceLT, zq, *]; first | done | rfl, by simp only [at_put, at_none, n_put, reduceIte, Nat.reduceEqDiff, Nat.reduceLT, zq, *]; first | done | rfl, by simp only [at_put, at_none, n_put, reduceIte, Nat.reduceEqDiff, Nat.reduceLT, zq, *]; first | done | rfl, by simp only [at_put, at_none, n_put, reduceIte, Nat.reduceEqDiff, Nat.reduceLT, zq, *]; first | done | rfl, by simp (disch := omega) only [get_set_self, get_new_self, get_set_ne, get_new_ne, get_bump, next_set, next_new, Nat.lt_irrefl, reduceIte, next_kill, next_bump, *]; first | done | rfl, by simp (disch := omega) only [get_set_self, get_new_self, get_set_ne, get_new_ne, get_bump, next_set, next_new, Nat.lt_irrefl, reduceIte, next_kill, next_bump, *]; first | done | rfl, by simp (disch := omega) only [get_set_self, get_new_self, get_set_ne, get_new_ne, get_bump, next_set, next_new, Nat.lt_irrefl, reduceIte, next_kill, next_bump, *]; first | done | rfl, by simp (disch := omega) only [get_set_self, get_new_self, get_set_ne, get_new_ne, get_bump, next_set, next_new, Nat.lt_irrefl, reduceIte, next_kill, next_bump, *]; first | done | rfl, hd4.1.keep fun q hq => by have := hO4 q hq; have := hd4.2 q hq; simp (disch := omega) only [get_set_self, get_new_self, get_set_ne, get_new_ne, get_bump, next_set, next_new, Nat.lt_irrefl, reduceIte, next_kill, next_bump, *]; first | done | rfl, fun q hq => ⟨.inr (hO4 q hq), by have := hd4.2 q hq; simp only [next_bump, next_set, next_new, Nat.lt_irrefl, reduceIte]; omega⟩, ⟨by simp only [next_bump, next_set, next_new, Nat.lt_irrefl, reduceIte]; omega, fun q hq _ => by rw [← hkk4 q hq]; simp (disch := omega) only [get_set_self, get_new_self, get_set_ne, get_new_ne, get_bump, next_set, next_new, Nat.lt_irrefl, reduceIte, next_kill, next_bump, *]; first | done | rfl⟩, by simp only [next_bump, next_set, next_new, Nat.lt_irrefl, reduceIte]; omega, outF_le _ _, hT⟩
        · have hT : TakeD ⟨mo, la, re, l⟩ aim (la + 1) 0 true 0 ⟨mo, la + 1, re, withF ⟨la + 1, 1, 0, aim⟩ l⟩ := .fresh hN hf
          repeat first | refine G_seq ?_ | refine G_reg ?_ | refine N_seq ?_ | refine N_block ?_ | refine G_block ?_ | refine G_skip ?_ | refine G_cT ?_ | refine G_cF ?_ | refine G_ret ?_ | refine U_seq_ret ?_ | refine U_block_ret ?_ | refine U_nil ?_ | refine S_nil ?_ | refine S_auto ?_
          refine N_nil ?_
          exact JQ_n ⟨l, _, O, 0, by simp only [at_put, at_none, n_put, reduceIte, Nat.reduceEqDiff, Nat.reduceLT, zq, *]; first | done | rfl, by simp only [at_put, at_none, n_put, reduceIte, Nat.reduceEqDiff, Nat.reduceLT, zq, *]; first | done | rfl, by simp only [at_put, at_none, n_put, reduceIte, Nat.reduceEqDiff, Nat.reduceLT, zq, *]; first | done | rfl, by simp only [at_put, at_none, n_put, reduceIte, Nat.reduceEqDiff, Nat.reduceLT, zq, *]; first | done | rfl, by simp only [at_put, at_none, n_put, reduceIte, Nat.reduceEqDiff, Nat.reduceLT, zq, *]; first | done | rfl, by simp only [at_put, at_none, n_put, reduceIte, Nat.reduceEqDiff, Nat.reduceLT, zq, *]; first | done | rfl, by simp (disch := omega) only [get_set_self, get_new_self, get_set_ne, get_new_ne, get_bump, next_set, next_new, Nat.lt_irrefl, reduceIte, next_kill, next_bump, *]; first | done | rfl, by simp (disch := omega) only [get_set_self, get_new_self, get_set_ne, get_new_ne, get_bump, next_set, next_new, Nat.lt_irrefl, reduceIte, next_kill, next_bump, *]; first | done | rfl, by simp (disch := omega) only [get_set_self, get_new_self, get_set_ne, get_new_ne, get_bump, next_set, next_new, Nat.lt_irrefl, reduceIte, next_kill, next_bump, *]; first | done | rfl, by simp (disch := omega) only [get_set_self, get_new_self, get_set_ne, get_new_ne, get_bump, next_set, next_new, Nat.lt_irrefl, reduceIte, next_kill, next_bump, *]; first | done | rfl, hv'.keep fun q hq => by have := hO q hq; have := hk.1; simp (disch := omega) only [get_set_self, get_new_self, get_set_ne, get_new_ne, get_bump, next_set, next_new, Nat.lt_irrefl, reduceIte, next_kill, next_bump, *]; first | done | rfl, fun q hq => ⟨.inl hq, by have := hO q hq; have := hk.1; simp only [next_bump, next_set, next_new, Nat.lt_irrefl, reduceIte]; omega⟩, hkc _ _, by simp only [next_bump, next_set, next_new, Nat.lt_irrefl, reduceIte]; omega, Nat.le_refl _, hT⟩
      · clear hna e1 e2 e4 e5 e7 e8 e9 gp gr gl a hv' hvq
        rintro a h2 ⟨l1, sv1, O1, S, hna, e1, e2, e4, e5, e12, gp, gr, gl, gx, hv1, hO1, hk2, hnx2, hl1, hT⟩
        obtain ⟨A1, c1', rfl⟩ := hv1.len
        have hva : veq (.agg ⟨[.int .i64 mo, .int .i64 (la + 1), .int .i64 re, .slice A1 l1.length c1']⟩) (.agg ⟨[.int .i64 mo, .int .i64 (la + 1), .int .i64 re, .slice A1 l1.length c1']⟩) = true := veq_dv (d := ⟨mo, la + 1, re, l⟩) hv1.vok
        repeat first | refine G_seq ?_ | refine G_reg ?_ | refine N_seq ?_ | refine N_block ?_ | refine G_block ?_ | refine G_skip ?_ | refine G_cT ?_ | refine G_cF ?_ | refine G_ret ?_ | refine U_seq_ret ?_ | refine U_block_ret ?_ | refine U_nil ?_ | refine S_nil ?_ | refine S_auto ?_
        refine G_draw [] [6] (by kernel_rfl) ?_
        repeat first | refine D1_nil0 ?_ | refine D2_nil ?_ | refine D_pure ?_ | refine D_rd ?_ | refine D2_pure' ?_
        refine D1_call wants0 rfl (by simp only [aev_tmp, aev_const, aev_func, aev_global, at_put, at_none, n_put, reduceIte, Nat.reduceEqDiff, Nat.reduceLT, zq, *]; first | done | rfl) (E_Y _) (by simp only [List.map, aev_tmp, aev_const, aev_func, aev_global, at_put, at_none, n_put, reduceIte, Nat.reduceEqDiff, Nat.reduceLT, zq, *]; first | done | rfl) ?_
        refine C_le rfl ((dwith_spec (n := n) (d := ⟨mo, la + 1, re, l1⟩) (O := O1) ⟨hv1.keep fun q hq => by have h8 := hO1 q hq; have h9 : q ≠ h.next ∧ q ≠ h'.next := ⟨fun e => by rcases h8.1 with h7 | h7; have := hO q h7; omega; omega, fun e => by rcases h8.1 with h7 | h7; have := hO q h7; omega; omega⟩; have h6 := h9.1; have h5 := h9.2; clear h8 h9; simp (disch := omega) only [get_set_self, get_new_self, get_set_ne, get_new_ne, get_bump, next_set, next_new, Nat.lt_irrefl, reduceIte, next_kill, next_bump, *]; first | done | rfl, fun q hq => by have := (hO1 q hq).2; simp only [next_bump, next_set, next_new, Nat.lt_irrefl, reduceIte]; omega⟩ (by show l1.length + 2 ≤ n; omega) (by show l1.length < 1000000; omega) ⟨la + 1, 1, 0, aim⟩).mono ?_)
        rintro r h4 ⟨sv', O', rfl, hd4, hk4, hO4⟩
        have gr4 : h4.get (h.next + 1) = some (.cells [.int .i64 0, .int .i64 0, .int .i64 0, .slice none 0 0] true) := (hk4.2 (h.next + 1) (by simp only [next_bump, next_set, next_new, Nat.lt_irrefl, reduceIte]; omega) (by simp)).trans (by simp (disch := omega) only [get_set_self, get_new_self, get_set_ne, get_new_ne, get_bump, next_set, next_new, Nat.lt_irrefl, reduceIte, next_kill, next_bump, *]; first | done | rfl)
        have gl4 : h4.get (h.next + 2) = some (.cells [.int .i64 0, .int .i64 0, .bool false] true) := (hk4.2 (h.next + 2) (by simp only [next_bump, next_set, next_new, Nat.lt_irrefl, reduceIte]; omega) (by simp)).trans (by simp (disch := omega) only [get_set_self, get_new_self, get_set_ne, get_new_ne, get_bump, next_set, next_new, Nat.lt_irrefl, reduceIte, next_kill, next_bump, *]; first | done | rfl)
        have gx4 : h4.get h'.next = some (.cells [.int .i64 (la + 1), .int .i64 S, .bool true] true) := (hk4.2 h'.next (by simp only [next_bump, next_set, next_new, Nat.lt_irrefl, reduceIte]; omega) (by simp)).trans (by simp (disch := omega) only [get_set_self, get_new_self, get_set_ne, get_new_ne, get_bump, next_set, next_new, Nat.lt_irrefl, reduceIte, next_kill, next_bump, *]; first | done | rfl)
        have hnx4 := hk4.1
        simp only [next_bump, next_set, next_new, Nat.lt_irrefl, reduceIte] at hnx4 hO4
        have hkk4 : ∀ q, q < h.next → h4.get q = h.get q := fun q hq => by
          rw [hk4.2 q (by simp only [next_bump, next_set, next_new, Nat.lt_irrefl, reduceIte]; omega) (by simp), ← hk2.2 q hq (by simp)]; simp (disch := omega) only [get_set_self, get_new_self, get_set_ne, get_new_ne, get_bump, next_set, next_new, Nat.lt_irrefl, reduceIte, next_kill, next_bump, *]; first | done | rfl
        obtain ⟨A4, c4, rfl⟩ := hd4.1.len
        refine ⟨.nil, ?_⟩
        clear hk4 hv1
        repeat first | refine D1_nil0 ?_ | refine D2_nil ?_ | refine D_pure ?_ | refine D_rd ?_ | refine D2_pure' ?_
        refine D2_rd (v := .agg ⟨[.int .i64 (la + 1), .int .i64 S, .bool true]⟩) wants0 rfl rfl (fun hh hm nid => ?_) (by first | exact veq_self rfl | assumption) ?_
        · rcases List.mem_cons.1 hm with rfl | hm
          · exact o_ldA (by simp only [aev_tmp, aev_const, aev_func, aev_global, at_put, at_none, n_put, reduceIte, Nat.reduceEqDiff, Nat.reduceLT, zq, *]; first | done | rfl) (TL rfl) rfl (rd_cells (by simp (disch := omega) only [get_set_self, get_new_self, get_set_ne, get_new_ne, get_bump, next_set, next_new, Nat.lt_irrefl, reduceIte, next_kill, next_bump, *]; first | done | rfl)) rfl
          · rw [List.mem_singleton.1 hm]
            exact o_ldA (by simp only [aev_tmp, aev_const, aev_func, aev_global, at_put, at_none, n_put, reduceIte, Nat.reduceEqDiff, Nat.reduceLT, zq, *]; first | done | rfl) (TL rfl) rfl (rd_cells (by simp (disch := omega) only [get_set_self, get_new_self, get_set_ne, get_new_ne, get_bump, next_set, next_new, Nat.lt_irrefl, reduceIte, next_kill, next_bump, *]; first | done | rfl)) rfl
        refine D2_wr wants0 rfl (o_st (by simp only [aev_tmp, aev_const, aev_func, aev_global, at_put, at_none, n_put, reduceIte, Nat.reduceEqDiff, Nat.reduceLT, zq, *]; first | done | rfl) (by simp only [aev_tmp, aev_const, aev_func, aev_global, at_put, at_none, n_put, reduceIte, Nat.reduceEqDiff, Nat.reduceLT, zq, *]; first | done | rfl) (TL rfl) rfl (by simp (disch := omega) only [get_set_self, get_new_self, get_set_ne, get_new_ne, get_bump, next_set, next_new, Nat.lt_irrefl, reduceIte, next_kill, next_bump, *]; first | done | rfl) rfl rfl) (.cons (fun _ => o_ldA (by simp only [aev_tmp, aev_const, aev_func, aev_global, at_put, at_none, n_put, reduceIte, Nat.reduceEqDiff, Nat.reduceLT, zq, *]; first | done | rfl) (TL rfl) rfl (rd_cells (by simp (disch := omega) only [get_set_self, get_new_self, get_set_ne, get_new_ne, get_bump, next_set, next_new, Nat.lt_irrefl, reduceIte, next_kill, next_bump, *]; first | done | rfl)) rfl) .nil) ?_
        refine D2_wr wants0 rfl (o_st (by simp only [aev_tmp, aev_const, aev_func, aev_global, at_put, at_none, n_put, reduceIte, Nat.reduceEqDiff, Nat.reduceLT, zq, *]; first | done | rfl) (by simp only [aev_tmp, aev_const, aev_func, aev_global, at_put, at_none, n_put, reduceIte, Nat.reduceEqDiff, Nat.reduceLT, zq, *]; first | done | rfl) (TL rfl) rfl (by simp (disch := omega) only [get_set_self, get_new_self, get_set_ne, get_new_ne, get_bump, next_set, next_new, Nat.lt_irrefl, reduceIte, next_kill, next_bump, *]; first | done | rfl) rfl rfl) (.cons (fun _ => o_ldA (by simp only [aev_tmp, aev_const, aev_func, aev_global, at_put, at_none, n_put, reduceIte, Nat.reduceEqDiff, Nat.reduceLT, zq, *]; first | done | rfl) (TL rfl) rfl (rd_cells (by simp (disch := omega) only [get_set_self, get_new_self, get_set_ne, get_new_ne, get_bump, next_set, next_new, Nat.lt_irrefl, reduceIte, next_kill, next_bump, *]; first | done | rfl)) rfl) .nil) ?_
        repeat first | refine D1_nil0 ?_ | refine D2_nil ?_ | refine D_pure ?_ | refine D_rd ?_ | refine D2_pure' ?_
        repeat first | refine G_seq ?_ | refine G_reg ?_ | refine N_seq ?_ | refine N_block ?_ | refine G_block ?_ | refine G_skip ?_ | refine G_cT ?_ | refine G_cF ?_ | refine G_ret ?_ | refine U_seq_ret ?_ | refine U_block_ret ?_ | refine U_nil ?_ | refine S_nil ?_ | refine S_auto ?_
        refine FQ_in (by first | exact .inr rfl | exact .inl rfl) (aresCCT (by simp only [at_put, at_none, n_put, reduceIte, Nat.reduceEqDiff, Nat.reduceLT, zq, *]; first | done | rfl) (by simp only [at_put, at_none, n_put, reduceIte, Nat.reduceEqDiff, Nat.reduceLT, zq, *]; first | done | rfl) (ldA (TL rfl) rfl (rd_cells (by simp (disch := omega) only [get_set_self, get_new_self, get_set_ne, get_new_ne, get_bump, next_set, next_new, Nat.lt_irrefl, reduceIte, next_kill, next_bump, *]; first | done | rfl)) rfl) (ldA (TL rfl) rfl (rd_cells (by simp (disch := omega) only [get_set_self, get_new_self, get_set_ne, get_new_ne, get_bump, next_set, next_new, Nat.lt_irrefl, reduceIte, next_kill, next_bump, *]; first | done | rfl)) rfl) (by simp only [at_put, at_none, n_put, reduceIte, Nat.reduceEqDiff, Nat.reduceLT, zq, *]; first | done | rfl)) ?_
        refine ⟨_, _, _, _, _, _, O', rfl, hT, ⟨hd4.1.keep fun q hq => by have := hO4 q hq; simp (disch := omega) only [get_set_self, get_new_self, get_set_ne, get_new_ne, get_bump, next_set, next_new, Nat.lt_irrefl, reduceIte, next_kill, next_bump, *]; first | done | rfl, fun q hq => by have := hd4.2 q hq; simp only [next_set]; omega⟩, ⟨by simp only [next_set]; omega, fun q hq _ => by rw [← hkk4 q hq]; simp (disch := omega) only [get_set_self, get_new_self, get_set_ne, get_new_ne, get_bump, next_set, next_new, Nat.lt_irrefl, reduceIte, next_kill, next_bump, *]; first | done | rfl⟩, fun q hq => .inr (by have := hO4 q hq; omega)⟩
end
end Go.Proofs.Ytffockklleanmaa.AM.SX
