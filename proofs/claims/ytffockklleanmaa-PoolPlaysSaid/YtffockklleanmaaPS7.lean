/- What lends a handle: Take. -/
import Derived.Test.YtffockklleanmaaPS6
namespace Go.Proofs.Ytffockklleanmaa.AM.SX
open Go
set_option linter.unusedVariables false
set_option linter.unusedSimpArgs false
set_option maxRecDepth 100000
set_option maxHeartbeats 4000000
attribute [local irreducible] astep0 aev awants abin abuild
/-- what a pool is, always -/
structure WF (s : PS) : Prop where
  idle : ∀ k ∈ s.idles, ∃ x, s.find k = some x ∧ x.st = 3
  idle' : ∀ x ∈ s.all, x.st = 3 → x.k ∈ s.idles
  nd : s.idles.Nodup
  keys : (s.all.map (·.k)).Nodup
  klt : ∀ x ∈ s.all, 0 < x.k ∧ x.k ≤ s.last
  most : 0 ≤ s.most ∧ s.most ≤ 64
  len : (s.all.length : Int) ≤ s.most
  last : 0 ≤ s.last
theorem nodup_sub : ∀ {l m : List Int}, l.Nodup → l ⊆ m → l.length ≤ m.length
  | [], _, _, _ => Nat.zero_le _
  | x :: l, m, hn, hs => by
    simp only [List.nodup_cons] at hn
    have hx : x ∈ m := hs (.head _)
    have h1 : l ⊆ m.erase x := fun y hy => (List.mem_erase_of_ne (fun e => hn.1 (by rw [← e]; exact hy))).2 (hs (.tail _ hy))
    have h2 := nodup_sub hn.2 h1
    have h3 := List.length_erase_of_mem hx
    have h4 := List.length_pos_of_mem hx
    simp only [List.length_cons]; omega
theorem WF.ilen {s : PS} (w : WF s) : s.idles.length ≤ s.all.length := by
  have h1 : s.idles ⊆ s.all.map (·.k) := fun k hk => by
    obtain ⟨x, hx, _⟩ := w.idle k hk
    obtain ⟨hm, rfl⟩ := find_mem hx
    exact List.mem_map_of_mem hm
  have := nodup_sub w.nd h1
  simpa using this
def shutF (s : PS) (k : Int) : PS := { s with all := s.all.filter (fun x => x.k != k), idles := s.idles.filter (· != k) }
/-- what Take gives -/
inductive TakeR (s : PS) (aim : ByteArray) : Int → Int → Bool → Int → PS → Prop where
  | lent (i : Nat) (hi : i < s.idles.length) (ha : s.aim s.idles[i] = aim) (hl : ∀ (q : Nat) (hq : q < s.idles.length), i < q → s.aim s.idles[q] ≠ aim) : TakeR s aim s.idles[i] 0 false 0 { s with all := setSt s.idles[i] 2 s.all, idles := s.idles.eraseIdx i }
  | full (hn : ∀ (q : Nat) (hq : q < s.idles.length), s.aim s.idles[q] ≠ aim) (hf : s.most ≤ s.all.length) (he : s.idles = []) : TakeR s aim 0 0 false 6 s
  | shut (hn : ∀ (q : Nat) (hq : q < s.idles.length), s.aim s.idles[q] ≠ aim) (hf : s.most ≤ s.all.length) (k : Int) (r : List Int) (he : s.idles = k :: r) (id : Nat) : TakeR s aim (s.last + 1) k true 0 { shutF s k with last := s.last + 1, all := (shutF s k).all ++ [⟨s.last + 1, id, aim, 1⟩] }
  | fresh (hn : ∀ (q : Nat) (hq : q < s.idles.length), s.aim s.idles[q] ≠ aim) (hf : ¬ s.most ≤ s.all.length) (id : Nat) : TakeR s aim (s.last + 1) 0 true 0 { s with last := s.last + 1, all := s.all ++ [⟨s.last + 1, id, aim, 1⟩] }
section
variable {n : Nat} {h : AHeap} {p : Nat} {s : PS} {m : Nat} {v : Value} {OI : List Nat}
theorem bump_bump (h : AHeap) (n m : Nat) : bump (bump h n) m = bump h (n + m) := by simp only [bump, Nat.add_assoc]
theorem PInv.keep {h1 : AHeap} (hi : PInv h p s m v OI) (hk : Keep h h1 []) : PInv h1 p s m v OI := by
  obtain ⟨q1, q2, q3, q4, q5, q6⟩ := hi.ne_pm
  refine ⟨by rw [hk.2 p q4 (by simp)]; exact hi.cell, by rw [hk.2 m q5 (by simp)]; exact hi.map, hi.ints.keep fun i hO => hk.2 i (q6 i hO) (by simp), fun x hx => ?_, hi.keys, hi.nd, fun i hm => Nat.lt_of_lt_of_le (hi.lt i hm) hk.1⟩
  show AHeap.get _ x.id = _
  rw [hk.2 _ (hi.ne_id hx).2.2.2 (by simp)]
  exact hi.hs x hx
/-- what isn't owned turns -/
theorem PInv.keep' {h1 : AHeap} (hi : PInv h p s m v OI) (hk : ∀ i, i ∈ own p m OI s → h1.get i = h.get i) (hn : h.next ≤ h1.next) : PInv h1 p s m v OI := by
  refine ⟨by rw [hk p (.head _)]; exact hi.cell, by rw [hk m (.tail _ (.head _))]; exact hi.map, hi.ints.keep fun i hO => hk i (by simp [own, hO]), fun x hx => ?_, hi.keys, hi.nd, fun i hm => Nat.lt_of_lt_of_le (hi.lt i hm) hn⟩
  show AHeap.get _ x.id = _
  rw [hk _ (by simp only [own, List.cons_append, List.mem_cons, List.mem_append]; exact .inr (.inr (.inr (List.mem_map_of_mem hx))))]
  exact hi.hs x hx
theorem mput_new {k : Int} {x : Value} : ∀ {l : List Hd}, (∀ y ∈ l, y.k ≠ k) → mput (l.map hKV) (.int .i64 k) x = some (l.map hKV ++ [(.int .i64 k, x)])
  | [], _ => rfl
  | y :: l, hn => by
    have e : keyEq (.int .i64 k) (.int .i64 y.k) = some false := by
      have : (k == y.k) = false := by simpa using fun e => hn y (.head _) e.symm
      simp [keyEq, this]
    have ih := mput_new (x := x) (l := l) (fun z hz => hn z (.tail _ hz))
    simp only [List.map_cons, List.cons_append, mput, ih]
    simp only [hKV, e]
theorem mget_at (w : WF s) {k : Int} (hk : k ∈ s.idles) : ∃ x, s.find k = some x ∧ x ∈ s.all ∧ mget (s.all.map hKV) (.int .i64 k) = some (some (.pointer (some ⟨x.id, 0, none⟩))) ∧ s.aim k = x.aim := by
  obtain ⟨x, hx, _⟩ := w.idle k hk
  refine ⟨x, hx, (find_mem hx).1, ?_, by simp only [PS.aim, hx]⟩
  rw [mget_all]
  have : s.all.find? (fun x => x.k == k) = some x := hx
  rw [this]; rfl
theorem take_spec (hi : PInv h p s m v OI) (w : WF s) (hn : 400 ≤ n) (hlast : s.last < 1000000) (aim : ByteArray) : C EE (n + 3) 23 [.pointer (some ⟨p, 0, none⟩), .string aim] h fun r h' => ∃ (H S : Int) (F : Bool) (e : Int) (s' : PS), r = .tuple #[.agg #[.int .i64 H, .int .i64 S, .bool F], .int .i64 e] ∧ TakeR s aim H S F e s' ∧ Upd h h' p (own p m OI s) s' := by
  have hil : s.idles.length ≤ 64 := by have := w.ilen; have := w.len; have := w.most; omega
  obtain ⟨q1, q2, q3, q4, q5, q6⟩ := hi.ne_pm
  have hp := hi.cell
  have hv := hi.ints.one
  refine C_in (E_X _) F_take rfl rfl rfl ?_
  intro a hna hat
  have e0 := hat 0 _ rfl
  have e1 := hat 1 _ rfl
  replace hna : a.n = 101 := hna
  clear hat
  repeat first | refine G_seq ?_ | refine G_reg ?_ | refine N_seq ?_ | refine N_block ?_ | refine G_block ?_ | refine G_skip ?_ | refine G_cT ?_ | refine G_cF ?_ | refine G_ret ?_ | refine U_seq_ret ?_ | refine U_block_ret ?_ | refine U_nil ?_ | refine S_nil ?_ | refine S_auto ?_
  refine S_call wants0 (by simp only [aev_tmp, aev_const, aev_func, aev_global, at_put, at_none, n_put, reduceIte, Nat.reduceEqDiff, Nat.reduceLT, zq, *]; first | done | rfl) (E_Y _) (by simp only [List.map, aev_tmp, aev_const, aev_func, aev_global, at_put, at_none, n_put, reduceIte, Nat.reduceEqDiff, Nat.reduceLT, zq, *]; first | done | rfl) ?_
  refine (back_spec hv).mono ?_
  rintro r h1 ⟨rfl, rfl⟩
  repeat first | refine G_seq ?_ | refine G_reg ?_ | refine N_seq ?_ | refine N_block ?_ | refine G_block ?_ | refine G_skip ?_ | refine G_cT ?_ | refine G_cF ?_ | refine G_ret ?_ | refine U_seq_ret ?_ | refine U_block_ret ?_ | refine U_nil ?_ | refine S_nil ?_ | refine S_auto ?_
  refine G_gen (fun a1 h1 => a1.n = 101 ∧ a1.at 2 = .pointer (some ⟨h.next, 0, none⟩) ∧ a1.at 3 = .pointer (some ⟨h.next + 1, 0, none⟩) ∧ a1.at 4 = .pointer (some ⟨h.next + 2, 0, none⟩) ∧ a1.at 5 = .pointer (some ⟨h.next + 3, 0, none⟩) ∧ a1.at 13 = .func (.func 45) #[] #[.pointer (some ⟨h.next + 4, 0, none⟩)] ∧ h1.get h.next = some (.cells [.pointer (some ⟨p, 0, none⟩)] true) ∧ h1.get (h.next + 1) = some (.cells [.string aim] true) ∧ h1.get (h.next + 2) = some (.cells [.int .i64 0, .int .i64 0, .bool false] true) ∧ h1.get (h.next + 3) = some (.cells [.int .i64 0] true) ∧ h1.get (h.next + 4) = some (.cells [v] true) ∧ h1.next = h.next + 5 ∧ Keep h h1 []) ⟨by simp (disch := omega) only [at_put, at_none, n_put, reduceIte, Nat.reduceEqDiff, Nat.reduceLT, get_set_self, get_new_self, get_set_ne, get_new_ne, get_bump, next_set, next_new, Nat.lt_irrefl, next_kill, next_bump, cond_true, cond_false, *]; first | done | rfl, by simp (disch := omega) only [at_put, at_none, n_put, reduceIte, Nat.reduceEqDiff, Nat.reduceLT, get_set_self, get_new_self, get_set_ne, get_new_ne, get_bump, next_set, next_new, Nat.lt_irrefl, next_kill, next_bump, cond_true, cond_false, *]; first | done | rfl, by simp (disch := omega) only [at_put, at_none, n_put, reduceIte, Nat.reduceEqDiff, Nat.reduceLT, get_set_self, get_new_self, get_set_ne, get_new_ne, get_bump, next_set, next_new, Nat.lt_irrefl, next_kill, next_bump, cond_true, cond_false, *]; first | done | rfl, by simp (disch := omega) only [at_put, at_none, n_put, reduceIte, Nat.reduceEqDiff, Nat.reduceLT, get_set_self, get_new_self, get_set_ne, get_new_ne, get_bump, next_set, next_new, Nat.lt_irrefl, next_kill, next_bump, cond_true, cond_false, *]; first | done | rfl, by simp (disch := omega) only [at_put, at_none, n_put, reduceIte, Nat.reduceEqDiff, Nat.reduceLT, get_set_self, get_new_self, get_set_ne, get_new_ne, get_bump, next_set, next_new, Nat.lt_irrefl, next_kill, next_bump, cond_true, cond_false, *]; first | done | rfl, by simp (disch := omega) only [at_put, at_none, n_put, reduceIte, Nat.reduceEqDiff, Nat.reduceLT, get_set_self, get_new_self, get_set_ne, get_new_ne, get_bump, next_set, next_new, Nat.lt_irrefl, next_kill, next_bump, cond_true, cond_false, *]; first | done | rfl, by simp (disch := omega) only [at_put, at_none, n_put, reduceIte, Nat.reduceEqDiff, Nat.reduceLT, get_set_self, get_new_self, get_set_ne, get_new_ne, get_bump, next_set, next_new, Nat.lt_irrefl, next_kill, next_bump, cond_true, cond_false, *]; first | done | rfl, by simp (disch := omega) only [at_put, at_none, n_put, reduceIte, Nat.reduceEqDiff, Nat.reduceLT, get_set_self, get_new_self, get_set_ne, get_new_ne, get_bump, next_set, next_new, Nat.lt_irrefl, next_kill, next_bump, cond_true, cond_false, *]; first | done | rfl, by simp (disch := omega) only [at_put, at_none, n_put, reduceIte, Nat.reduceEqDiff, Nat.reduceLT, get_set_self, get_new_self, get_set_ne, get_new_ne, get_bump, next_set, next_new, Nat.lt_irrefl, next_kill, next_bump, cond_true, cond_false, *]; first | done | rfl, by simp (disch := omega) only [at_put, at_none, n_put, reduceIte, Nat.reduceEqDiff, Nat.reduceLT, get_set_self, get_new_self, get_set_ne, get_new_ne, get_bump, next_set, next_new, Nat.lt_irrefl, next_kill, next_bump, cond_true, cond_false, *]; first | done | rfl, by simp (disch := omega) only [at_put, at_none, n_put, reduceIte, Nat.reduceEqDiff, Nat.reduceLT, get_set_self, get_new_self, get_set_ne, get_new_ne, get_bump, next_set, next_new, Nat.lt_irrefl, next_kill, next_bump, cond_true, cond_false, *]; first | done | rfl, by simp (disch := omega) only [at_put, at_none, n_put, reduceIte, Nat.reduceEqDiff, Nat.reduceLT, get_set_self, get_new_self, get_set_ne, get_new_ne, get_bump, next_set, next_new, Nat.lt_irrefl, next_kill, next_bump, cond_true, cond_false, *]; first | done | rfl, by simp only [next_new, Nat.lt_irrefl, reduceIte]; omega, fun i hlt _ => by simp (disch := omega) only [at_put, at_none, n_put, reduceIte, Nat.reduceEqDiff, Nat.reduceLT, get_set_self, get_new_self, get_set_ne, get_new_ne, get_bump, next_set, next_new, Nat.lt_irrefl, next_kill, next_bump, cond_true, cond_false, *]; first | done | rfl⟩ ?_
  clear e0 e1 hna a
  rintro a h1 ⟨hna, e2, e3, e4, e5, e13, gb0, gb1, gb2, gb3, gb4, hnx, hk1⟩
  have hi1 := hi.keep hk1
  have hp1 := hi1.cell
  have hm1 := hi1.map
  have hvq := hi1.ints.vok
  refine G_range (g := 45) (bx := h.next + 4) (o := 0) (p1 := 14) (p2 := 15) (vs := s.idles) (fun r hh => (∃ N, hh = bump h1 N) ∧ ∀ (q : Nat) (hq : q < s.idles.length), r ≤ q → s.aim s.idles[q] ≠ aim) (by simp only [aev_tmp, aev_const, aev_func, aev_global, at_put, at_none, n_put, reduceIte, Nat.reduceEqDiff, Nat.reduceLT, zq, *]; first | done | rfl) rfl rfl (back_ints hi1.ints gb4 (by omega)) ⟨⟨0, rfl⟩, fun q hq h0 => absurd hq (by omega)⟩ ?_ ?_
  · rintro r hh hr ⟨⟨N, rfl⟩, hq⟩
    refine ⟨by simp only [sameList, back_ints (h := bump h1 N) hi1.ints gb4 (by omega), eqInts_self], ?_⟩
    have hgd : s.idles.getD r 0 = s.idles[r] := by simp [List.getD, hr]
    rw [hgd]
    obtain ⟨x, hx, hxm, hl, hxa⟩ := mget_at w (List.getElem_mem hr)
    have hx2 : h1.get x.id = some (.cells [.string x.aim, .int .i64 x.st] true) := hi1.hs x hxm
    obtain ⟨n1, n2, n3, n4⟩ := hi.ne_id hxm
    repeat first | refine G_seq ?_ | refine G_reg ?_ | refine N_seq ?_ | refine N_block ?_ | refine G_block ?_ | refine G_skip ?_ | refine G_cT ?_ | refine G_cF ?_ | refine G_ret ?_ | refine U_seq_ret ?_ | refine U_block_ret ?_ | refine U_nil ?_ | refine S_nil ?_ | refine S_auto ?_
    refine N_nil ?_
    refine AQ_n ?_
    repeat first | refine G_seq ?_ | refine G_reg ?_ | refine N_seq ?_ | refine N_block ?_ | refine G_block ?_ | refine G_skip ?_ | refine G_cT ?_ | refine G_cF ?_ | refine G_ret ?_ | refine U_seq_ret ?_ | refine U_block_ret ?_ | refine U_nil ?_ | refine S_nil ?_ | refine S_auto ?_
    refine G_draw [] [] (by kernel_rfl) ?_
    repeat first | refine D1_nil0 ?_ | refine D2_nil ?_ | refine D_pure ?_ | refine D_rd ?_ | refine D2_pure' ?_
    by_cases haim : x.aim = aim
    · repeat first | refine G_seq ?_ | refine G_reg ?_ | refine N_seq ?_ | refine N_block ?_ | refine G_block ?_ | refine G_skip ?_ | refine G_cT ?_ | refine G_cF ?_ | refine G_ret ?_ | refine U_seq_ret ?_ | refine U_block_ret ?_ | refine U_nil ?_ | refine S_nil ?_ | refine S_auto ?_
      refine G_draw [] [0] (by kernel_rfl) ?_
      refine D1_lo wants0 rfl rfl (fun _ => o_ld (by simp only [aev_tmp, aev_const, aev_func, aev_global, at_put, at_none, n_put, reduceIte, Nat.reduceEqDiff, Nat.reduceLT, zq, *]; first | done | rfl) (TL rfl) rfl (rd_cells (by simp (disch := omega) only [get_set_self, get_new_self, get_set_ne, get_new_ne, get_bump, next_set, next_new, Nat.lt_irrefl, reduceIte, next_kill, next_bump, *]; first | done | rfl)) rfl) (by first | exact veq_self rfl | assumption) ?_
      repeat first | refine D1_nil0 ?_ | refine D2_nil ?_ | refine D_pure ?_ | refine D_rd ?_ | refine D2_pure' ?_
      refine D1_call wants0 rfl (by simp only [aev_tmp, aev_const, aev_func, aev_global, at_put, at_none, n_put, reduceIte, Nat.reduceEqDiff, Nat.reduceLT, zq, *]; first | done | rfl) (E_Y _) (by simp only [List.map, aev_tmp, aev_const, aev_func, aev_global, at_put, at_none, n_put, reduceIte, Nat.reduceEqDiff, Nat.reduceLT, zq, *]; first | done | rfl) ?_
      refine (delete_spec (n := n + 1) (by exact hi1.ints.keep fun _ _ => rfl) hr (by omega)).mono ?_
      rintro v2 h2 ⟨g1, g2, g3⟩
      have hv2 := g1.one
      have g3' : ∀ q, q ∉ OI → h2.get q = h1.get q := g3
      have hnx2 : h1.next ≤ h2.next := by
        have h9 := g2
        simp only [next_bump] at h9
        omega
      have hb : ∀ i, h.next ≤ i → i ∉ OI := fun i hi' hO => by have := q6 i hO; omega
      have gp2 : h2.get p = some (.cells [.int .i64 s.most, .int .i64 s.last, .map (some m), v] true) := by rw [g3' p q2]; exact hp1
      have gm2 : h2.get m = some (.map (s.all.map hKV)) := by rw [g3' m q3]; exact hm1
      have gx2 : h2.get x.id = some (.cells [.string x.aim, .int .i64 x.st] true) := by rw [g3' _ n3]; exact hx2
      have gb02 : h2.get h.next = some (.cells [.pointer (some ⟨p, 0, none⟩)] true) := by rw [g3' _ (hb _ (Nat.le_refl _))]; exact gb0
      have gb22 : h2.get (h.next + 2) = some (.cells [.int .i64 0, .int .i64 0, .bool false] true) := by rw [g3' _ (hb _ (by omega))]; exact gb2
      have gb32 : h2.get (h.next + 3) = some (.cells [.int .i64 0] true) := by rw [g3' _ (hb _ (by omega))]; exact gb3
      have hoth : ∀ i, i < h.next → i ∉ OI → h2.get i = h.get i := fun i h0 h9 => by rw [g3' i h9]; exact hk1.2 i h0 (by simp)
      clear g2 g3 g3' gb0 gb1 gb2 gb3 gb4 hp1 hm1 hx2 hp hi1 hvq
      refine ⟨.cons (fun _ => o_ld (by simp only [aev_tmp, aev_const, aev_func, aev_global, at_put, at_none, n_put, reduceIte, Nat.reduceEqDiff, Nat.reduceLT, zq, *]; first | done | rfl) (TL rfl) rfl (rd_cells gb02) rfl) .nil, ?_⟩
      repeat first | refine D1_nil0 ?_ | refine D2_nil ?_ | refine D_pure ?_ | refine D_rd ?_ | refine D2_pure' ?_
      refine D2_wr wants0 rfl (o_st1 (by simp only [aev_tmp, aev_const, aev_func, aev_global, at_put, at_none, n_put, reduceIte, Nat.reduceEqDiff, Nat.reduceLT, zq, *]; first | done | rfl) (by simp only [aev_tmp, aev_const, aev_func, aev_global, at_put, at_none, n_put, reduceIte, Nat.reduceEqDiff, Nat.reduceLT, zq, *]; first | done | rfl) (TL rfl) rfl hv2 gp2 rfl) (.cons (fun _ => o_ld (by simp only [aev_tmp, aev_const, aev_func, aev_global, at_put, at_none, n_put, reduceIte, Nat.reduceEqDiff, Nat.reduceLT, zq, *]; first | done | rfl) (TL rfl) rfl (rd_cells (by simp (disch := omega) only [get_set_self, get_new_self, get_set_ne, get_new_ne, get_bump, next_set, next_new, Nat.lt_irrefl, reduceIte, next_kill, next_bump, *]; first | done | rfl)) rfl) .nil) ?_
      repeat first | refine D1_nil0 ?_ | refine D2_nil ?_ | refine D_pure ?_ | refine D_rd ?_ | refine D2_pure' ?_
      repeat first | refine G_seq ?_ | refine G_reg ?_ | refine N_seq ?_ | refine N_block ?_ | refine G_block ?_ | refine G_skip ?_ | refine G_cT ?_ | refine G_cF ?_ | refine G_ret ?_ | refine U_seq_ret ?_ | refine U_block_ret ?_ | refine U_nil ?_ | refine S_nil ?_ | refine S_auto ?_
      refine BQ_ret ?_
      repeat first | refine G_seq ?_ | refine G_reg ?_ | refine N_seq ?_ | refine N_block ?_ | refine G_block ?_ | refine G_skip ?_ | refine G_cT ?_ | refine G_cF ?_ | refine G_ret ?_ | refine U_seq_ret ?_ | refine U_block_ret ?_ | refine U_nil ?_ | refine S_nil ?_ | refine S_auto ?_
      refine FQ_in (by first | exact .inr rfl | exact .inl rfl) (aresC2v (by simp only [at_put, at_none, n_put, reduceIte, Nat.reduceEqDiff, Nat.reduceLT, zq, *]; first | done | rfl) (by simp only [at_put, at_none, n_put, reduceIte, Nat.reduceEqDiff, Nat.reduceLT, zq, *]; first | done | rfl) (ldA (TL rfl) rfl (rd_cells (by simp (disch := omega) only [get_set_self, get_new_self, get_set_ne, get_new_ne, get_bump, next_set, next_new, Nat.lt_irrefl, reduceIte, next_kill, next_bump, *]; first | done | rfl)) rfl) (ld1 (TL rfl) rfl (rd_cells (by simp (disch := omega) only [get_set_self, get_new_self, get_set_ne, get_new_ne, get_bump, next_set, next_new, Nat.lt_irrefl, reduceIte, next_kill, next_bump, *]; first | done | rfl)) rfl)) ?_
      refine ⟨_, _, _, _, _, rfl, .lent r hr (hxa.trans haim) (fun q hql hqr => hq q hql hqr), ?_⟩
      obtain ⟨hxm2, hxk⟩ := find_mem hx
      refine ⟨own p m OI { s with all := setSt s.idles[r] 2 s.all, idles := s.idles.eraseIdx r }, ⟨m, v2, OI, ⟨?_, ?_, ?_, fun y hy => ?_, ?_, ?_, fun i hm => ?_⟩, rfl⟩, ⟨?_, fun i hlt hni => ?_⟩, fun i hm => ?_⟩
      · simp (disch := omega) only [get_set_self, get_new_self, get_set_ne, get_new_ne, get_bump, next_set, next_new, Nat.lt_irrefl, reduceIte, next_kill, next_bump, *]; first | done | rfl
      · rw [setSt_kv]; simp (disch := omega) only [get_set_self, get_new_self, get_set_ne, get_new_ne, get_bump, next_set, next_new, Nat.lt_irrefl, reduceIte, next_kill, next_bump, *]; first | done | rfl
      · refine g1.keep fun i hO => ?_
        have h1' : i ≠ p := fun e => q2 (e ▸ hO)
        have h2' : i ≠ x.id := fun e => n3 (e ▸ hO)
        have h3' := q6 i hO
        simp (disch := omega) only [get_set_self, get_new_self, get_set_ne, get_new_ne, get_bump, next_set, next_new, Nat.lt_irrefl, reduceIte, next_kill, next_bump, *]; first | done | rfl
      · obtain ⟨z, hz, rfl⟩ := List.mem_map.1 hy
        obtain ⟨z1, z2, z3, z4⟩ := hi.ne_id hz
        by_cases e : z.k = s.idles[r]
        · rw [if_pos e]
          obtain rfl := uniq_k hi.keys hz hxm2 (e.trans hxk.symm)
          show AHeap.get _ z.id = some (.cells [.string z.aim, .int .i64 2] true)
          rw [haim]
          simp (disch := omega) only [get_set_self, get_new_self, get_set_ne, get_new_ne, get_bump, next_set, next_new, Nat.lt_irrefl, reduceIte, next_kill, next_bump, *]; first | done | rfl
        · rw [if_neg e]
          have h9 : z.id ≠ x.id := fun e2 => e (by rw [uniq_id hi.nd_id hz hxm2 e2]; exact hxk)
          show AHeap.get _ z.id = some (.cells [.string z.aim, .int .i64 z.st] true)
          have h10 := hoth z.id z4 z3
          have h11 : h.get z.id = some (.cells [.string z.aim, .int .i64 z.st] true) := hi.hs z hz
          rw [h11] at h10
          clear hoth hl hx
          simp (disch := omega) only [get_set_self, get_new_self, get_set_ne, get_new_ne, get_bump, next_set, next_new, Nat.lt_irrefl, reduceIte, next_kill, next_bump, *]; first | done | rfl
      · rw [setSt_k]; exact hi.keys
      · rw [setSt_id]; exact hi.nd
      · rw [setSt_id] at hm
        have := hi.lt i hm
        simp only [next_set]; omega
      · simp only [next_set]; omega
      · simp only [own, List.cons_append, List.mem_cons, List.mem_append, not_or] at hni
        have h1' : i ≠ x.id := fun e => hni.2.2.2 (e ▸ List.mem_map_of_mem hxm2)
        have h2' := hni.1
        have h10 := hoth i hlt hni.2.2.1
        clear hoth hl hx
        simp (disch := omega) only [get_set_self, get_new_self, get_set_ne, get_new_ne, get_bump, next_set, next_new, Nat.lt_irrefl, reduceIte, next_kill, next_bump, *]; first | done | rfl
      · simp only [own, setSt_id] at hm; exact .inl hm
    · repeat first | refine G_seq ?_ | refine G_reg ?_ | refine N_seq ?_ | refine N_block ?_ | refine G_block ?_ | refine G_skip ?_ | refine G_cT ?_ | refine G_cF ?_ | refine G_ret ?_ | refine U_seq_ret ?_ | refine U_block_ret ?_ | refine U_nil ?_ | refine S_nil ?_ | refine S_auto ?_
      refine N_nil ?_
      refine BQ_n ⟨⟨_, bump_bump _ _ _⟩, fun q hql hqr => ?_⟩
      rcases Nat.lt_or_ge r q with h2 | h2
      · exact hq q hql h2
      · obtain rfl : q = r := by omega
        rw [hxa]; exact haim
  · rintro hh ⟨⟨N, rfl⟩, hq⟩
    replace hq : ∀ (q : Nat) (hq : q < s.idles.length), s.aim s.idles[q] ≠ aim := fun q hql => hq q hql (Nat.zero_le _)
    repeat first | refine G_seq ?_ | refine G_reg ?_ | refine N_seq ?_ | refine N_block ?_ | refine G_block ?_ | refine G_skip ?_ | refine G_cT ?_ | refine G_cF ?_ | refine G_ret ?_ | refine U_seq_ret ?_ | refine U_block_ret ?_ | refine U_nil ?_ | refine S_nil ?_ | refine S_auto ?_
    refine G_draw [] [] (by kernel_rfl) ?_
    repeat first | refine D1_nil0 ?_ | refine D2_nil ?_ | refine D_pure ?_ | refine D_rd ?_ | refine D2_pure' ?_
    refine D1_rd wants0 rfl rfl (fun _ => o_builtin (by simp only [List.map, aev_tmp, aev_const, aev_func, aev_global, at_put, at_none, n_put, reduceIte, Nat.reduceEqDiff, Nat.reduceLT, zq, *]; first | done | rfl) (lenM (TL rfl) (by simp (disch := omega) only [get_set_self, get_new_self, get_set_ne, get_new_ne, get_bump, next_set, next_new, Nat.lt_irrefl, reduceIte, next_kill, next_bump, *]; first | done | rfl))) (veq_self rfl) ?_
    repeat first | refine D1_nil0 ?_ | refine D2_nil ?_ | refine D_pure ?_ | refine D_rd ?_ | refine D2_pure' ?_
    rw [List.length_map]
    refine N_seq ?_
    refine G_gen (fun a2 h2 => a2.n = 101 ∧ a2.at 2 = .pointer (some ⟨h.next, 0, none⟩) ∧ a2.at 3 = .pointer (some ⟨h.next + 1, 0, none⟩) ∧ a2.at 4 = .pointer (some ⟨h.next + 2, 0, none⟩) ∧ a2.at 5 = .pointer (some ⟨h.next + 3, 0, none⟩) ∧ a2.at 8 = .pointer (some ⟨h.next + 5 + N, 0, none⟩) ∧ a2.at 57 = .bool (decide (s.most ≤ (s.all.length : Int))) ∧ h2.get h.next = some (.cells [.pointer (some ⟨p, 0, none⟩)] true) ∧ h2.get (h.next + 1) = some (.cells [.string aim] true) ∧ h2.get (h.next + 2) = some (.cells [.int .i64 0, .int .i64 0, .bool false] true) ∧ h2.get (h.next + 3) = some (.cells [.int .i64 0] true) ∧ h2.get (h.next + 5 + N) = some (.cells [.int .i64 0, .int .i64 0, .bool false] true) ∧ h.next + 5 + N < h2.next ∧ Keep h h2 []) ⟨by simp (disch := omega) only [at_put, at_none, n_put, reduceIte, Nat.reduceEqDiff, Nat.reduceLT, get_set_self, get_new_self, get_set_ne, get_new_ne, get_bump, next_set, next_new, Nat.lt_irrefl, next_kill, next_bump, cond_true, cond_false, *]; first | done | rfl, by simp (disch := omega) only [at_put, at_none, n_put, reduceIte, Nat.reduceEqDiff, Nat.reduceLT, get_set_self, get_new_self, get_set_ne, get_new_ne, get_bump, next_set, next_new, Nat.lt_irrefl, next_kill, next_bump, cond_true, cond_false, *]; first | done | rfl, by simp (disch := omega) only [at_put, at_none, n_put, reduceIte, Nat.reduceEqDiff, Nat.reduceLT, get_set_self, get_new_self, get_set_ne, get_new_ne, get_bump, next_set, next_new, Nat.lt_irrefl, next_kill, next_bump, cond_true, cond_false, *]; first | done | rfl, by simp (disch := omega) only [at_put, at_none, n_put, reduceIte, Nat.reduceEqDiff, Nat.reduceLT, get_set_self, get_new_self, get_set_ne, get_new_ne, get_bump, next_set, next_new, Nat.lt_irrefl, next_kill, next_bump, cond_true, cond_false, *]; first | done | rfl, by simp (disch := omega) only [at_put, at_none, n_put, reduceIte, Nat.reduceEqDiff, Nat.reduceLT, get_set_self, get_new_self, get_set_ne, get_new_ne, get_bump, next_set, next_new, Nat.lt_irrefl, next_kill, next_bump, cond_true, cond_false, *]; first | done | rfl, by simp (disch := omega) only [at_put, at_none, n_put, reduceIte, Nat.reduceEqDiff, Nat.reduceLT, get_set_self, get_new_self, get_set_ne, get_new_ne, get_bump, next_set, next_new, Nat.lt_irrefl, next_kill, next_bump, cond_true, cond_false, *]; first | done | rfl, by simp (disch := omega) only [at_put, at_none, n_put, reduceIte, Nat.reduceEqDiff, Nat.reduceLT, get_set_self, get_new_self, get_set_ne, get_new_ne, get_bump, next_set, next_new, Nat.lt_irrefl, next_kill, next_bump, cond_true, cond_false, *]; first | done | rfl, by simp (disch := omega) only [at_put, at_none, n_put, reduceIte, Nat.reduceEqDiff, Nat.reduceLT, get_set_self, get_new_self, get_set_ne, get_new_ne, get_bump, next_set, next_new, Nat.lt_irrefl, next_kill, next_bump, cond_true, cond_false, *]; first | done | rfl, by simp (disch := omega) only [at_put, at_none, n_put, reduceIte, Nat.reduceEqDiff, Nat.reduceLT, get_set_self, get_new_self, get_set_ne, get_new_ne, get_bump, next_set, next_new, Nat.lt_irrefl, next_kill, next_bump, cond_true, cond_false, *]; first | done | rfl, by simp (disch := omega) only [at_put, at_none, n_put, reduceIte, Nat.reduceEqDiff, Nat.reduceLT, get_set_self, get_new_self, get_set_ne, get_new_ne, get_bump, next_set, next_new, Nat.lt_irrefl, next_kill, next_bump, cond_true, cond_false, *]; first | done | rfl, by simp (disch := omega) only [at_put, at_none, n_put, reduceIte, Nat.reduceEqDiff, Nat.reduceLT, get_set_self, get_new_self, get_set_ne, get_new_ne, get_bump, next_set, next_new, Nat.lt_irrefl, next_kill, next_bump, cond_true, cond_false, *]; first | done | rfl, by simp (disch := omega) only [at_put, at_none, n_put, reduceIte, Nat.reduceEqDiff, Nat.reduceLT, get_set_self, get_new_self, get_set_ne, get_new_ne, get_bump, next_set, next_new, Nat.lt_irrefl, next_kill, next_bump, cond_true, cond_false, *]; first | done | rfl, by simp only [next_new, next_bump, Nat.lt_irrefl, reduceIte, hnx]; omega, ?_, fun i hlt _ => ?_⟩ ?_
    · simp only [next_new, next_bump, Nat.lt_irrefl, reduceIte, hnx]; omega
    · have h9 := hk1.2 i hlt (by simp)
      have h10 : i ≠ (bump h1 N).next := by simp only [next_bump, hnx]; omega
      rw [get_bump, get_new_ne h10, get_bump]; exact h9
    clear e2 e3 e4 e5 e13 hna gb0 gb1 gb2 gb3 gb4 hnx hk1 hi1 hp1 hm1 hvq a h1 hp
    rintro a h2 ⟨hna, e2, e3, e4, e5, e8, e57, gb0, gb1, gb2, gb3, gb8, hnx, hk2⟩
    have hi2 := hi.keep hk2
    have hp2 := hi2.cell
    have hm2 := hi2.map
    generalize hB : h.next + 5 + N = B at *
    have hBn : h.next + 5 ≤ B := by omega
    clear hB
    refine G_join (fun a3 h3 => a3.n = 101 ∧ a3.at 2 = .pointer (some ⟨h.next, 0, none⟩) ∧ a3.at 3 = .pointer (some ⟨h.next + 1, 0, none⟩) ∧ a3.at 4 = .pointer (some ⟨h.next + 2, 0, none⟩) ∧ a3.at 5 = .pointer (some ⟨h.next + 3, 0, none⟩) ∧ a3.at 8 = .pointer (some ⟨B, 0, none⟩) ∧ ∃ (s1 : PS) (S1 : Int) (m1 : Nat) (v1 : Value) (OI1 : List Nat), PInv h3 p s1 m1 v1 OI1 ∧ h3.get h.next = some (.cells [.pointer (some ⟨p, 0, none⟩)] true) ∧ h3.get (h.next + 1) = some (.cells [.string aim] true) ∧ h3.get (h.next + 2) = some (.cells [.int .i64 0, .int .i64 0, .bool false] true) ∧ h3.get (h.next + 3) = some (.cells [.int .i64 0] true) ∧ h3.get B = some (.cells [.int .i64 0, .int .i64 S1, .bool false] true) ∧ B < h3.next ∧ Keep h h3 (own p m OI s) ∧ (∀ i ∈ own p m1 OI1 s1, i ∈ own p m OI s ∨ B < i) ∧ ((¬ s.most ≤ (s.all.length : Int) ∧ s1 = s ∧ S1 = 0) ∨ (s.most ≤ (s.all.length : Int) ∧ ∃ k r, s.idles = k :: r ∧ s1 = shutF s k ∧ S1 = k))) ?_ ?_
    · by_cases hf : s.most ≤ (s.all.length : Int)
      · repeat first | refine G_seq ?_ | refine G_reg ?_ | refine N_seq ?_ | refine N_block ?_ | refine G_block ?_ | refine G_skip ?_ | refine G_cT ?_ | refine G_cF ?_ | refine G_ret ?_ | refine U_seq_ret ?_ | refine U_block_ret ?_ | refine U_nil ?_ | refine S_nil ?_ | refine S_auto ?_
        refine S_step wants0 (o_builtin (by simp only [List.map, aev_tmp, aev_const, aev_func, aev_global, at_put, at_none, n_put, reduceIte, Nat.reduceEqDiff, Nat.reduceLT, zq, *]; first | done | rfl) (hi2.ints.lenB (TL rfl))) ?_
        cases hid : s.idles with
        | nil =>
          have hl0 : ((s.idles.length : Nat) : Int) = 0 := by rw [hid]; rfl
          repeat first | refine G_seq ?_ | refine G_reg ?_ | refine N_seq ?_ | refine N_block ?_ | refine G_block ?_ | refine G_skip ?_ | refine G_cT ?_ | refine G_cF ?_ | refine G_ret ?_ | refine U_seq_ret ?_ | refine U_block_ret ?_ | refine U_nil ?_ | refine S_nil ?_ | refine S_auto ?_
          refine JQ_ret ?_
          repeat first | refine G_seq ?_ | refine G_reg ?_ | refine N_seq ?_ | refine N_block ?_ | refine G_block ?_ | refine G_skip ?_ | refine G_cT ?_ | refine G_cF ?_ | refine G_ret ?_ | refine U_seq_ret ?_ | refine U_block_ret ?_ | refine U_nil ?_ | refine S_nil ?_ | refine S_auto ?_
          refine FQ_in (by first | exact .inr rfl | exact .inl rfl) (aresC2v (by simp only [at_put, at_none, n_put, reduceIte, Nat.reduceEqDiff, Nat.reduceLT, zq, *]; first | done | rfl) (by simp only [at_put, at_none, n_put, reduceIte, Nat.reduceEqDiff, Nat.reduceLT, zq, *]; first | done | rfl) (ldA (TL rfl) rfl (rd_cells (by simp (disch := omega) only [get_set_self, get_new_self, get_set_ne, get_new_ne, get_bump, next_set, next_new, Nat.lt_irrefl, reduceIte, next_kill, next_bump, *]; first | done | rfl)) rfl) (ld1 (TL rfl) rfl (rd_cells (by simp (disch := omega) only [get_set_self, get_new_self, get_set_ne, get_new_ne, get_bump, next_set, next_new, Nat.lt_irrefl, reduceIte, next_kill, next_bump, *]; first | done | rfl)) rfl)) ?_
          refine ⟨_, _, _, _, _, rfl, .full hq hf hid, own p m OI s, ⟨m, v, OI, ?_, rfl⟩, ⟨?_, fun i hlt hni => ?_⟩, fun i hm => .inl hm⟩
          · refine hi2.keep' (fun i hm => ?_) (by simp only [next_set]; omega)
            have h9 := hi.lt i hm
            rw [get_set_ne (by omega), get_set_ne (by omega)]
          · simp only [next_set]; have := hk2.1; omega
          · have h9 := hk2.2 i hlt (by simp)
            simp (disch := omega) only [get_set_self, get_new_self, get_set_ne, get_new_ne, get_bump, next_set, next_new, Nat.lt_irrefl, reduceIte, next_kill, next_bump, *]; first | done | rfl
        | cons k r =>
          have hl0 : (((s.idles.length : Nat) : Int) = 0) = False := eq_false (by rw [hid]; simp; omega)
          have h0 : 0 < s.idles.length := by rw [hid]; simp
          have hk0 : s.idles[0] = k := by simp [hid]
          obtain ⟨bk, cs, g1, g2, g3⟩ := hi2.ints.index (T := EE.T) (st := 80) (TL rfl) (TL rfl) h0
          rw [hk0] at g3
          repeat first | refine G_seq ?_ | refine G_reg ?_ | refine N_seq ?_ | refine N_block ?_ | refine G_block ?_ | refine G_skip ?_ | refine G_cT ?_ | refine G_cF ?_ | refine G_ret ?_ | refine U_seq_ret ?_ | refine U_block_ret ?_ | refine U_nil ?_ | refine S_nil ?_ | refine S_auto ?_
          refine S_step wants0 (o_indexAddr (by simp only [aev_tmp, aev_const, aev_func, aev_global, at_put, at_none, n_put, reduceIte, Nat.reduceEqDiff, Nat.reduceLT, zq, *]; first | done | rfl) (by simp only [aev_tmp, aev_const, aev_func, aev_global, at_put, at_none, n_put, reduceIte, Nat.reduceEqDiff, Nat.reduceLT, zq, *]; first | done | rfl) g1) ?_
          refine S_step wants0 (o_ld (by simp only [aev_tmp, aev_const, aev_func, aev_global, at_put, at_none, n_put, reduceIte, Nat.reduceEqDiff, Nat.reduceLT, zq, *]; first | done | rfl) (TL rfl) rfl (rd_cells g2) g3) ?_
          clear g1 g2 g3 hl0 h0 hk0
          repeat first | refine G_seq ?_ | refine G_reg ?_ | refine N_seq ?_ | refine N_block ?_ | refine G_block ?_ | refine G_skip ?_ | refine G_cT ?_ | refine G_cF ?_ | refine G_ret ?_ | refine U_seq_ret ?_ | refine U_block_ret ?_ | refine U_nil ?_ | refine S_nil ?_ | refine S_auto ?_
          refine S_call wants0 (by simp only [aev_tmp, aev_const, aev_func, aev_global, at_put, at_none, n_put, reduceIte, Nat.reduceEqDiff, Nat.reduceLT, zq, *]; first | done | rfl) (E_Y _) (by simp only [List.map, aev_tmp, aev_const, aev_func, aev_global, at_put, at_none, n_put, reduceIte, Nat.reduceEqDiff, Nat.reduceLT, zq, *]; first | done | rfl) ?_
          have hi3 : PInv (h2.set B (.cells [.int .i64 0, .int .i64 k, .bool false] true)) p s m v OI := hi2.keep' (fun i hm => get_set_ne (by have := hi.lt i hm; omega)) (Nat.le_refl _)
          have hil' : s.idles.length + 5 ≤ n := by omega
          refine (shut_spec hi3 hil' (by omega) k).mono ?_
          rintro r0 h3 ⟨_, O3, ⟨m3, v3, OI3, hi4, rfl⟩, hk3, ho3⟩
          have hb : ∀ i, h.next ≤ i → i ∉ own p m OI s := fun i hi' hm => by have := hi.lt i hm; omega
          have hb3 : ∀ i, h.next ≤ i → i < h2.next → h3.get i = (h2.set B (.cells [.int .i64 0, .int .i64 k, .bool false] true)).get i := fun i h1 h2 => hk3.2 i h2 (hb i h1)
          have c0 := hb3 h.next (Nat.le_refl _) (by omega)
          have c1 := hb3 (h.next + 1) (by omega) (by omega)
          have c2 := hb3 (h.next + 2) (by omega) (by omega)
          have c3 := hb3 (h.next + 3) (by omega) (by omega)
          have c8 := hb3 B (by omega) (by omega)
          rw [get_set_ne (by omega)] at c0 c1 c2 c3
          rw [get_set_self] at c8
          rw [gb0] at c0; rw [gb1] at c1; rw [gb2] at c2; rw [gb3] at c3
          have hn3 : h2.next ≤ h3.next := hk3.1
          clear hb3 hb gb0 gb1 gb2 gb3 gb8
          repeat first | refine G_seq ?_ | refine G_reg ?_ | refine N_seq ?_ | refine N_block ?_ | refine G_block ?_ | refine G_skip ?_ | refine G_cT ?_ | refine G_cF ?_ | refine G_ret ?_ | refine U_seq_ret ?_ | refine U_block_ret ?_ | refine U_nil ?_ | refine S_nil ?_ | refine S_auto ?_
          refine N_nil ?_
          refine JQ_n ⟨by simp only [at_put, at_none, n_put, reduceIte, Nat.reduceEqDiff, Nat.reduceLT, zq, *]; first | done | rfl, by simp only [at_put, at_none, n_put, reduceIte, Nat.reduceEqDiff, Nat.reduceLT, zq, *]; first | done | rfl, by simp only [at_put, at_none, n_put, reduceIte, Nat.reduceEqDiff, Nat.reduceLT, zq, *]; first | done | rfl, by simp only [at_put, at_none, n_put, reduceIte, Nat.reduceEqDiff, Nat.reduceLT, zq, *]; first | done | rfl, by simp only [at_put, at_none, n_put, reduceIte, Nat.reduceEqDiff, Nat.reduceLT, zq, *]; first | done | rfl, by simp only [at_put, at_none, n_put, reduceIte, Nat.reduceEqDiff, Nat.reduceLT, zq, *]; first | done | rfl, shutF s k, k, m3, v3, OI3, hi4, c0, c1, c2, c3, c8, by omega, ⟨by have := hk2.1; omega, fun i hlt hni => ?_⟩, fun i hm => ?_, .inr ⟨hf, k, r, rfl, rfl, rfl⟩⟩
          · have h9 := hk2.1
            rw [hk3.2 i (Nat.lt_of_lt_of_le hlt h9) hni, get_set_ne (by omega), hk2.2 i hlt (by simp)]
          · rcases ho3 i hm with h9 | h9
            · exact .inl h9
            · exact .inr (Nat.lt_of_lt_of_le hnx h9)
      · repeat first | refine G_seq ?_ | refine G_reg ?_ | refine N_seq ?_ | refine N_block ?_ | refine G_block ?_ | refine G_skip ?_ | refine G_cT ?_ | refine G_cF ?_ | refine G_ret ?_ | refine U_seq_ret ?_ | refine U_block_ret ?_ | refine U_nil ?_ | refine S_nil ?_ | refine S_auto ?_
        refine N_nil ?_
        refine JQ_n ⟨by simp only [at_put, at_none, n_put, reduceIte, Nat.reduceEqDiff, Nat.reduceLT, zq, *]; first | done | rfl, by simp only [at_put, at_none, n_put, reduceIte, Nat.reduceEqDiff, Nat.reduceLT, zq, *]; first | done | rfl, by simp only [at_put, at_none, n_put, reduceIte, Nat.reduceEqDiff, Nat.reduceLT, zq, *]; first | done | rfl, by simp only [at_put, at_none, n_put, reduceIte, Nat.reduceEqDiff, Nat.reduceLT, zq, *]; first | done | rfl, by simp only [at_put, at_none, n_put, reduceIte, Nat.reduceEqDiff, Nat.reduceLT, zq, *]; first | done | rfl, by simp only [at_put, at_none, n_put, reduceIte, Nat.reduceEqDiff, Nat.reduceLT, zq, *]; first | done | rfl, s, 0, m, v, OI, hi2, gb0, gb1, gb2, gb3, gb8, hnx, hk2.mono (by simp), fun i hm => .inl hm, .inl ⟨hf, rfl, rfl⟩⟩
    · rintro a h3 ⟨hna, e2, e3, e4, e5, e8, s1, S1, m1, v1, OI1, hi3, gb0, gb1, gb2, gb3, gb8, hnx, hk3, ho3, hcase⟩
      have hl1 : s1.last = s.last := by rcases hcase with ⟨_, rfl, _⟩ | ⟨_, k, r, _, rfl, _⟩ <;> rfl
      have hsub : ∀ x ∈ s1.all, x ∈ s.all := by
        rcases hcase with ⟨_, rfl, _⟩ | ⟨_, k, r, _, rfl, _⟩
        · exact fun x hx => hx
        · exact fun x hx => (List.mem_filter.1 hx).1
      have hfresh : ∀ x ∈ s1.all, x.k ≠ s.last + 1 := fun x hx e => by have := (w.klt x (hsub x hx)).2; omega
      have hlast0 := w.last
      have hp3 := hi3.cell
      have hm3 := hi3.map
      rw [hl1] at hp3
      obtain ⟨t1, t2, t3, t4, t5, t6⟩ := hi3.ne_pm
      have hb : ∀ i ∈ own p m1 OI1 s1, i ≠ h.next ∧ i ≠ h.next + 1 ∧ i ≠ h.next + 2 ∧ i ≠ h.next + 3 ∧ i ≠ B := fun i hm => by
        rcases ho3 i hm with h9 | h9
        · have := hi.lt i h9; omega
        · omega
      obtain ⟨p1, p2, p3, p4, p5⟩ := hb p (.head _)
      obtain ⟨u1, u2, u3, u4, u5⟩ := hb m1 (.tail _ (.head _))
      have hput : ∀ x : Value, mput (s1.all.map hKV) (.int .i64 (s.last + 1)) x = some (s1.all.map hKV ++ [(.int .i64 (s.last + 1), x)]) := fun x => mput_new hfresh
      repeat first | refine G_seq ?_ | refine G_reg ?_ | refine N_seq ?_ | refine N_block ?_ | refine G_block ?_ | refine G_skip ?_ | refine G_cT ?_ | refine G_cF ?_ | refine G_ret ?_ | refine U_seq_ret ?_ | refine U_block_ret ?_ | refine U_nil ?_ | refine S_nil ?_ | refine S_auto ?_
      refine G_draw [] [] (by kernel_rfl) ?_
      repeat first | refine D1_nil0 ?_ | refine D2_nil ?_ | refine D_pure ?_ | refine D_rd ?_ | refine D2_pure' ?_
      refine D1_new wants0 rfl (o_box (by simp only [aev_tmp, aev_const, aev_func, aev_global, at_put, at_none, n_put, reduceIte, Nat.reduceEqDiff, Nat.reduceLT, zq, *]; first | done | rfl) rfl) (get_new_self _ _ _) ?_
      refine D1_wr1 wants0 rfl (o_mapUpdate (by simp only [aev_tmp, aev_const, aev_func, aev_global, at_put, at_none, n_put, reduceIte, Nat.reduceEqDiff, Nat.reduceLT, zq, *]; first | done | rfl) (by simp only [aev_tmp, aev_const, aev_func, aev_global, at_put, at_none, n_put, reduceIte, Nat.reduceEqDiff, Nat.reduceLT, zq, *]; first | done | rfl) (by simp only [aev_tmp, aev_const, aev_func, aev_global, at_put, at_none, n_put, reduceIte, Nat.reduceEqDiff, Nat.reduceLT, zq, *]; first | done | rfl) (upd_ok (TL rfl) (isKey_int (TL rfl)) (by simp (disch := omega) only [get_set_self, get_new_self, get_set_ne, get_new_ne, get_bump, next_set, next_new, Nat.lt_irrefl, reduceIte, next_kill, next_bump, *]; first | done | rfl) (hput _))) .nil ?_
      repeat first | refine D1_nil0 ?_ | refine D2_nil ?_ | refine D_pure ?_ | refine D_rd ?_ | refine D2_pure' ?_
      repeat first | refine G_seq ?_ | refine G_reg ?_ | refine N_seq ?_ | refine N_block ?_ | refine G_block ?_ | refine G_skip ?_ | refine G_cT ?_ | refine G_cF ?_ | refine G_ret ?_ | refine U_seq_ret ?_ | refine U_block_ret ?_ | refine U_nil ?_ | refine S_nil ?_ | refine S_auto ?_
      refine FQ_in (by first | exact .inr rfl | exact .inl rfl) (aresC2v (by simp only [at_put, at_none, n_put, reduceIte, Nat.reduceEqDiff, Nat.reduceLT, zq, *]; first | done | rfl) (by simp only [at_put, at_none, n_put, reduceIte, Nat.reduceEqDiff, Nat.reduceLT, zq, *]; first | done | rfl) (ldA (TL rfl) rfl (rd_cells (by simp (disch := omega) only [get_set_self, get_new_self, get_set_ne, get_new_ne, get_bump, next_set, next_new, Nat.lt_irrefl, reduceIte, next_kill, next_bump, *]; first | done | rfl)) rfl) (ld1 (TL rfl) rfl (rd_cells (by simp (disch := omega) only [get_set_self, get_new_self, get_set_ne, get_new_ne, get_bump, next_set, next_new, Nat.lt_irrefl, reduceIte, next_kill, next_bump, *]; first | done | rfl)) rfl)) ?_
      refine ⟨s.last + 1, S1, true, 0, { s1 with last := s.last + 1, all := s1.all ++ [⟨s.last + 1, h3.next + 10, aim, 1⟩] }, rfl, ?_, own p m1 OI1 { s1 with last := s.last + 1, all := s1.all ++ [⟨s.last + 1, h3.next + 10, aim, 1⟩] }, ⟨m1, v1, OI1, ⟨?_, ?_, ?_, fun y hy => ?_, ?_, ?_, fun i hm => ?_⟩, rfl⟩, ⟨?_, fun i hlt hni => ?_⟩, fun i hm => ?_⟩
      · rcases hcase with ⟨hf, rfl, rfl⟩ | ⟨hf, k, r, hid, rfl, rfl⟩
        · exact .fresh hq hf _
        · exact .shut hq hf _ r hid _
      · simp (disch := omega) only [get_set_self, get_new_self, get_set_ne, get_new_ne, get_bump, next_set, next_new, Nat.lt_irrefl, reduceIte, next_kill, next_bump, *]; first | done | rfl
      · rw [List.map_append]; simp (disch := omega) only [get_set_self, get_new_self, get_set_ne, get_new_ne, get_bump, next_set, next_new, Nat.lt_irrefl, reduceIte, next_kill, next_bump, *]; first | done | rfl
      · refine hi3.ints.keep fun i hO => ?_
        obtain ⟨b1, b2, b3, b4, b5⟩ := hb i (by simp [own, hO])
        have h1' : i ≠ p := fun e => t2 (e ▸ hO)
        have h2' : i ≠ m1 := fun e => t3 (e ▸ hO)
        have h3' := t6 i hO
        clear hb hput hfresh hsub
        simp (disch := omega) only [get_set_self, get_new_self, get_set_ne, get_new_ne, get_bump, next_set, next_new, Nat.lt_irrefl, reduceIte, next_kill, next_bump, *]; first | done | rfl
      · rcases List.mem_append.1 hy with hy | hy
        · obtain ⟨z1, z2, z3, z4⟩ := hi3.ne_id hy
          obtain ⟨b1, b2, b3, b4, b5⟩ := hb y.id (by simp only [own, List.cons_append, List.mem_cons, List.mem_append]; exact .inr (.inr (.inr (List.mem_map_of_mem hy))))
          show AHeap.get _ y.id = some (.cells [.string y.aim, .int .i64 y.st] true)
          have h11 : h3.get y.id = some (.cells [.string y.aim, .int .i64 y.st] true) := hi3.hs y hy
          clear hb hput hfresh hsub
          simp (disch := omega) only [get_set_self, get_new_self, get_set_ne, get_new_ne, get_bump, next_set, next_new, Nat.lt_irrefl, reduceIte, next_kill, next_bump, *]; first | done | rfl
        · obtain rfl := List.mem_singleton.1 hy
          show AHeap.get _ (h3.next + 10) = some (.cells [.string aim, .int .i64 1] true)
          simp (disch := omega) only [get_set_self, get_new_self, get_set_ne, get_new_ne, get_bump, next_set, next_new, Nat.lt_irrefl, reduceIte, next_kill, next_bump, *]; first | done | rfl
      · rw [List.map_append]
        refine List.nodup_append.2 ⟨hi3.keys, by simp, fun x hx y hy => ?_⟩
        obtain ⟨z, hz, rfl⟩ := List.mem_map.1 hx
        simp only [List.map_cons, List.map_nil, List.mem_singleton] at hy
        subst hy
        exact hfresh z hz
      · have hnd := hi3.nd
        have hlt := hi3.lt
        rw [List.map_append, ← List.append_assoc]
        refine List.nodup_append.2 ⟨hnd, by simp, fun x hx y hy => ?_⟩
        simp only [List.map_cons, List.map_nil, List.mem_singleton] at hy
        subst hy
        have := hlt x hx
        omega
      · rw [List.map_append, ← List.append_assoc] at hm
        have hlt := hi3.lt
        show i < h3.next + 12
        rcases List.mem_append.1 hm with hm | hm
        · have := hlt i hm; omega
        · simp only [List.map_cons, List.map_nil, List.mem_singleton] at hm
          omega
      · show h.next ≤ h3.next + 12
        have := hk3.1; omega
      · have hni' : i ∉ own p m1 OI1 s1 := fun hm => by
          rcases ho3 i hm with h9 | h9
          · exact hni h9
          · omega
        have n1 : i ≠ p := fun e => hni' (e ▸ .head _)
        have n2 : i ≠ m1 := fun e => hni' (e ▸ .tail _ (.head _))
        have h9 := hk3.2 i hlt hni
        have h10 := hk3.1
        clear hb hput hfresh hsub
        simp (disch := omega) only [get_set_self, get_new_self, get_set_ne, get_new_ne, get_bump, next_set, next_new, Nat.lt_irrefl, reduceIte, next_kill, next_bump, *]; first | done | rfl
      · simp only [own] at hm
        rw [List.map_append, ← List.append_assoc] at hm
        rcases List.mem_append.1 hm with hm | hm
        · rcases ho3 i hm with h9 | h9
          · exact .inl h9
          · exact .inr (by omega)
        · simp only [List.map_cons, List.map_nil, List.mem_singleton] at hm
          exact .inr (by omega)
end
end Go.Proofs.Ytffockklleanmaa.AM.SX
