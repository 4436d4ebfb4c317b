/- What turns a pool: Joined, Rest, New. -/
import Derived.Test.YtffockklleanmaaPS1
namespace Go.Proofs.Ytffockklleanmaa.AM.SX
open Go
set_option linter.unusedVariables false
set_option linter.unusedSimpArgs false
set_option maxRecDepth 100000
set_option maxHeartbeats 4000000
attribute [local irreducible] astep0 aev awants abin abuild
/-- a pool at p that owns the blocks O -/
def PoolAt (h : AHeap) (p : Nat) (s : PS) (O : List Nat) : Prop := ∃ m v OI, PInv h p s m v OI ∧ O = own p m OI s
/-- behind an op: the pool as it is then, all else as it was -/
def Upd (h h' : AHeap) (p : Nat) (O : List Nat) (s' : PS) : Prop := ∃ O', PoolAt h' p s' O' ∧ Keep h h' O ∧ ∀ i ∈ O', i ∈ O ∨ h.next ≤ i
def setSt (k t : Int) (l : List Hd) : List Hd := l.map fun y => if y.k = k then { y with st := t } else y
theorem setSt_k (k t : Int) (l : List Hd) : (setSt k t l).map (·.k) = l.map (·.k) := by
  simp only [setSt, List.map_map]; congr 1; funext y; simp only [Function.comp]; split <;> rfl
theorem setSt_id (k t : Int) (l : List Hd) : (setSt k t l).map (·.id) = l.map (·.id) := by
  simp only [setSt, List.map_map]; congr 1; funext y; simp only [Function.comp]; split <;> rfl
theorem setSt_kv (k t : Int) (l : List Hd) : (setSt k t l).map hKV = l.map hKV := by
  simp only [setSt, List.map_map]; congr 1; funext y; simp only [Function.comp, hKV]; split <;> rfl
theorem setSt_len (k t : Int) (l : List Hd) : (setSt k t l).length = l.length := by simp [setSt]
theorem find_mem {s : PS} {k : Int} {x : Hd} (hx : s.find k = some x) : x ∈ s.all ∧ x.k = k := ⟨List.mem_of_find?_eq_some hx, by simpa using List.find?_some hx⟩
theorem nodup_inj {α : Type} {l : List α} (hn : l.Nodup) {i j : Nat} (hi : i < l.length) (hj : j < l.length) (e : l[i] = l[j]) : i = j := by
  rcases Nat.lt_trichotomy i j with h | h | h
  · exact absurd e (List.pairwise_iff_getElem.1 hn i j hi hj h)
  · exact h
  · exact absurd e.symm (List.pairwise_iff_getElem.1 hn j i hj hi h)
theorem uniq_k {l : List Hd} (hn : (l.map (·.k)).Nodup) {x y : Hd} (hx : x ∈ l) (hy : y ∈ l) (e : x.k = y.k) : x = y := by
  obtain ⟨i, hi, rfl⟩ := List.mem_iff_getElem.1 hx
  obtain ⟨j, hj, rfl⟩ := List.mem_iff_getElem.1 hy
  have := nodup_inj hn (i := i) (j := j) (by simpa using hi) (by simpa using hj) (by simpa using e)
  subst this; rfl
theorem uniq_id {l : List Hd} (hn : (l.map (·.id)).Nodup) {x y : Hd} (hx : x ∈ l) (hy : y ∈ l) (e : x.id = y.id) : x = y := by
  obtain ⟨i, hi, rfl⟩ := List.mem_iff_getElem.1 hx
  obtain ⟨j, hj, rfl⟩ := List.mem_iff_getElem.1 hy
  have := nodup_inj hn (i := i) (j := j) (by simpa using hi) (by simpa using hj) (by simpa using e)
  subst this; rfl
section
variable {n : Nat} {h : AHeap} {p : Nat} {s : PS} {m : Nat} {v : Value} {OI : List Nat}
theorem PInv.ne_id (hi : PInv h p s m v OI) {x : Hd} (hx : x ∈ s.all) : x.id ≠ p ∧ x.id ≠ m ∧ x.id ∉ OI ∧ x.id < h.next := by
  have h1 := hi.nd
  have hm : x.id ∈ s.all.map (·.id) := List.mem_map_of_mem hx
  simp only [List.cons_append, List.nodup_cons, List.mem_cons, List.mem_append, List.nodup_append, not_or] at h1
  refine ⟨fun e => h1.1.2.2 (e ▸ hm), fun e => h1.2.1.2 (e ▸ hm), fun e => h1.2.2.2.2 _ e _ hm rfl, hi.lt _ (by simp only [List.cons_append, List.mem_cons, List.mem_append]; exact .inr (.inr (.inr hm)))⟩
theorem PInv.nd_id (hi : PInv h p s m v OI) : (s.all.map (·.id)).Nodup := by
  have h1 := hi.nd
  simp only [List.cons_append, List.nodup_cons, List.nodup_append] at h1
  exact h1.2.2.2.1
theorem PInv.ne_pm (hi : PInv h p s m v OI) : p ≠ m ∧ p ∉ OI ∧ m ∉ OI ∧ p < h.next ∧ m < h.next ∧ (∀ i ∈ OI, i < h.next) := by
  have h1 := hi.nd
  simp only [List.cons_append, List.nodup_cons, List.mem_cons, List.mem_append, not_or] at h1
  refine ⟨h1.1.1, h1.1.2.1, h1.2.1.1, hi.lt _ (by simp), hi.lt _ (by simp), fun i hm => hi.lt i (by simp [hm])⟩
theorem IntsAt.keep {h h' : AHeap} {l : List Int} {v : Value} {O : List Nat} (hv : IntsAt h l v O) (hk : ∀ i ∈ O, h'.get i = h.get i) : IntsAt h' l v O := by
  rcases hv with hv | ⟨b, js, h1, h2, rfl⟩
  · exact .inl hv
  · exact .inr ⟨b, js, h1, by rw [hk b (.head _)]; exact h2, rfl⟩
theorem set_upd (hi : PInv h p s m v OI) {k t : Int} {x : Hd} (hx : s.find k = some x) : PInv (h.set x.id (.cells [.string x.aim, .int .i64 t] true)) p { s with all := setSt k t s.all } m v OI := by
  obtain ⟨hm, hk⟩ := find_mem hx
  obtain ⟨n1, n2, n3, n4⟩ := hi.ne_id hm
  refine ⟨by rw [get_set_ne (Ne.symm n1)]; exact hi.cell, by rw [get_set_ne (Ne.symm n2), setSt_kv]; exact hi.map, hi.ints.keep fun i hO => get_set_ne (fun e => n3 (e ▸ hO)), fun y hy => ?_, by rw [setSt_k]; exact hi.keys, by rw [setSt_id]; exact hi.nd, by rw [setSt_id]; exact hi.lt⟩
  obtain ⟨z, hz, rfl⟩ := List.mem_map.1 hy
  by_cases e : z.k = k
  · rw [if_pos e]
    obtain rfl := uniq_k hi.keys hz hm (e.trans hk.symm)
    exact get_set_self _ _ _
  · rw [if_neg e]
    have : z.id ≠ x.id := fun e2 => e (by rw [uniq_id hi.nd_id hz hm e2]; exact hk)
    show AHeap.get _ z.id = _
    rw [get_set_ne this]
    exact hi.hs z hz
theorem upd_set (hi : PInv h p s m v OI) {k t : Int} {x : Hd} (hx : s.find k = some x) : Upd h (h.set x.id (.cells [.string x.aim, .int .i64 t] true)) p (own p m OI s) { s with all := setSt k t s.all } := by
  refine ⟨_, ⟨m, v, OI, set_upd hi hx, rfl⟩, (Keep.set _ _ _).mono fun i hm => ?_, fun i hm => ?_⟩
  · simp only [List.mem_singleton] at hm; subst hm
    simp only [own, List.cons_append, List.mem_cons, List.mem_append]
    exact .inr (.inr (.inr (List.mem_map_of_mem (find_mem hx).1)))
  · simp only [own, setSt_id] at hm; exact .inl hm
theorem joined_spec (hi : PInv h p s m v OI) (k : Int) : C EE (n + 3) 25 [.pointer (some ⟨p, 0, none⟩), .int .i64 k] h fun r h' => r = .bool (decide (s.state k = 1)) ∧ Upd h h' p (own p m OI s) (if s.state k = 1 then { s with all := setSt k 2 s.all } else s) := by
  refine C_in (E_X _) F_joined rfl rfl rfl ?_
  intro a hn hat
  have e0 := hat 0 _ rfl
  have e1 := hat 1 _ rfl
  replace hn : a.n = 8 := hn
  clear hat
  repeat first | refine G_seq ?_ | refine G_reg ?_ | refine N_seq ?_ | refine N_block ?_ | refine G_block ?_ | refine G_skip ?_ | refine G_cT ?_ | refine G_cF ?_ | refine G_ret ?_ | refine U_seq_ret ?_ | refine U_block_ret ?_ | refine U_nil ?_ | refine S_nil ?_ | refine S_auto ?_
  refine S_call wants0 (by simp only [aev_tmp, aev_const, aev_func, aev_global, at_put, at_none, n_put, reduceIte, Nat.reduceEqDiff, Nat.reduceLT, zq, *]; first | done | rfl) (E_Y _) (by simp only [List.map, aev_tmp, aev_const, aev_func, aev_global, at_put, at_none, n_put, reduceIte, Nat.reduceEqDiff, Nat.reduceLT, zq, *]; first | done | rfl) ?_
  refine (turn_spec hi k 1 2 (by decide)).mono ?_
  rintro r h' ⟨rfl, hh⟩
  have hu : Upd h h' p (own p m OI s) (if s.state k = 1 then { s with all := setSt k 2 s.all } else s) := by
    rcases hh with ⟨h1, rfl⟩ | ⟨h1, x, hx, rfl⟩
    · rw [if_neg h1]; exact ⟨_, ⟨m, v, OI, hi, rfl⟩, Keep.refl _ _, fun i hm => .inl hm⟩
    · rw [if_pos h1]; exact upd_set hi hx
  clear hh hi
  repeat first | refine G_seq ?_ | refine G_reg ?_ | refine N_seq ?_ | refine N_block ?_ | refine G_block ?_ | refine G_skip ?_ | refine G_cT ?_ | refine G_cF ?_ | refine G_ret ?_ | refine U_seq_ret ?_ | refine U_block_ret ?_ | refine U_nil ?_ | refine S_nil ?_ | refine S_auto ?_
  refine FQ_in (by first | exact .inr rfl | exact .inl rfl) (by first | exact ares1 (by simp only [at_put, at_none, n_put, reduceIte, Nat.reduceEqDiff, Nat.reduceLT, zq, *]; first | done | rfl) | exact ares2 (by simp only [at_put, at_none, n_put, reduceIte, Nat.reduceEqDiff, Nat.reduceLT, zq, *]; first | done | rfl) (by simp only [at_put, at_none, n_put, reduceIte, Nat.reduceEqDiff, Nat.reduceLT, zq, *]; first | done | rfl)) ?_
  exact ⟨rfl, hu⟩
theorem idles_upd (hi : PInv h p s m v OI) {h1 : AHeap} {v1 : Value} {O1 : List Nat} {l : List Int} {mo la : Int} (hk : Keep h h1 OI) (hv : IntsAt h1 l v1 O1) (hO : O1 = OI ∨ (O1 = []) ∨ ∃ b, O1 = [b] ∧ h.next ≤ b) (hlt : ∀ i ∈ O1, i < h1.next) : PInv (h1.set p (.cells [.int .i64 mo, .int .i64 la, .map (some m), v1] true)) p { s with idles := l, most := mo, last := la } m v1 O1 := by
  obtain ⟨q1, q2, q3, q4, q5, q6⟩ := hi.ne_pm
  have hp1 : p ∉ O1 := by rcases hO with rfl | rfl | ⟨b, rfl, hb⟩; exact q2; simp; simp; omega
  refine ⟨get_set_self _ _ _, by rw [get_set_ne (Ne.symm q1), hk.2 m q5 q3]; exact hi.map, hv.keep fun i hm => get_set_ne (fun e => hp1 (e ▸ hm)), fun y hy => ?_, hi.keys, ?_, fun i hm => ?_⟩
  · obtain ⟨n1, n2, n3, n4⟩ := hi.ne_id hy
    show AHeap.get _ y.id = _
    rw [get_set_ne n1, hk.2 _ n4 n3]
    exact hi.hs y hy
  · have hnd := hi.nd
    rcases hO with rfl | rfl | ⟨b, rfl, hb⟩
    · exact hnd
    · simp only [List.cons_append, List.nodup_cons, List.mem_cons, List.mem_append, List.nodup_append, not_or, List.nil_append, List.append_nil] at hnd ⊢
      exact ⟨⟨hnd.1.1, hnd.1.2.2⟩, hnd.2.1.2, hnd.2.2.2.1⟩
    · simp only [List.cons_append, List.nodup_cons, List.mem_cons, List.mem_append, List.nodup_append, not_or, List.nil_append, List.append_nil] at hnd ⊢
      refine ⟨⟨hnd.1.1, by omega, hnd.1.2.2⟩, ⟨by omega, hnd.2.1.2⟩, fun hm => ?_, hnd.2.2.2.1⟩
      have := hi.lt b (by simp only [List.cons_append, List.mem_cons, List.mem_append]; exact .inr (.inr (.inr hm)))
      omega
  · rw [next_set]
    simp only [List.cons_append, List.mem_cons, List.mem_append] at hm
    have hn := hk.1
    rcases hm with rfl | rfl | hm | hm
    · omega
    · omega
    · exact hlt i hm
    · have := hi.lt i (by simp only [List.cons_append, List.mem_cons, List.mem_append]; exact .inr (.inr (.inr hm)))
      omega
end
end Go.Proofs.Ytffockklleanmaa.AM.SX
