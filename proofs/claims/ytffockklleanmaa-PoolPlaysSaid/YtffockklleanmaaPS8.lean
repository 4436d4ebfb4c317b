/- A new pool; what stays true of a pool. -/
import Derived.Test.YtffockklleanmaaPS7
namespace Go.Proofs.Ytffockklleanmaa.AM.SX
open Go
set_option linter.unusedVariables false
set_option linter.unusedSimpArgs false
set_option maxRecDepth 100000
set_option maxHeartbeats 4000000
attribute [local irreducible] astep0 aev awants abin abuild
def newPS (most : Int) : PS := ⟨min (max most 0) 64, 0, [], []⟩
theorem WF.new (most : Int) : WF (newPS most) := by
  refine ⟨fun k hk => (by cases hk), fun x hx => (by cases hx), .nil, .nil, fun x hx => (by cases hx), ⟨?_, ?_⟩, ?_, Int.le_refl _⟩
  · show 0 ≤ min (max most 0) 64; omega
  · show min (max most 0) 64 ≤ 64; omega
  · show (0 : Int) ≤ min (max most 0) 64; omega
theorem new_spec {n : Nat} {h : AHeap} (most : Int) : C EE (n + 1) 19 [.int .i64 most] h fun r h' => ∃ p O, r = .pointer (some ⟨p, 0, none⟩) ∧ PoolAt h' p (newPS most) O ∧ Keep h h' [] ∧ ∀ i ∈ O, h.next ≤ i := by
  refine C_in (E_X _) F_new rfl rfl rfl ?_
  intro a hna hat
  have e0 := hat 0 _ rfl
  replace hna : a.n = 9 := hna
  clear hat
  repeat first | refine G_seq ?_ | refine G_reg ?_ | refine N_seq ?_ | refine N_block ?_ | refine G_block ?_ | refine G_skip ?_ | refine G_cT ?_ | refine G_cF ?_ | refine G_ret ?_ | refine U_seq_ret ?_ | refine U_block_ret ?_ | refine U_nil ?_ | refine S_nil ?_ | refine S_auto ?_
  refine S_step wants0 (o_builtin (by simp only [List.map, aev_tmp, aev_const, aev_func, aev_global, at_put, at_none, n_put, reduceIte, Nat.reduceEqDiff, Nat.reduceLT, zq, *]; first | done | rfl) bi_max) ?_
  refine S_step wants0 (o_builtin (by simp only [List.map, aev_tmp, aev_const, aev_func, aev_global, at_put, at_none, n_put, reduceIte, Nat.reduceEqDiff, Nat.reduceLT, zq, *]; first | done | rfl) bi_min) ?_
  refine S_step wants0 o_makeMap ?_
  repeat first | refine G_seq ?_ | refine G_reg ?_ | refine N_seq ?_ | refine N_block ?_ | refine G_block ?_ | refine G_skip ?_ | refine G_cT ?_ | refine G_cF ?_ | refine G_ret ?_ | refine U_seq_ret ?_ | refine U_block_ret ?_ | refine U_nil ?_ | refine S_nil ?_ | refine S_auto ?_
  refine FQ_in (by first | exact .inr rfl | exact .inl rfl) (by first | exact ares1 (by simp only [at_put, at_none, n_put, reduceIte, Nat.reduceEqDiff, Nat.reduceLT, zq, *]; first | done | rfl) | exact ares2 (by simp only [at_put, at_none, n_put, reduceIte, Nat.reduceEqDiff, Nat.reduceLT, zq, *]; first | done | rfl) (by simp only [at_put, at_none, n_put, reduceIte, Nat.reduceEqDiff, Nat.reduceLT, zq, *]; first | done | rfl)) ?_
  refine ⟨h.next + 1, [h.next + 1, h.next], by rw [next_new_self]; rfl, ⟨h.next, .slice none 0 0, [], ⟨?_, ?_, .inl ⟨rfl, rfl, rfl⟩, fun x hx => (by cases hx), .nil, ?_, fun i hm => ?_⟩, rfl⟩, ⟨?_, fun i hlt _ => ?_⟩, fun i hm => ?_⟩
  · simp (disch := omega) only [get_set_self, get_new_self, get_set_ne, get_new_ne, get_bump, next_set, next_new, Nat.lt_irrefl, reduceIte, next_kill, next_bump, *]; first | done | rfl
  · simp (disch := omega) only [get_set_self, get_new_self, get_set_ne, get_new_ne, get_bump, next_set, next_new, Nat.lt_irrefl, reduceIte, next_kill, next_bump, *]; first | done | rfl
  · simp [newPS]
  · simp [newPS] at hm
    simp only [next_new, Nat.lt_irrefl, reduceIte]; omega
  · simp only [next_new, Nat.lt_irrefl, reduceIte]; omega
  · simp (disch := omega) only [get_set_self, get_new_self, get_set_ne, get_new_ne, get_bump, next_set, next_new, Nat.lt_irrefl, reduceIte, next_kill, next_bump, *]; first | done | rfl
  · simp at hm; omega
/-! ### what stays -/
theorem find_mem_iff {s : PS} (hk : (s.all.map (·.k)).Nodup) {x : Hd} (hx : x ∈ s.all) : s.find x.k = some x := by
  unfold PS.find
  cases hf : s.all.find? fun y => y.k == x.k with
  | none => exact absurd (List.find?_eq_none.1 hf x hx) (by simp)
  | some y =>
    have h1 := List.mem_of_find?_eq_some hf
    have h2 : y.k = x.k := by simpa using List.find?_some hf
    rw [uniq_k hk h1 hx h2]
theorem find_setSt {s : PS} {k t : Int} {j : Int} {l : List Int} {la mo : Int} : PS.find ⟨mo, la, setSt k t s.all, l⟩ j = (s.find j).map fun x => if x.k = k then { x with st := t } else x := by
  unfold PS.find setSt
  induction s.all with
  | nil => rfl
  | cons y r ih =>
    simp only [List.map_cons, List.find?_cons]
    have e : (if y.k = k then ({ y with st := t } : Hd) else y).k = y.k := by split <;> rfl
    rw [e]
    cases hj : y.k == j
    · exact ih
    · rfl
theorem find_filter {s : PS} {k j : Int} {l : List Int} {la mo : Int} : PS.find ⟨mo, la, s.all.filter (fun x => x.k != k), l⟩ j = if j = k then none else s.find j := by
  unfold PS.find
  induction s.all with
  | nil => simp
  | cons y r ih =>
    by_cases hk : y.k = k
    · have h1 : (y.k != k) = false := by simpa using hk
      rw [List.filter_cons, h1]
      simp only [Bool.false_eq_true, if_false]
      rw [ih, List.find?_cons]
      by_cases hj : j = k
      · rw [if_pos hj, if_pos hj]
      · have h2 : (y.k == j) = false := by simpa using fun e => hj (by rw [← e]; exact hk)
        rw [if_neg hj, if_neg hj, h2]
    · have h1 : (y.k != k) = true := by simpa using hk
      rw [List.filter_cons, h1]
      simp only [if_true]
      rw [List.find?_cons, List.find?_cons]
      cases hj : y.k == j with
      | true =>
        have : y.k = j := by simpa using hj
        rw [if_neg (by rw [← this]; exact hk)]
      | false => exact ih
theorem find_append {s : PS} {y : Hd} {j : Int} {l : List Int} {la mo : Int} : PS.find ⟨mo, la, s.all ++ [y], l⟩ j = (s.find j).or (if y.k = j then some y else none) := by
  unfold PS.find
  rw [List.find?_append]
  congr 1
  simp only [List.find?_cons, List.find?_nil]
  by_cases h : y.k = j
  · simp [h]
  · have : (y.k == j) = false := by simpa using h
    rw [this, if_neg h]
theorem find_k {s : PS} {k : Int} {x : Hd} (h : s.find k = some x) : x.k = k := (find_mem h).2
section
variable {s : PS} (w : WF s)
include w
theorem WF.rest {k : Int} (hk : s.state k = 2) : WF { s with all := setSt k 3 s.all, idles := s.idles ++ [k] } := by
  obtain ⟨x, hx⟩ : ∃ x, s.find k = some x := by
    unfold PS.state at hk
    cases hx : s.find k with
    | none => rw [hx] at hk; cases hk
    | some x => exact ⟨x, rfl⟩
  have hxs : x.st = 2 := by unfold PS.state at hk; rw [hx] at hk; exact hk
  have hkn : k ∉ s.idles := fun hm => by
    obtain ⟨y, hy, hst⟩ := w.idle k hm
    rw [hx] at hy
    obtain rfl := Option.some.inj hy
    rw [hxs] at hst; cases hst
  refine ⟨fun j hj => ?_, fun y hy hst => ?_, ?_, by rw [setSt_k]; exact w.keys, fun y hy => ?_, w.most, by rw [setSt_len]; exact w.len, w.last⟩
  · rw [find_setSt]
    rcases List.mem_append.1 hj with hj | hj
    · obtain ⟨y, hy, hst⟩ := w.idle j hj
      rw [hy]
      refine ⟨_, rfl, ?_⟩
      dsimp only
      split
      · rfl
      · exact hst
    · obtain rfl := List.mem_singleton.1 hj
      rw [hx]
      refine ⟨_, rfl, ?_⟩
      dsimp only
      rw [if_pos (find_k hx)]
  · obtain ⟨z, hz, rfl⟩ := List.mem_map.1 hy
    by_cases e : z.k = k
    · rw [if_pos e]; exact List.mem_append.2 (.inr (List.mem_singleton.2 e))
    · rw [if_neg e] at hst ⊢
      exact List.mem_append.2 (.inl (w.idle' z hz hst))
  · exact List.nodup_append.2 ⟨w.nd, by simp, fun a ha b hb => by rw [List.mem_singleton.1 hb]; exact fun e => hkn (e ▸ ha)⟩
  · obtain ⟨z, hz, rfl⟩ := List.mem_map.1 hy
    have := w.klt z hz
    split <;> exact this
theorem WF.joined {k : Int} (hk : s.state k = 1) : WF { s with all := setSt k 2 s.all } := by
  have hxs : ∀ x, s.find k = some x → x.st = 1 := fun x hx => by unfold PS.state at hk; rw [hx] at hk; exact hk
  refine ⟨fun j hj => ?_, fun y hy hst => ?_, w.nd, by rw [setSt_k]; exact w.keys, fun y hy => ?_, w.most, by rw [setSt_len]; exact w.len, w.last⟩
  · rw [find_setSt]
    obtain ⟨y, hy, hst⟩ := w.idle j hj
    rw [hy]
    refine ⟨_, rfl, ?_⟩
    dsimp only
    have : y.k ≠ k := fun e => by
      have h1 := find_k hy
      rw [← h1, e] at hy
      rw [hxs y hy] at hst; cases hst
    rw [if_neg this]; exact hst
  · obtain ⟨z, hz, rfl⟩ := List.mem_map.1 hy
    by_cases e : z.k = k
    · rw [if_pos e] at hst; cases hst
    · rw [if_neg e] at hst ⊢
      exact w.idle' z hz hst
  · obtain ⟨z, hz, rfl⟩ := List.mem_map.1 hy
    have := w.klt z hz
    split <;> exact this
theorem WF.shut (k : Int) : WF (shutF s k) := by
  have hnk : ((s.all.filter fun x => x.k != k).map (·.k)).Nodup := w.keys.sublist (List.Sublist.map _ List.filter_sublist)
  refine ⟨fun j hj => ?_, fun y hy hst => ?_, w.nd.sublist List.filter_sublist, hnk, fun y hy => w.klt y (List.mem_filter.1 hy).1, w.most, ?_, w.last⟩
  · obtain ⟨h1, h2⟩ := List.mem_filter.1 hj
    have h2 : j ≠ k := by simpa using h2
    obtain ⟨y, hy, hst⟩ := w.idle j h1
    exact ⟨y, by unfold shutF; rw [find_filter, if_neg h2]; exact hy, hst⟩
  · obtain ⟨h1, h2⟩ := List.mem_filter.1 hy
    exact List.mem_filter.2 ⟨w.idle' y h1 hst, h2⟩
  · have h1 := List.length_filter_le (fun x : Hd => x.k != k) s.all
    have h2 := w.len
    show (((s.all.filter fun x => x.k != k).length : Nat) : Int) ≤ s.most
    omega
theorem WF.add {id : Nat} {aim : ByteArray} (hl : (s.all.length : Int) < s.most) : WF { s with last := s.last + 1, all := s.all ++ [⟨s.last + 1, id, aim, 1⟩] } := by
  have hlast := w.last
  refine ⟨fun j hj => ?_, fun y hy hst => ?_, w.nd, ?_, fun y hy => ?_, w.most, ?_, by show 0 ≤ s.last + 1; omega⟩
  · obtain ⟨y, hy, hst⟩ := w.idle j hj
    exact ⟨y, by rw [find_append, hy]; rfl, hst⟩
  · rcases List.mem_append.1 hy with hy | hy
    · exact w.idle' y hy hst
    · rw [List.mem_singleton.1 hy] at hst; cases hst
  · show ((s.all ++ [(⟨s.last + 1, id, aim, 1⟩ : Hd)]).map (·.k)).Nodup
    rw [List.map_append]
    refine List.nodup_append.2 ⟨w.keys, by simp, fun a ha b hb => ?_⟩
    obtain ⟨z, hz, rfl⟩ := List.mem_map.1 ha
    simp only [List.map_cons, List.map_nil, List.mem_singleton] at hb
    have := (w.klt z hz).2
    omega
  · rcases List.mem_append.1 hy with hy | hy
    · have := w.klt y hy
      show 0 < y.k ∧ y.k ≤ s.last + 1
      omega
    · rw [List.mem_singleton.1 hy]
      show 0 < s.last + 1 ∧ s.last + 1 ≤ s.last + 1
      omega
  · show (((s.all ++ [(⟨s.last + 1, id, aim, 1⟩ : Hd)]).length : Nat) : Int) ≤ s.most
    simp; omega
theorem WF.lent {i : Nat} (hi : i < s.idles.length) : WF { s with all := setSt s.idles[i] 2 s.all, idles := s.idles.eraseIdx i } := by
  have hmem : ∀ j ∈ s.idles.eraseIdx i, j ∈ s.idles ∧ j ≠ s.idles[i] := fun j hj => by
    obtain ⟨q, hq, hqi⟩ := List.mem_eraseIdx_iff_getElem.1 hj
    obtain ⟨hq2, rfl⟩ := hqi
    refine ⟨List.getElem_mem _, fun e => hq2 (nodup_inj w.nd _ _ e)⟩
  refine ⟨fun j hj => ?_, fun y hy hst => ?_, w.nd.sublist (List.eraseIdx_sublist _ _), by rw [setSt_k]; exact w.keys, fun y hy => ?_, w.most, by rw [setSt_len]; exact w.len, w.last⟩
  · obtain ⟨h1, h2⟩ := hmem j hj
    rw [find_setSt]
    obtain ⟨y, hy, hst⟩ := w.idle j h1
    rw [hy]
    refine ⟨_, rfl, ?_⟩
    dsimp only
    rw [if_neg (by rw [find_k hy]; exact h2)]; exact hst
  · obtain ⟨z, hz, rfl⟩ := List.mem_map.1 hy
    by_cases e : z.k = s.idles[i]
    · rw [if_pos e] at hst; cases hst
    · rw [if_neg e] at hst ⊢
      have h1 := w.idle' z hz hst
      obtain ⟨q, hq, hq2⟩ := List.mem_iff_getElem.1 h1
      refine List.mem_eraseIdx_iff_getElem.2 ⟨q, hq, fun e2 => e (by subst e2; exact hq2.symm), hq2⟩
  · obtain ⟨z, hz, rfl⟩ := List.mem_map.1 hy
    have := w.klt z hz
    split <;> exact this
theorem WF.take {aim : ByteArray} {H S e : Int} {F : Bool} {s' : PS} (hr : TakeR s aim H S F e s') : WF s' := by
  cases hr with
  | lent i hi ha hl => exact w.lent hi
  | full hn hf he => exact w
  | shut hn hf k r he id =>
    refine WF.add (w.shut S) ?_
    obtain ⟨x, hx, _⟩ := w.idle S (by rw [he]; exact .head _)
    obtain ⟨hm, hk⟩ := find_mem hx
    have h1 : (s.all.filter fun x => x.k != S).length < s.all.length := List.length_filter_lt_length_iff_exists.2 ⟨x, hm, by simp [hk]⟩
    have h2 := w.len
    show (((s.all.filter fun x => x.k != S).length : Nat) : Int) < s.most
    omega
  | fresh hn hf id => exact w.add (by omega)
end
end Go.Proofs.Ytffockklleanmaa.AM.SX
