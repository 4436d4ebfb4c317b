/- What the document's Get, List, Has compute. -/
import Derived.Test.YtijindelbagpiaaDoorPFramex4
import Derived.Test.YtijindelbagpiaaDoorPFramex5
import Derived.Test.YtijindelbagpiaaDoorPFramex6
import Derived.Test.YtijindelbagpiaaDoorKFrameXField2
import Derived.Test.YtijindelbagpiaaDoorKFrameXSplitR
namespace Go.Proofs.YtijindelbagpiaaDoor.X
open Go.RowKit Go.Proofs.YtijindelbagpiaaDoor.PFrame Go.Proofs.YtijindelbagpiaaDoorW.PrintWords Go.Proofs.YtijindelbagpiaaDoorW.PrintMore
set_option linter.unusedVariables false
set_option linter.unusedSimpArgs false

theorem rget_loop (fs : List FdT) (n : ByteArray) (hf : Fit fs) (hn : n.size ≤ 140737488351232) (hl : fs.length ≤ 4398046511104) (B : Nat) (hB : ∀ x ∈ fs, x.f0.size < B) (hB2 : n.size < B) : ∀ d i k acc, i + d = fs.length → d + B < k → acc.length + d ≤ 4398046511104 → tollbarref04_Get.l0 k fs n acc (i : Int) = some (acc ++ getM (fs.drop i) n) := by
  intro d
  induction d with
  | zero =>
    intro i k acc hi hk ha; obtain ⟨k, rfl, _⟩ := suc hk
    simp only [tollbarref04_Get.l0]; rw [if_neg (by omega), List.drop_of_length_le (by omega)]; simp [getM]
  | succ d ih =>
    intro i k acc hi hk ha; obtain ⟨k, rfl, _⟩ := suc hk
    have h : i < fs.length := by omega
    have hb := hB _ (List.getElem_mem h)
    simp only [tollbarref04_Get.l0]
    rw [if_pos (by omega), if_pos (by omega), rd_fd fs i h, rsame_spec _ _ (hf.at i h).1 hn k (by omega) (by omega), Option.bind_some, succ_cast i (by omega), List.drop_eq_getElem_cons h, getM_cons]
    cases sameB fs[i].f0 n
    · rw [if_neg (by simp), if_neg (by simp), ih (i + 1) k acc (by omega) (by omega) (by omega), List.nil_append]
    · rw [if_pos rfl, if_pos rfl, if_pos (by omega), ih (i + 1) k _ (by omega) (by omega) (by rw [List.length_append, List.length_singleton]; omega), List.append_assoc]
theorem rget_spec (fs : List FdT) (n : ByteArray) (hf : Fit fs) (hn : n.size ≤ 140737488351232) (hl : fs.length ≤ 4398046511104) (B : Nat) (hB : ∀ x ∈ fs, x.f0.size < B) (hB2 : n.size < B) (k : Nat) (hk : fs.length + B < k) : tollbarref04_Get.f k fs n = some (getM fs n) := by
  have h := rget_loop fs n hf hn hl B hB hB2 fs.length 0 k [] (by omega) hk (by simp; omega)
  rw [Int.natCast_zero, List.drop_zero, List.nil_append] at h
  exact h

theorem rlist_in (vs : List ByteArray) (ps : List ByteArray) (i : Int) (R : Option (List ByteArray)) (B : Nat) : ∀ d j k acc, j + d = ps.length → ps.length ≤ 2097152 → acc.length + d ≤ 4398046511104 → (∀ k', B < k' → tollbarref04_List.l0 k' (acc ++ ps.drop j) vs (wrap64 (i + 1)) = R) → d + B + 1 < k → tollbarref04_List.l1 k acc vs i ps (j : Int) = R := by
  intro d
  induction d with
  | zero =>
    intro j k acc hj hp ha hR hk; obtain ⟨k, rfl, _⟩ := suc hk
    simp only [tollbarref04_List.l1]
    rw [if_neg (by omega)]
    have := hR k (by omega)
    rwa [List.drop_of_length_le (by omega), List.append_nil] at this
  | succ d ih =>
    intro j k acc hj hp ha hR hk; obtain ⟨k, rfl, _⟩ := suc hk
    have h : j < ps.length := by omega
    simp only [tollbarref04_List.l1]
    rw [if_pos (by omega), if_pos (by omega), if_pos (by omega), rd_get _ ps j h, succ_cast j (by omega)]
    refine ih (j + 1) k _ (by omega) hp (by rw [List.length_append, List.length_singleton]; omega) (fun k' hk' => ?_) (by omega)
    have := hR k' hk'
    rwa [List.drop_eq_getElem_cons h, ← List.singleton_append, ← List.append_assoc] at this
theorem suc3 (q d k : Nat) (h1 : q ≤ 1048577) (h : (d + 1) * 1048580 + 4194312 ≤ k) : q + (d * 1048580 + 4194312) + 1 < k := by omega
theorem rlist_loop (vs : List ByteArray) (hs : Small vs) : ∀ d i k acc, i + d = vs.length → d * 1048580 + 4194312 < k → acc.length + d * 1048577 ≤ 4398046511104 → tollbarref04_List.l0 k acc vs (i : Int) = some (acc ++ flatP (vs.drop i)) := by
  have hl := hs.1
  intro d
  induction d with
  | zero =>
    intro i k acc hi hk ha; obtain ⟨k, rfl, _⟩ := suc hk
    simp only [tollbarref04_List.l0]; rw [if_neg (by omega), List.drop_of_length_le (by omega)]; simp [flatP]
  | succ d ih =>
    intro i k acc hi hk ha; obtain ⟨k, rfl, hk1⟩ := suc hk
    have h : i < vs.length := by omega
    have hv := hs.2 _ (List.getElem_mem h)
    have hp := parts_len vs[i]
    simp only [tollbarref04_List.l0]
    rw [if_pos (by omega), if_pos (by omega), rd_get _ vs i h, rsplit_spec _ (by omega) k (by omega), Option.bind_some, List.drop_eq_getElem_cons h, flatP_cons, ← List.append_assoc]
    have e1 : (parts vs[i]).length + (d * 1048580 + 4194312) + 1 < k := suc3 _ d k (by omega) hk1
    have e2 : (parts vs[i]).length ≤ 2097152 := by omega
    have e3 : acc.length + (parts vs[i]).length ≤ 4398046511104 := by omega
    have e4 : (acc ++ parts vs[i]).length + d * 1048577 ≤ 4398046511104 := by rw [List.length_append]; omega
    have := rlist_in vs (parts vs[i]) (i : Int) (some ((acc ++ parts vs[i]) ++ flatP (vs.drop (i + 1)))) (d * 1048580 + 4194312) (parts vs[i]).length 0 k acc (Nat.zero_add _) e2 e3 (fun k' hk' => by
      rw [List.drop_zero, succ_cast i (by omega)]
      exact ih (i + 1) k' _ (by omega) hk' e4) e1
    rw [Int.natCast_zero] at this
    exact this
def KK : Nat := 1099520016400 * 2
theorem rlist_spec (fs : List FdT) (n : ByteArray) (hf : Fit fs) (hn : n.size ≤ 140737488351232) (hs : Small (getM fs n)) (hl : fs.length ≤ 4398046511104) (B : Nat) (hB : ∀ x ∈ fs, x.f0.size < B) (hB2 : n.size < B) (k : Nat) (hk : fs.length + B < k) (hk2 : 1099520016400 < k) : tollbarref04_List.f k fs n = some (listM fs n) := by
  have hl2 := hs.1
  unfold tollbarref04_List.f
  rw [rget_spec fs n hf hn hl B hB hB2 k hk, Option.bind_some]
  have h := rlist_loop _ hs (getM fs n).length 0 k [] (by omega) (by omega) (by simp; omega)
  rw [Int.natCast_zero, List.drop_zero, List.nil_append] at h
  exact h

theorem rhas_loop (ps : List ByteArray) (p : ByteArray) (hp : p.size ≤ 140737488351232) (B : Nat) (hB : p.size < B) (hps : ∀ q ∈ ps, q.size ≤ 140737488351232 ∧ q.size < B) (hl : ps.length ≤ 4398046511104) : ∀ d i k, i + d = ps.length → d + B < k → tollbarref04_Has.l0 k p ps (i : Int) = some (anyM (ps.drop i) p) := by
  intro d
  induction d with
  | zero =>
    intro i k hi hk; obtain ⟨k, rfl, _⟩ := suc hk
    simp only [tollbarref04_Has.l0]; rw [if_neg (by omega), List.drop_of_length_le (by omega)]; rfl
  | succ d ih =>
    intro i k hi hk; obtain ⟨k, rfl, _⟩ := suc hk
    have h : i < ps.length := by omega
    have hq := hps _ (List.getElem_mem h)
    simp only [tollbarref04_Has.l0]
    rw [if_pos (by omega), if_pos (by omega), rd_get _ ps i h, rsame_spec _ _ hq.1 hp k (by omega) (by omega), Option.bind_some, succ_cast i (by omega), List.drop_eq_getElem_cons h]
    unfold anyM
    rw [List.any_cons]
    cases sameB ps[i] p
    · rw [if_neg (by simp), ih (i + 1) k (by omega) (by omega)]; rfl
    · rfl
theorem rhas_spec (fs : List FdT) (n p : ByteArray) (hf : Fit fs) (hn : n.size ≤ 140737488351232) (hp : p.size ≤ 140737488351232) (hs : Small (getM fs n)) (hl : fs.length ≤ 4398046511104) (B : Nat) (hB : ∀ x ∈ fs, x.f0.size < B) (hB2 : n.size < B) (hB3 : p.size < B) (hB4 : 1048576 < B) (k : Nat) (hk : fs.length + B < k) (hk2 : 1099520016400 + B < k) : tollbarref04_Has.f k fs n p = some (hasM fs n p) := by
  unfold tollbarref04_Has.f
  rw [rlist_spec fs n hf hn hs hl B hB hB2 k hk (by omega), Option.bind_some]
  have hl1 := flatP_len (getM fs n) hs.2
  have hl2 := hs.1
  have hl3 : (listM fs n).length = (flatP (getM fs n)).length := rfl
  have h := rhas_loop (listM fs n) p hp B hB3 (fun q hq => by have := listM_size hs q hq; omega) (by omega) (listM fs n).length 0 k (by omega) (by omega)
  rw [Int.natCast_zero, List.drop_zero] at h
  exact h

end Go.Proofs.YtijindelbagpiaaDoor.X
