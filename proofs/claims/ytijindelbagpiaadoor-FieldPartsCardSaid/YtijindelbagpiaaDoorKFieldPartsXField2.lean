/- What the program's words on fields compute: Get, List, Has, Without, Right, Same. -/
import Derived.Test.YtijindelbagpiaaDoorPFieldPartsx2
import Derived.Test.YtijindelbagpiaaDoorPFieldPartsx3
import Derived.Test.YtijindelbagpiaaDoorKFieldPartsXSplit
namespace Go.Proofs.YtijindelbagpiaaDoor.X
open Go.RowKit Go.Proofs.YtijindelbagpiaaDoor.PFieldParts Go.Proofs.YtijindelbagpiaaDoorW.PrintWords Go.Proofs.YtijindelbagpiaaDoorW.PrintMore
set_option linter.unusedVariables false
set_option linter.unusedSimpArgs false

abbrev FdT := S24
theorem rd_fd (l : List FdT) (i : Nat) (h : i < l.length) : rd_T24 l (i : Int) = l[i] := by
  unfold rd_T24; rw [Int.toNat_natCast, List.getD_eq_getElem?_getD, List.getElem?_eq_getElem h]; rfl
theorem fd_ext {x y : FdT} (h0 : x.f0 = y.f0) (h1 : x.f1 = y.f1) : x = y := by
  cases x; cases y; cases h0; cases h1; rfl
def Fit (fs : List FdT) : Prop := ∀ x ∈ fs, x.f0.size ≤ 140737488351232 ∧ x.f1.size ≤ 140737488351232
theorem Fit.at {fs : List FdT} (h : Fit fs) (i : Nat) (hi : i < fs.length) : fs[i].f0.size ≤ 140737488351232 ∧ fs[i].f1.size ≤ 140737488351232 := h _ (List.getElem_mem hi)

def getM (fs : List FdT) (n : ByteArray) : List ByteArray := (fs.filter fun f => sameB f.f0 n).map (·.f1)
theorem getM_cons (x : FdT) (fs : List FdT) (n : ByteArray) : getM (x :: fs) n = (if sameB x.f0 n = true then [x.f1] else []) ++ getM fs n := by
  unfold getM
  rw [List.filter_cons]
  cases h : sameB x.f0 n
  · rw [if_neg (by simp), if_neg (by simp)]; rfl
  · rw [if_pos rfl, if_pos rfl]; rfl
theorem getM_app (a b : List FdT) (n : ByteArray) : getM (a ++ b) n = getM a n ++ getM b n := by simp [getM]
theorem getM_len (fs : List FdT) (n : ByteArray) : (getM fs n).length ≤ fs.length := by
  unfold getM; rw [List.length_map]; exact List.length_filter_le _ _
theorem getM_mem {fs : List FdT} {n v : ByteArray} (h : v ∈ getM fs n) : ∃ f ∈ fs, f.f1 = v := by
  obtain ⟨f, hf, rfl⟩ := List.mem_map.1 h
  exact ⟨f, (List.mem_filter.1 hf).1, rfl⟩
theorem get_loop (fs : List FdT) (n : ByteArray) (hf : Fit fs) (hn : n.size ≤ 140737488351232) (hl : fs.length ≤ 4398046511104) : ∀ d i k acc, i + d = fs.length → d < k → acc.length + d ≤ 4398046511104 → field_Get.l0 k n acc fs (fs.length : Int) (i : Int) = some (acc ++ getM (fs.drop i) n) := by
  intro d
  induction d with
  | zero =>
    intro i k acc hi hk ha; obtain ⟨k, rfl, _⟩ := suc hk
    simp only [field_Get.l0]; rw [if_neg (by omega), List.drop_of_length_le (by omega)]; simp [getM]
  | succ d ih =>
    intro i k acc hi hk ha; obtain ⟨k, rfl, _⟩ := suc hk
    have h : i < fs.length := by omega
    simp only [field_Get.l0]
    rw [if_pos (by omega), if_pos (by omega), if_pos (by omega), rd_fd fs i h, same_spec _ _ (hf.at i h).1 hn, Option.bind_some, succ_cast i (by omega), List.drop_eq_getElem_cons h, getM_cons]
    cases sameB fs[i].f0 n
    · rw [if_neg (by simp), if_neg (by simp), ih (i + 1) k acc (by omega) (by omega) (by omega), List.nil_append]
    · rw [if_pos rfl, if_pos rfl, if_pos (by omega), ih (i + 1) k _ (by omega) (by omega) (by rw [List.length_append, List.length_singleton]; omega), List.append_assoc]
theorem get_spec (fs : List FdT) (n : ByteArray) (hf : Fit fs) (hn : n.size ≤ 140737488351232) (hl : fs.length ≤ 4398046511104) (k : Nat) (hk : fs.length < k) : field_Get.f k fs n = some (getM fs n) := by
  have h := get_loop fs n hf hn hl fs.length 0 k [] (by omega) hk (by simp; omega)
  rw [Int.natCast_zero, List.drop_zero, List.nil_append] at h
  exact h
def flatP (vs : List ByteArray) : List ByteArray := vs.flatMap parts
def listM (fs : List FdT) (n : ByteArray) : List ByteArray := flatP (getM fs n)
theorem flatP_cons (v : ByteArray) (vs : List ByteArray) : flatP (v :: vs) = parts v ++ flatP vs := rfl
theorem listM_app (a b : List FdT) (n : ByteArray) : listM (a ++ b) n = listM a n ++ listM b n := by unfold listM flatP; rw [getM_app, List.flatMap_append]
def Small (vs : List ByteArray) : Prop := vs.length ≤ 1048576 ∧ ∀ v ∈ vs, v.size ≤ 1048576
theorem list_loop (vs : List ByteArray) (hs : Small vs) : ∀ d i k acc, i + d = vs.length → d + 1048578 < k → acc.length + d * 1048577 ≤ 4398046511104 → field_List.l0 k acc vs (vs.length : Int) (i : Int) = some (acc ++ flatP (vs.drop i)) := by
  have hl := hs.1
  intro d
  induction d with
  | zero =>
    intro i k acc hi hk ha; obtain ⟨k, rfl, _⟩ := suc hk
    simp only [field_List.l0]; rw [if_neg (by omega), List.drop_of_length_le (by omega)]; simp [flatP]
  | succ d ih =>
    intro i k acc hi hk ha; obtain ⟨k, rfl, _⟩ := suc hk
    have h : i < vs.length := by omega
    have hv := hs.2 _ (List.getElem_mem h)
    have hp := parts_len vs[i]
    simp only [field_List.l0]
    rw [if_pos (by omega), if_pos (by omega), if_pos (by omega), rd_get _ vs i h, split_spec _ (by omega) k (by omega), Option.bind_some, succ_cast i (by omega), if_pos (by omega), List.drop_eq_getElem_cons h, flatP_cons, ih (i + 1) k _ (by omega) (by omega) (by rw [List.length_append]; omega), List.append_assoc]
theorem list_spec (fs : List FdT) (n : ByteArray) (hf : Fit fs) (hn : n.size ≤ 140737488351232) (hs : Small (getM fs n)) (hl : fs.length ≤ 4398046511104) (k : Nat) (hk : fs.length < k) (hk2 : 2097155 < k) : field_List.f k fs n = some (listM fs n) := by
  have hl2 := hs.1
  unfold field_List.f
  rw [get_spec fs n hf hn hl k hk, Option.bind_some]
  have h := list_loop _ hs (getM fs n).length 0 k [] (by omega) (by omega) (by simp; omega)
  rw [Int.natCast_zero, List.drop_zero, List.nil_append] at h
  exact h
theorem flatP_len (vs : List ByteArray) (h : ∀ v ∈ vs, v.size ≤ 1048576) : (flatP vs).length ≤ vs.length * 1048577 := by
  induction vs with
  | nil => simp [flatP]
  | cons v vs ih =>
    rw [flatP_cons, List.length_append, List.length_cons]
    have h1 := parts_len v
    have h2 := h v List.mem_cons_self
    have h3 := ih fun x hx => h x (List.mem_cons_of_mem _ hx)
    omega
def anyM (ps : List ByteArray) (q : ByteArray) : Bool := ps.any fun p => sameB p q
theorem any_spec (q : ByteArray) (hq : q.size ≤ 140737488351232) : ∀ ps : List ByteArray, (∀ p ∈ ps, p.size ≤ 140737488351232) → field_Has.any ps q = some (anyM ps q)
  | [], _ => rfl
  | p :: ps, h => by
    unfold field_Has.any
    rw [same_spec p q (h p List.mem_cons_self) hq, Option.bind_some, any_spec q hq ps fun x hx => h x (List.mem_cons_of_mem _ hx)]
    unfold anyM
    rw [List.any_cons]
    cases sameB p q <;> rfl
def hasM (fs : List FdT) (n p : ByteArray) : Bool := anyM (listM fs n) p
theorem listM_size {fs : List FdT} {n : ByteArray} (hs : Small (getM fs n)) : ∀ p ∈ listM fs n, p.size ≤ 1048576 := by
  intro p hp
  obtain ⟨v, hv, hpv⟩ := List.mem_flatMap.1 hp
  exact Nat.le_trans (parts_size v p hpv) (hs.2 v hv)
theorem has_spec (fs : List FdT) (n p : ByteArray) (hf : Fit fs) (hn : n.size ≤ 140737488351232) (hp : p.size ≤ 140737488351232) (hs : Small (getM fs n)) (hl : fs.length ≤ 4398046511104) (k : Nat) (hk : fs.length < k) (hk2 : 2097155 < k) : field_Has.f k fs n p = some (hasM fs n p) := by
  unfold field_Has.f
  rw [list_spec fs n hf hn hs hl k hk hk2, Option.bind_some, any_spec p hp]
  · rfl
  · intro q hq; have := listM_size hs q hq; omega
end Go.Proofs.YtijindelbagpiaaDoor.X
