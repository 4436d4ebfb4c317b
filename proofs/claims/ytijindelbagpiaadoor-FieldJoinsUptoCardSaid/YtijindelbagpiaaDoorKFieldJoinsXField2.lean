/- What the program's words on fields compute: Get, List, Has, Without, Right, Same. -/
import Derived.Test.YtijindelbagpiaaDoorPFieldJoinsx2
import Derived.Test.YtijindelbagpiaaDoorPFieldJoinsx3
import Derived.Test.YtijindelbagpiaaDoorPFieldJoinsx6
import Derived.Test.YtijindelbagpiaaDoorKFieldJoinsXSplit
import Derived.Test.YtijindelbagpiaaDoorKFieldJoinsXField1
namespace Go.Proofs.YtijindelbagpiaaDoor.X
open Go.RowKit Go.Proofs.YtijindelbagpiaaDoor.PFieldJoins Go.Proofs.YtijindelbagpiaaDoorW.PrintWords Go.Proofs.YtijindelbagpiaaDoorW.PrintMore
set_option linter.unusedVariables false
set_option linter.unusedSimpArgs false

abbrev FdT := S24
theorem rd_fd (l : List FdT) (i : Nat) (h : i < l.length) : rd_T24 l (i : Int) = l[i] := by
  unfold rd_T24; rw [Int.toNat_natCast, List.getD_eq_getElem?_getD, List.getElem?_eq_getElem h]; rfl
theorem fd_ext {x y : FdT} (h0 : x.f0 = y.f0) (h1 : x.f1 = y.f1) : x = y := by
  cases x; cases y; cases h0; cases h1; rfl
def Fit (fs : List FdT) : Prop := ∀ x ∈ fs, x.f0.size ≤ 140737488351232 ∧ x.f1.size ≤ 140737488351232
theorem Fit.at {fs : List FdT} (h : Fit fs) (i : Nat) (hi : i < fs.length) : fs[i].f0.size ≤ 140737488351232 ∧ fs[i].f1.size ≤ 140737488351232 := h _ (List.getElem_mem hi)

def getM (fs : List FdT) (n : ByteArray) : List ByteArray := (fs.filter fun f => sameB f.f0 n).map (·.f1)
theorem getM_cons (x : FdT) (fs : List FdT) (n : ByteArray) : getM (x :: fs) n = (if sameB x.f0 n = true then [x.f1] else []) ++ getM fs n := by
  unfold getM
  rw [List.filter_cons]
  cases h : sameB x.f0 n
  · rw [if_neg (by simp), if_neg (by simp)]; rfl
  · rw [if_pos rfl, if_pos rfl]; rfl
theorem getM_app (a b : List FdT) (n : ByteArray) : getM (a ++ b) n = getM a n ++ getM b n := by simp [getM]
theorem getM_len (fs : List FdT) (n : ByteArray) : (getM fs n).length ≤ fs.length := by
  unfold getM; rw [List.length_map]; exact List.length_filter_le _ _
theorem getM_mem {fs : List FdT} {n v : ByteArray} (h : v ∈ getM fs n) : ∃ f ∈ fs, f.f1 = v := by
  obtain ⟨f, hf, rfl⟩ := List.mem_map.1 h
  exact ⟨f, (List.mem_filter.1 hf).1, rfl⟩
theorem get_loop (fs : List FdT) (n : ByteArray) (hf : Fit fs) (hn : n.size ≤ 140737488351232) (hl : fs.length ≤ 4398046511104) : ∀ d i k acc, i + d = fs.length → d < k → acc.length + d ≤ 4398046511104 → field_Get.l0 k n acc fs (fs.length : Int) (i : Int) = some (acc ++ getM (fs.drop i) n) := by
  intro d
  induction d with
  | zero =>
    intro i k acc hi hk ha; obtain ⟨k, rfl, _⟩ := suc hk
    simp only [field_Get.l0]; rw [if_neg (by omega), List.drop_of_length_le (by omega)]; simp [getM]
  | succ d ih =>
    intro i k acc hi hk ha; obtain ⟨k, rfl, _⟩ := suc hk
    have h : i < fs.length := by omega
    simp only [field_Get.l0]
    rw [if_pos (by omega), if_pos (by omega), if_pos (by omega), rd_fd fs i h, same_spec _ _ (hf.at i h).1 hn, Option.bind_some, succ_cast i (by omega), List.drop_eq_getElem_cons h, getM_cons]
    cases sameB fs[i].f0 n
    · rw [if_neg (by simp), if_neg (by simp), ih (i + 1) k acc (by omega) (by omega) (by omega), List.nil_append]
    · rw [if_pos rfl, if_pos rfl, if_pos (by omega), ih (i + 1) k _ (by omega) (by omega) (by rw [List.length_append, List.length_singleton]; omega), List.append_assoc]
theorem get_spec (fs : List FdT) (n : ByteArray) (hf : Fit fs) (hn : n.size ≤ 140737488351232) (hl : fs.length ≤ 4398046511104) (k : Nat) (hk : fs.length < k) : field_Get.f k fs n = some (getM fs n) := by
  have h := get_loop fs n hf hn hl fs.length 0 k [] (by omega) hk (by simp; omega)
  rw [Int.natCast_zero, List.drop_zero, List.nil_append] at h
  exact h
def flatP (vs : List ByteArray) : List ByteArray := vs.flatMap parts
def listM (fs : List FdT) (n : ByteArray) : List ByteArray := flatP (getM fs n)
theorem flatP_cons (v : ByteArray) (vs : List ByteArray) : flatP (v :: vs) = parts v ++ flatP vs := rfl
theorem listM_app (a b : List FdT) (n : ByteArray) : listM (a ++ b) n = listM a n ++ listM b n := by unfold listM flatP; rw [getM_app, List.flatMap_append]
def Small (vs : List ByteArray) : Prop := vs.length ≤ 1048576 ∧ ∀ v ∈ vs, v.size ≤ 1048576
theorem list_loop (vs : List ByteArray) (hs : Small vs) : ∀ d i k acc, i + d = vs.length → d + 1048578 < k → acc.length + d * 1048577 ≤ 4398046511104 → field_List.l0 k acc vs (vs.length : Int) (i : Int) = some (acc ++ flatP (vs.drop i)) := by
  have hl := hs.1
  intro d
  induction d with
  | zero =>
    intro i k acc hi hk ha; obtain ⟨k, rfl, _⟩ := suc hk
    simp only [field_List.l0]; rw [if_neg (by omega), List.drop_of_length_le (by omega)]; simp [flatP]
  | succ d ih =>
    intro i k acc hi hk ha; obtain ⟨k, rfl, _⟩ := suc hk
    have h : i < vs.length := by omega
    have hv := hs.2 _ (List.getElem_mem h)
    have hp := parts_len vs[i]
    simp only [field_List.l0]
    rw [if_pos (by omega), if_pos (by omega), if_pos (by omega), rd_get _ vs i h, split_spec _ (by omega) k (by omega), Option.bind_some, succ_cast i (by omega), if_pos (by omega), List.drop_eq_getElem_cons h, flatP_cons, ih (i + 1) k _ (by omega) (by omega) (by rw [List.length_append]; omega), List.append_assoc]
theorem list_spec (fs : List FdT) (n : ByteArray) (hf : Fit fs) (hn : n.size ≤ 140737488351232) (hs : Small (getM fs n)) (hl : fs.length ≤ 4398046511104) (k : Nat) (hk : fs.length < k) (hk2 : 2097155 < k) : field_List.f k fs n = some (listM fs n) := by
  have hl2 := hs.1
  unfold field_List.f
  rw [get_spec fs n hf hn hl k hk, Option.bind_some]
  have h := list_loop _ hs (getM fs n).length 0 k [] (by omega) (by omega) (by simp; omega)
  rw [Int.natCast_zero, List.drop_zero, List.nil_append] at h
  exact h
theorem flatP_len (vs : List ByteArray) (h : ∀ v ∈ vs, v.size ≤ 1048576) : (flatP vs).length ≤ vs.length * 1048577 := by
  induction vs with
  | nil => simp [flatP]
  | cons v vs ih =>
    rw [flatP_cons, List.length_append, List.length_cons]
    have h1 := parts_len v
    have h2 := h v List.mem_cons_self
    have h3 := ih fun x hx => h x (List.mem_cons_of_mem _ hx)
    omega
def anyM (ps : List ByteArray) (q : ByteArray) : Bool := ps.any fun p => sameB p q
theorem any_spec (q : ByteArray) (hq : q.size ≤ 140737488351232) : ∀ ps : List ByteArray, (∀ p ∈ ps, p.size ≤ 140737488351232) → field_Has.any ps q = some (anyM ps q)
  | [], _ => rfl
  | p :: ps, h => by
    unfold field_Has.any
    rw [same_spec p q (h p List.mem_cons_self) hq, Option.bind_some, any_spec q hq ps fun x hx => h x (List.mem_cons_of_mem _ hx)]
    unfold anyM
    rw [List.any_cons]
    cases sameB p q <;> rfl
theorem any_spec2 (q : ByteArray) (hq : q.size ≤ 140737488351232) : ∀ ps : List ByteArray, (∀ p ∈ ps, p.size ≤ 140737488351232) → field_Without.any ps q = some (anyM ps q)
  | [], _ => rfl
  | p :: ps, h => by
    unfold field_Without.any
    rw [same_spec p q (h p List.mem_cons_self) hq, Option.bind_some, any_spec2 q hq ps fun x hx => h x (List.mem_cons_of_mem _ hx)]
    unfold anyM
    rw [List.any_cons]
    cases sameB p q <;> rfl
def hasM (fs : List FdT) (n p : ByteArray) : Bool := anyM (listM fs n) p
theorem listM_size {fs : List FdT} {n : ByteArray} (hs : Small (getM fs n)) : ∀ p ∈ listM fs n, p.size ≤ 1048576 := by
  intro p hp
  obtain ⟨v, hv, hpv⟩ := List.mem_flatMap.1 hp
  exact Nat.le_trans (parts_size v p hpv) (hs.2 v hv)
theorem has_spec (fs : List FdT) (n p : ByteArray) (hf : Fit fs) (hn : n.size ≤ 140737488351232) (hp : p.size ≤ 140737488351232) (hs : Small (getM fs n)) (hl : fs.length ≤ 4398046511104) (k : Nat) (hk : fs.length < k) (hk2 : 2097155 < k) : field_Has.f k fs n p = some (hasM fs n p) := by
  unfold field_Has.f
  rw [list_spec fs n hf hn hs hl k hk hk2, Option.bind_some, any_spec p hp]
  · rfl
  · intro q hq; have := listM_size hs q hq; omega
def withM (fs : List FdT) (ns : List ByteArray) : List FdT := fs.filter fun f => !anyM ns f.f0
theorem go_spec (ns : List ByteArray) (hns : ∀ p ∈ ns, p.size ≤ 140737488351232) : ∀ (fs acc : List FdT), Fit fs → acc.length + fs.length ≤ 4398046511103 → field_Without.go fs ns acc = some (acc ++ withM fs ns)
  | [], acc, _, _ => by unfold field_Without.go; simp [withM]
  | x :: fs, acc, hf, ha => by
    have hx := hf x List.mem_cons_self
    rw [List.length_cons] at ha
    unfold field_Without.go
    rw [any_spec2 x.f0 hx.1 ns hns, Option.bind_some]
    unfold withM
    rw [List.filter_cons]
    cases anyM ns x.f0
    · rw [if_neg (by simp), if_pos (by omega), if_pos (by rfl), go_spec ns hns fs (acc ++ [x]) (fun y hy => hf y (List.mem_cons_of_mem _ hy)) (by rw [List.length_append, List.length_singleton]; omega), List.append_assoc]; rfl
    · rw [if_pos rfl, if_neg (by simp), go_spec ns hns fs acc (fun y hy => hf y (List.mem_cons_of_mem _ hy)) (by omega)]; rfl
theorem without_spec (fs : List FdT) (ns : List ByteArray) (hf : Fit fs) (hns : ∀ p ∈ ns, p.size ≤ 140737488351232) (hl : fs.length ≤ 4398046511103) : field_Without.f fs ns = some (withM fs ns) := by
  unfold field_Without.f
  rw [go_spec ns hns fs [] hf (by simpa using hl), List.nil_append]
def okS (f : FdT) : Bool := okF (L f.f0) (L f.f1)
def rightM (fs : List FdT) : Bool := decide (fs.length ≤ 40) && fs.all okS
theorem right1_spec (f : FdT) (h : f.f0.size ≤ 140737488351232 ∧ f.f1.size ≤ 140737488351232) (k : Nat) (hk : f.f0.size < k) (hk2 : f.f1.size < k) : field_Right_1.f k f.f0 f.f1 = some (!okS f) := by
  unfold field_Right_1.f
  rw [right_spec _ _ (by omega) (by omega) k hk hk2, Option.bind_some]; rfl
theorem right_loop (fs : List FdT) (hf : Fit fs) (B : Nat) (hB : ∀ x ∈ fs, x.f0.size < B ∧ x.f1.size < B) (hl : fs.length ≤ 4398046511103) : ∀ d i k, i + d = fs.length → d + B < k → ∃ r : Int, api_Field_55_76.l0 k fs (fs.length : Int) (i : Int) = some r ∧ decide (r ≥ 0) = !(fs.drop i).all okS := by
  intro d
  induction d with
  | zero =>
    intro i k hi hk; obtain ⟨k, rfl, _⟩ := suc hk
    simp only [api_Field_55_76.l0]; rw [if_neg (by omega), List.drop_of_length_le (by omega)]
    exact ⟨_, rfl, rfl⟩
  | succ d ih =>
    intro i k hi hk; obtain ⟨k, rfl, _⟩ := suc hk
    have h : i < fs.length := by omega
    have hb := hB _ (List.getElem_mem h)
    simp only [api_Field_55_76.l0]
    rw [if_pos (by omega), if_pos (by omega), if_pos (by omega), rd_fd fs i h, right1_spec _ (hf.at i h) k (by omega) (by omega), Option.bind_some, succ_cast i (by omega), List.drop_eq_getElem_cons h, List.all_cons]
    cases okS fs[i]
    · exact ⟨_, rfl, by simp⟩
    · obtain ⟨r, h1, h2⟩ := ih (i + 1) k (by omega) (by omega)
      exact ⟨r, by rw [if_neg (by simp)]; exact h1, by rw [h2, Bool.true_and]⟩
theorem frights_spec (fs : List FdT) (hf : Fit fs) (B : Nat) (hB : ∀ x ∈ fs, x.f0.size < B ∧ x.f1.size < B) (hl : fs.length ≤ 4398046511103) (k : Nat) (hk : fs.length + B < k) : field_Right.f k fs = some (rightM fs) := by
  unfold field_Right.f rightM
  by_cases h : (fs.length : Int) ≤ 40
  · rw [if_pos h, decide_eq_true (show fs.length ≤ 40 by omega)]
    unfold api_Field_55_54.f api_Field_55_76.f
    obtain ⟨r, h1, h2⟩ := right_loop fs hf B hB hl fs.length 0 k (by omega) hk
    rw [Int.natCast_zero] at h1
    rw [List.drop_zero] at h2
    rw [h1]
    simp only [Option.bind_some, h2, Bool.not_not, Bool.true_and]
  · rw [if_neg h, decide_eq_false (show ¬ fs.length ≤ 40 by omega)]; rfl
open Classical in
noncomputable def sameM (a b : List FdT) : Bool := decide (a = b)
theorem sameM_self (a : List FdT) : sameM a a = true := by simp [sameM]
theorem sameM_ne {a b : List FdT} (h : a ≠ b) : sameM a b = false := by simp [sameM, h]
theorem drop_ne {α : Type} {a b : List α} {i : Nat} (h1 : i < a.length) (h2 : i < b.length) (h : a[i] = b[i]) (h3 : a.drop (i + 1) = b.drop (i + 1)) : a.drop i = b.drop i := by
  rw [List.drop_eq_getElem_cons h1, List.drop_eq_getElem_cons h2, h, h3]
theorem eqB (a b : ByteArray) : (a.toList == b.toList) = true ↔ a = b := by
  rw [toList_eq, toList_eq, beq_iff_eq]
  exact ⟨L_inj, fun e => by rw [e]⟩
theorem same_loop (a b : List FdT) (hab : a.length = b.length) (hl : a.length ≤ 4398046511104) : ∀ d i k, i + d = a.length → d < k → api_Field_59.l0 k b a (a.length : Int) (i : Int) = some (sameM (a.drop i) (b.drop i)) := by
  intro d
  induction d with
  | zero =>
    intro i k hi hk; obtain ⟨k, rfl, _⟩ := suc hk
    simp only [api_Field_59.l0]; rw [if_neg (by omega), List.drop_of_length_le (by omega), List.drop_of_length_le (by omega), sameM_self]
  | succ d ih =>
    intro i k hi hk; obtain ⟨k, rfl, _⟩ := suc hk
    have h : i < a.length := by omega
    have h2 : i < b.length := by omega
    simp only [api_Field_59.l0]
    rw [if_pos (by omega), if_pos (by omega), if_pos (by omega), if_pos (by omega), rd_fd a i h, rd_fd b i h2]
    unfold field_Same_1.f
    rw [Option.bind_some, succ_cast i (by omega), ih (i + 1) k (by omega) (by omega)]
    by_cases e : a[i] = b[i]
    · rw [if_pos (by rw [Bool.and_eq_true, eqB, eqB, e]; exact ⟨rfl, rfl⟩)]
      by_cases e2 : a.drop (i + 1) = b.drop (i + 1)
      · rw [e2, drop_ne h h2 e e2, sameM_self, sameM_self]
      · rw [sameM_ne e2, sameM_ne]
        intro e3
        rw [List.drop_eq_getElem_cons h, List.drop_eq_getElem_cons h2] at e3
        exact e2 (List.cons.inj e3).2
    · rw [if_neg (fun hh => by
        rw [Bool.and_eq_true, eqB, eqB] at hh
        exact e (fd_ext hh.1 hh.2)), sameM_ne]
      intro e3
      rw [List.drop_eq_getElem_cons h, List.drop_eq_getElem_cons h2] at e3
      exact e (List.cons.inj e3).1
theorem fsame_spec (a b : List FdT) (hl : a.length ≤ 4398046511104) (hl2 : b.length ≤ 4398046511104) (k : Nat) (hk : a.length < k) : field_Same.f k a b = some (sameM a b) := by
  unfold field_Same.f api_Field_59.f
  by_cases hab : (a.length : Int) = (b.length : Int)
  · have h := same_loop a b (by omega) hl a.length 0 k (by omega) hk
    rw [Int.natCast_zero, List.drop_zero, List.drop_zero] at h
    rw [if_pos hab, h]; rfl
  · rw [if_neg hab, sameM_ne (fun e => hab (by rw [e]))]; rfl
theorem texts_loop (a : List ByteArray) (hl : a.length ≤ 4398046511104) : ∀ d i k, i + d = a.length → d < k → tollbarref01_SameTexts.l0 k a a (i : Int) = some true := by
  intro d
  induction d with
  | zero =>
    intro i k hi hk; obtain ⟨k, rfl, _⟩ := suc hk
    simp only [tollbarref01_SameTexts.l0]; rw [if_neg (by omega)]
  | succ d ih =>
    intro i k hi hk; obtain ⟨k, rfl, _⟩ := suc hk
    simp only [tollbarref01_SameTexts.l0]
    rw [if_pos (by omega), if_pos (by omega), if_pos (by omega), if_pos trivial, succ_cast i (by omega), ih (i + 1) k (by omega) (by omega)]
theorem texts_self (a : List ByteArray) (hl : a.length ≤ 4398046511104) (k : Nat) (hk : a.length < k) : tollbarref01_SameTexts.f k a a = some true := by
  unfold tollbarref01_SameTexts.f
  have h := texts_loop a hl a.length 0 k (by omega) hk
  rw [Int.natCast_zero] at h
  rw [if_pos rfl, h]
end Go.Proofs.YtijindelbagpiaaDoor.X
