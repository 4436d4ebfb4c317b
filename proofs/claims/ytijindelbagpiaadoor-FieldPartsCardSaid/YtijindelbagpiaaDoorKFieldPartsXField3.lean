/- What the program's words on lists of fields compute: what is left, right, the same. -/
import Derived.Test.YtijindelbagpiaaDoorPFieldPartsx2
import Derived.Test.YtijindelbagpiaaDoorPFieldPartsx6
import Derived.Test.YtijindelbagpiaaDoorKFieldPartsXField2
import Derived.Test.YtijindelbagpiaaDoorKFieldPartsXField1
namespace Go.Proofs.YtijindelbagpiaaDoor.X
open Go.RowKit Go.Proofs.YtijindelbagpiaaDoor.PFieldParts Go.Proofs.YtijindelbagpiaaDoorW.PrintWords Go.Proofs.YtijindelbagpiaaDoorW.PrintMore
set_option linter.unusedVariables false
set_option linter.unusedSimpArgs false

theorem any_spec2 (q : ByteArray) (hq : q.size ≤ 140737488351232) : ∀ ps : List ByteArray, (∀ p ∈ ps, p.size ≤ 140737488351232) → field_Without.any ps q = some (anyM ps q)
  | [], _ => rfl
  | p :: ps, h => by
    unfold field_Without.any
    rw [same_spec p q (h p List.mem_cons_self) hq, Option.bind_some, any_spec2 q hq ps fun x hx => h x (List.mem_cons_of_mem _ hx)]
    unfold anyM
    rw [List.any_cons]
    cases sameB p q <;> rfl
def withM (fs : List FdT) (ns : List ByteArray) : List FdT := fs.filter fun f => !anyM ns f.f0
theorem go_spec (ns : List ByteArray) (hns : ∀ p ∈ ns, p.size ≤ 140737488351232) : ∀ (fs acc : List FdT), Fit fs → acc.length + fs.length ≤ 4398046511103 → field_Without.go fs ns acc = some (acc ++ withM fs ns)
  | [], acc, _, _ => by unfold field_Without.go; simp [withM]
  | x :: fs, acc, hf, ha => by
    have hx := hf x List.mem_cons_self
    rw [List.length_cons] at ha
    unfold field_Without.go
    rw [any_spec2 x.f0 hx.1 ns hns, Option.bind_some]
    unfold withM
    rw [List.filter_cons]
    cases anyM ns x.f0
    · rw [if_neg (by simp), if_pos (by omega), if_pos (by rfl), go_spec ns hns fs (acc ++ [x]) (fun y hy => hf y (List.mem_cons_of_mem _ hy)) (by rw [List.length_append, List.length_singleton]; omega), List.append_assoc]; rfl
    · rw [if_pos rfl, if_neg (by simp), go_spec ns hns fs acc (fun y hy => hf y (List.mem_cons_of_mem _ hy)) (by omega)]; rfl
theorem without_spec (fs : List FdT) (ns : List ByteArray) (hf : Fit fs) (hns : ∀ p ∈ ns, p.size ≤ 140737488351232) (hl : fs.length ≤ 4398046511103) : field_Without.f fs ns = some (withM fs ns) := by
  unfold field_Without.f
  rw [go_spec ns hns fs [] hf (by simpa using hl), List.nil_append]
def okS (f : FdT) : Bool := okF (L f.f0) (L f.f1)
def rightM (fs : List FdT) : Bool := decide (fs.length ≤ 40) && fs.all okS
theorem right1_spec (f : FdT) (h : f.f0.size ≤ 140737488351232 ∧ f.f1.size ≤ 140737488351232) (k : Nat) (hk : f.f0.size < k) (hk2 : f.f1.size < k) : field_Right_1.f k f.f0 f.f1 = some (!okS f) := by
  unfold field_Right_1.f
  rw [right_spec _ _ (by omega) (by omega) k hk hk2, Option.bind_some]; rfl
theorem right_loop (fs : List FdT) (hf : Fit fs) (B : Nat) (hB : ∀ x ∈ fs, x.f0.size < B ∧ x.f1.size < B) (hl : fs.length ≤ 4398046511103) : ∀ d i k, i + d = fs.length → d + B < k → ∃ r : Int, api_Field_55_76.l0 k fs (fs.length : Int) (i : Int) = some r ∧ decide (r ≥ 0) = !(fs.drop i).all okS := by
  intro d
  induction d with
  | zero =>
    intro i k hi hk; obtain ⟨k, rfl, _⟩ := suc hk
    simp only [api_Field_55_76.l0]; rw [if_neg (by omega), List.drop_of_length_le (by omega)]
    exact ⟨_, rfl, rfl⟩
  | succ d ih =>
    intro i k hi hk; obtain ⟨k, rfl, _⟩ := suc hk
    have h : i < fs.length := by omega
    have hb := hB _ (List.getElem_mem h)
    simp only [api_Field_55_76.l0]
    rw [if_pos (by omega), if_pos (by omega), if_pos (by omega), rd_fd fs i h, right1_spec _ (hf.at i h) k (by omega) (by omega), Option.bind_some, succ_cast i (by omega), List.drop_eq_getElem_cons h, List.all_cons]
    cases okS fs[i]
    · exact ⟨_, rfl, by simp⟩
    · obtain ⟨r, h1, h2⟩ := ih (i + 1) k (by omega) (by omega)
      exact ⟨r, by rw [if_neg (by simp)]; exact h1, by rw [h2, Bool.true_and]⟩
theorem frights_spec (fs : List FdT) (hf : Fit fs) (B : Nat) (hB : ∀ x ∈ fs, x.f0.size < B ∧ x.f1.size < B) (hl : fs.length ≤ 4398046511103) (k : Nat) (hk : fs.length + B < k) : field_Right.f k fs = some (rightM fs) := by
  unfold field_Right.f rightM
  by_cases h : (fs.length : Int) ≤ 40
  · rw [if_pos h, decide_eq_true (show fs.length ≤ 40 by omega)]
    unfold api_Field_55_54.f api_Field_55_76.f
    obtain ⟨r, h1, h2⟩ := right_loop fs hf B hB hl fs.length 0 k (by omega) hk
    rw [Int.natCast_zero] at h1
    rw [List.drop_zero] at h2
    rw [h1]
    simp only [Option.bind_some, h2, Bool.not_not, Bool.true_and]
  · rw [if_neg h, decide_eq_false (show ¬ fs.length ≤ 40 by omega)]; rfl
open Classical in
noncomputable def sameM (a b : List FdT) : Bool := decide (a = b)
theorem sameM_self (a : List FdT) : sameM a a = true := by simp [sameM]
theorem sameM_ne {a b : List FdT} (h : a ≠ b) : sameM a b = false := by simp [sameM, h]
theorem drop_ne {α : Type} {a b : List α} {i : Nat} (h1 : i < a.length) (h2 : i < b.length) (h : a[i] = b[i]) (h3 : a.drop (i + 1) = b.drop (i + 1)) : a.drop i = b.drop i := by
  rw [List.drop_eq_getElem_cons h1, List.drop_eq_getElem_cons h2, h, h3]
theorem eqB (a b : ByteArray) : (a.toList == b.toList) = true ↔ a = b := by
  rw [toList_eq, toList_eq, beq_iff_eq]
  exact ⟨L_inj, fun e => by rw [e]⟩
theorem same_loop (a b : List FdT) (hab : a.length = b.length) (hl : a.length ≤ 4398046511104) : ∀ d i k, i + d = a.length → d < k → api_Field_59.l0 k b a (a.length : Int) (i : Int) = some (sameM (a.drop i) (b.drop i)) := by
  intro d
  induction d with
  | zero =>
    intro i k hi hk; obtain ⟨k, rfl, _⟩ := suc hk
    simp only [api_Field_59.l0]; rw [if_neg (by omega), List.drop_of_length_le (by omega), List.drop_of_length_le (by omega), sameM_self]
  | succ d ih =>
    intro i k hi hk; obtain ⟨k, rfl, _⟩ := suc hk
    have h : i < a.length := by omega
    have h2 : i < b.length := by omega
    simp only [api_Field_59.l0]
    rw [if_pos (by omega), if_pos (by omega), if_pos (by omega), if_pos (by omega), rd_fd a i h, rd_fd b i h2]
    unfold field_Same_1.f
    rw [Option.bind_some, succ_cast i (by omega), ih (i + 1) k (by omega) (by omega)]
    by_cases e : a[i] = b[i]
    · rw [if_pos (by rw [Bool.and_eq_true, eqB, eqB, e]; exact ⟨rfl, rfl⟩)]
      by_cases e2 : a.drop (i + 1) = b.drop (i + 1)
      · rw [e2, drop_ne h h2 e e2, sameM_self, sameM_self]
      · rw [sameM_ne e2, sameM_ne]
        intro e3
        rw [List.drop_eq_getElem_cons h, List.drop_eq_getElem_cons h2] at e3
        exact e2 (List.cons.inj e3).2
    · rw [if_neg (fun hh => by
        rw [Bool.and_eq_true, eqB, eqB] at hh
        exact e (fd_ext hh.1 hh.2)), sameM_ne]
      intro e3
      rw [List.drop_eq_getElem_cons h, List.drop_eq_getElem_cons h2] at e3
      exact e (List.cons.inj e3).1
theorem fsame_spec (a b : List FdT) (hl : a.length ≤ 4398046511104) (hl2 : b.length ≤ 4398046511104) (k : Nat) (hk : a.length < k) : field_Same.f k a b = some (sameM a b) := by
  unfold field_Same.f api_Field_59.f
  by_cases hab : (a.length : Int) = (b.length : Int)
  · have h := same_loop a b (by omega) hl a.length 0 k (by omega) hk
    rw [Int.natCast_zero, List.drop_zero, List.drop_zero] at h
    rw [if_pos hab, h]; rfl
  · rw [if_neg hab, sameM_ne (fun e => hab (by rw [e]))]; rfl
theorem texts_loop (a : List ByteArray) (hl : a.length ≤ 4398046511104) : ∀ d i k, i + d = a.length → d < k → tollbarref01_SameTexts.l0 k a a (i : Int) = some true := by
  intro d
  induction d with
  | zero =>
    intro i k hi hk; obtain ⟨k, rfl, _⟩ := suc hk
    simp only [tollbarref01_SameTexts.l0]; rw [if_neg (by omega)]
  | succ d ih =>
    intro i k hi hk; obtain ⟨k, rfl, _⟩ := suc hk
    simp only [tollbarref01_SameTexts.l0]
    rw [if_pos (by omega), if_pos (by omega), if_pos (by omega), if_pos trivial, succ_cast i (by omega), ih (i + 1) k (by omega) (by omega)]
theorem texts_self (a : List ByteArray) (hl : a.length ≤ 4398046511104) (k : Nat) (hk : a.length < k) : tollbarref01_SameTexts.f k a a = some true := by
  unfold tollbarref01_SameTexts.f
  have h := texts_loop a hl a.length 0 k (by omega) hk
  rw [Int.natCast_zero] at h
  rw [if_pos rfl, h]
end Go.Proofs.YtijindelbagpiaaDoor.X
