/- What the document's Without and Right compute. -/
import Derived.Test.YtijindelbagpiaaDoorPAllx10
import Derived.Test.YtijindelbagpiaaDoorPAllx11
import Derived.Test.YtijindelbagpiaaDoorXGetR
import Derived.Test.YtijindelbagpiaaDoorXOneR
namespace Go.Proofs.YtijindelbagpiaaDoor.X
open Go.RowKit Go.Proofs.YtijindelbagpiaaDoor.PAll Go.Proofs.YtijindelbagpiaaDoorW.PrintWords Go.Proofs.YtijindelbagpiaaDoorW.PrintMore
set_option linter.unusedVariables false
set_option linter.unusedSimpArgs false

theorem rin_loop (ns : List ByteArray) (q : ByteArray) (hq : q.size ≤ 140737488351232) (B : Nat) (hB : q.size < B) (hps : ∀ q ∈ ns, q.size ≤ 140737488351232 ∧ q.size < B) (hl : ns.length ≤ 4398046511104) : ∀ d i k, i + d = ns.length → d + B < k → tollbarref04_In.l0 k ns q (i : Int) = some (anyM (ns.drop i) q) := by
  intro d
  induction d with
  | zero =>
    intro i k hi hk; obtain ⟨k, rfl, _⟩ := suc hk
    simp only [tollbarref04_In.l0]; rw [if_neg (by omega), List.drop_of_length_le (by omega)]; rfl
  | succ d ih =>
    intro i k hi hk; obtain ⟨k, rfl, _⟩ := suc hk
    have h : i < ns.length := by omega
    have hq2 := hps _ (List.getElem_mem h)
    simp only [tollbarref04_In.l0]
    rw [if_pos (by omega), if_pos (by omega), rd_get _ ns i h, rsame_spec _ _ hq2.1 hq k (by omega) (by omega), Option.bind_some, succ_cast i (by omega), List.drop_eq_getElem_cons h]
    unfold anyM
    rw [List.any_cons]
    cases sameB ns[i] q
    · rw [if_neg (by simp), ih (i + 1) k (by omega) (by omega)]; rfl
    · rfl
theorem rin_spec (ns : List ByteArray) (q : ByteArray) (hq : q.size ≤ 140737488351232) (B : Nat) (hB : q.size < B) (hps : ∀ q ∈ ns, q.size ≤ 140737488351232 ∧ q.size < B) (hl : ns.length ≤ 4398046511104) (k : Nat) (hk : ns.length + B < k) : tollbarref04_In.f k ns q = some (anyM ns q) := by
  have h := rin_loop ns q hq B hB hps hl ns.length 0 k (by omega) hk
  rw [Int.natCast_zero, List.drop_zero] at h
  exact h
theorem rwith_loop (fs : List FdT) (ns : List ByteArray) (hf : Fit fs) (B : Nat) (hB : ∀ x ∈ fs, x.f0.size < B) (hps : ∀ q ∈ ns, q.size ≤ 140737488351232 ∧ q.size < B) (hl : ns.length ≤ 4398046511104) (hfl : fs.length ≤ 4398046511103) : ∀ d i k acc, i + d = fs.length → d + ns.length + B < k → acc.length + d ≤ 4398046511103 → tollbarref04_Without.l0 k fs ns acc (i : Int) = some (acc ++ withM (fs.drop i) ns) := by
  intro d
  induction d with
  | zero =>
    intro i k acc hi hk ha; obtain ⟨k, rfl, _⟩ := suc hk
    simp only [tollbarref04_Without.l0]; rw [if_neg (by omega), List.drop_of_length_le (by omega)]; simp [withM]
  | succ d ih =>
    intro i k acc hi hk ha; obtain ⟨k, rfl, _⟩ := suc hk
    have h : i < fs.length := by omega
    have hb := hB _ (List.getElem_mem h)
    simp only [tollbarref04_Without.l0]
    rw [if_pos (by omega), if_pos (by omega), rd_fd fs i h, rin_spec ns _ (hf.at i h).1 B hb hps hl k (by omega), Option.bind_some, succ_cast i (by omega), List.drop_eq_getElem_cons h]
    unfold withM
    rw [List.filter_cons]
    cases anyM ns fs[i].f0
    · rw [if_neg (by simp), if_pos (by omega), if_pos (by rfl), ih (i + 1) k _ (by omega) (by omega) (by rw [List.length_append, List.length_singleton]; omega), List.append_assoc]; rfl
    · rw [if_pos rfl, if_neg (by simp), ih (i + 1) k acc (by omega) (by omega) (by omega)]; rfl
theorem rwith_spec (fs : List FdT) (ns : List ByteArray) (hf : Fit fs) (B : Nat) (hB : ∀ x ∈ fs, x.f0.size < B) (hps : ∀ q ∈ ns, q.size ≤ 140737488351232 ∧ q.size < B) (hl : ns.length ≤ 4398046511104) (hfl : fs.length ≤ 4398046511103) (k : Nat) (hk : fs.length + ns.length + B < k) : tollbarref04_Without.f k fs ns = some (withM fs ns) := by
  have h := rwith_loop fs ns hf B hB hps hl hfl fs.length 0 k [] (by omega) hk (by simp; omega)
  rw [Int.natCast_zero, List.drop_zero, List.nil_append] at h
  exact h

theorem rright_loop (fs : List FdT) (hf : Fit fs) (B : Nat) (hB : ∀ x ∈ fs, x.f0.size < B ∧ x.f1.size < B) (hl : fs.length ≤ 4398046511103) : ∀ d i k, i + d = fs.length → d + B + B + 3 < k → tollbarref04_Right.l0 k fs (i : Int) = some ((fs.drop i).all okS && decide ((fs.length : Int) ≤ 40)) := by
  intro d
  induction d with
  | zero =>
    intro i k hi hk; obtain ⟨k, rfl, _⟩ := suc hk
    simp only [tollbarref04_Right.l0]; rw [if_neg (by omega), List.drop_of_length_le (by omega)]; rfl
  | succ d ih =>
    intro i k hi hk; obtain ⟨k, rfl, _⟩ := suc hk
    have h : i < fs.length := by omega
    have hb := hB _ (List.getElem_mem h)
    have hfi := hf.at i h
    simp only [tollbarref04_Right.l0]
    rw [if_pos (by omega), if_pos (by omega), rd_fd fs i h, one_spec _ _ (by omega) (by omega) k (by omega) (by omega), Option.bind_some, succ_cast i (by omega), List.drop_eq_getElem_cons h, List.all_cons, ih (i + 1) k (by omega) (by omega)]
    show _ = some ((okF (L fs[i].f0) (L fs[i].f1) && _) && _)
    cases okF (L fs[i].f0) (L fs[i].f1) <;> rfl
theorem rright_spec (fs : List FdT) (hf : Fit fs) (B : Nat) (hB : ∀ x ∈ fs, x.f0.size < B ∧ x.f1.size < B) (hl : fs.length ≤ 4398046511103) (k : Nat) (hk : fs.length + B + B + 3 < k) : tollbarref04_Right.f k fs = some (rightM fs) := by
  have h := rright_loop fs hf B hB hl fs.length 0 k (by omega) hk
  rw [Int.natCast_zero, List.drop_zero] at h
  unfold tollbarref04_Right.f rightM
  rw [h, Bool.and_comm]
  congr 3
  simp only [eq_iff_iff]; omega

end Go.Proofs.YtijindelbagpiaaDoor.X
