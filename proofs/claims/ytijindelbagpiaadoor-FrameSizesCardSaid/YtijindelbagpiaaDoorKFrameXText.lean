/- The number's text that a law writes. -/
import Derived.Test.YtijindelbagpiaaDoorPFramex8
import Derived.Test.YtijindelbagpiaaDoorKFrameXDig
namespace Go.Proofs.YtijindelbagpiaaDoor.X
open Go.RowKit Go.Proofs.YtijindelbagpiaaDoor.PFrame Go.Proofs.YtijindelbagpiaaDoorW.PrintWords Go.Proofs.YtijindelbagpiaaDoorW.PrintMore
set_option linter.unusedVariables false
set_option linter.unusedSimpArgs false
theorem fold_acc (l : List UInt8) : ∀ a : Nat, l.foldl (fun n c => n * 10 + (c.toNat - 48)) a = a * 10 ^ l.length + valueL l := by
  induction l with
  | nil => intro a; simp [valueL]
  | cons c l ih =>
    intro a
    have h0 : valueL (c :: l) = (0 * 10 + (c.toNat - 48)) * 10 ^ l.length + valueL l := ih _
    rw [List.foldl_cons, ih, h0, List.length_cons, Nat.pow_succ]
    have e : (a * 10 + (c.toNat - 48)) * 10 ^ l.length = a * (10 ^ l.length * 10) + (0 * 10 + (c.toNat - 48)) * 10 ^ l.length := by
      rw [Nat.add_mul, Nat.zero_mul, Nat.zero_add, Nat.mul_assoc, Nat.mul_comm 10]
    rw [e]; omega
theorem valueL_cons (c : UInt8) (l : List UInt8) : valueL (c :: l) = (c.toNat - 48) * 10 ^ l.length + valueL l := by
  show l.foldl (fun n c => n * 10 + (c.toNat - 48)) (0 * 10 + (c.toNat - 48)) = _
  rw [fold_acc, Nat.zero_mul, Nat.zero_add]
theorem dig_of (m : Nat) : strOfNums [(wrap64 (48 + (Int.tmod (m : Int) 10))) % 256] = mkB [(48 + m % 10).toUInt8] := by
  have e1 : Int.tmod (m : Int) 10 = ((m % 10 : Nat) : Int) := rfl
  have e2 : (wrap64 (48 + ((m % 10 : Nat) : Int))) % 256 = ((48 + m % 10 : Nat) : Int) := by unfold wrap64; omega
  rw [e1, e2]
  show (⟨#[(((48 + m % 10 : Nat) : Int)).toNat.toUInt8]⟩ : ByteArray) = ⟨#[(48 + m % 10).toUInt8]⟩
  rw [Int.toNat_natCast]
theorem dig_ok : ∀ n : Fin 10, digB (48 + n.val).toUInt8 = true ∧ ((48 + n.val).toUInt8).toNat - 48 = n.val := by decide
theorem tdiv10 (m : Nat) (h : m < 1000000000000000000) : wrap64 (Int.tdiv (m : Int) 10) = ((m / 10 : Nat) : Int) := by
  have e1 : Int.tdiv (m : Int) 10 = ((m / 10 : Nat) : Int) := rfl
  rw [e1]; unfold wrap64; omega
theorem text_step (m : Nat) (word : ByteArray) (hm : m < 1000000000000000000) : L (mkB [(48 + m % 10).toUInt8] ++ word) = (48 + m % 10).toUInt8 :: L word ∧ (mkB [(48 + m % 10).toUInt8] ++ word).size = word.size + 1 := by
  have h : L (mkB [(48 + m % 10).toUInt8] ++ word) = (48 + m % 10).toUInt8 :: L word := by rw [L_append, L_mkB]; rfl
  refine ⟨h, ?_⟩
  rw [← L_len, h, List.length_cons, L_len]
theorem text_loop : ∀ j (m : Nat) (word : ByteArray) k, m < 10 ^ j → m < 1000000000000000000 → word.size + j ≤ 100 → L word ≠ [] → (L word).all digB = true → j < k →
    ∃ t, tollbarlaw07_FrameBoth_1.l0 k (m : Int) word = some t ∧ (L t).all digB = true ∧ t.size ≤ word.size + j ∧ valueL (L t) = m * 10 ^ word.size + valueL (L word) ∧ 1 ≤ t.size := by
  intro j
  induction j with
  | zero =>
    intro m word k hm hm2 hs hw hg hk
    obtain ⟨k, rfl, _⟩ := suc hk
    have : m = 0 := by omega
    subst this
    refine ⟨word, ?_, hg, by omega, by omega, ?_⟩
    · simp only [tollbarlaw07_FrameBoth_1.l0]
      rw [toList_eq, if_neg hw, if_neg (by omega)]
    · rw [← L_len]; exact List.length_pos_iff.2 hw
  | succ j ih =>
    intro m word k hm hm2 hs hw hg hk
    obtain ⟨k, rfl, _⟩ := suc hk
    by_cases h0 : m = 0
    · subst h0
      refine ⟨word, ?_, hg, by omega, by omega, ?_⟩
      · simp only [tollbarlaw07_FrameBoth_1.l0]
        rw [toList_eq, if_neg hw, if_neg (by omega)]
      · rw [← L_len]; exact List.length_pos_iff.2 hw
    · obtain ⟨e1, e2⟩ := text_step m word hm2
      have hd := dig_ok ⟨m % 10, by omega⟩
      have hm10 : m / 10 < 10 ^ j := by rw [Nat.pow_succ] at hm; omega
      obtain ⟨t, h1, h2, h3, h4, h5⟩ := ih (m / 10) (mkB [(48 + m % 10).toUInt8] ++ word) k hm10 (by omega) (by omega) (by rw [e1]; simp) (by rw [e1, List.all_cons, hg, hd.1]; rfl) (by omega)
      refine ⟨t, ?_, h2, by omega, ?_, h5⟩
      · simp only [tollbarlaw07_FrameBoth_1.l0, Option.bind_some]
        rw [toList_eq, if_neg hw, if_pos (by omega), dig_of, if_pos (by rw [size_mkB]; simp; omega), tdiv10 m hm2, h1]
      · rw [h4, e1, e2, valueL_cons, hd.2, L_len, Nat.pow_succ]
        have e : m = m / 10 * 10 + m % 10 := by omega
        have e3 : m * 10 ^ word.size = (m / 10 * 10 + m % 10) * 10 ^ word.size := by rw [← e]
        show _ = m * 10 ^ word.size + _
        rw [e3, Nat.add_mul, Nat.mul_assoc (m / 10), Nat.mul_comm 10]
        show _ + ((m % 10) * _ + _) = _
        omega
theorem text_spec (n : Nat) (hn : n < 8192) (k : Nat) (hk : 10 ≤ k) : ∃ t, tollbarlaw07_FrameBoth_1.f k (n : Int) = some t ∧ decM t = some n ∧ parts t = [t] ∧ t.size ≤ 4 ∧ (L t).all digB = true := by
  obtain ⟨k, rfl, _⟩ := suc (show 0 < k by omega)
  obtain ⟨e1, e2⟩ := text_step n (⟨#[]⟩ : ByteArray) (by omega)
  have hd := dig_ok ⟨n % 10, by omega⟩
  have hsz : (⟨#[]⟩ : ByteArray).size = 0 := rfl
  obtain ⟨t, h1, h2, h3, h4, h5⟩ := text_loop 3 (n / 10) (mkB [(48 + n % 10).toUInt8] ++ (⟨#[]⟩ : ByteArray)) k (by omega) (by omega) (by omega) (by rw [e1]; simp) (by rw [e1, List.all_cons, hd.1]; rfl) (by omega)
  have hv : valueL (L t) = n := by
    rw [h4, e1, e2, valueL_cons, hd.2]
    show n / 10 * 10 ^ (0 + 1) + ((n % 10) * 10 ^ 0 + 0) = n
    omega
  refine ⟨t, ?_, ?_, parts_dig t h2 ?_, by omega, h2⟩
  · unfold tollbarlaw07_FrameBoth_1.f
    simp only [tollbarlaw07_FrameBoth_1.l0, Option.bind_some]
    rw [if_pos (by rw [toList_eq]), dig_of, if_pos (by rw [size_mkB, hsz]; simp), tdiv10 n (by omega), h1]
  · unfold decM
    rw [h2, decide_eq_true h5, decide_eq_true (show t.size ≤ 18 by omega), hv]; rfl
  · intro e
    have := L_len t
    rw [e] at this
    simp at this; omega
end Go.Proofs.YtijindelbagpiaaDoor.X
