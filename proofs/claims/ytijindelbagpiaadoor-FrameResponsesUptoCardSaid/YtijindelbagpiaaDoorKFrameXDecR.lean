/- What the document's Decimal computes. -/
import Derived.Test.YtijindelbagpiaaDoorPFramex5
import Derived.Test.YtijindelbagpiaaDoorKFrameXDec
namespace Go.Proofs.YtijindelbagpiaaDoor.X
open Go.RowKit Go.Proofs.YtijindelbagpiaaDoor.PFrame Go.Proofs.YtijindelbagpiaaDoorW.PrintWords Go.Proofs.YtijindelbagpiaaDoorW.PrintMore
set_option linter.unusedVariables false
set_option linter.unusedSimpArgs false

theorem rdigit_fin : ∀ n : Fin 256, tollbarref02_Digit.f ((n.val : Nat) : Int) = some (digB n.val.toUInt8) := by decide +kernel
theorem rdigit (c : UInt8) : tollbarref02_Digit.f (c.toNat : Int) = some (digB c) := by
  have h := rdigit_fin ⟨c.toNat, c.toNat_lt⟩
  have e : (c.toNat).toUInt8 = c := by simp
  simp only [e] at h
  exact h
theorem rdec_loop (s : ByteArray) (hs : 1 ≤ s.size) (hs2 : s.size ≤ 18) : ∀ d i k, i + d = s.size → d < k → ((L s).take i).all digB = true → tollbarref02_Decimal.l0 k s ((valueL ((L s).take i) : Nat) : Int) (i : Int) = some (match decM s with | some n => ((n : Int), true) | none => (0, false)) := by
  intro d
  induction d with
  | zero =>
    intro i k hi hk ha; obtain ⟨k, rfl, _⟩ := suc hk
    have hfull : (L s).take i = L s := List.take_of_length_le (by rw [L_len]; omega)
    rw [hfull] at ha ⊢
    simp only [tollbarref02_Decimal.l0]
    rw [if_neg (by omega)]
    unfold decM
    rw [ha, decide_eq_true hs, decide_eq_true hs2]; rfl
  | succ d ih =>
    intro i k hi hk ha; obtain ⟨k, rfl, _⟩ := suc hk
    have h : i < s.size := by omega
    have hta := take_all s i h digB
    rw [ha, Bool.true_and] at hta
    simp only [tollbarref02_Decimal.l0]
    rw [if_pos (by omega), if_pos (by omega), bt_get s i h, rdigit, Option.bind_some, succ_cast i (by omega)]
    cases hd : digB ((L s)[i]'(lt_L h)) with
    | false =>
      have hdec : decM s = none := by
        unfold decM
        have : (L s).all digB = false := by
          rw [List.all_eq_false]
          exact ⟨_, List.getElem_mem (lt_L h), by rw [hd]; simp⟩
        rw [this]; rfl
      rw [hdec, if_neg (by simp)]
    | true =>
      have hdb : 48 ≤ ((L s)[i]'(lt_L h)).toNat ∧ ((L s)[i]'(lt_L h)).toNat ≤ 57 := by
        unfold digB at hd; simpa using hd
      rw [hd] at hta
      have hi2 := ih (i + 1) k (by omega) (by omega) hta
      rw [take_val s i h] at hi2
      have hv : valueL ((L s).take i) < 100000000000000000 := by
        have h1 := valueL_lt _ ha
        have h2 : ((L s).take i).length ≤ 17 := by rw [List.length_take]; omega
        have h3 : 10 ^ ((L s).take i).length ≤ 10 ^ 17 := Nat.pow_le_pow_right (by omega) h2
        omega
      have hm : ((((L s)[i]'(lt_L h)).toNat : Nat) : Int) - 48 = ((((L s)[i]'(lt_L h)).toNat - 48 : Nat) : Int) := by omega
      have hm2 : ((((L s)[i]'(lt_L h)).toNat - 48 : Nat) : Int) % 256 = ((((L s)[i]'(lt_L h)).toNat - 48 : Nat) : Int) := by omega
      rcases mulw (valueL ((L s).take i)) (((L s)[i]'(lt_L h)).toNat - 48) (by omega) (by omega) with hw | hw
      · rw [if_pos rfl, hm, hm2, hw]; exact hi2
      · omega
theorem rdec_spec (s : ByteArray) (hs : s.size ≤ 562949953421312) (k : Nat) (hk : 20 < k) : tollbarref02_Decimal.f k s = some (match decM s with | some n => ((n : Int), true) | none => (0, false)) := by
  obtain ⟨k, rfl, _⟩ := suc hk
  unfold tollbarref02_Decimal.f
  by_cases h1 : (s.size : Int) < 1
  · rw [if_pos h1]; simp only [tollbarref02_Decimal.j0]; rw [if_pos trivial]
    have : decM s = none := by unfold decM; rw [decide_eq_false (show ¬ 1 ≤ s.size by omega)]; simp
    rw [this]
  · rw [if_neg h1]; simp only [tollbarref02_Decimal.j0]
    by_cases h2 : (s.size : Int) > 18
    · rw [decide_eq_true h2, if_pos rfl]
      have : decM s = none := by unfold decM; rw [decide_eq_false (show ¬ s.size ≤ 18 by omega)]; simp
      rw [this]
    · rw [decide_eq_false h2, if_neg (by simp)]
      have h := rdec_loop s (by omega) (by omega) s.size 0 k (by omega) (by omega) (by simp)
      rw [Int.natCast_zero] at h
      exact h
end Go.Proofs.YtijindelbagpiaaDoor.X
