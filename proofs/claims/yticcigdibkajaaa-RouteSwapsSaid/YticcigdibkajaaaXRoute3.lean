/- What the document's Fits, Match and Rewrite compute, and route.Match, on lists of bytes. -/
import Derived.Test.YticcigdibkajaaaXRoute2
namespace Go.Proofs.Yticcigdibkajaaa.X
open Go.RowKit Go.Proofs.Yticcigdibkajaaa.PAll Go.Proofs.YticcigdibkajaaaW.PrintWords Go.Proofs.YticcigdibkajaaaW.PrintMore
set_option linter.unusedVariables false
set_option linter.unusedSimpArgs false

/-- the place of the first ? from i on, or the end -/
def endFrom (t : List UInt8) (i : Nat) : Nat := i + (pathOf (t.drop i)).length
theorem endFrom_end (t : List UInt8) : endFrom t t.length = t.length := by simp [endFrom, pathOf]
theorem endFrom_hit (t : List UInt8) (i : Nat) (h : t[i]? = some 63) : endFrom t i = i := by
  have hl := (List.getElem?_eq_some_iff.1 h).1
  unfold endFrom pathOf
  rw [List.drop_eq_getElem_cons hl, (List.getElem?_eq_some_iff.1 h).2, List.takeWhile_cons]
  simp
theorem endFrom_miss (t : List UInt8) (i : Nat) (hl : i < t.length) (h : t[i]? ≠ some 63) : endFrom t i = endFrom t (i + 1) := by
  unfold endFrom pathOf
  rw [List.drop_eq_getElem_cons hl, List.takeWhile_cons]
  have h2 : (t[i] != 63) = true := by
    rw [List.getElem?_eq_getElem hl] at h
    simpa using h
  rw [if_pos h2, List.length_cons]
  omega

theorem refFits_tail (p t : ByteArray) (hp : p.size ≤ 562949953404928) (ht : t.size ≤ 562949953404928) (k : Nat) :
    tollbarref11_Fits.l0 (k + 1) p t (((pathOf (L t)).length : Nat) : Int) (-1) = some (fitsL (L p) (L t)) := by
  simp only [tollbarref11_Fits.l0]
  have hq : (pathOf (L t)).length ≤ t.size := by
    have := (List.takeWhile_sublist (· != (63 : UInt8)) (l := L t)).length_le
    rw [L_len] at this
    exact this
  have hqt : pathOf (L t) = (L t).take (pathOf (L t)).length := (takeWhile_take 63 (L t)).symm
  rw [if_neg (by omega)]
  have hy := L_len p
  have hz := L_len t
  unfold fitsL
  by_cases h1 : (p.size : Int) > ((pathOf (L t)).length : Int)
  · rw [if_pos h1]
    have : (L p).isPrefixOf (pathOf (L t)) = false := by
      cases hh : (L p).isPrefixOf (pathOf (L t)) with
      | false => rfl
      | true =>
        have := (List.isPrefixOf_iff_prefix.1 hh).length_le
        omega
    rw [this]; rfl
  · rw [if_neg h1, if_pos (by omega), if_pos (by omega)]
    have e0 : ((t.extract 0 p.size).toList = p.toList) ↔ (L p).isPrefixOf (pathOf (L t)) = true := by
      rw [toList_eq, toList_eq, L_extract, List.drop_zero, Nat.sub_zero, List.isPrefixOf_iff_prefix, List.prefix_iff_eq_take, hy]
      rw [hqt, List.take_take, Nat.min_eq_left (by omega)]
      exact eq_comm
    by_cases h2 : (t.extract 0 p.size).toList = p.toList
    · rw [if_pos h2, e0.1 h2, Bool.true_and]
      by_cases h3 : (p.size : Int) = ((pathOf (L t)).length : Int)
      · rw [if_pos h3]
        have h4 : ((L p).length == (pathOf (L t)).length) = true := by rw [beq_iff_eq]; omega
        rw [h4]; rfl
      · rw [if_neg h3]
        have h4 : ((L p).length == (pathOf (L t)).length) = false := by rw [beq_eq_false_iff_ne]; omega
        rw [h4, Bool.false_or]
        have hb : (bt t (p.size : Int) == 47) = ((pathOf (L t))[(L p).length]? == some 47) := by
          rw [Bool.eq_iff_iff, beq_iff_eq, beq_iff_eq]
          have := bt_eq_iff t p.size 47 (by omega)
          have h5 : (pathOf (L t))[(L p).length]? = (L t)[p.size]? := by
            conv => lhs; rw [hqt]
            rw [hy, List.getElem?_take, if_pos (by omega)]
          rw [h5]
          exact this
        have hw : wrap64 ((p.size : Int) - 1) = (p.size : Int) - 1 := by apply wrap64_in <;> omega
        by_cases h5 : (p.size : Int) > 0
        · rw [if_pos h5, hw, if_pos (by omega), if_pos (by omega)]
          have e1 : ((p.size : Int) - 1) = ((p.size - 1 : Nat) : Int) := by omega
          have hl : (L p).getLast? = (L p)[p.size - 1]? := by rw [List.getLast?_eq_getElem?, L_len]
          have h6 := bt_eq_iff p (p.size - 1) 47 (by omega)
          rw [e1]
          by_cases h7 : bt p ((p.size - 1 : Nat) : Int) = 47
          · rw [if_pos h7, hl, h6.1 h7]; simp
          · rw [if_neg h7, if_pos (by omega), hb]
            have h8 : ((L p).getLast? == some 47) = false := by
              rw [beq_eq_false_iff_ne, hl]; exact fun e => h7 (h6.2 e)
            rw [h8, Bool.false_or]
        · rw [if_neg h5, if_pos (by omega), hb]
          have h8 : L p = [] := List.eq_nil_of_length_eq_zero (by omega)
          rw [h8]; simp
    · rw [if_neg h2]
      have : (L p).isPrefixOf (pathOf (L t)) = false := by
        cases hh : (L p).isPrefixOf (pathOf (L t)) with
        | false => rfl
        | true => exact absurd (e0.2 hh) h2
      rw [this]; rfl

theorem refFits_loop (p t : ByteArray) (hp : p.size ≤ 562949953404928) (ht : t.size ≤ 562949953404928) : ∀ (d k : Nat), d ≤ t.size → d + 1 ≤ k →
    tollbarref11_Fits.l0 k p t ((endFrom (L t) d : Nat) : Int) ((d : Int) - 1) = some (fitsL (L p) (L t)) := by
  intro d
  induction d with
  | zero =>
    intro k hd hk
    obtain ⟨k, rfl⟩ : ∃ m, k = m + 1 := ⟨k - 1, by omega⟩
    have := refFits_tail p t hp ht k
    have e : endFrom (L t) 0 = (pathOf (L t)).length := by simp [endFrom]
    rw [e]
    exact this
  | succ d ih =>
    intro k hd hk
    obtain ⟨k, rfl⟩ : ∃ m, k = m + 1 := ⟨k - 1, by omega⟩
    simp only [tollbarref11_Fits.l0]
    have e1 : (((d + 1 : Nat) : Int) - 1) = (d : Int) := by omega
    rw [e1, if_pos (by omega), if_pos (by omega), if_pos (by omega)]
    have hw : wrap64 ((d : Int) - 1) = (d : Int) - 1 := by apply wrap64_in <;> omega
    rw [hw]
    have h6 := bt_eq_iff t d 63 (by omega)
    have hz := L_len t
    by_cases h : bt t (d : Int) = 63
    · rw [if_pos h]
      have := ih k (by omega) (by omega)
      rw [endFrom_hit (L t) d (h6.1 h)] at this
      exact this
    · rw [if_neg h, ← endFrom_miss (L t) d (by omega) (fun e => h (h6.2 e))]
      exact ih k (by omega) (by omega)

theorem refFits_spec (p t : ByteArray) (hp : p.size ≤ 562949953404928) (ht : t.size ≤ 562949953404928) (k : Nat) (hk : t.size + 1 ≤ k) : tollbarref11_Fits.f k p t = some (fitsL (L p) (L t)) := by
  unfold tollbarref11_Fits.f
  have := refFits_loop p t hp ht t.size k (Nat.le_refl _) hk
  have e : endFrom (L t) t.size = t.size := by have := endFrom_end (L t); rwa [L_len] at this
  have hw : wrap64 ((t.size : Int) - 1) = (t.size : Int) - 1 := by apply wrap64_in <;> omega
  rw [e] at this
  rw [hw]
  exact this
end Go.Proofs.Yticcigdibkajaaa.X
