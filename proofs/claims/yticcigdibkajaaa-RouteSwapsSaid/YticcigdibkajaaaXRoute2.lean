/- What route.Rewrite and the document's Fits, Match and Rewrite compute, on lists of bytes. -/
import Derived.Test.YticcigdibkajaaaPAllx1
import Derived.Test.YticcigdibkajaaaPAllx2
import Derived.Test.YticcigdibkajaaaPAllx3
import Derived.Test.YticcigdibkajaaaPAllx4
import Derived.Test.YticcigdibkajaaaXRoute
namespace Go.Proofs.Yticcigdibkajaaa.X
open Go.RowKit Go.Proofs.Yticcigdibkajaaa.PAll Go.Proofs.YticcigdibkajaaaW.PrintWords Go.Proofs.YticcigdibkajaaaW.PrintMore
set_option linter.unusedVariables false
set_option linter.unusedSimpArgs false

/-- the rest, as it stands behind Swap -/
def restL (swap rest : List UInt8) : List UInt8 :=
  if swap.getLast? = some 47 then (if rest[0]? = some 47 then rest.drop 1 else rest)
  else if rest = [] ∨ rest[0]? = some 47 ∨ rest[0]? = some 63 then rest else 47 :: rest
def rewL (p swap t : List UInt8) : List UInt8 × Bool :=
  if fitsL p t then (if (swap ++ restL swap (t.drop p.length)).length > 512 then ([], false) else (swap ++ restL swap (t.drop p.length), true)) else ([], false)

theorem fits_le {p t : List UInt8} (h : fitsL p t = true) : p.length ≤ t.length := by
  unfold fitsL at h
  have h1 : p.isPrefixOf (pathOf t) = true := by
    cases hh : p.isPrefixOf (pathOf t) with
    | true => rfl
    | false => rw [hh] at h; simp at h
  have h2 := (List.isPrefixOf_iff_prefix.1 h1).length_le
  have h3 := (List.takeWhile_sublist (· != (63 : UInt8)) (l := t)).length_le
  unfold pathOf at h2
  omega

theorem hasPrefix_slash (s : ByteArray) : strings_HasPrefix.f s (⟨#[47]⟩ : ByteArray) = some ((L s)[0]? == some 47) := by
  unfold strings_HasPrefix.f stringslite_HasPrefix.f
  have h1 : (⟨#[47]⟩ : ByteArray).size = 1 := rfl
  rw [h1]
  have h3 := L_len s
  by_cases h : (s.size : Int) ≥ ((1 : Nat) : Int)
  · rw [if_pos h, if_pos (by omega), if_pos (by omega)]
    simp only [Option.bind_some, Option.some.injEq]
    rw [toList_eq, L_extract, toList_eq, List.drop_zero]
    rcases hl : L s with _ | ⟨c, l⟩
    · rw [hl] at h3; simp at h3; omega
    · rw [Bool.eq_iff_iff]; simp [L]
  · rw [if_neg h]
    have h0 : L s = [] := List.eq_nil_of_length_eq_zero (by omega)
    rw [h0]; rfl

theorem out_spec (swap rest : ByteArray) (hs : swap.size + rest.size ≤ 9223372036854775807) :
    (if swap.size + rest.size ≤ 9223372036854775807 then (if ((swap ++ rest).size : Int) > 512 then (some ((⟨#[]⟩ : ByteArray), false)) else (some (swap ++ rest, true))) else none) =
      some (if (L swap ++ L rest).length > 512 then ((⟨#[]⟩ : ByteArray), false) else (swap ++ rest, true)) := by
  rw [if_pos hs]
  have e : (L swap ++ L rest).length = (swap ++ rest).size := by rw [← L_append, L_len]
  rw [e]
  by_cases h : ((swap ++ rest).size : Int) > 512
  · rw [if_pos h, if_pos (by omega)]
  · rw [if_neg h, if_neg (by omega)]

/-- a result's bytes -/
def RB (r : Option (ByteArray × Bool)) (x : List UInt8 × Bool) : Prop := ∃ s, r = some (s, x.2) ∧ L s = x.1
theorem RB_out (swap rest : ByteArray) (hs : swap.size + rest.size ≤ 9223372036854775807) :
    RB (if swap.size + rest.size ≤ 9223372036854775807 then (if ((swap ++ rest).size : Int) > 512 then (some ((⟨#[]⟩ : ByteArray), false)) else (some (swap ++ rest, true))) else none)
      (if (L swap ++ L rest).length > 512 then ([], false) else (L swap ++ L rest, true)) := by
  rw [out_spec swap rest hs]
  split
  · exact ⟨_, rfl, rfl⟩
  · exact ⟨_, rfl, L_append _ _⟩

theorem rewrite_spec (p u swap t : ByteArray) (hp : p.size ≤ 562949953404928) (ht : t.size ≤ 562949953404928) (hs : swap.size ≤ 562949953404928) (k : Nat) (hk : 2 ≤ k) :
    RB (route_Rewrite.f k p u swap t) (rewL (L p) (L swap) (L t)) := by
  obtain ⟨k, rfl⟩ : ∃ m, k = m + 2 := ⟨k - 2, by omega⟩
  unfold route_Rewrite.f
  rw [fits_spec p t hp ht]
  simp only [Option.bind_some]
  unfold rewL
  cases hf : fitsL (L p) (L t) with
  | false => exact ⟨_, by simp; rfl, rfl⟩
  | true =>
    have hle := fits_le hf
    rw [L_len, L_len] at hle
    simp only [if_true]
    rw [if_pos (by omega), if_pos (by omega), hasSuffix_slash swap hs]
    simp only [Option.bind_some]
    have er : L (t.extract p.size t.size) = (L t).drop (L p).length := by
      rw [L_extract, L_len, List.take_of_length_le (by rw [List.length_drop, L_len]; omega)]
    rw [← er]
    have hrs : (t.extract p.size t.size).size ≤ 562949953404928 := by rw [size_extract]; omega
    generalize t.extract p.size t.size = rest at *
    rw [hasPrefix_slash rest]
    simp only [Option.bind_some]
    have hz := L_len rest
    cases hsl : (L swap).getLast? == some 47 with
    | true =>
      rw [if_pos rfl]
      have h1 := beq_iff_eq.1 hsl
      cases hr : (L rest)[0]? == some 47 with
      | true =>
        have h2 := beq_iff_eq.1 hr
        have h4 : 0 < rest.size := by
          rcases Nat.eq_zero_or_pos rest.size with h | h
          · have : L rest = [] := List.eq_nil_of_length_eq_zero (by omega)
            rw [this] at h2; simp at h2
          · exact h
        have e2 : restL (L swap) (L rest) = L (rest.extract 1 rest.size) := by
          unfold restL
          rw [if_pos h1, if_pos h2, L_extract, List.take_of_length_le (by rw [List.length_drop]; omega)]
        rw [e2]
        simp only [route_Rewrite.j0, if_true]
        rw [if_pos (by omega)]
        have hq : rest.size - 1 = (rest.extract 1 rest.size).size := by rw [size_extract]; omega
        first
        | exact RB_out swap (rest.extract 1 rest.size) (by rw [size_extract]; omega)
        | (rw [hq]; exact RB_out swap (rest.extract 1 rest.size) (by rw [size_extract]; omega))
      | false =>
        have h2 : ¬ (L rest)[0]? = some 47 := beq_eq_false_iff_ne.1 hr
        have e2 : restL (L swap) (L rest) = L rest := by
          unfold restL
          rw [if_pos h1, if_neg h2]
        rw [e2]
        simp only [route_Rewrite.j0, if_true, Bool.false_eq_true, if_false]
        simp only [route_Rewrite.j1, Bool.false_eq_true, if_false]
        exact RB_out swap rest (by omega)
    | false =>
      have h1 : ¬ (L swap).getLast? = some 47 := beq_eq_false_iff_ne.1 hsl
      rw [if_neg (by simp)]
      simp only [route_Rewrite.j0, Bool.false_eq_true, if_false]
      rw [toList_eq]
      by_cases h0 : L rest = []
      · have e2 : restL (L swap) (L rest) = L rest := by
          unfold restL
          rw [if_neg h1, if_pos (Or.inl h0)]
        rw [e2, if_pos h0]
        simp only [route_Rewrite.j1, Bool.false_eq_true, if_false]
        exact RB_out swap rest (by omega)
      · rw [if_neg h0]
        have h4 : 0 < rest.size := by
          rcases Nat.eq_zero_or_pos rest.size with h | h
          · exact absurd (List.eq_nil_of_length_eq_zero (by omega)) h0
          · exact h
        rw [if_pos (by omega)]
        have h47 : bt rest 0 = 47 ↔ (L rest)[0]? = some 47 := bt_eq_iff rest 0 47 h4
        have h63 : bt rest 0 = 63 ↔ (L rest)[0]? = some 63 := bt_eq_iff rest 0 63 h4
        by_cases h2 : bt rest 0 = 47
        · have e2 : restL (L swap) (L rest) = L rest := by
            unfold restL
            rw [if_neg h1, if_pos (Or.inr (Or.inl (h47.1 h2)))]
          rw [if_pos h2, e2]
          simp only [route_Rewrite.j1, Bool.false_eq_true, if_false]
          exact RB_out swap rest (by omega)
        · rw [if_neg h2]
          by_cases h3 : bt rest 0 = 63
          · have e2 : restL (L swap) (L rest) = L rest := by
              unfold restL
              rw [if_neg h1, if_pos (Or.inr (Or.inr (h63.1 h3)))]
            rw [e2]
            simp only [route_Rewrite.j1]
            rw [if_neg (by simp [h3])]
            exact RB_out swap rest (by omega)
          · have e3 : restL (L swap) (L rest) = L ((⟨#[47]⟩ : ByteArray) ++ rest) := by
              unfold restL
              rw [if_neg h1, if_neg (by rintro (h | h | h); exact h0 h; exact h2 (h47.2 h); exact h3 (h63.2 h)), L_append]; rfl
            rw [e3]
            simp only [route_Rewrite.j1]
            have hh : (bt rest 0 != 63) = true := by simpa using h3
            rw [if_pos hh, if_pos (by omega)]
            exact RB_out swap ((⟨#[47]⟩ : ByteArray) ++ rest) (by rw [size_append]; have : (⟨#[47]⟩ : ByteArray).size = 1 := rfl; omega)
end Go.Proofs.Yticcigdibkajaaa.X
