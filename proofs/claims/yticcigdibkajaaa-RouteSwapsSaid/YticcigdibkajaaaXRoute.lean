/- What route.Fits and the document's Fits compute, on lists of bytes. -/
import Derived.Test.YticcigdibkajaaaPAllx1
import Derived.Test.YticcigdibkajaaaPAllx3
import Derived.Test.YticcigdibkajaaaXBytes
namespace Go.Proofs.Yticcigdibkajaaa.X
open Go.RowKit Go.Proofs.Yticcigdibkajaaa.PAll Go.Proofs.YticcigdibkajaaaW.PrintWords Go.Proofs.YticcigdibkajaaaW.PrintMore
set_option linter.unusedVariables false
set_option linter.unusedSimpArgs false

def pathOf (t : List UInt8) : List UInt8 := t.takeWhile (· != 63)
def fitsL (p t : List UInt8) : Bool := p.isPrefixOf (pathOf t) && (p.length == (pathOf t).length || p.getLast? == some 47 || (pathOf t)[p.length]? == some 47)

theorem cut_q (t : ByteArray) (ht : t.size ≤ 562949953404928) : ∃ a b : ByteArray, ∃ ok : Bool, strings_Cut.f t (⟨#[63]⟩ : ByteArray) = some (a, b, ok) ∧ L a = pathOf (L t) := by
  unfold strings_Cut.f stringslite_Cut.f stringslite_Index.f
  have h1 : (⟨#[63]⟩ : ByteArray).size = 1 := rfl
  have h2 : (bt (⟨#[63]⟩ : ByteArray) 0).toNat.toUInt8 = 63 := rfl
  rw [if_pos h1, h2]
  simp only [Option.bind_some, h1]
  have hi := indexByte_spec 63 t.data.toList
  by_cases hm : (63 : UInt8) ∈ t.data.toList
  · rw [if_pos hm] at hi
    rw [hi]
    have hl : (t.data.toList.takeWhile (· != 63)).length ≤ t.size := by
      have := (List.takeWhile_sublist (· != (63 : UInt8)) (l := t.data.toList)).length_le
      have h3 := L_len t
      simp only [L] at h3
      omega
    have hlt : (t.data.toList.takeWhile (· != 63)).length < t.size := by
      rcases Nat.lt_or_ge (t.data.toList.takeWhile (· != 63)).length t.size with h | h
      · exact h
      · exfalso
        have e : t.data.toList.takeWhile (· != 63) = t.data.toList := by
          apply (List.takeWhile_sublist _).eq_of_length_le
          have h3 := L_len t
          simp only [L] at h3
          omega
        have h5 := List.all_eq_true.1 (List.all_takeWhile (p := (· != (63 : UInt8))) (l := t.data.toList)) 63 (by rw [e]; exact hm)
        simp at h5
    generalize hn : (t.data.toList.takeWhile (· != 63)).length = n at *
    have hw : wrap64 ((n : Int) + ((1 : Nat) : Int)) = (n : Int) + 1 := by apply wrap64_in <;> omega
    rw [if_pos (by omega), if_pos (by omega), if_pos (by omega), hw, if_pos (by omega), if_pos (by omega)]
    refine ⟨_, _, _, rfl, ?_⟩
    rw [L_extract, List.drop_zero, Nat.sub_zero, Int.toNat_natCast]
    show t.data.toList.take n = _
    rw [← hn]
    exact takeWhile_take 63 _
  · rw [if_neg hm] at hi
    rw [hi, if_neg (by decide)]
    exact ⟨_, _, _, rfl, (takeWhile_all hm).symm⟩

theorem hasSuffix_slash (s : ByteArray) (hs : s.size ≤ 562949953404928) : strings_HasSuffix.f s (⟨#[47]⟩ : ByteArray) = some ((L s).getLast? == some 47) := by
  unfold strings_HasSuffix.f stringslite_HasSuffix.f
  have h1 : (⟨#[47]⟩ : ByteArray).size = 1 := rfl
  rw [h1]
  by_cases h : (s.size : Int) ≥ ((1 : Nat) : Int)
  · have hw : wrap64 ((s.size : Int) - ((1 : Nat) : Int)) = ((s.size - 1 : Nat) : Int) := by rw [wrap64_in] <;> omega
    rw [if_pos h, hw, if_pos (by omega), if_pos (by omega)]
    simp only [Option.bind_some, Option.some.injEq]
    rw [toList_eq, L_extract, toList_eq, Int.toNat_natCast]
    have e : (L s).getLast? = (L s)[s.size - 1]? := by rw [List.getLast?_eq_getElem?, L_len]
    have h3 := L_len s
    have hl : s.size - 1 < (L s).length := by omega
    rw [e, List.getElem?_eq_getElem hl, List.drop_eq_getElem_cons hl, show s.size - (s.size - 1) = 0 + 1 from by omega]
    simp only [List.take_succ_cons, List.take_zero]
    rw [Bool.eq_iff_iff]
    simp [L]
  · rw [if_neg h]
    have h0 : L s = [] := List.eq_nil_of_length_eq_zero (by rw [L_len]; omega)
    rw [h0]; rfl

theorem cutPrefix_spec (s p : ByteArray) : strings_CutPrefix.f s p = some (if (L p).isPrefixOf (L s) then (s.extract p.size s.size, true) else (s, false)) := by
  unfold strings_CutPrefix.f stringslite_CutPrefix.f stringslite_HasPrefix.f
  by_cases h : (s.size : Int) ≥ (p.size : Int)
  · rw [if_pos h, if_pos (by omega), if_pos (by omega)]
    simp only [Option.bind_some]
    have e : ((s.extract 0 p.size).toList == p.toList) = (L p).isPrefixOf (L s) := by
      rw [toList_eq, toList_eq, L_extract, List.drop_zero, Nat.sub_zero, Bool.eq_iff_iff, List.isPrefixOf_iff_prefix, beq_iff_eq, List.prefix_iff_eq_take, L_len]
      exact eq_comm
    rw [e]
    cases (L p).isPrefixOf (L s) with
    | true => rw [if_pos rfl, if_pos (by omega), if_pos (by omega)]; rfl
    | false => rfl
  · rw [if_neg h]
    have : (L p).isPrefixOf (L s) = false := by
      cases hh : (L p).isPrefixOf (L s) with
      | false => rfl
      | true =>
        have := (List.isPrefixOf_iff_prefix.1 hh).length_le
        rw [L_len, L_len] at this
        omega
    rw [this]; rfl

theorem fits_spec (p t : ByteArray) (hp : p.size ≤ 562949953404928) (ht : t.size ≤ 562949953404928) : route_Fits.f p t = some (fitsL (L p) (L t)) := by
  obtain ⟨a, b, ok, h1, ha⟩ := cut_q t ht
  unfold route_Fits.f
  rw [h1]
  simp only [Option.bind_some]
  rw [cutPrefix_spec a p, hasSuffix_slash p hp]
  simp only [Option.bind_some]
  unfold fitsL
  rw [← ha]
  cases hh : (L p).isPrefixOf (L a) with
  | false => simp
  | true =>
    have hpre := List.isPrefixOf_iff_prefix.1 hh
    have hle := hpre.length_le
    rw [L_len, L_len] at hle
    simp only [if_true, Bool.true_and]
    have e : L (a.extract p.size a.size) = (L a).drop p.size := by
      rw [L_extract, List.take_of_length_le (by rw [List.length_drop, L_len]; omega)]
    rw [toList_eq, e, size_extract]
    have hz := L_len a
    have hy := L_len p
    by_cases hd : p.size = a.size
    · have h0 : (L a).drop p.size = [] := List.drop_eq_nil_of_le (by omega)
      rw [if_pos h0]
      simp [hy, hz, hd]
    · have hn : ¬ (L a).drop p.size = [] := by
        intro h0
        have := List.drop_eq_nil_iff.1 h0
        omega
      rw [if_neg hn]
      have h3 : ((L p).length == (L a).length) = false := by rw [beq_eq_false_iff_ne]; omega
      rw [h3, Bool.false_or]
      cases hq : (L p).getLast? == some 47 with
      | true => simp
      | false =>
        rw [if_neg (by simp), if_pos (by omega), Bool.false_or]
        simp only [Option.some.injEq]
        rw [Bool.eq_iff_iff, beq_iff_eq, beq_iff_eq, hy]
        have := bt_eq_iff (a.extract p.size a.size) 0 47 (by rw [size_extract]; omega)
        rw [e, List.getElem?_drop, Nat.add_zero] at this
        exact this
end Go.Proofs.Yticcigdibkajaaa.X
