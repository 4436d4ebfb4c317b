/- What field.Parse computes: the field of a line. -/
import Derived.Test.YtijindelbagpiaaDoorPAllx4
import Derived.Test.YtijindelbagpiaaDoorXField1
namespace Go.Proofs.YtijindelbagpiaaDoor.X
open Go.RowKit Go.Proofs.YtijindelbagpiaaDoor.PAll Go.Proofs.YtijindelbagpiaaDoorW.PrintWords Go.Proofs.YtijindelbagpiaaDoorW.PrintMore
set_option linter.unusedVariables false
set_option linter.unusedSimpArgs false

/-- is a field right? -/
theorem cut_pos (s : ByteArray) (i : Nat) (hi : i < s.size) (hs : s.size ≤ 562949953421312) (hc : (L s)[i]? = some 58) (h0 : 58 ∉ (L s).take i) : strings_Cut.f s (⟨#[58]⟩ : ByteArray) = some (s.extract 0 i, s.extract (i + 1) s.size, true) := by
  unfold strings_Cut.f stringslite_Cut.f stringslite_Index.f
  have h1 : (⟨#[58]⟩ : ByteArray).size = 1 := rfl
  have h2 : (bt (⟨#[58]⟩ : ByteArray) 0).toNat.toUInt8 = 58 := rfl
  rw [if_pos h1, h2]
  simp only [Option.bind_some, h1]
  have hx := indexByte_spec 58 s.data.toList
  have hm : (58 : UInt8) ∈ s.data.toList := List.mem_of_getElem? hc
  have hl : s.data.toList = (L s).take i ++ 58 :: (L s).drop (i + 1) := by
    have e : (L s)[i]'(lt_L hi) = 58 := by rw [List.getElem?_eq_getElem (lt_L hi)] at hc; exact Option.some.inj hc
    rw [← e, ← drop_get s i hi, List.take_append_drop]
  have ht : (s.data.toList.takeWhile (· != 58)).length = i := by
    rw [hl, List.takeWhile_append_of_pos (fun a ha => by simp only [bne_iff_ne, ne_eq]; rintro rfl; exact h0 ha), List.takeWhile_cons, if_neg (by simp), List.append_nil, List.length_take, L_len]
    omega
  rw [if_pos hm, ht] at hx
  rw [hx]
  have hw : wrap64 ((i : Int) + ((1 : Nat) : Int)) = ((i + 1 : Nat) : Int) := by rw [wrap64_in] <;> omega
  rw [if_pos (by omega), if_pos (by omega), if_pos (by omega), hw, if_pos (by omega), if_pos (by omega), Int.toNat_natCast, Int.toNat_natCast]
  rfl
theorem cut_neg (s : ByteArray) (h0 : 58 ∉ L s) : strings_Cut.f s (⟨#[58]⟩ : ByteArray) = some (s, (⟨#[]⟩ : ByteArray), false) := by
  unfold strings_Cut.f stringslite_Cut.f stringslite_Index.f
  have h1 : (⟨#[58]⟩ : ByteArray).size = 1 := rfl
  have h2 : (bt (⟨#[58]⟩ : ByteArray) 0).toNat.toUInt8 = 58 := rfl
  rw [if_pos h1, h2]
  simp only [Option.bind_some, h1]
  rw [indexByte_spec, if_neg h0, if_neg (by decide)]
  rfl

/-- the field of a line: its name and its value, if there is one -/
def fieldOf (s : ByteArray) : Option (ByteArray × ByteArray) :=
  if 58 ∈ L s then
    (if okF ((L s).takeWhile (· != 58)) (trimL (((L s).dropWhile (· != 58)).drop 1)) then
      some (⟨((L s).takeWhile (· != 58)).toArray⟩, ⟨(trimL (((L s).dropWhile (· != 58)).drop 1)).toArray⟩) else none)
  else none
theorem tw_at {l : List UInt8} {i : Nat} (hc : l[i]? = some 58) (h0 : 58 ∉ l.take i) : l.takeWhile (· != 58) = l.take i ∧ (l.dropWhile (· != 58)).drop 1 = l.drop (i + 1) := by
  have hi : i < l.length := (List.getElem?_eq_some_iff.1 hc).1
  have e : l[i] = 58 := by rw [List.getElem?_eq_getElem hi] at hc; exact Option.some.inj hc
  have hl : l = l.take i ++ 58 :: l.drop (i + 1) := by
    rw [← e, ← List.drop_eq_getElem_cons hi, List.take_append_drop]
  have hp : ∀ a ∈ l.take i, (a != 58) = true := fun a ha => by simp only [bne_iff_ne, ne_eq]; rintro rfl; exact h0 ha
  constructor
  · conv => lhs; rw [hl]
    rw [List.takeWhile_append_of_pos hp, List.takeWhile_cons, if_neg (by simp), List.append_nil]
  · conv => lhs; rw [hl]
    rw [List.dropWhile_append_of_pos hp, List.dropWhile_cons, if_neg (by simp), List.drop_succ_cons, List.drop_zero]
/-- where the first colon stands -/
theorem colon (s : ByteArray) (h : 58 ∈ L s) : ∃ i, i < s.size ∧ (L s)[i]? = some 58 ∧ 58 ∉ (L s).take i := by
  obtain ⟨a, b, e, hn⟩ := List.eq_append_cons_of_mem h
  refine ⟨a.length, ?_, ?_, ?_⟩
  · rw [size_eq, e]; simp
  · rw [e]; simp
  · rw [e]; simp; exact hn
theorem emp_size : (⟨#[]⟩ : ByteArray).size = 0 := rfl
theorem parse_spec (s : ByteArray) (hs : s.size ≤ 140737488351232) (k : Nat) (hk : s.size < k) : field_Parse.f k s = some (match fieldOf s with | some (n, v) => (n, v, 0) | none => (⟨#[]⟩, ⟨#[]⟩, 20)) := by
  unfold field_Parse.f fieldOf
  by_cases h : 58 ∈ L s
  · obtain ⟨i, hi, hc, h0⟩ := colon s h
    obtain ⟨e1, e2⟩ := tw_at hc h0
    rw [cut_pos s i hi (by omega) hc h0, if_pos h, e1, e2]
    have hr : (s.extract (i + 1) s.size).size ≤ s.size := by rw [size_extract]; omega
    simp only [Option.bind_some]
    rw [trim_spec _ (by omega), Option.bind_some, if_pos trivial]
    have ht := trimB_le (s.extract (i + 1) s.size)
    rw [right_spec _ _ (by rw [size_extract]; omega) (by omega) k (by rw [size_extract]; omega) (by omega), L_trimB, L_extract, L_extract, List.drop_zero, Nat.sub_zero, List.take_of_length_le (show ((L s).drop (i + 1)).length ≤ s.size - (i + 1) by rw [List.length_drop, L_len]; omega), Option.bind_some]
    have E1 : s.extract 0 i = (⟨((L s).take i).toArray⟩ : ByteArray) := L_inj (by rw [L_extract, List.drop_zero, Nat.sub_zero])
    have E2 : trimB (s.extract (i + 1) s.size) = (⟨(trimL ((L s).drop (i + 1))).toArray⟩ : ByteArray) := L_inj (by rw [L_trimB, L_extract, List.take_of_length_le (show ((L s).drop (i + 1)).length ≤ s.size - (i + 1) by rw [List.length_drop, L_len]; omega)])
    rw [← E1, ← E2]
    cases okF ((L s).take i) (trimL ((L s).drop (i + 1))) <;> rfl
  · rw [cut_neg s h, if_neg h]
    simp only [Option.bind_some]
    rw [trim_spec _ (by rw [emp_size]; omega), Option.bind_some]
    rfl
end Go.Proofs.YtijindelbagpiaaDoor.X
