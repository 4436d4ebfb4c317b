/- Strings as lists of bytes: what the print's words on byte arrays say of lists. -/
import Derived.Test.YtffockklleanmaaWWords
import Derived.Test.YtffockklleanmaaWMore
import Derived.Lib.Bytealg
import Derived.Lib.Strings
namespace Go.Proofs.Ytffockklleanmaa.X
open Go.RowKit Go.Proofs.YtffockklleanmaaW.PrintWords Go.Proofs.YtffockklleanmaaW.PrintMore
set_option linter.unusedVariables false
set_option linter.unusedSimpArgs false

/-- a string's bytes -/
abbrev L (s : ByteArray) : List UInt8 := s.data.toList
theorem toList_eq (s : ByteArray) : s.toList = L s := Lib.toList_data s
theorem size_eq (s : ByteArray) : s.size = (L s).length := by rcases s with ⟨⟨l⟩⟩; rfl
theorem L_len (s : ByteArray) : (L s).length = s.size := by rcases s with ⟨⟨l⟩⟩; rfl
theorem L_extract (s : ByteArray) (i j : Nat) : L (s.extract i j) = ((L s).drop i).take (j - i) := Lib.extract_data s i j
theorem L_mk (l : List UInt8) : L (⟨⟨l⟩⟩ : ByteArray) = l := rfl
theorem L_append (s t : ByteArray) : L (s ++ t) = L s ++ L t := by rcases s with ⟨⟨l⟩⟩; rcases t with ⟨⟨m⟩⟩; simp [L, ByteArray.data_append]
theorem L_inj {s t : ByteArray} (h : L s = L t) : s = t := by
  rcases s with ⟨⟨s⟩⟩; rcases t with ⟨⟨t⟩⟩
  have h' : s = t := h
  rw [h']
theorem size_append (s t : ByteArray) : (s ++ t).size = s.size + t.size := by rw [size_eq, L_append, List.length_append, L_len, L_len]
theorem size_mk (l : List UInt8) : (⟨⟨l⟩⟩ : ByteArray).size = l.length := rfl
theorem size_extract (s : ByteArray) (i j : Nat) : (s.extract i j).size = min (j - i) (s.size - i) := by rw [size_eq, L_extract, List.length_take, List.length_drop, L_len]
theorem bt_nat (s : ByteArray) (i : Nat) : bt s (i : Int) = (((L s)[i]?.getD 0).toNat : Int) := by
  unfold bt
  simp only [Int.toNat_natCast]
  split
  · rename_i h
    have h2 : i < (L s).length := by rw [L_len]; exact h
    have : (L s)[i]? = some (s[i]'h) := by
      rw [List.getElem?_eq_getElem h2]; rfl
    rw [this]; rfl
  · rename_i h
    have : (L s)[i]? = none := List.getElem?_eq_none (by rw [L_len]; omega)
    rw [this]; rfl
theorem bt_eq_iff (s : ByteArray) (i : Nat) (c : UInt8) (h : i < s.size) : bt s (i : Int) = (c.toNat : Int) ↔ (L s)[i]? = some c := by
  rw [bt_nat]
  have h2 : i < (L s).length := by rw [L_len]; exact h
  rw [List.getElem?_eq_getElem h2]
  simp only [Option.getD_some, Option.some.injEq]
  constructor
  · intro e; exact UInt8.toNat_inj.1 (by omega)
  · intro e; rw [e]
theorem bt_lt (s : ByteArray) (i : Int) : 0 ≤ bt s i ∧ bt s i ≤ 255 := bt_range s i
theorem wrap64_in {x : Int} (h1 : -9223372036854775808 ≤ x) (h2 : x ≤ 9223372036854775807) : wrap64 x = x := by unfold wrap64; omega
theorem extract_all (s : ByteArray) : s.extract 0 s.size = s := by
  apply L_inj; rw [L_extract, List.drop_zero, Nat.sub_zero, ← L_len, List.take_length]
/-- Lib.indexByte by takeWhile -/
theorem indexByte_spec (c : UInt8) : ∀ l : List UInt8, Lib.indexByte l c = if c ∈ l then ((l.takeWhile (· != c)).length : Int) else -1
  | [] => rfl
  | b :: l => by
    unfold Lib.indexByte
    rw [indexByte_spec c l]
    by_cases h : b = c
    · subst h; simp
    · have h1 : (b == c) = false := by simpa using h
      have h2 : (b != c) = true := by simpa using h
      have h3 : c ∈ b :: l ↔ c ∈ l := by simp [Ne.symm h]
      rw [h1]
      simp only [Bool.false_eq_true, if_false, h3]
      split
      · rename_i hm
        have h4 : (((l.takeWhile (· != c)).length : Int) == -1) = false := by rw [beq_eq_false_iff_ne]; omega
        rw [h4, List.takeWhile_cons, if_pos h2, List.length_cons]
        simp
      · simp
/-- the part ahead of the first c -/
theorem takeWhile_take (c : UInt8) (l : List UInt8) : l.take (l.takeWhile (· != c)).length = l.takeWhile (· != c) := by
  have h := List.takeWhile_append_dropWhile (p := (· != c)) (l := l)
  calc l.take (l.takeWhile (· != c)).length = (l.takeWhile (· != c) ++ l.dropWhile (· != c)).take (l.takeWhile (· != c)).length := by rw [h]
    _ = l.takeWhile (· != c) := List.take_left
theorem takeWhile_all {c : UInt8} {l : List UInt8} (h : c ∉ l) : l.takeWhile (· != c) = l := by
  induction l with
  | nil => rfl
  | cons b l ih =>
    have h1 : (b != c) = true := by simp at h; simpa using fun e => h.1 e.symm
    rw [List.takeWhile_cons, if_pos h1, ih (fun hm => h (List.mem_cons_of_mem _ hm))]
end Go.Proofs.Ytffockklleanmaa.X
