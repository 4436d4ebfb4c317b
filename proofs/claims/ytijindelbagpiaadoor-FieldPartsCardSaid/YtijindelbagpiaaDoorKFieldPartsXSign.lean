/- What the program's words on tokens, values and blanks compute, on lists of bytes. -/
import Derived.Test.YtijindelbagpiaaDoorPFieldPartsx2
import Derived.Test.YtijindelbagpiaaDoorXBytes
namespace Go.Proofs.YtijindelbagpiaaDoor.X
open Go.RowKit Go.Proofs.YtijindelbagpiaaDoor.PFieldParts Go.Proofs.YtijindelbagpiaaDoorW.PrintWords Go.Proofs.YtijindelbagpiaaDoorW.PrintMore
set_option linter.unusedVariables false
set_option linter.unusedSimpArgs false

def tokN (n : Nat) : Bool := (decide (97 ≤ n) && decide (n ≤ 122)) || (decide (65 ≤ n) && decide (n ≤ 90)) || (decide (48 ≤ n) && decide (n ≤ 57)) || [33, 35, 36, 37, 38, 39, 42, 43, 45, 46, 94, 95, 96, 124, 126].contains n
def valN (n : Nat) : Bool := (decide (32 ≤ n) && n != 127) || n == 9
def isTok (l : List UInt8) : Bool := !l.isEmpty && l.all fun c => tokN c.toNat
def isVal (l : List UInt8) : Bool := l.all fun c => valN c.toNat
def trimL (l : List UInt8) : List UInt8 := Lib.trimS l [32, 9]

theorem suc {k m : Nat} (h : m < k) : ∃ j, k = j + 1 ∧ m ≤ j := ⟨k - 1, by omega, by omega⟩
theorem lt_L {s : ByteArray} {i : Nat} (h : i < s.size) : i < (L s).length := by rw [L_len]; exact h
theorem bt_get (s : ByteArray) (i : Nat) (h : i < s.size) : bt s (i : Int) = (((L s)[i]'(lt_L h)).toNat : Int) := by
  rw [bt_nat, List.getElem?_eq_getElem (lt_L h)]; rfl
theorem drop_get (s : ByteArray) (i : Nat) (h : i < s.size) : (L s).drop i = (L s)[i]'(lt_L h) :: (L s).drop (i + 1) := List.drop_eq_getElem_cons (lt_L h)
theorem drop_end {s : ByteArray} {i : Nat} (h : s.size ≤ i) : (L s).drop i = [] := List.drop_of_length_le (by rw [L_len]; exact h)
theorem succ_cast (i : Nat) (h : i < 9223372036854775807) : wrap64 ((i : Int) + 1) = ((i + 1 : Nat) : Int) := by rw [wrap64_in (by omega) (by omega)]; rfl

def trimB (s : ByteArray) : ByteArray := ⟨(trimL (L s)).toArray⟩
theorem L_trimB (s : ByteArray) : L (trimB s) = trimL (L s) := by simp [trimB, L]
theorem trim_spec (s : ByteArray) (hs : s.size ≤ 140737488351232) : sign_Trim.f s = some (trimB s) := by
  unfold sign_Trim.f strings_Trim.f
  rw [if_pos ⟨rfl, hs⟩]; rfl
def dL (l : List UInt8) : List UInt8 := l.dropWhile (([32, 9] : List UInt8).contains ·)
def dR (l : List UInt8) : List UInt8 := (l.reverse.dropWhile (([32, 9] : List UInt8).contains ·)).reverse
theorem dR_cons (c : UInt8) (l : List UInt8) : dR (c :: l) = if dR l = [] then (if ([32, 9] : List UInt8).contains c then [] else [c]) else c :: dR l := by
  unfold dR
  rw [List.reverse_cons, List.dropWhile_append]
  cases h : l.reverse.dropWhile (([32, 9] : List UInt8).contains ·) with
  | nil =>
    rw [if_pos (by rfl), if_pos (by rfl), List.dropWhile_cons]
    split
    · rw [List.dropWhile_nil]; rfl
    · rfl
  | cons x t =>
    rw [if_neg (by simp), if_neg (by simp), List.reverse_append]; rfl
theorem trim_comm (l : List UInt8) : dL (dR l) = dR (dL l) := by
  induction l with
  | nil => rfl
  | cons c l ih =>
    rw [dR_cons]
    cases hc : ([32, 9] : List UInt8).contains c with
    | true =>
      have e : dL (c :: l) = dL l := by unfold dL; rw [List.dropWhile_cons, if_pos hc]
      rw [e, ← ih]
      by_cases h : dR l = []
      · rw [if_pos h, if_pos rfl, h]
      · rw [if_neg h]
        show dL (c :: dR l) = _
        unfold dL; rw [List.dropWhile_cons, if_pos hc]
    | false =>
      have e : dL (c :: l) = c :: l := by unfold dL; rw [List.dropWhile_cons, if_neg (by rw [hc]; simp)]
      rw [e, dR_cons, hc]
      by_cases h : dR l = []
      · rw [if_pos h]
        simp only [Bool.false_eq_true, if_false]
        unfold dL; rw [List.dropWhile_cons, if_neg (by rw [hc]; simp)]
      · rw [if_neg h]
        unfold dL; rw [List.dropWhile_cons, if_neg (by rw [hc]; simp)]
theorem trimL_eq (l : List UInt8) : trimL l = dR (dL l) := by rw [← trim_comm]; rfl
theorem dR_snoc (l : List UInt8) (c : UInt8) : dR (l ++ [c]) = if ([32, 9] : List UInt8).contains c then dR l else l ++ [c] := by
  unfold dR
  rw [List.reverse_append, List.reverse_cons, List.reverse_nil, List.nil_append, List.singleton_append, List.dropWhile_cons]
  split
  · rfl
  · rw [List.reverse_cons, List.reverse_reverse]

theorem dropWhile_le (p : UInt8 → Bool) (l : List UInt8) : (l.dropWhile p).length ≤ l.length := (List.dropWhile_sublist p).length_le
theorem trimL_le (l : List UInt8) : (trimL l).length ≤ l.length := by
  rw [trimL_eq]; unfold dR dL
  rw [List.length_reverse]
  have h1 := dropWhile_le (([32, 9] : List UInt8).contains ·) (l.dropWhile (([32, 9] : List UInt8).contains ·)).reverse
  have h2 := dropWhile_le (([32, 9] : List UInt8).contains ·) l
  rw [List.length_reverse] at h1
  omega
theorem trimB_le (s : ByteArray) : (trimB s).size ≤ s.size := by
  have := trimL_le (L s); rw [size_eq, L_trimB, size_eq s]; exact this
end Go.Proofs.YtijindelbagpiaaDoor.X
