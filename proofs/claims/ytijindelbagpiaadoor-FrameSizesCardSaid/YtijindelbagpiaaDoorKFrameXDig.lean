/- Words of digits: their parts, their numbers. -/
import Derived.Test.YtijindelbagpiaaDoorPFramex2
import Derived.Test.YtijindelbagpiaaDoorKFrameXDec
import Derived.Test.YtijindelbagpiaaDoorKFrameXSplit
namespace Go.Proofs.YtijindelbagpiaaDoor.X
open Go.RowKit Go.Proofs.YtijindelbagpiaaDoor.PFrame Go.Proofs.YtijindelbagpiaaDoorW.PrintWords Go.Proofs.YtijindelbagpiaaDoorW.PrintMore
set_option linter.unusedVariables false
set_option linter.unusedSimpArgs false

theorem dig_blank (c : UInt8) (h : digB c = true) : (([32, 9] : List UInt8).contains c) = false := by
  unfold digB at h
  simp only [Bool.and_eq_true, decide_eq_true_eq] at h
  have h1 : c ≠ 32 := fun e => by subst e; revert h; decide
  have h2 : c ≠ 9 := fun e => by subst e; revert h; decide
  simp [h1, h2]
theorem dig_comma (l : List UInt8) (h : l.all digB = true) : 44 ∉ l := by
  intro hm
  have := List.all_eq_true.1 h 44 hm
  revert this; decide
theorem dL_dig (l m : List UInt8) (h : l.all digB = true) (hn : l ≠ []) : dL (l ++ m) = l ++ m := by
  cases l with
  | nil => exact absurd rfl hn
  | cons c l =>
    rw [List.all_cons, Bool.and_eq_true] at h
    unfold dL
    rw [List.cons_append, List.dropWhile_cons, dig_blank c h.1]; rfl
theorem dR_dig (l m : List UInt8) (h : l.all digB = true) (hn : l ≠ []) : dR (m ++ l) = m ++ l := by
  have h2 : l.reverse.all digB = true := by rw [List.all_reverse]; exact h
  have e : (m ++ l).reverse = l.reverse ++ m.reverse := List.reverse_append
  unfold dR
  rw [e]
  have := dL_dig l.reverse m.reverse h2 (by simpa using hn)
  unfold dL at this
  rw [this, ← e, List.reverse_reverse]
theorem trim_dig (l : List UInt8) (h : l.all digB = true) (hn : l ≠ []) : trimL l = l := by
  rw [trimL_eq]
  have h1 := dL_dig l [] h hn
  rw [List.append_nil] at h1
  rw [h1]
  exact dR_dig l [] h hn
theorem trim_dig1 (l : List UInt8) (h : l.all digB = true) (hn : l ≠ []) : trimL (32 :: l) = l := by
  rw [trimL_eq]
  have h1 : dL (32 :: l) = l := by
    have h1 := dL_dig l [] h hn
    rw [List.append_nil] at h1
    unfold dL at h1 ⊢
    rw [List.dropWhile_cons]
    simpa using h1
  rw [h1]
  exact dR_dig l [] h hn
theorem trim_dig2 (l : List UInt8) (h : l.all digB = true) (hn : l ≠ []) : trimL (32 :: (l ++ [32])) = l := by
  rw [trimL_eq]
  have h1 : dL (32 :: (l ++ [32])) = l ++ [32] := by
    have h1 := dL_dig l [32] h hn
    unfold dL at h1 ⊢
    rw [List.dropWhile_cons]
    simpa using h1
  rw [h1, dR_snoc, if_pos (by decide)]
  exact dR_dig l [] h hn
theorem parts_dig (s : ByteArray) (h : (L s).all digB = true) (hn : L s ≠ []) : parts s = [s] := by
  unfold parts
  rw [pieces_none 44 _ (dig_comma _ h), List.map_singleton, trim_dig _ h hn]
  have : (!(L s).isEmpty) = true := by
    cases hl : L s with
    | nil => exact absurd hl hn
    | cons c l => rfl
  rw [List.filter_cons, if_pos this, List.filter_nil, List.map_singleton, mkB_L]
theorem valueL_zero (l : List UInt8) : valueL (48 :: l) = valueL l := rfl
end Go.Proofs.YtijindelbagpiaaDoor.X
