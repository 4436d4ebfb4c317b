/- What the document's Fold computes. -/
import Derived.Test.YtijindelbagpiaaDoorPFieldPartsx7
import Derived.Test.YtijindelbagpiaaDoorKFieldPartsXSplit
namespace Go.Proofs.YtijindelbagpiaaDoor.X
open Go.RowKit Go.Proofs.YtijindelbagpiaaDoor.PFieldParts Go.Proofs.YtijindelbagpiaaDoorW.PrintWords Go.Proofs.YtijindelbagpiaaDoorW.PrintMore
set_option linter.unusedVariables false
set_option linter.unusedSimpArgs false

theorem foldc_fin : ∀ n : Fin 256, (((sign_Fold.c (n.val.toUInt8)).toNat : Nat) : Int) = (if ((n.val : Nat) : Int) ≥ 65 then (if ((n.val : Nat) : Int) ≤ 90 then (((n.val : Nat) : Int) + 32) % 256 else ((n.val : Nat) : Int)) else ((n.val : Nat) : Int)) := by decide +kernel
theorem foldc (c : UInt8) : (((sign_Fold.c c).toNat : Nat) : Int) = (if ((c.toNat : Nat) : Int) ≥ 65 then (if ((c.toNat : Nat) : Int) ≤ 90 then (((c.toNat : Nat) : Int) + 32) % 256 else ((c.toNat : Nat) : Int)) else ((c.toNat : Nat) : Int)) := by
  have h := foldc_fin ⟨c.toNat, c.toNat_lt⟩
  have e : (c.toNat).toUInt8 = c := by simp
  simp only [e] at h
  exact h
theorem nums_L (l : List UInt8) : strOfNums (l.map fun c => ((c.toNat : Nat) : Int)) = mkB l := by
  apply L_inj
  rw [L_mkB]
  unfold strOfNums
  simp [L, Function.comp_def]
theorem rfold (s : ByteArray) (hs : s.size ≤ 140737488351232) : ∀ d i k, i + d = s.size → d < k → tollbarref02_Fold.l0 k s (((foldL (L s)).take i).map fun c => ((c.toNat : Nat) : Int)) (i : Int) = some (foldB s) := by
  intro d
  induction d with
  | zero =>
    intro i k hi hk; obtain ⟨k, rfl, _⟩ := suc hk
    simp only [tollbarref02_Fold.l0]; rw [if_neg (by omega), List.take_of_length_le (by simp only [foldL, List.length_map, L_len]; omega), nums_L]; rfl
  | succ d ih =>
    intro i k hi hk; obtain ⟨k, rfl, _⟩ := suc hk
    have h : i < s.size := by omega
    have hl : ((foldL (L s)).take i).length = i := by rw [List.length_take]; simp only [foldL, List.length_map, L_len]; omega
    have hn : ((foldL (L s)).take (i + 1)).map (fun c => ((c.toNat : Nat) : Int)) = (((foldL (L s)).take i).map fun c => ((c.toNat : Nat) : Int)) ++ [(((sign_Fold.c ((L s)[i]'(lt_L h))).toNat : Nat) : Int)] := by
      rw [List.take_add_one, List.map_append]
      congr 1
      simp only [foldL, List.getElem?_map, List.getElem?_eq_getElem (lt_L h)]
      rfl
    have hi2 := ih (i + 1) k (by omega) (by omega)
    rw [hn, foldc] at hi2
    simp only [tollbarref02_Fold.l0]
    rw [if_pos (by omega), if_pos (by omega), bt_get s i h, succ_cast i (by omega)]
    simp only [List.length_map, hl]
    by_cases h1 : ((((L s)[i]'(lt_L h)).toNat : Nat) : Int) ≥ 65
    · rw [if_pos h1]
      rw [if_pos h1] at hi2
      by_cases h2 : ((((L s)[i]'(lt_L h)).toNat : Nat) : Int) ≤ 90
      · rw [if_pos h2] at hi2
        rw [if_pos h2, if_pos (by omega), hi2]
      · rw [if_neg h2] at hi2
        rw [if_neg h2, if_pos (by omega), hi2]
    · rw [if_neg h1] at hi2
      rw [if_neg h1, if_pos (by omega), hi2]
theorem rfold_spec (s : ByteArray) (hs : s.size ≤ 140737488351232) (k : Nat) (hk : s.size < k) : tollbarref02_Fold.f k s = some (foldB s) := by
  have h := rfold s hs s.size 0 k (by omega) hk
  rw [Int.natCast_zero, List.take_zero] at h
  exact h
end Go.Proofs.YtijindelbagpiaaDoor.X
