/- What the program's words on tokens and values compute, on lists of bytes. -/
import Derived.Test.YtijindelbagpiaaDoorPFieldPartsx4
import Derived.Test.YtijindelbagpiaaDoorKFieldPartsXSign
namespace Go.Proofs.YtijindelbagpiaaDoor.X
open Go.RowKit Go.Proofs.YtijindelbagpiaaDoor.PFieldParts Go.Proofs.YtijindelbagpiaaDoorW.PrintWords Go.Proofs.YtijindelbagpiaaDoorW.PrintMore
set_option linter.unusedVariables false
set_option linter.unusedSimpArgs false

theorem token1_fin : ∀ n : Fin 256, sign_Token_1.f ((n.val : Nat) : Int) = some (tokN n.val) := by decide +kernel
theorem token1 (c : UInt8) : sign_Token_1.f (c.toNat : Int) = some (tokN c.toNat) := token1_fin ⟨c.toNat, c.toNat_lt⟩
theorem value1_fin : ∀ n : Fin 256, sign_Value_1.f ((n.val : Nat) : Int) = some (valN n.val) := by decide +kernel
theorem value1 (c : UInt8) : sign_Value_1.f (c.toNat : Int) = some (valN c.toNat) := value1_fin ⟨c.toNat, c.toNat_lt⟩
theorem all88 (s : ByteArray) (hs : s.size ≤ 562949953421312) : ∀ d i k, i + d = s.size → d < k → sign_all_88.l0 k s (s.size : Int) (i : Int) = some (((L s).drop i).all fun c => tokN c.toNat) := by
  intro d
  induction d with
  | zero =>
    intro i k hi hk; obtain ⟨k, rfl, _⟩ := suc hk
    simp only [sign_all_88.l0]; rw [if_neg (by omega), drop_end (by omega)]; rfl
  | succ d ih =>
    intro i k hi hk; obtain ⟨k, rfl, _⟩ := suc hk
    have h : i < s.size := by omega
    simp only [sign_all_88.l0]
    rw [if_pos (by omega), if_pos (by omega), if_pos (by omega), bt_get s i h, token1, drop_get s i h, List.all_cons, succ_cast i (by omega), ih (i + 1) k (by omega) (by omega)]
    cases tokN ((L s)[i]'(lt_L h)).toNat <;> rfl
theorem token_spec (s : ByteArray) (hs : s.size ≤ 562949953421312) (k : Nat) (hk : s.size < k) : sign_Token.f k s = some (isTok (L s)) := by
  unfold sign_Token.f sign_all_88.f isTok
  rw [toList_eq]
  by_cases h : L s = []
  · rw [if_pos h, h]; rfl
  · have h0 := all88 s hs s.size 0 k (by omega) hk
    rw [Int.natCast_zero] at h0
    rw [if_neg h, h0, List.drop_zero]
    have : (L s).isEmpty = false := by cases hl : L s with
      | nil => exact absurd hl h
      | cons => rfl
    rw [this]; rfl
theorem all91 (s : ByteArray) (hs : s.size ≤ 562949953421312) : ∀ d i k, i + d = s.size → d < k → sign_all_91.l0 k s (s.size : Int) (i : Int) = some (((L s).drop i).all fun c => valN c.toNat) := by
  intro d
  induction d with
  | zero =>
    intro i k hi hk; obtain ⟨k, rfl, _⟩ := suc hk
    simp only [sign_all_91.l0]; rw [if_neg (by omega), drop_end (by omega)]; rfl
  | succ d ih =>
    intro i k hi hk; obtain ⟨k, rfl, _⟩ := suc hk
    have h : i < s.size := by omega
    simp only [sign_all_91.l0]
    rw [if_pos (by omega), if_pos (by omega), if_pos (by omega), bt_get s i h, value1, drop_get s i h, List.all_cons, succ_cast i (by omega), ih (i + 1) k (by omega) (by omega)]
    cases valN ((L s)[i]'(lt_L h)).toNat <;> rfl
theorem value_spec (s : ByteArray) (hs : s.size ≤ 562949953421312) (k : Nat) (hk : s.size < k) : sign_Value.f k s = some (isVal (L s)) := by
  unfold sign_Value.f sign_all_91.f isVal
  have h0 := all91 s hs s.size 0 k (by omega) hk
  rw [Int.natCast_zero] at h0
  rw [h0, List.drop_zero]; rfl
/- trimming -/
end Go.Proofs.YtijindelbagpiaaDoor.X
