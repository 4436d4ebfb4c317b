/- What the program's Decimal computes: the number of 1 to 18 digits. -/
import Derived.Test.YtijindelbagpiaaDoorPFrameNonex2
import Derived.Test.YtijindelbagpiaaDoorKFrameNoneXSplit
namespace Go.Proofs.YtijindelbagpiaaDoor.X
open Go.RowKit Go.Proofs.YtijindelbagpiaaDoor.PFrameNone Go.Proofs.YtijindelbagpiaaDoorW.PrintWords Go.Proofs.YtijindelbagpiaaDoorW.PrintMore
set_option linter.unusedVariables false
set_option linter.unusedSimpArgs false

def digB (c : UInt8) : Bool := decide (48 ≤ c.toNat) && decide (c.toNat ≤ 57)
def valueL (l : List UInt8) : Nat := l.foldl (fun n c => n * 10 + (c.toNat - 48)) 0
theorem valueL_snoc (l : List UInt8) (c : UInt8) : valueL (l ++ [c]) = valueL l * 10 + (c.toNat - 48) := by simp [valueL]
theorem valueL_lt (l : List UInt8) (h : l.all digB = true) : valueL l < 10 ^ l.length := by
  rw [← List.reverse_reverse l] at h ⊢
  generalize l.reverse = r at *
  induction r with
  | nil => decide
  | cons c r ih =>
    rw [List.reverse_cons] at h ⊢
    rw [List.all_append, Bool.and_eq_true] at h
    have h1 := ih h.1
    have h2 : digB c = true := by simpa using h.2
    unfold digB at h2
    simp only [Bool.and_eq_true, decide_eq_true_eq] at h2
    rw [valueL_snoc, List.length_append, List.length_singleton, Nat.pow_succ]
    omega
/-- the number of a text of 1 to 18 digits -/
def decM (s : ByteArray) : Option Nat := if ((L s).all digB && decide (1 ≤ s.size) && decide (s.size ≤ 18)) = true then some (valueL (L s)) else none
theorem dig_fin : ∀ n : Fin 256, Lib.indexByte [48, 49, 50, 51, 52, 53, 54, 55, 56, 57, 97, 98, 99, 100, 101, 102] (sign_Fold.c n.val.toUInt8) = (if digB n.val.toUInt8 = true then ((n.val - 48 : Nat) : Int) else Lib.indexByte [48, 49, 50, 51, 52, 53, 54, 55, 56, 57, 97, 98, 99, 100, 101, 102] (sign_Fold.c n.val.toUInt8)) ∧ (digB n.val.toUInt8 = false → (Lib.indexByte [48, 49, 50, 51, 52, 53, 54, 55, 56, 57, 97, 98, 99, 100, 101, 102] (sign_Fold.c n.val.toUInt8) < 0 ∨ Lib.indexByte [48, 49, 50, 51, 52, 53, 54, 55, 56, 57, 97, 98, 99, 100, 101, 102] (sign_Fold.c n.val.toUInt8) ≥ 10)) := by decide +kernel
def idx16 (c : UInt8) : Int := Lib.indexByte [48, 49, 50, 51, 52, 53, 54, 55, 56, 57, 97, 98, 99, 100, 101, 102] (sign_Fold.c c)
theorem dig_yes (c : UInt8) (h : digB c = true) : idx16 c = ((c.toNat - 48 : Nat) : Int) := by
  have e : (c.toNat).toUInt8 = c := by simp
  have h1 := (dig_fin ⟨c.toNat, c.toNat_lt⟩).1
  simp only [e] at h1
  rw [if_pos h] at h1
  exact h1
theorem dig_no (c : UInt8) (h : digB c = false) : idx16 c < 0 ∨ idx16 c ≥ 10 := by
  have e : (c.toNat).toUInt8 = c := by simp
  have h1 := (dig_fin ⟨c.toNat, c.toNat_lt⟩).2
  simp only [e] at h1
  exact h1 h
theorem one_L (s : ByteArray) (i : Nat) (h : i < s.size) : L (s.extract i (i + 1)) = [(L s)[i]'(lt_L h)] := by
  rw [L_extract, show i + 1 - i = 1 from by omega, List.drop_eq_getElem_cons (lt_L h)]; rfl
theorem digit_step (s : ByteArray) (i : Nat) (h : i < s.size) : ∃ t, sign_Fold.f (s.extract i (i + 1)) = some t ∧ t.size = 1 ∧ strings_IndexByte.f (⟨#[48, 49, 50, 51, 52, 53, 54, 55, 56, 57, 97, 98, 99, 100, 101, 102]⟩ : ByteArray) (bt t 0) = some (idx16 ((L s)[i]'(lt_L h))) := by
  have hs : (s.extract i (i + 1)).size = 1 := by rw [size_extract]; omega
  have hL : L (foldB (s.extract i (i + 1))) = [sign_Fold.c ((L s)[i]'(lt_L h))] := by
    unfold foldB foldL; rw [L_mkB, one_L s i h]; rfl
  refine ⟨_, fold_spec _ (by omega), by rw [size_foldB, hs], ?_⟩
  have hb := bt_nat (foldB (s.extract i (i + 1))) 0
  rw [hL, Int.natCast_zero] at hb
  rw [hb]
  unfold strings_IndexByte.f stringslite_IndexByte.f idx16
  simp only [List.getElem?_cons_zero, Option.getD_some, Int.toNat_natCast, Option.bind_some]
  rw [show ((sign_Fold.c ((L s)[i]'(lt_L h))).toNat).toUInt8 = sign_Fold.c ((L s)[i]'(lt_L h)) from by simp]
theorem take_all (s : ByteArray) (i : Nat) (h : i < s.size) (p : UInt8 → Bool) : ((L s).take (i + 1)).all p = (((L s).take i).all p && p ((L s)[i]'(lt_L h))) := by
  rw [List.take_add_one, List.getElem?_eq_getElem (lt_L h), List.all_append]; simp
theorem take_val (s : ByteArray) (i : Nat) (h : i < s.size) : valueL ((L s).take (i + 1)) = valueL ((L s).take i) * 10 + (((L s)[i]'(lt_L h)).toNat - 48) := by
  rw [List.take_add_one, List.getElem?_eq_getElem (lt_L h)]
  exact valueL_snoc _ _
theorem val18 (s : ByteArray) (i : Nat) (hi : i ≤ 18) (h : ((L s).take i).all digB = true) : valueL ((L s).take i) < 1000000000000000000 := by
  have h1 := valueL_lt _ h
  have h2 : ((L s).take i).length ≤ 18 := by rw [List.length_take]; omega
  have h3 : 10 ^ ((L s).take i).length ≤ 10 ^ 18 := Nat.pow_le_pow_right (by omega) h2
  omega
theorem mulw (a b : Nat) (h : a < 1000000000000000000) (hb : b ≤ 9) : wrap64 ((wrap64 ((a : Int) * 10)) + (b : Int)) = ((a * 10 + b : Nat) : Int) ∨ 900000000000000000 ≤ a := by
  by_cases h9 : 900000000000000000 ≤ a
  · exact .inr h9
  · refine .inl ?_
    rw [wrap64_in (x := (a : Int) * 10) (by omega) (by omega), wrap64_in (by omega) (by omega)]; omega
theorem num_loop (s : ByteArray) (hs : s.size ≤ 562949953421312) : ∀ d i k, i + d = s.size → d + d < k → ((L s).take i).all digB = true → sign_number.l0 k s 10 18 ((valueL ((L s).take (min i 18)) : Nat) : Int) (s.size : Int) (i : Int) = some (match decM s with | some n => ((n : Int), true) | none => (0, false)) := by
  intro d
  induction d with
  | zero =>
    intro i k hi hk ha; obtain ⟨k, rfl, _⟩ := suc hk
    have hfull : (L s).take i = L s := List.take_of_length_le (by rw [L_len]; omega)
    rw [hfull] at ha
    simp only [sign_number.l0]
    rw [if_neg (by omega), toList_eq]
    unfold decM
    rw [ha, Bool.true_and]
    by_cases h0 : L s = []
    · have hz : s.size = 0 := by rw [size_eq, h0]; rfl
      rw [if_pos h0, hz]; rfl
    · have hz : s.size ≠ 0 := fun e => h0 (List.eq_nil_of_length_eq_zero (by rw [L_len]; exact e))
      rw [if_neg h0, decide_eq_true (show 1 ≤ s.size by omega), Bool.true_and]
      by_cases h18 : (s.size : Int) > 18
      · rw [if_pos h18, decide_eq_false (show ¬ s.size ≤ 18 by omega)]; rfl
      · rw [if_neg h18, decide_eq_true (show s.size ≤ 18 by omega), if_pos rfl, show min i 18 = i from by omega, hfull]
  | succ d ih =>
    intro i k hi hk ha; obtain ⟨k, rfl, _⟩ := suc hk
    obtain ⟨k, rfl, _⟩ := suc (show 0 < k by omega)
    have h : i < s.size := by omega
    obtain ⟨t, h1, h2, h3⟩ := digit_step s i h
    simp only [sign_number.l0]
    rw [if_pos (by omega), if_pos (by omega), succ_cast i (by omega), if_pos (by omega), if_pos (by omega), Int.toNat_natCast, Int.toNat_natCast, h1, Option.bind_some, if_pos (by omega), h3, Option.bind_some]
    have hta := take_all s i h digB
    rw [ha, Bool.true_and] at hta
    cases hd : digB ((L s)[i]'(lt_L h)) with
    | false =>
      have hno := dig_no _ hd
      have hdec : decM s = none := by
        unfold decM
        have : (L s).all digB = false := by
          rw [List.all_eq_false]
          exact ⟨_, List.getElem_mem (lt_L h), by rw [hd]; simp⟩
        rw [this]; rfl
      rw [hdec]
      by_cases hn : idx16 ((L s)[i]'(lt_L h)) < 0
      · rw [if_pos hn]; simp only [sign_number.j1]; rw [if_pos trivial]
      · rw [if_neg hn, decide_eq_true (show idx16 ((L s)[i]'(lt_L h)) ≥ 10 by omega)]; simp only [sign_number.j1]; rw [if_pos trivial]
    | true =>
      have hyes := dig_yes _ hd
      have hdb : 48 ≤ ((L s)[i]'(lt_L h)).toNat ∧ ((L s)[i]'(lt_L h)).toNat ≤ 57 := by
        unfold digB at hd; simpa using hd
      rw [hd] at hta
      have hi2 := ih (i + 1) k (by omega) (by omega) hta
      rw [hyes, if_neg (by omega), decide_eq_false (by omega)]
      simp only [sign_number.j1]
      rw [if_neg (by simp), succ_cast i (by omega)]
      by_cases h18 : i < 18
      · rw [if_pos (by omega), show min i 18 = i from by omega]
        rw [show min (i + 1) 18 = i + 1 from by omega, take_val s i h] at hi2
        have hv : valueL ((L s).take i) < 100000000000000000 := by
          have h1 := valueL_lt _ ha
          have h2 : ((L s).take i).length ≤ 17 := by rw [List.length_take]; omega
          have h3 : 10 ^ ((L s).take i).length ≤ 10 ^ 17 := Nat.pow_le_pow_right (by omega) h2
          omega
        have hw := mulw (valueL ((L s).take i)) (((L s)[i]'(lt_L h)).toNat - 48) (by omega) (by omega)
        rcases hw with hw | hw
        · rw [hw]; exact hi2
        · omega
      · rw [if_neg (by omega), show min i 18 = 18 from by omega]
        rw [show min (i + 1) 18 = 18 from by omega] at hi2
        exact hi2
theorem dec_spec (s : ByteArray) (hs : s.size ≤ 562949953421312) (k : Nat) (hk : s.size + s.size < k) : sign_Decimal.f k s = some (match decM s with | some n => ((n : Int), true) | none => (0, false)) := by
  unfold sign_Decimal.f sign_number.f
  have h := num_loop s hs s.size 0 k (by omega) hk (by simp)
  rw [Int.natCast_zero] at h
  rw [show (0 : Int) = ((valueL ((L s).take (min 0 18)) : Nat) : Int) from rfl]
  rw [show ((valueL ((L s).take (min 0 18)) : Nat) : Int) = (0 : Int) from rfl] at h ⊢
  rw [h]; rfl
theorem decM_lt {s : ByteArray} {n : Nat} (h : decM s = some n) : n < 1000000000000000000 := by
  unfold decM at h
  split at h
  · rename_i hc
    simp only [Bool.and_eq_true, decide_eq_true_eq] at hc
    have := val18 s 18 (by omega) (by rw [List.take_of_length_le (by rw [L_len]; omega)]; exact hc.1.1)
    rw [List.take_of_length_le (by rw [L_len]; omega)] at this
    cases h; exact this
  · cases h
end Go.Proofs.YtijindelbagpiaaDoor.X
