/- A right field's line is parsed as it; no line ends within it: for every input (no condition). -/
import Derived.Test.YtijindelbagpiaaDoorPAllx14
import Derived.Test.YtijindelbagpiaaDoorXField2
import Derived.Test.YtijindelbagpiaaDoorXAliveP
import Derived.Test.YtijindelbagpiaaDoorXAliveL
import Derived.Test.YtijindelbagpiaaDoorXParse
namespace Go.Proofs.YtijindelbagpiaaDoor.Pure
open Go.RowKit Go.Proofs.YtijindelbagpiaaDoor.PAll Go.Proofs.YtijindelbagpiaaDoor.X Go.Proofs.YtijindelbagpiaaDoorW.PrintWords Go.Proofs.YtijindelbagpiaaDoorW.PrintMore
set_option linter.unusedVariables false
set_option linter.unusedSimpArgs false

theorem ok_parts {n v : List UInt8} (h : okF n v = true) : isTok n = true ∧ n.length ≤ 100 ∧ isVal v = true ∧ v.length ≤ 1000 ∧ trimL v = v := by
  unfold okF at h
  simp only [Bool.and_eq_true, decide_eq_true_eq, beq_iff_eq] at h
  exact ⟨h.1.1.1.1, h.1.1.1.2, h.1.1.2, h.1.2, h.2⟩
theorem tok_no (c : UInt8) (h : tokN c.toNat = true) : c ≠ 58 ∧ c ≠ 13 ∧ c ≠ 10 := by
  refine ⟨?_, ?_, ?_⟩ <;> (rintro rfl; revert h; decide)
theorem val_no (c : UInt8) (h : valN c.toNat = true) : c ≠ 13 ∧ c ≠ 10 := by
  refine ⟨?_, ?_⟩ <;> (rintro rfl; revert h; decide)
theorem tok_all {n : List UInt8} (h : isTok n = true) : ∀ c ∈ n, tokN c.toNat = true := by
  unfold isTok at h
  rw [Bool.and_eq_true] at h
  exact fun c hc => List.all_eq_true.1 h.2 c hc
theorem val_all {v : List UInt8} (h : isVal v = true) : ∀ c ∈ v, valN c.toNat = true := fun c hc => List.all_eq_true.1 h c hc
theorem trim_sp (v : List UInt8) : trimL (32 :: v) = trimL v := by
  rw [trimL_eq, trimL_eq]
  congr 1
theorem field_ok (n v : ByteArray) (hok : okF (L n) (L v) = true) (s : ByteArray) (hs : L s = L n ++ 58 :: 32 :: L v) : fieldOf s = some (n, v) := by
  obtain ⟨h1, h2, h3, h4, h5⟩ := ok_parts hok
  have hno : (58 : UInt8) ∉ L n := fun hm => (tok_no 58 (tok_all h1 58 hm)).1 rfl
  have hc : (L s)[(L n).length]? = some 58 := by rw [hs]; simp
  have h0 : 58 ∉ (L s).take (L n).length := by rw [hs, List.take_left]; exact hno
  obtain ⟨e1, e2⟩ := tw_at hc h0
  have ed : (L s).drop ((L n).length + 1) = 32 :: L v := by
    rw [hs, List.drop_append, List.drop_of_length_le (by omega)]
    simp
  unfold fieldOf
  rw [if_pos (List.mem_of_getElem? hc), e1, e2, ed, trim_sp, h5, hs, List.take_left, if_pos hok]
theorem line_loop (s n v : ByteArray) (hs : 2 ≤ s.size) (hs2 : s.size ≤ 1104) (hno : ∀ i, i < s.size - 2 → ∀ c, (L s)[i]? = some c → c ≠ 13 ∧ c ≠ 10) (hp : fieldOf (s.extract 0 (s.size - 2)) = some (n, v)) : ∀ d i k, i + d = s.size - 2 → d + 3000 < k → tollbarlaw04_FieldBack.l0 k s (i : Int) n v = some true := by
  have hw : wrap64 ((s.size : Int) - 2) = ((s.size - 2 : Nat) : Int) := by rw [wrap64_in (by omega) (by omega)]; omega
  intro d
  induction d with
  | zero =>
    intro i k hi hk; obtain ⟨k, rfl, _⟩ := suc hk
    simp only [tollbarlaw04_FieldBack.l0]
    rw [hw]
    clear hw
    rw [if_neg (by omega), if_pos (by omega), if_pos (by omega), Int.toNat_natCast, parse_spec _ (by rw [size_extract]; omega) k (by rw [size_extract]; omega), Option.bind_some, hp]
    simp
  | succ d ih =>
    intro i k hi hk; obtain ⟨k, rfl, _⟩ := suc hk
    have h : i < s.size := by omega
    have hc := hno i (by omega) _ (List.getElem?_eq_getElem (lt_L h))
    have hb1 := bt_eq_iff s i 13 h
    have hb2 := bt_eq_iff s i 10 h
    rw [List.getElem?_eq_getElem (lt_L h)] at hb1 hb2
    have n1 : ¬ bt s (i : Int) = 13 := fun e => hc.1 (Option.some.inj (hb1.1 e))
    have n2 : ¬ bt s (i : Int) = 10 := fun e => hc.2 (Option.some.inj (hb2.1 e))
    simp only [tollbarlaw04_FieldBack.l0]
    rw [hw]
    clear hw
    rw [if_pos (by omega), if_pos (by omega), if_pos (by omega), if_neg n1, if_neg n2, succ_cast i (by omega), ih (i + 1) k (by omega) (by omega)]
theorem FieldBack : tollbarlaw04_FieldBack.Pure := by
  intro a ha
  obtain ⟨n, v⟩ := a
  simp only at ha
  refine ⟨n.size + v.size + 6000, ?_⟩
  unfold tollbarlaw04_FieldBack.f
  rw [parsing_ok _ (by omega), Option.bind_some, if_pos rfl, looking_ok _ (by omega), Option.bind_some]
  show tollbarlaw04_FieldBack.j0 ((n.size + v.size + 5999) + 1) false n v = some true
  simp only [tollbarlaw04_FieldBack.j0]
  rw [if_neg (by simp), frights_spec _ (fun x hx => by obtain rfl := List.mem_singleton.1 hx; exact ha) (n.size + v.size + 1) (fun x hx => by obtain rfl := List.mem_singleton.1 hx; exact ⟨by show n.size < _; omega, by show v.size < _; omega⟩) (by simp) _ (by simp; omega), Option.bind_some]
  have er : rightM [(⟨n, v⟩ : FdT)] = okF (L n) (L v) := by
    simp [rightM, okS]
  rw [er]
  cases hok : okF (L n) (L v) with
  | false => rw [if_neg (by simp)]
  | true =>
    rw [if_pos rfl]
    obtain ⟨h1, h2, h3, h4, h5⟩ := ok_parts hok
    rw [L_len] at h2 h4
    have z1 : (⟨#[58, 32]⟩ : ByteArray).size = 2 := rfl
    have z2 : (⟨#[13, 10]⟩ : ByteArray).size = 2 := rfl
    unfold field_Line.f
    rw [if_pos (by omega), if_pos (by rw [size_append, z1]; omega), if_pos (by rw [size_append, size_append, z1]; omega), Option.bind_some]
    generalize hS : (((n ++ (⟨#[58, 32]⟩ : ByteArray)) ++ v) ++ (⟨#[13, 10]⟩ : ByteArray)) = s
    have hL : L s = (L n ++ 58 :: 32 :: L v) ++ [13, 10] := by
      rw [← hS, L_append, L_append, L_append]
      show (L n ++ [58, 32] ++ L v) ++ [13, 10] = _
      simp
    have hz : s.size = n.size + v.size + 4 := by rw [← L_len, hL]; simp only [List.length_append, List.length_cons, List.length_nil, L_len]; omega
    have hw1 : wrap64 ((wrap64 ((n.size : Int) + (v.size : Int))) + 4) = (s.size : Int) := by
      rw [wrap64_in (x := (n.size : Int) + (v.size : Int)) (by omega) (by omega), wrap64_in (by omega) (by omega)]; omega
    rw [hw1]
    clear hw1
    have hw2 : wrap64 ((s.size : Int) - 2) = ((s.size - 2 : Nat) : Int) := by rw [wrap64_in (by omega) (by omega)]; omega
    rw [hw2]
    clear hw2
    rw [if_pos rfl, if_pos (by omega), if_pos (by omega), Int.toNat_natCast]
    have hcut : (L s).take (s.size - 2) = L n ++ 58 :: 32 :: L v := by
      rw [hL]
      have : s.size - 2 = (L n ++ 58 :: 32 :: L v).length := by simp only [List.length_append, List.length_cons, L_len]; omega
      rw [this, List.take_left]
    have hend : (s.extract (s.size - 2) s.size).toList = [13, 10] := by
      rw [toList_eq, L_extract, hL]
      have : s.size - 2 = (L n ++ 58 :: 32 :: L v).length := by simp only [List.length_append, List.length_cons, L_len]; omega
      rw [this, List.drop_left, List.take_of_length_le (by simp only [List.length_append, List.length_cons, List.length_nil, L_len]; omega)]
    rw [hend]
    show tollbarlaw04_FieldBack.j1 ((n.size + v.size + 5998) + 1) s false n v = some true
    simp only [tollbarlaw04_FieldBack.j1]
    rw [if_neg (by simp)]
    have hl := line_loop s n v (by omega) (by omega) (fun i hi c hc => by
      have hc2 : (L n ++ 58 :: 32 :: L v)[i]? = some c := by
        rw [← hcut, List.getElem?_take_of_lt hi]; exact hc
      have hm := List.mem_of_getElem? hc2
      rcases List.mem_append.1 hm with hm | hm
      · exact (tok_no c (tok_all h1 c hm)).2
      · rcases List.mem_cons.1 hm with rfl | hm
        · decide
        · rcases List.mem_cons.1 hm with rfl | hm
          · decide
          · exact val_no c (val_all h3 c hm)) (field_ok n v hok _ (by rw [L_extract, List.drop_zero, Nat.sub_zero, hcut])) (s.size - 2) 0 (n.size + v.size + 5998) (by omega) (by omega)
    rw [Int.natCast_zero] at hl
    exact hl
end Go.Proofs.YtijindelbagpiaaDoor.Pure
