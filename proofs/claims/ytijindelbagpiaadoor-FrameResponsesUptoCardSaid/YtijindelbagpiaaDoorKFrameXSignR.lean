/- What the document's words on tokens, values and blanks compute, on lists of bytes. -/
import Derived.Test.YtijindelbagpiaaDoorPFramex4
import Derived.Test.YtijindelbagpiaaDoorKFrameXSign
namespace Go.Proofs.YtijindelbagpiaaDoor.X
open Go.RowKit Go.Proofs.YtijindelbagpiaaDoor.PFrame Go.Proofs.YtijindelbagpiaaDoorW.PrintWords Go.Proofs.YtijindelbagpiaaDoorW.PrintMore
set_option linter.unusedVariables false
set_option linter.unusedSimpArgs false

theorem blank_fin : ∀ n : Fin 256, tollbarref02_blank.f ((n.val : Nat) : Int) = some ([32, 9].contains n.val) := by decide +kernel
theorem contains_nat : ∀ n : Fin 256, [32, 9].contains n.val = ([32, 9] : List UInt8).contains (n.val.toUInt8) := by decide +kernel
theorem blank1 (c : UInt8) : tollbarref02_blank.f (c.toNat : Int) = some (([32, 9] : List UInt8).contains c) := by
  have h := contains_nat ⟨c.toNat, c.toNat_lt⟩
  have e : (c.toNat).toUInt8 = c := by simp
  simp only [e] at h
  rw [← h]
  exact blank_fin ⟨c.toNat, c.toNat_lt⟩

theorem rtrimR : ∀ (d : Nat) (s : ByteArray) (k : Nat), s.size = d → s.size ≤ 562949953421312 → d < k → ∃ t, tollbarref02_Trim.l1 k s = some t ∧ L t = dR (L s) := by
  intro d
  induction d with
  | zero =>
    intro s k hd hs hk; obtain ⟨k, rfl, _⟩ := suc hk
    simp only [tollbarref02_Trim.l1]
    rw [if_neg (by omega)]
    refine ⟨s, rfl, ?_⟩
    have : L s = [] := List.eq_nil_of_length_eq_zero (by rw [L_len]; exact hd)
    rw [this]; rfl
  | succ d ih =>
    intro s k hd hs hk; obtain ⟨k, rfl, _⟩ := suc hk
    have e : wrap64 ((s.size : Int) - 1) = ((s.size - 1 : Nat) : Int) := by rw [wrap64_in (by omega) (by omega)]; omega
    have hlt : s.size - 1 < s.size := by omega
    simp only [tollbarref02_Trim.l1]
    rw [e, if_pos (by omega), if_pos (by omega), if_pos (by omega), bt_get s _ hlt, blank1, Option.bind_some]
    have hl : L s = (L s).take (s.size - 1) ++ [(L s)[s.size - 1]'(lt_L hlt)] := by
      rw [List.take_append_getElem, show s.size - 1 + 1 = (L s).length from by rw [L_len]; omega, List.take_length]
    by_cases hb : (([32, 9] : List UInt8).contains ((L s)[s.size - 1]'(lt_L hlt))) = true
    · rw [if_pos hb, if_pos (by omega)]
      obtain ⟨t, h1, h2⟩ := ih (s.extract 0 ((s.size - 1 : Nat) : Int).toNat) k (by rw [size_extract, Int.toNat_natCast]; omega) (by rw [size_extract]; omega) (by omega)
      refine ⟨t, h1, ?_⟩
      rw [h2, L_extract, List.drop_zero, Nat.sub_zero, Int.toNat_natCast]
      conv => rhs; rw [hl]
      rw [dR_snoc, if_pos hb]
    · rw [if_neg hb]
      refine ⟨s, rfl, ?_⟩
      conv => rhs; rw [hl]
      rw [dR_snoc, if_neg hb, ← hl]
theorem rtrimL : ∀ (d : Nat) (s : ByteArray) (k : Nat), s.size = d → s.size ≤ 562949953421312 → d + d + 2 < k → ∃ t, tollbarref02_Trim.l0 k s = some t ∧ L t = dR (dL (L s)) := by
  intro d
  induction d with
  | zero =>
    intro s k hd hs hk; obtain ⟨k, rfl, _⟩ := suc hk
    simp only [tollbarref02_Trim.l0]
    rw [if_neg (by omega)]
    obtain ⟨k, rfl, _⟩ := suc (show 0 < k by omega)
    simp only [tollbarref02_Trim.j1]
    obtain ⟨t, h1, h2⟩ := rtrimR 0 s k hd hs (by omega)
    refine ⟨t, h1, ?_⟩
    have : L s = [] := List.eq_nil_of_length_eq_zero (by rw [L_len]; exact hd)
    rw [h2, this]; rfl
  | succ d ih =>
    intro s k hd hs hk; obtain ⟨k, rfl, _⟩ := suc hk
    have hlt : 0 < s.size := by omega
    have hl : L s = (L s)[0]'(lt_L hlt) :: (L s).drop 1 := by have := drop_get s 0 hlt; rwa [List.drop_zero] at this
    have hb0 := bt_get s 0 hlt
    rw [Int.natCast_zero] at hb0
    simp only [tollbarref02_Trim.l0]
    rw [if_pos (by omega), if_pos (by omega), hb0, blank1, Option.bind_some]
    by_cases hb : (([32, 9] : List UInt8).contains ((L s)[0]'(lt_L hlt))) = true
    · rw [if_pos hb, if_pos (by omega)]
      obtain ⟨t, h1, h2⟩ := ih (s.extract 1 s.size) k (by rw [size_extract]; omega) (by rw [size_extract]; omega) (by omega)
      refine ⟨t, h1, ?_⟩
      rw [h2, L_extract, List.take_of_length_le (by rw [List.length_drop, L_len]; omega)]
      conv => rhs; rw [hl]
      unfold dL; rw [List.dropWhile_cons, if_pos hb]
    · rw [if_neg hb]
      obtain ⟨k, rfl, _⟩ := suc (show 0 < k by omega)
      simp only [tollbarref02_Trim.j1]
      obtain ⟨t, h1, h2⟩ := rtrimR _ s k rfl hs (by omega)
      refine ⟨t, h1, ?_⟩
      rw [h2]
      congr 1
      conv => rhs; rw [hl]
      unfold dL; rw [List.dropWhile_cons, if_neg hb, ← hl]
theorem rtrim_spec (s : ByteArray) (hs : s.size ≤ 562949953421312) (k : Nat) (hk : s.size + s.size + 2 < k) : tollbarref02_Trim.f k s = some (trimB s) := by
  obtain ⟨t, h1, h2⟩ := rtrimL _ s k rfl hs hk
  unfold tollbarref02_Trim.f
  rw [h1]
  congr 1
  exact L_inj (by rw [h2, L_trimB, trimL_eq])
end Go.Proofs.YtijindelbagpiaaDoor.X
