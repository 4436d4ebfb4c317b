/- What the document's same and Split compute. -/
import Derived.Test.YtijindelbagpiaaDoorPFramex4
import Derived.Test.YtijindelbagpiaaDoorPFramex5
import Derived.Test.YtijindelbagpiaaDoorKFrameXFoldR
import Derived.Test.YtijindelbagpiaaDoorKFrameXSignR
namespace Go.Proofs.YtijindelbagpiaaDoor.X
open Go.RowKit Go.Proofs.YtijindelbagpiaaDoor.PFrame Go.Proofs.YtijindelbagpiaaDoorW.PrintWords Go.Proofs.YtijindelbagpiaaDoorW.PrintMore
set_option linter.unusedVariables false
set_option linter.unusedSimpArgs false

theorem rsame_spec (a b : ByteArray) (ha : a.size ≤ 140737488351232) (hb : b.size ≤ 140737488351232) (k : Nat) (hk : a.size < k) (hk2 : b.size < k) : tollbarref04_same.f k a b = some (sameB a b) := by
  unfold tollbarref04_same.f
  rw [rfold_spec a ha k hk, rfold_spec b hb k hk2]
  simp only [Option.bind_some, toList_eq, foldB, L_mkB, sameB]
def partsL (l : List UInt8) : List ByteArray := (((pieces 44 l).map trimL).filter fun p => !p.isEmpty).map mkB
theorem partsL_cut (a b : List UInt8) (h : 44 ∉ a) : partsL (a ++ 44 :: b) = (if trimL a = [] then [] else [mkB (trimL a)]) ++ partsL b := by
  unfold partsL
  rw [pieces_app 44 b a h, List.map_cons, List.filter_cons]
  cases he : trimL a with
  | nil => rfl
  | cons x y => rw [if_pos (by rfl), if_neg (by simp)]; rfl
theorem partsL_end (a : List UInt8) (h : 44 ∉ a) : partsL a = if trimL a = [] then [] else [mkB (trimL a)] := by
  unfold partsL
  rw [pieces_none 44 a h, List.map_cons, List.map_nil, List.filter_cons]
  cases he : trimL a with
  | nil => rfl
  | cons x y => rw [if_pos (by rfl), if_neg (by simp)]; rfl
theorem rsplit_end (s : ByteArray) (k : Nat) (acc : List ByteArray) (i f : Int) (hi : i > (s.size : Int)) (hk : 0 < k) : tollbarref02_Split.l0 k s acc f i = some acc := by
  obtain ⟨k, rfl, _⟩ := suc hk
  simp only [tollbarref02_Split.l0]
  rw [if_neg (by omega)]
theorem rsplit (s : ByteArray) (hs : s.size ≤ 2199023255552) : ∀ d i f k acc, i + d = s.size → f ≤ i → 44 ∉ ((L s).drop f).take (i - f) → d + d + s.size + s.size + 6 < k → acc.length + d ≤ 4398046511104 → tollbarref02_Split.l0 k s acc (f : Int) (i : Int) = some (acc ++ partsL ((L s).drop f)) := by
  intro d
  induction d with
  | zero =>
    intro i f k acc hi hf h44 hk ha; obtain ⟨k, rfl, _⟩ := suc hk
    obtain ⟨k, rfl, _⟩ := suc (show 0 < k by omega)
    simp only [tollbarref02_Split.l0]
    rw [if_pos (by omega), if_pos (by omega)]
    simp only [tollbarref02_Split.j1]
    have hfull : ((L s).drop f).take (i - f) = (L s).drop f := List.take_of_length_le (by rw [List.length_drop, L_len]; omega)
    rw [if_pos trivial, if_pos (by omega), if_pos (by omega), if_pos (by omega), Int.toNat_natCast, Int.toNat_natCast, rtrim_spec _ (by rw [size_extract]; omega) k (by rw [size_extract]; omega), Option.bind_some, toList_eq, L_trimB, L_extract, succ_cast i (by omega)]
    rw [hfull] at h44
    rw [hfull, partsL_end _ h44]
    by_cases he : trimL ((L s).drop f) = []
    · rw [if_pos he, if_pos he, rsplit_end s k acc _ _ (by omega) (by omega), List.append_nil]
    · rw [if_neg he, if_neg he, if_pos (by omega), rsplit_end s k _ _ _ (by omega) (by omega)]
      have : trimB (s.extract f i) = mkB (trimL ((L s).drop f)) := L_inj (by rw [L_trimB, L_extract, hfull, L_mkB])
      rw [this]
  | succ d ih =>
    intro i f k acc hi hf h44 hk ha; obtain ⟨k, rfl, _⟩ := suc hk
    obtain ⟨k, rfl, _⟩ := suc (show 0 < k by omega)
    have h : i < s.size := by omega
    have hb := bt_eq_iff s i 44 h
    rw [show ((44 : UInt8).toNat : Int) = 44 from rfl] at hb
    have hg : (L s)[i]? = some ((L s)[i]'(lt_L h)) := List.getElem?_eq_getElem (lt_L h)
    simp only [tollbarref02_Split.l0]
    rw [if_pos (by omega), if_neg (by omega), if_pos (by omega), if_pos (by omega)]
    simp only [tollbarref02_Split.j1]
    by_cases hc : (L s)[i]? = some 44
    · rw [show (bt s (i : Int) == 44) = true from by rw [beq_iff_eq]; exact hb.2 hc, if_pos rfl, if_pos (by omega), if_pos (by omega), if_pos (by omega), Int.toNat_natCast, Int.toNat_natCast, rtrim_spec _ (by rw [size_extract]; omega) k (by rw [size_extract]; omega), Option.bind_some, toList_eq, L_trimB, L_extract, succ_cast i (by omega)]
      have hsp : (L s).drop f = ((L s).drop f).take (i - f) ++ 44 :: (L s).drop (i + 1) := by
        have e1 : ((L s).drop f).drop (i - f) = (L s).drop i := by rw [List.drop_drop]; congr 1; omega
        have e2 : (L s).drop i = 44 :: (L s).drop (i + 1) := by
          rw [drop_get s i h]
          rw [hg] at hc
          rw [Option.some.inj hc]
        rw [← e2, ← e1, List.take_append_drop]
      have hp := partsL_cut _ ((L s).drop (i + 1)) h44
      rw [← hsp] at hp
      rw [hp]
      by_cases he : trimL (((L s).drop f).take (i - f)) = []
      · rw [if_pos he, if_pos he, ih (i + 1) (i + 1) k acc (by omega) (Nat.le_refl _) (by simp) (by omega) (by omega), List.nil_append]
      · rw [if_neg he, if_neg he, if_pos (by omega), ih (i + 1) (i + 1) k _ (by omega) (Nat.le_refl _) (by simp) (by omega) (by rw [List.length_append, List.length_singleton]; omega), List.append_assoc]
        have : trimB (s.extract f i) = mkB (trimL (((L s).drop f).take (i - f))) := L_inj (by rw [L_trimB, L_extract, L_mkB])
        rw [this]
    · rw [show (bt s (i : Int) == 44) = false from by rw [beq_eq_false_iff_ne]; exact fun e => hc (hb.1 e), if_neg (by simp), succ_cast i (by omega)]
      refine ih (i + 1) f k acc (by omega) (by omega) ?_ (by omega) (by omega)
      rw [hg] at hc
      rw [show i + 1 - f = (i - f) + 1 from by omega, List.take_add_one, List.getElem?_drop, show f + (i - f) = i from by omega, hg]
      simp only [Option.toList_some, List.mem_append, List.mem_singleton, not_or]
      exact ⟨h44, fun e => hc (by rw [← e])⟩
theorem rsplit_spec (s : ByteArray) (hs : s.size ≤ 2199023255552) (k : Nat) (hk : s.size + s.size + s.size + s.size + 6 < k) : tollbarref02_Split.f k s = some (parts s) := by
  have h := rsplit s hs s.size 0 0 k [] (by omega) (Nat.le_refl _) (by simp) (by omega) (by simp; omega)
  rw [Int.natCast_zero, List.drop_zero, List.nil_append] at h
  exact h
end Go.Proofs.YtijindelbagpiaaDoor.X
