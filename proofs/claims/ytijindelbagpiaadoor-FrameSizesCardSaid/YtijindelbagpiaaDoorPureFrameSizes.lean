/- A length, told once or more often, with noughts ahead, is the body's, up to the bound: for every input, no condition. -/
import Derived.Test.YtijindelbagpiaaDoorPFramex9
import Derived.Test.YtijindelbagpiaaDoorKFrameXBulk
import Derived.Test.YtijindelbagpiaaDoorKFrameXAliveF
import Derived.Test.YtijindelbagpiaaDoorKFrameXFrame
import Derived.Test.YtijindelbagpiaaDoorKFrameXText
import Derived.Test.YtijindelbagpiaaDoorXBits
namespace Go.Proofs.YtijindelbagpiaaDoor.Pure
open Go.RowKit Go.Proofs.YtijindelbagpiaaDoor.PFrame Go.Proofs.YtijindelbagpiaaDoor.X Go.Proofs.YtijindelbagpiaaDoorW.PrintWords Go.Proofs.YtijindelbagpiaaDoorW.PrintMore
set_option linter.unusedVariables false
set_option linter.unusedSimpArgs false

/-- the number's text is written as another law writes it -/
theorem word_loop (x0 x1 x2 : Int) (x3 : Bool) (t : ByteArray) : ∀ j (m : Int) (word : ByteArray), tollbarlaw07_FrameBoth_1.l0 j m word = some t → ∃ j', j' ≤ j ∧ ∀ k, tollbarlaw07_FrameSizes.l0 (k + j') x0 x1 x2 x3 word m = tollbarlaw07_FrameSizes.l1 k x0 x1 x2 x3 t 0
  | 0, _, _, h => by simp [tollbarlaw07_FrameBoth_1.l0] at h
  | j + 1, m, word, h => by
    simp only [tollbarlaw07_FrameBoth_1.l0, Option.bind_some] at h
    by_cases h1 : word.toList = ([] : List UInt8)
    · rw [if_pos h1] at h
      split at h
      · rename_i h2
        obtain ⟨j', hj, hk⟩ := word_loop x0 x1 x2 x3 t j _ _ h
        refine ⟨j' + 1, by omega, fun k => ?_⟩
        rw [show k + (j' + 1) = (k + j') + 1 from rfl]
        simp only [tollbarlaw07_FrameSizes.l0, Option.bind_some]
        rw [if_pos h1, if_pos h2]; exact hk k
      · cases h
    · rw [if_neg h1] at h
      by_cases h3 : m > 0
      · rw [if_pos h3] at h
        split at h
        · rename_i h2
          obtain ⟨j', hj, hk⟩ := word_loop x0 x1 x2 x3 t j _ _ h
          refine ⟨j' + 1, by omega, fun k => ?_⟩
          rw [show k + (j' + 1) = (k + j') + 1 from rfl]
          simp only [tollbarlaw07_FrameSizes.l0, Option.bind_some]
          rw [if_neg h1, if_pos h3, if_pos h2]; exact hk k
        · cases h
      · rw [if_neg h3] at h
        obtain rfl := Option.some.inj h
        refine ⟨1, by omega, fun k => ?_⟩
        simp only [tollbarlaw07_FrameSizes.l0, Option.bind_some]
        rw [if_neg h1, if_neg h3]
def zeros (d : Nat) (w : ByteArray) : ByteArray := mkB (List.replicate d 48 ++ L w)
theorem zero_step (w : ByteArray) (d : Nat) : zeros d ((⟨#[48]⟩ : ByteArray) ++ w) = zeros (d + 1) w := by
  unfold zeros
  rw [L_append]
  congr 1
  rw [show L (⟨#[48]⟩ : ByteArray) = [48] from rfl, ← List.append_assoc, ← List.replicate_succ']
theorem zeros0 (w : ByteArray) : zeros 0 w = w := by unfold zeros; rw [List.replicate_zero, List.nil_append, mkB_L]
theorem l1_step (k : Nat) (x0 x1 x2 : Int) (x3 : Bool) (x9 : ByteArray) (x11 : Int) : tollbarlaw07_FrameSizes.l1 (k + 1) x0 x1 x2 x3 x9 x11 = if x11 < (Go.bits .and .i64 x2 7) then (if 1 + x9.size ≤ 9223372036854775807 then (tollbarlaw07_FrameSizes.l1 k x0 x1 x2 x3 ((⟨#[48]⟩ : ByteArray) ++ x9) (wrap64 (x11 + 1))) else (none)) else (tollbarlaw07_FrameSizes.l2 k x0 x1 x3 x9 (([] : List (FdT))) (⟨#[]⟩ : ByteArray) 0) := by
  simp only [tollbarlaw07_FrameSizes.l1]
theorem zero_loop (x0 x1 x2 : Int) (x3 : Bool) (c : Nat) (hc : Go.bits .and .i64 x2 7 = (c : Int)) (hc2 : c ≤ 7) : ∀ d i (w : ByteArray) k, i + d = c → w.size + d ≤ 1000 → tollbarlaw07_FrameSizes.l1 (k + d + 1) x0 x1 x2 x3 w (i : Int) = tollbarlaw07_FrameSizes.l2 k x0 x1 x3 (zeros d w) [] (⟨#[]⟩ : ByteArray) 0
  | 0, i, w, k, hi, hw => by
    rw [Nat.add_zero]
    rw [l1_step, hc, if_neg (by omega), zeros0]
  | d + 1, i, w, k, hi, hw => by
    have e : k + (d + 1) + 1 = (k + d + 1) + 1 := by omega
    rw [e]
    have hs : ((⟨#[48]⟩ : ByteArray) ++ w).size = w.size + 1 := by rw [size_append]; show 1 + w.size = w.size + 1; omega
    rw [l1_step, hc, if_pos (by omega), if_pos (by omega), succ_cast i (by omega), ← zero_step]
    exact zero_loop x0 x1 x2 x3 c hc hc2 d (i + 1) ((⟨#[48]⟩ : ByteArray) ++ w) k (by omega) (by omega)
theorem val_zeros (l : List UInt8) : ∀ d, valueL (List.replicate d 48 ++ l) = valueL l
  | 0 => rfl
  | d + 1 => by rw [List.replicate_succ, List.cons_append, valueL_zero, val_zeros l d]
theorem dig_zeros (l : List UInt8) (h : l.all digB = true) : ∀ d, (List.replicate d 48 ++ l).all digB = true
  | 0 => h
  | d + 1 => by rw [List.replicate_succ, List.cons_append, List.all_cons, dig_zeros l h d]; decide
def sCL : ByteArray := ⟨#[99, 111, 110, 116, 101, 110, 116, 45, 76, 69, 78, 71, 84, 72]⟩
def tGET : ByteArray := ⟨#[71, 69, 84]⟩
theorem bare_get : bare tGET 200 = false := by decide +kernel
theorem c1 : sameB sCL nCL = true := by decide +kernel
theorem c2 : sameB sCL nTE = false := by decide +kernel
theorem c5 : sameB nCL nCL = true := by decide +kernel
theorem c6 : sameB nCL nTE = false := by decide +kernel
/-- blank, comma, blank, word: as often as said -/
def rows (w : List UInt8) : Nat → List UInt8
  | 0 => []
  | t + 1 => rows w t ++ (32 :: 44 :: 32 :: w)
theorem rows_cons (w : List UInt8) : ∀ t, rows w (t + 1) = 32 :: 44 :: 32 :: (w ++ rows w t)
  | 0 => by simp [rows]
  | t + 1 => by
    have h := rows_cons w t
    have e1 : rows w (t + 1 + 1) = rows w (t + 1) ++ (32 :: 44 :: 32 :: w) := rfl
    have e2 : rows w (t + 1) = rows w t ++ (32 :: 44 :: 32 :: w) := rfl
    have e3 : rows w (t + 1 + 1) = (32 :: 44 :: 32 :: (w ++ rows w t)) ++ (32 :: 44 :: 32 :: w) := by rw [e1, h]
    rw [e3, e2]; simp
theorem parts_app (a b : List UInt8) (h : 44 ∉ a) : parts (mkB (a ++ 44 :: b)) = (if trimL a = [] then [] else [mkB (trimL a)]) ++ parts (mkB b) := by
  unfold parts
  rw [L_mkB, L_mkB, pieces_app 44 b a h, List.map_cons, List.filter_cons]
  by_cases e : trimL a = []
  · simp [e]
  · have : (!(trimL a).isEmpty) = true := by cases ht : trimL a with
      | nil => exact absurd ht e
      | cons c l => rfl
    simp [e]
theorem parts_end (a : List UInt8) (h : 44 ∉ a) (e : trimL a ≠ []) : parts (mkB a) = [mkB (trimL a)] := by
  unfold parts
  rw [L_mkB, pieces_none 44 a h, List.map_singleton, List.filter_cons]
  have : (!(trimL a).isEmpty) = true := by cases ht : trimL a with
    | nil => exact absurd ht e
    | cons c l => rfl
  rw [if_pos this]; rfl
theorem parts_tail (w : List UInt8) (hw : w.all digB = true) (hn : w ≠ []) : ∀ t, parts (mkB (32 :: (w ++ rows w t))) = List.replicate (t + 1) (mkB w)
  | 0 => by
    have h44 : 44 ∉ (32 :: w) := by
      intro h
      rcases List.mem_cons.1 h with h | h
      · revert h; decide
      · exact dig_comma w hw h
    rw [rows, List.append_nil, parts_end _ h44 (by rw [trim_dig1 w hw hn]; exact hn), trim_dig1 w hw hn]; rfl
  | t + 1 => by
    have h44 : 44 ∉ (32 :: (w ++ [32])) := by
      intro h
      rcases List.mem_cons.1 h with h | h
      · revert h; decide
      · rcases List.mem_append.1 h with h | h
        · exact dig_comma w hw h
        · revert h; decide
    have e : 32 :: (w ++ rows w (t + 1)) = (32 :: (w ++ [32])) ++ 44 :: (32 :: (w ++ rows w t)) := by rw [rows_cons]; simp
    rw [e, parts_app _ _ h44, trim_dig2 w hw hn, if_neg hn, parts_tail w hw hn t, List.replicate_succ (n := t + 1)]; rfl
theorem parts_rows (w : List UInt8) (hw : w.all digB = true) (hn : w ≠ []) (t : Nat) : parts (mkB (rows w (t + 1))) = List.replicate (t + 1) (mkB w) := by
  rw [rows_cons]
  have e : (32 :: 44 :: 32 :: (w ++ rows w t)) = [32] ++ 44 :: (32 :: (w ++ rows w t)) := rfl
  have h1 : trimL [32] = [] := by decide +kernel
  rw [e, parts_app _ _ (by decide), h1, if_pos rfl, List.nil_append, parts_tail w hw hn t]
theorem len_rep (w : ByteArray) (n t : Nat) (h : decM w = some n) : lenM (List.replicate (t + 1) w) = some n := by
  rw [List.replicate_succ]
  show ((decM w).bind fun n => if ((List.replicate t w).all fun q => decM q == some n) = true then some n else none) = some n
  rw [h, Option.bind_some, if_pos]
  rw [List.all_eq_true]
  intro q hq
  rw [(List.mem_replicate.1 hq).2, h]; simp
theorem sizes_j3 (n t : Nat) (hn : n < 8192) (w : ByteArray) (fs : List FdT) (hf : Lite fs) (h1 : hasN fs nTE = false) (h2 : hasN fs nCL = true) (h3 : listM fs nCL = List.replicate (t + 1) w) (hd : decM w = some n) (k : Nat) (hk : 4398046511200 < k) : tollbarlaw07_FrameSizes.j3 k (n : Int) fs = some true := by
  obtain ⟨k, rfl, _⟩ := suc hk
  simp only [tollbarlaw07_FrameSizes.j3]
  rw [request_spec fs hf.mid 1 k (by omega), Option.bind_some]
  show (frame_Response.f k tGET 200 _ 1 fs []).bind _ = _
  rw [response_spec tGET 200 _ 1 fs [] hf.mid k (by omega)]
  have hl : lenM (listM fs nCL) = some n := by rw [h3, len_rep w n t hd]
  unfold respM
  simp only [bare_get, Bool.false_eq_true, if_false, Option.bind_some]
  by_cases hb : (n : Int) > 4096
  · have hr : reqM fs 1 = (0, false, 413) := by unfold reqM; rw [h1, h2, hl]; simp; omega
    rw [hr, if_pos hb]; rfl
  · have hr : reqM fs 1 = ((n : Int), false, 0) := by unfold reqM; rw [h1, h2, hl]; simp; omega
    rw [hr, if_neg hb, h2]
    simp
theorem get_rep (x : FdT) (n : ByteArray) (h : sameB x.f0 n = true) : ∀ t, getM (List.replicate t x) n = List.replicate t x.f1
  | 0 => rfl
  | t + 1 => by
    rw [List.replicate_succ, List.replicate_succ, ← get_rep x n h t]
    unfold getM
    rw [List.filter_cons, if_pos h]; rfl
theorem get_rep0 (x : FdT) (n : ByteArray) (h : sameB x.f0 n = false) : ∀ t, getM (List.replicate t x) n = []
  | 0 => rfl
  | t + 1 => by
    rw [List.replicate_succ, ← get_rep0 x n h t]
    unfold getM
    rw [List.filter_cons, if_neg (by rw [h]; simp)]
theorem flat_rep (w : ByteArray) (h : parts w = [w]) : ∀ t, flatP (List.replicate t w) = List.replicate t w
  | 0 => rfl
  | t + 1 => by
    rw [List.replicate_succ]
    show parts w ++ flatP (List.replicate t w) = _
    rw [h, flat_rep w h t]; rfl
theorem has_of (fs : List FdT) (n : ByteArray) (t : Nat) (h : (getM fs n).length = t) : hasN fs n = decide (t > 0) := by unfold hasN; rw [h]
theorem sizes_split (n T : Nat) (hn : n < 8192) (hT : T ≤ 8) (hT1 : 1 ≤ T) (w : ByteArray) (hw : w.size ≤ 100) (hd : decM w = some n) (hp : parts w = [w]) : ∀ d i k, i + d = T → d + 4398046511300 < k → tollbarlaw07_FrameSizes.l2 k (n : Int) (T : Int) true w (List.replicate i (⟨sCL, w⟩ : FdT)) (⟨#[]⟩ : ByteArray) (i : Int) = some true := by
  intro d
  induction d with
  | zero =>
    intro i k hi hk; obtain ⟨k, rfl, _⟩ := suc hk
    simp only [tollbarlaw07_FrameSizes.l2]
    rw [if_neg (by omega), if_pos trivial]
    obtain ⟨T', hT'⟩ : ∃ T', T = T' + 1 := ⟨T - 1, by omega⟩
    have hiT : i = T' + 1 := by omega
    rw [hiT]
    refine sizes_j3 n T' hn w _ ⟨by simp; omega, fun x hx => ?_⟩ ?_ ?_ ?_ hd k (by omega)
    · rw [(List.mem_replicate.1 hx).2]
      have : sCL.size = 14 := rfl
      show sCL.size ≤ 1048576 ∧ w.size ≤ 1048576
      omega
    · rw [has_of _ _ 0 (by rw [get_rep0 _ _ (show sameB sCL nTE = false from c2)]; rfl)]; rfl
    · rw [has_of _ _ (T' + 1) (by rw [get_rep _ _ (show sameB sCL nCL = true from c1)]; simp)]; simp
    · unfold listM
      rw [get_rep _ _ (show sameB sCL nCL = true from c1), flat_rep _ hp]
  | succ d ih =>
    intro i k hi hk; obtain ⟨k, rfl, _⟩ := suc hk
    simp only [tollbarlaw07_FrameSizes.l2]
    rw [if_pos (by omega), if_pos trivial, if_pos (by simp; omega), succ_cast i (by omega)]
    have h := ih (i + 1) k (by omega) (by omega)
    rw [List.replicate_succ'] at h
    exact h
theorem sizes_one (n T : Nat) (hn : n < 8192) (hT : T ≤ 8) (hT1 : 1 ≤ T) (w : ByteArray) (hw : w.size ≤ 100) (hd : decM w = some n) (hg : (L w).all digB = true) (hne : L w ≠ []) : ∀ d i k, i + d = T → d + 4398046511300 < k → tollbarlaw07_FrameSizes.l2 k (n : Int) (T : Int) false w [] (mkB (rows (L w) i)) (i : Int) = some true := by
  have hlen : ∀ i, (rows (L w) i).length = i * (w.size + 3) := by
    intro i
    induction i with
    | zero => simp [rows]
    | succ i ih => rw [rows, List.length_append, ih]; simp only [List.length_cons, L_len]; rw [Nat.succ_mul]
  intro d
  induction d with
  | zero =>
    intro i k hi hk; obtain ⟨k, rfl, _⟩ := suc hk
    simp only [tollbarlaw07_FrameSizes.l2]
    rw [if_neg (by omega), if_neg (by simp)]
    simp only [tollbarlaw07_of.f, Option.bind_some]
    obtain ⟨T', hT'⟩ : ∃ T', T = T' + 1 := ⟨T - 1, by omega⟩
    have hiT : i = T' + 1 := by omega
    have hsz : (mkB (rows (L w) i)).size ≤ 1000 := by
      rw [size_mkB, hlen]
      have : i * (w.size + 3) ≤ 8 * 103 := Nat.mul_le_mul (by omega) (by omega)
      omega
    rw [hiT] at hsz ⊢
    refine sizes_j3 n T' hn w ([(⟨nCL, mkB (rows (L w) (T' + 1))⟩ : FdT)]) ⟨by simp, fun x hx => ?_⟩ ?_ ?_ ?_ hd k (by omega)
    · rw [List.mem_singleton.1 hx]
      have : nCL.size = 14 := rfl
      show nCL.size ≤ 1048576 ∧ (mkB (rows (L w) (T' + 1))).size ≤ 1048576
      omega
    · have h := get_rep0 (⟨nCL, mkB (rows (L w) (T' + 1))⟩ : FdT) nTE c6 1
      rw [has_of _ _ 0 (by rw [show [(⟨nCL, mkB (rows (L w) (T' + 1))⟩ : FdT)] = List.replicate 1 _ from rfl, h]; rfl)]; rfl
    · have h := get_rep (⟨nCL, mkB (rows (L w) (T' + 1))⟩ : FdT) nCL c5 1
      rw [has_of _ _ 1 (by rw [show [(⟨nCL, mkB (rows (L w) (T' + 1))⟩ : FdT)] = List.replicate 1 _ from rfl, h]; rfl)]; rfl
    · have h := get_rep (⟨nCL, mkB (rows (L w) (T' + 1))⟩ : FdT) nCL c5 1
      unfold listM
      rw [show [(⟨nCL, mkB (rows (L w) (T' + 1))⟩ : FdT)] = List.replicate 1 _ from rfl, h]
      show parts (mkB (rows (L w) (T' + 1))) ++ [] = _
      rw [List.append_nil, parts_rows (L w) hg hne T', mkB_L]
  | succ d ih =>
    intro i k hi hk; obtain ⟨k, rfl, _⟩ := suc hk
    have hsz : (mkB (rows (L w) i)).size ≤ 1000 := by
      rw [size_mkB, hlen]
      have : i * (w.size + 3) ≤ 8 * 103 := Nat.mul_le_mul (by omega) (by omega)
      omega
    have h3 : (⟨#[32, 44, 32]⟩ : ByteArray).size = 3 := rfl
    simp only [tollbarlaw07_FrameSizes.l2]
    rw [if_pos (by omega), if_neg (by simp), if_pos (by omega), if_pos (by rw [size_append, h3]; omega), succ_cast i (by omega)]
    have h := ih (i + 1) k (by omega) (by omega)
    have e : (mkB (rows (L w) i) ++ (⟨#[32, 44, 32]⟩ : ByteArray)) ++ w = mkB (rows (L w) (i + 1)) := by
      apply L_inj
      rw [L_append, L_append, L_mkB, L_mkB, show L (⟨#[32, 44, 32]⟩ : ByteArray) = [32, 44, 32] from rfl, rows, List.append_assoc]; rfl
    rw [e]; exact h
theorem FrameSizes : tollbarlaw07_FrameSizes.Pure := by
  intro a0 a1 a2 a3 _ _ _
  obtain ⟨n, hn⟩ : ∃ n : Nat, a0 % 8192 = (n : Int) := ⟨(a0 % 8192).toNat, by omega⟩
  obtain ⟨T, hT⟩ : ∃ T : Nat, 1 + a1 % 8 = (T : Int) := ⟨(1 + a1 % 8).toNat, by omega⟩
  obtain ⟨c, hc⟩ : ∃ c : Nat, a2 % 8 = (c : Int) := ⟨(a2 % 8).toNat, by omega⟩
  have hc' : Go.bits .and .i64 a2 7 = (c : Int) := by rw [and7]; exact hc
  obtain ⟨t, ht, hd, hp, hs, hg⟩ := text_spec n (by omega) 10 (by omega)
  obtain ⟨j, hj, hk⟩ := word_loop (n : Int) (T : Int) a2 a3 t 10 (n : Int) (⟨#[]⟩ : ByteArray) ht
  obtain ⟨K, hK⟩ : ∃ K : Nat, K = 4398046512000 := ⟨_, rfl⟩
  refine ⟨K + c + 1 + j, ?_⟩
  unfold tollbarlaw07_FrameSizes.f
  rw [alive_ok _ (by omega), Option.bind_some, if_pos rfl, and8191, and7, hn, wrap64_in (by omega) (by omega), hT, hk (K + c + 1)]
  have hz := zero_loop (n : Int) (T : Int) a2 a3 c hc' (by omega) c 0 t K (by omega) (by omega)
  rw [Int.natCast_zero] at hz
  rw [hz]
  have hLz : L (zeros c t) = List.replicate c 48 ++ L t := by unfold zeros; rw [L_mkB]
  have hzs : (zeros c t).size = c + t.size := by rw [← L_len, hLz, List.length_append, List.length_replicate, L_len]
  have hgz : (L (zeros c t)).all digB = true := by rw [hLz]; exact dig_zeros _ hg c
  have ht1 : 1 ≤ t.size ∧ valueL (L t) = n := by
    unfold decM at hd
    split at hd
    · rename_i h
      simp only [Bool.and_eq_true, decide_eq_true_eq] at h
      exact ⟨h.1.2, Option.some.inj hd⟩
    · cases hd
  have hne : L (zeros c t) ≠ [] := by
    intro e
    have := L_len (zeros c t)
    rw [e] at this
    simp at this; omega
  have hdz : decM (zeros c t) = some n := by
    unfold decM
    rw [hgz, decide_eq_true (show 1 ≤ (zeros c t).size by omega), decide_eq_true (show (zeros c t).size ≤ 18 by omega), hLz, val_zeros, ht1.2]; rfl
  cases a3 with
  | true => exact sizes_split n T (by omega) (by omega) (by omega) (zeros c t) (by omega) hdz (parts_dig _ hgz hne) T 0 K (by omega) (by omega)
  | false => exact sizes_one n T (by omega) (by omega) (by omega) (zeros c t) (by omega) hdz hgz hne T 0 K (by omega) (by omega)
end Go.Proofs.YtijindelbagpiaaDoor.Pure
