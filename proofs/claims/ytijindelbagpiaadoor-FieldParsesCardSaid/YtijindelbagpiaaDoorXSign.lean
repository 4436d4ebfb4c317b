/- What the program's and the document's words on tokens, values, blanks, letters and lists compute, on lists of bytes. -/
import Derived.Test.YtijindelbagpiaaDoorPAllx2
import Derived.Test.YtijindelbagpiaaDoorPAllx4
import Derived.Test.YtijindelbagpiaaDoorPAllx5
import Derived.Test.YtijindelbagpiaaDoorXBytes
namespace Go.Proofs.YtijindelbagpiaaDoor.X
open Go.RowKit Go.Proofs.YtijindelbagpiaaDoor.PAll Go.Proofs.YtijindelbagpiaaDoorW.PrintWords Go.Proofs.YtijindelbagpiaaDoorW.PrintMore
set_option linter.unusedVariables false
set_option linter.unusedSimpArgs false

def tokN (n : Nat) : Bool := (decide (97 ≤ n) && decide (n ≤ 122)) || (decide (65 ≤ n) && decide (n ≤ 90)) || (decide (48 ≤ n) && decide (n ≤ 57)) || [33, 35, 36, 37, 38, 39, 42, 43, 45, 46, 94, 95, 96, 124, 126].contains n
def valN (n : Nat) : Bool := (decide (32 ≤ n) && n != 127) || n == 9
def isTok (l : List UInt8) : Bool := !l.isEmpty && l.all fun c => tokN c.toNat
def isVal (l : List UInt8) : Bool := l.all fun c => valN c.toNat
def trimL (l : List UInt8) : List UInt8 := Lib.trimS l [32, 9]

theorem suc {k m : Nat} (h : m < k) : ∃ j, k = j + 1 ∧ m ≤ j := ⟨k - 1, by omega, by omega⟩
theorem lt_L {s : ByteArray} {i : Nat} (h : i < s.size) : i < (L s).length := by rw [L_len]; exact h
theorem bt_get (s : ByteArray) (i : Nat) (h : i < s.size) : bt s (i : Int) = (((L s)[i]'(lt_L h)).toNat : Int) := by
  rw [bt_nat, List.getElem?_eq_getElem (lt_L h)]; rfl
theorem drop_get (s : ByteArray) (i : Nat) (h : i < s.size) : (L s).drop i = (L s)[i]'(lt_L h) :: (L s).drop (i + 1) := List.drop_eq_getElem_cons (lt_L h)
theorem drop_end {s : ByteArray} {i : Nat} (h : s.size ≤ i) : (L s).drop i = [] := List.drop_of_length_le (by rw [L_len]; exact h)
theorem succ_cast (i : Nat) (h : i < 9223372036854775807) : wrap64 ((i : Int) + 1) = ((i + 1 : Nat) : Int) := by rw [wrap64_in (by omega) (by omega)]; rfl

theorem token1_fin : ∀ n : Fin 256, sign_Token_1.f ((n.val : Nat) : Int) = some (tokN n.val) := by decide +kernel
theorem token1 (c : UInt8) : sign_Token_1.f (c.toNat : Int) = some (tokN c.toNat) := token1_fin ⟨c.toNat, c.toNat_lt⟩
theorem value1_fin : ∀ n : Fin 256, sign_Value_1.f ((n.val : Nat) : Int) = some (valN n.val) := by decide +kernel
theorem value1 (c : UInt8) : sign_Value_1.f (c.toNat : Int) = some (valN c.toNat) := value1_fin ⟨c.toNat, c.toNat_lt⟩
theorem tokenByte_fin : ∀ n : Fin 256, tollbarref02_tokenByte.f 1 ((n.val : Nat) : Int) = some (tokN n.val) := by decide +kernel
theorem tokenByte_any (k : Nat) (a : Int) : tollbarref02_tokenByte.f (k + 1) a = tollbarref02_tokenByte.f 1 a := by
  unfold tollbarref02_tokenByte.f; simp only [tollbarref02_tokenByte.j0]
theorem tokenByte1 (k : Nat) (hk : 0 < k) (c : UInt8) : tollbarref02_tokenByte.f k (c.toNat : Int) = some (tokN c.toNat) := by
  obtain ⟨k, rfl, _⟩ := suc hk
  rw [tokenByte_any]; exact tokenByte_fin ⟨c.toNat, c.toNat_lt⟩
theorem blank_fin : ∀ n : Fin 256, tollbarref02_blank.f ((n.val : Nat) : Int) = some ([32, 9].contains n.val) := by decide +kernel
theorem contains_nat : ∀ n : Fin 256, [32, 9].contains n.val = ([32, 9] : List UInt8).contains (n.val.toUInt8) := by decide +kernel
theorem blank1 (c : UInt8) : tollbarref02_blank.f (c.toNat : Int) = some (([32, 9] : List UInt8).contains c) := by
  have h := contains_nat ⟨c.toNat, c.toNat_lt⟩
  have e : (c.toNat).toUInt8 = c := by simp
  simp only [e] at h
  rw [← h]
  exact blank_fin ⟨c.toNat, c.toNat_lt⟩

theorem all88 (s : ByteArray) (hs : s.size ≤ 562949953421312) : ∀ d i k, i + d = s.size → d < k → sign_all_88.l0 k s (s.size : Int) (i : Int) = some (((L s).drop i).all fun c => tokN c.toNat) := by
  intro d
  induction d with
  | zero =>
    intro i k hi hk; obtain ⟨k, rfl, _⟩ := suc hk
    simp only [sign_all_88.l0]; rw [if_neg (by omega), drop_end (by omega)]; rfl
  | succ d ih =>
    intro i k hi hk; obtain ⟨k, rfl, _⟩ := suc hk
    have h : i < s.size := by omega
    simp only [sign_all_88.l0]
    rw [if_pos (by omega), if_pos (by omega), if_pos (by omega), bt_get s i h, token1, drop_get s i h, List.all_cons, succ_cast i (by omega), ih (i + 1) k (by omega) (by omega)]
    cases tokN ((L s)[i]'(lt_L h)).toNat <;> rfl
theorem token_spec (s : ByteArray) (hs : s.size ≤ 562949953421312) (k : Nat) (hk : s.size < k) : sign_Token.f k s = some (isTok (L s)) := by
  unfold sign_Token.f sign_all_88.f isTok
  rw [toList_eq]
  by_cases h : L s = []
  · rw [if_pos h, h]; rfl
  · have h0 := all88 s hs s.size 0 k (by omega) hk
    rw [Int.natCast_zero] at h0
    rw [if_neg h, h0, List.drop_zero]
    have : (L s).isEmpty = false := by cases hl : L s with
      | nil => exact absurd hl h
      | cons => rfl
    rw [this]; rfl
theorem all91 (s : ByteArray) (hs : s.size ≤ 562949953421312) : ∀ d i k, i + d = s.size → d < k → sign_all_91.l0 k s (s.size : Int) (i : Int) = some (((L s).drop i).all fun c => valN c.toNat) := by
  intro d
  induction d with
  | zero =>
    intro i k hi hk; obtain ⟨k, rfl, _⟩ := suc hk
    simp only [sign_all_91.l0]; rw [if_neg (by omega), drop_end (by omega)]; rfl
  | succ d ih =>
    intro i k hi hk; obtain ⟨k, rfl, _⟩ := suc hk
    have h : i < s.size := by omega
    simp only [sign_all_91.l0]
    rw [if_pos (by omega), if_pos (by omega), if_pos (by omega), bt_get s i h, value1, drop_get s i h, List.all_cons, succ_cast i (by omega), ih (i + 1) k (by omega) (by omega)]
    cases valN ((L s)[i]'(lt_L h)).toNat <;> rfl
theorem value_spec (s : ByteArray) (hs : s.size ≤ 562949953421312) (k : Nat) (hk : s.size < k) : sign_Value.f k s = some (isVal (L s)) := by
  unfold sign_Value.f sign_all_91.f isVal
  have h0 := all91 s hs s.size 0 k (by omega) hk
  rw [Int.natCast_zero] at h0
  rw [h0, List.drop_zero]; rfl
theorem rtok (s : ByteArray) (hs : s.size ≤ 562949953421312) : ∀ d i k, i + d = s.size → d + 1 < k → tollbarref02_Token.l0 k s (i : Int) = some ((((L s).drop i).all fun c => tokN c.toNat) && decide ((s.size : Int) > 0)) := by
  intro d
  induction d with
  | zero =>
    intro i k hi hk; obtain ⟨k, rfl, _⟩ := suc hk
    simp only [tollbarref02_Token.l0]; rw [if_neg (by omega), drop_end (by omega)]; rfl
  | succ d ih =>
    intro i k hi hk; obtain ⟨k, rfl, _⟩ := suc hk
    have h : i < s.size := by omega
    simp only [tollbarref02_Token.l0]
    rw [if_pos (by omega), if_pos (by omega), bt_get s i h, tokenByte1 k (by omega), drop_get s i h, List.all_cons, succ_cast i (by omega), ih (i + 1) k (by omega) (by omega)]
    cases tokN ((L s)[i]'(lt_L h)).toNat <;> rfl
theorem rtoken_spec (s : ByteArray) (hs : s.size ≤ 562949953421312) (k : Nat) (hk : s.size + 1 < k) : tollbarref02_Token.f k s = some (isTok (L s)) := by
  unfold tollbarref02_Token.f isTok
  have h0 := rtok s hs s.size 0 k (by omega) hk
  rw [Int.natCast_zero] at h0
  rw [h0, List.drop_zero, Bool.and_comm]
  congr 2
  rw [size_eq]
  cases L s with
  | nil => rfl
  | cons c l => simp
theorem rval_fin : ∀ n : Fin 256, (if ((n.val : Nat) : Int) < 32 then (if ((n.val : Nat) : Int) = 9 then (if ((n.val : Nat) : Int) = 127 then false else true) else false) else (if ((n.val : Nat) : Int) = 127 then false else true)) = valN n.val := by decide +kernel
theorem rval (s : ByteArray) (hs : s.size ≤ 562949953421312) : ∀ d i k, i + d = s.size → d < k → tollbarref02_Value.l0 k s (i : Int) = some (((L s).drop i).all fun c => valN c.toNat) := by
  intro d
  induction d with
  | zero =>
    intro i k hi hk; obtain ⟨k, rfl, _⟩ := suc hk
    simp only [tollbarref02_Value.l0]; rw [if_neg (by omega), drop_end (by omega)]; rfl
  | succ d ih =>
    intro i k hi hk; obtain ⟨k, rfl, _⟩ := suc hk
    have h : i < s.size := by omega
    have hv := rval_fin ⟨((L s)[i]'(lt_L h)).toNat, ((L s)[i]'(lt_L h)).toNat_lt⟩
    simp only at hv
    simp only [tollbarref02_Value.l0]
    rw [if_pos (by omega), if_pos (by omega), bt_get s i h, drop_get s i h, List.all_cons, succ_cast i (by omega), ih (i + 1) k (by omega) (by omega), ← hv]
    repeat' split
    all_goals first | rfl | omega
theorem rvalue_spec (s : ByteArray) (hs : s.size ≤ 562949953421312) (k : Nat) (hk : s.size < k) : tollbarref02_Value.f k s = some (isVal (L s)) := by
  unfold tollbarref02_Value.f isVal
  have h0 := rval s hs s.size 0 k (by omega) hk
  rw [Int.natCast_zero] at h0
  rw [h0, List.drop_zero]

/- trimming -/
def trimB (s : ByteArray) : ByteArray := ⟨(trimL (L s)).toArray⟩
theorem L_trimB (s : ByteArray) : L (trimB s) = trimL (L s) := by simp [trimB, L]
theorem trim_spec (s : ByteArray) (hs : s.size ≤ 140737488351232) : sign_Trim.f s = some (trimB s) := by
  unfold sign_Trim.f strings_Trim.f
  rw [if_pos ⟨rfl, hs⟩]; rfl
def dL (l : List UInt8) : List UInt8 := l.dropWhile (([32, 9] : List UInt8).contains ·)
def dR (l : List UInt8) : List UInt8 := (l.reverse.dropWhile (([32, 9] : List UInt8).contains ·)).reverse
theorem dR_cons (c : UInt8) (l : List UInt8) : dR (c :: l) = if dR l = [] then (if ([32, 9] : List UInt8).contains c then [] else [c]) else c :: dR l := by
  unfold dR
  rw [List.reverse_cons, List.dropWhile_append]
  cases h : l.reverse.dropWhile (([32, 9] : List UInt8).contains ·) with
  | nil =>
    rw [if_pos (by rfl), if_pos (by rfl), List.dropWhile_cons]
    split
    · rw [List.dropWhile_nil]; rfl
    · rfl
  | cons x t =>
    rw [if_neg (by simp), if_neg (by simp), List.reverse_append]; rfl
theorem trim_comm (l : List UInt8) : dL (dR l) = dR (dL l) := by
  induction l with
  | nil => rfl
  | cons c l ih =>
    rw [dR_cons]
    cases hc : ([32, 9] : List UInt8).contains c with
    | true =>
      have e : dL (c :: l) = dL l := by unfold dL; rw [List.dropWhile_cons, if_pos hc]
      rw [e, ← ih]
      by_cases h : dR l = []
      · rw [if_pos h, if_pos rfl, h]
      · rw [if_neg h]
        show dL (c :: dR l) = _
        unfold dL; rw [List.dropWhile_cons, if_pos hc]
    | false =>
      have e : dL (c :: l) = c :: l := by unfold dL; rw [List.dropWhile_cons, if_neg (by rw [hc]; simp)]
      rw [e, dR_cons, hc]
      by_cases h : dR l = []
      · rw [if_pos h]
        simp only [Bool.false_eq_true, if_false]
        unfold dL; rw [List.dropWhile_cons, if_neg (by rw [hc]; simp)]
      · rw [if_neg h]
        unfold dL; rw [List.dropWhile_cons, if_neg (by rw [hc]; simp)]
theorem trimL_eq (l : List UInt8) : trimL l = dR (dL l) := by rw [← trim_comm]; rfl
theorem dR_snoc (l : List UInt8) (c : UInt8) : dR (l ++ [c]) = if ([32, 9] : List UInt8).contains c then dR l else l ++ [c] := by
  unfold dR
  rw [List.reverse_append, List.reverse_cons, List.reverse_nil, List.nil_append, List.singleton_append, List.dropWhile_cons]
  split
  · rfl
  · rw [List.reverse_cons, List.reverse_reverse]

theorem rtrimR : ∀ (d : Nat) (s : ByteArray) (k : Nat), s.size = d → s.size ≤ 562949953421312 → d < k → ∃ t, tollbarref02_Trim.l1 k s = some t ∧ L t = dR (L s) := by
  intro d
  induction d with
  | zero =>
    intro s k hd hs hk; obtain ⟨k, rfl, _⟩ := suc hk
    simp only [tollbarref02_Trim.l1]
    rw [if_neg (by omega)]
    refine ⟨s, rfl, ?_⟩
    have : L s = [] := List.eq_nil_of_length_eq_zero (by rw [L_len]; exact hd)
    rw [this]; rfl
  | succ d ih =>
    intro s k hd hs hk; obtain ⟨k, rfl, _⟩ := suc hk
    have e : wrap64 ((s.size : Int) - 1) = ((s.size - 1 : Nat) : Int) := by rw [wrap64_in (by omega) (by omega)]; omega
    have hlt : s.size - 1 < s.size := by omega
    simp only [tollbarref02_Trim.l1]
    rw [e, if_pos (by omega), if_pos (by omega), if_pos (by omega), bt_get s _ hlt, blank1, Option.bind_some]
    have hl : L s = (L s).take (s.size - 1) ++ [(L s)[s.size - 1]'(lt_L hlt)] := by
      rw [List.take_append_getElem, show s.size - 1 + 1 = (L s).length from by rw [L_len]; omega, List.take_length]
    by_cases hb : (([32, 9] : List UInt8).contains ((L s)[s.size - 1]'(lt_L hlt))) = true
    · rw [if_pos hb, if_pos (by omega)]
      obtain ⟨t, h1, h2⟩ := ih (s.extract 0 ((s.size - 1 : Nat) : Int).toNat) k (by rw [size_extract, Int.toNat_natCast]; omega) (by rw [size_extract]; omega) (by omega)
      refine ⟨t, h1, ?_⟩
      rw [h2, L_extract, List.drop_zero, Nat.sub_zero, Int.toNat_natCast]
      conv => rhs; rw [hl]
      rw [dR_snoc, if_pos hb]
    · rw [if_neg hb]
      refine ⟨s, rfl, ?_⟩
      conv => rhs; rw [hl]
      rw [dR_snoc, if_neg hb, ← hl]
theorem rtrimL : ∀ (d : Nat) (s : ByteArray) (k : Nat), s.size = d → s.size ≤ 562949953421312 → d + d + 2 < k → ∃ t, tollbarref02_Trim.l0 k s = some t ∧ L t = dR (dL (L s)) := by
  intro d
  induction d with
  | zero =>
    intro s k hd hs hk; obtain ⟨k, rfl, _⟩ := suc hk
    simp only [tollbarref02_Trim.l0]
    rw [if_neg (by omega)]
    obtain ⟨k, rfl, _⟩ := suc (show 0 < k by omega)
    simp only [tollbarref02_Trim.j1]
    obtain ⟨t, h1, h2⟩ := rtrimR 0 s k hd hs (by omega)
    refine ⟨t, h1, ?_⟩
    have : L s = [] := List.eq_nil_of_length_eq_zero (by rw [L_len]; exact hd)
    rw [h2, this]; rfl
  | succ d ih =>
    intro s k hd hs hk; obtain ⟨k, rfl, _⟩ := suc hk
    have hlt : 0 < s.size := by omega
    have hl : L s = (L s)[0]'(lt_L hlt) :: (L s).drop 1 := by have := drop_get s 0 hlt; rwa [List.drop_zero] at this
    have hb0 := bt_get s 0 hlt
    rw [Int.natCast_zero] at hb0
    simp only [tollbarref02_Trim.l0]
    rw [if_pos (by omega), if_pos (by omega), hb0, blank1, Option.bind_some]
    by_cases hb : (([32, 9] : List UInt8).contains ((L s)[0]'(lt_L hlt))) = true
    · rw [if_pos hb, if_pos (by omega)]
      obtain ⟨t, h1, h2⟩ := ih (s.extract 1 s.size) k (by rw [size_extract]; omega) (by rw [size_extract]; omega) (by omega)
      refine ⟨t, h1, ?_⟩
      rw [h2, L_extract, List.take_of_length_le (by rw [List.length_drop, L_len]; omega)]
      conv => rhs; rw [hl]
      unfold dL; rw [List.dropWhile_cons, if_pos hb]
    · rw [if_neg hb]
      obtain ⟨k, rfl, _⟩ := suc (show 0 < k by omega)
      simp only [tollbarref02_Trim.j1]
      obtain ⟨t, h1, h2⟩ := rtrimR _ s k rfl hs (by omega)
      refine ⟨t, h1, ?_⟩
      rw [h2]
      congr 1
      conv => rhs; rw [hl]
      unfold dL; rw [List.dropWhile_cons, if_neg hb, ← hl]
theorem rtrim_spec (s : ByteArray) (hs : s.size ≤ 562949953421312) (k : Nat) (hk : s.size + s.size + 2 < k) : tollbarref02_Trim.f k s = some (trimB s) := by
  obtain ⟨t, h1, h2⟩ := rtrimL _ s k rfl hs hk
  unfold tollbarref02_Trim.f
  rw [h1]
  congr 1
  exact L_inj (by rw [h2, L_trimB, trimL_eq])
theorem dropWhile_le (p : UInt8 → Bool) (l : List UInt8) : (l.dropWhile p).length ≤ l.length := (List.dropWhile_sublist p).length_le
theorem trimL_le (l : List UInt8) : (trimL l).length ≤ l.length := by
  rw [trimL_eq]; unfold dR dL
  rw [List.length_reverse]
  have h1 := dropWhile_le (([32, 9] : List UInt8).contains ·) (l.dropWhile (([32, 9] : List UInt8).contains ·)).reverse
  have h2 := dropWhile_le (([32, 9] : List UInt8).contains ·) l
  rw [List.length_reverse] at h1
  omega
theorem trimB_le (s : ByteArray) : (trimB s).size ≤ s.size := by
  have := trimL_le (L s); rw [size_eq, L_trimB, size_eq s]; exact this
end Go.Proofs.YtijindelbagpiaaDoor.X
