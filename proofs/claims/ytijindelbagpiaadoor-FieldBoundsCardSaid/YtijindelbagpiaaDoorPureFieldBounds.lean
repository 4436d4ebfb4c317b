/- Names and values of as many bytes as may be are right, longer ones are not; so many fields as may be are right, one more is not: for every input (no condition). -/
import Derived.Test.YtijindelbagpiaaDoorPAllx15
import Derived.Test.YtijindelbagpiaaDoorXField2
import Derived.Test.YtijindelbagpiaaDoorXAliveP
import Derived.Test.YtijindelbagpiaaDoorXAliveL
import Derived.Test.YtijindelbagpiaaDoorXParse
import Derived.Test.YtijindelbagpiaaDoorXBits
namespace Go.Proofs.YtijindelbagpiaaDoor.Pure
open Go.RowKit Go.Proofs.YtijindelbagpiaaDoor.PAll Go.Proofs.YtijindelbagpiaaDoor.X Go.Proofs.YtijindelbagpiaaDoorW.PrintWords Go.Proofs.YtijindelbagpiaaDoorW.PrintMore
set_option linter.unusedVariables false
set_option linter.unusedSimpArgs false

def ab : FdT := ⟨(⟨#[97]⟩ : ByteArray), (⟨#[98]⟩ : ByteArray)⟩
theorem ab_ok : okS ab = true := by decide +kernel
theorem ab_A : sameB ab.f0 (⟨#[65]⟩ : ByteArray) = true := by decide +kernel
theorem z1 (c : UInt8) : (⟨#[c]⟩ : ByteArray).size = 1 := rfl
theorem right_rep (C : Nat) : rightM (List.replicate C ab) = decide (C ≤ 40) := by
  unfold rightM
  rw [List.length_replicate]
  have : (List.replicate C ab).all okS = true := List.all_eq_true.2 fun x hx => by rw [(List.mem_replicate.1 hx).2]; exact ab_ok
  rw [this, Bool.and_true]
theorem get_rep (C : Nat) : (getM (List.replicate C ab) (⟨#[65]⟩ : ByteArray)).length = C := by
  unfold getM
  rw [List.length_map, List.filter_eq_self.2 (fun x hx => by rw [(List.mem_replicate.1 hx).2]; exact ab_A), List.length_replicate]
theorem l2_ok (C : Nat) (hC : C ≤ 63) : ∀ d i k, i + d = C → d + 200 < k → tollbarlaw04_FieldBounds.l2 k (C : Int) (List.replicate i ab) (i : Int) = some true := by
  intro d
  induction d with
  | zero =>
    intro i k hi hk; obtain ⟨k, rfl, _⟩ := suc hk
    obtain rfl : i = C := by omega
    have hab : ∀ x ∈ List.replicate i ab, x = ab := fun x hx => (List.mem_replicate.1 hx).2
    have hs1 : ab.f0.size = 1 := rfl
    have hs2 : ab.f1.size = 1 := rfl
    have hf : Fit (List.replicate i ab) := fun x hx => by rw [hab x hx, hs1, hs2]; omega
    simp only [tollbarlaw04_FieldBounds.l2]
    rw [if_neg (by omega), frights_spec _ hf 100 (fun x hx => by rw [hab x hx, hs1, hs2]; omega) (by rw [List.length_replicate]; omega) k (by rw [List.length_replicate]; omega), Option.bind_some, right_rep, if_pos (by rw [beq_iff_eq]; congr 1; simp only [eq_iff_iff]; omega), get_spec _ _ hf (by rw [z1]; omega) (by rw [List.length_replicate]; omega) k (by rw [List.length_replicate]; omega), Option.bind_some, get_rep]
    simp
  | succ d ih =>
    intro i k hi hk; obtain ⟨k, rfl, _⟩ := suc hk
    simp only [tollbarlaw04_FieldBounds.l2]
    rw [if_pos (by omega), if_pos (by rw [List.length_replicate]; omega), succ_cast i (by omega)]
    have : List.replicate i ab ++ [(⟨(⟨#[97]⟩ : ByteArray), (⟨#[98]⟩ : ByteArray)⟩ : FdT)] = List.replicate (i + 1) ab := by rw [List.replicate_succ']; rfl
    rw [this, ih (i + 1) k (by omega) (by omega)]
theorem j4_ok (C : Nat) (hC : C ≤ 63) (k : Nat) (hk : 300 < k) : tollbarlaw04_FieldBounds.j4 k (C : Int) false = some true := by
  obtain ⟨k, rfl, _⟩ := suc hk
  simp only [tollbarlaw04_FieldBounds.j4]
  rw [if_neg (by simp)]
  have h := l2_ok C hC C 0 k (by omega) (by omega)
  rw [Int.natCast_zero, List.replicate_zero] at h
  exact h
theorem tok_rep (N : Nat) (h : 0 < N) : isTok (List.replicate N 110) = true := by
  unfold isTok
  have : (List.replicate N (110 : UInt8)).all (fun c => tokN c.toNat) = true := List.all_eq_true.2 fun x hx => by rw [(List.mem_replicate.1 hx).2]; rfl
  rw [this]
  cases N with
  | zero => omega
  | succ n => rfl
theorem val_rep (N : Nat) : isVal (List.replicate N 118) = true := List.all_eq_true.2 fun x hx => by rw [(List.mem_replicate.1 hx).2]; rfl
theorem trim_rep (N : Nat) : trimL (List.replicate N 118) = List.replicate N 118 := by
  have h : ∀ M, (List.replicate M (118 : UInt8)).dropWhile (([32, 9] : List UInt8).contains ·) = List.replicate M 118 := by
    intro M
    cases M with
    | zero => rfl
    | succ m => rw [List.replicate_succ, List.dropWhile_cons, if_neg (by decide)]
  rw [trimL_eq]; unfold dR dL
  rw [h, List.reverse_replicate, h, List.reverse_replicate]
theorem okF_rep (N V : Nat) (h : 0 < N) : okF (List.replicate N 110) (List.replicate V 118) = (decide (N ≤ 100) && decide (V ≤ 1000)) := by
  unfold okF
  rw [tok_rep N h, val_rep, trim_rep, List.length_replicate, List.length_replicate]
  simp
theorem field_rep (N V : Nat) (h : 0 < N) (s : ByteArray) (hs : L s = List.replicate N 110 ++ 58 :: List.replicate V 118) : fieldOf s = if (decide (N ≤ 100) && decide (V ≤ 1000)) = true then some (mkB (List.replicate N 110), mkB (List.replicate V 118)) else none := by
  have hno : (58 : UInt8) ∉ List.replicate N (110 : UInt8) := fun hm => by have := (List.mem_replicate.1 hm).2; revert this; decide
  have hc : (L s)[(List.replicate N (110 : UInt8)).length]? = some 58 := by rw [hs]; simp
  have h0 : 58 ∉ (L s).take (List.replicate N (110 : UInt8)).length := by rw [hs, List.take_left]; exact hno
  obtain ⟨e1, e2⟩ := tw_at hc h0
  have ed : (L s).drop ((List.replicate N (110 : UInt8)).length + 1) = List.replicate V 118 := by
    rw [hs, List.drop_append, List.drop_of_length_le (by omega)]
    simp
  unfold fieldOf
  rw [if_pos (List.mem_of_getElem? hc), e1, e2, ed, trim_rep, hs, List.take_left, okF_rep N V h]
  rfl
theorem j3_ok (N V C : Nat) (hN : 0 < N) (hN2 : N ≤ 128) (hV : V ≤ 1100) (hC : C ≤ 63) (k : Nat) (hk : 3000 < k) : tollbarlaw04_FieldBounds.j3 k (C : Int) (mkB (List.replicate N 110)) (mkB (List.replicate V 118)) (decide (N ≤ 100) && decide (V ≤ 1000)) = some true := by
  obtain ⟨k, rfl, _⟩ := suc hk
  have hz : (mkB (List.replicate N (110 : UInt8))).size = N := by rw [size_mkB, List.length_replicate]
  have hz2 : (mkB (List.replicate V (118 : UInt8))).size = V := by rw [size_mkB, List.length_replicate]
  have hL : L ((mkB (List.replicate N 110) ++ (⟨#[58]⟩ : ByteArray)) ++ mkB (List.replicate V 118)) = List.replicate N 110 ++ 58 :: List.replicate V 118 := by
    rw [L_append, L_append, L_mkB, L_mkB]
    show (List.replicate N 110 ++ [58]) ++ List.replicate V 118 = _
    simp
  have hsz : ((mkB (List.replicate N 110) ++ (⟨#[58]⟩ : ByteArray)) ++ mkB (List.replicate V 118)).size = N + 1 + V := by rw [size_append, size_append, z1, hz, hz2]
  have hf : Fit [(⟨mkB (List.replicate N 110), mkB (List.replicate V 118)⟩ : FdT)] := fun x hx => by
    rw [List.mem_singleton.1 hx]; show (mkB _).size ≤ _ ∧ (mkB _).size ≤ _; rw [hz, hz2]; omega
  have hr : field_Right.f k [(⟨mkB (List.replicate N 110), mkB (List.replicate V 118)⟩ : FdT)] = some (decide (N ≤ 100) && decide (V ≤ 1000)) := by
    rw [frights_spec _ hf 2000 (fun x hx => by rw [List.mem_singleton.1 hx]; show (mkB _).size < _ ∧ (mkB _).size < _; rw [hz, hz2]; omega) (by simp) k (by simp; omega)]
    have : rightM [(⟨mkB (List.replicate N 110), mkB (List.replicate V 118)⟩ : FdT)] = okF (L (mkB (List.replicate N 110))) (L (mkB (List.replicate V 118))) := by simp [rightM, okS]
    rw [this, L_mkB, L_mkB, okF_rep N V hN]
  have hj := j4_ok C hC k (by omega)
  simp only [tollbarlaw04_FieldBounds.j3]
  rw [if_pos (by rw [hz]; omega), if_pos (by rw [size_append, z1, hz, hz2]; omega), parse_spec _ (by rw [hsz]; omega) k (by rw [hsz]; omega), Option.bind_some, field_rep N V hN _ hL, hr]
  cases (decide (N ≤ 100) && decide (V ≤ 1000)) with
  | true => simpa using hj
  | false => simpa using hj
theorem l1_ok (N V C : Nat) (hN : 0 < N) (hN2 : N ≤ 128) (hV : V ≤ 1100) (hC : C ≤ 63) : ∀ d i k, i + d = V → d + 3001 < k → tollbarlaw04_FieldBounds.l1 k (N : Int) (V : Int) (C : Int) (mkB (List.replicate N 110)) (mkB (List.replicate i 118)) (i : Int) = some true := by
  intro d
  induction d with
  | zero =>
    intro i k hi hk; obtain ⟨k, rfl, _⟩ := suc hk
    obtain rfl : i = V := by omega
    have hj := j3_ok N i C hN hN2 hV hC k (by omega)
    simp only [tollbarlaw04_FieldBounds.l1]
    rw [if_neg (by omega)]
    by_cases h : (N : Int) ≤ 100
    · rw [if_pos h]
      rw [decide_eq_true (show N ≤ 100 by omega), Bool.true_and] at hj
      rw [show decide ((i : Int) ≤ 1000) = decide (i ≤ 1000) from by congr 1; simp only [eq_iff_iff]; omega]
      exact hj
    · rw [if_neg h]
      rw [decide_eq_false (show ¬ N ≤ 100 by omega), Bool.false_and] at hj
      exact hj
  | succ d ih =>
    intro i k hi hk; obtain ⟨k, rfl, _⟩ := suc hk
    simp only [tollbarlaw04_FieldBounds.l1]
    rw [if_pos (by omega), if_pos (by rw [size_mkB, List.length_replicate]; omega), succ_cast i (by omega)]
    have : mkB (List.replicate i 118) ++ (⟨#[118]⟩ : ByteArray) = mkB (List.replicate (i + 1) 118) := L_inj (by rw [L_append, L_mkB, L_mkB, List.replicate_succ'])
    rw [this, ih (i + 1) k (by omega) (by omega)]
theorem l0_ok (N V C : Nat) (hN : 0 < N) (hN2 : N ≤ 128) (hV : V ≤ 1100) (hC : C ≤ 63) : ∀ d i k, i + d = N → d + 4200 < k → tollbarlaw04_FieldBounds.l0 k (N : Int) (V : Int) (C : Int) (mkB (List.replicate i 110)) (⟨#[]⟩ : ByteArray) (i : Int) = some true := by
  intro d
  induction d with
  | zero =>
    intro i k hi hk; obtain ⟨k, rfl, _⟩ := suc hk
    obtain rfl : i = N := by omega
    have hj := l1_ok i V C hN hN2 hV hC V 0 k (by omega) (by omega)
    simp only [tollbarlaw04_FieldBounds.l0]
    rw [if_neg (by omega)]
    rw [Int.natCast_zero] at hj
    exact hj
  | succ d ih =>
    intro i k hi hk; obtain ⟨k, rfl, _⟩ := suc hk
    simp only [tollbarlaw04_FieldBounds.l0]
    rw [if_pos (by omega), if_pos (by rw [size_mkB, List.length_replicate]; omega), succ_cast i (by omega)]
    have : mkB (List.replicate i 110) ++ (⟨#[110]⟩ : ByteArray) = mkB (List.replicate (i + 1) 110) := L_inj (by rw [L_append, L_mkB, L_mkB, List.replicate_succ'])
    rw [this, ih (i + 1) k (by omega) (by omega)]
theorem nat_of (x m : Int) (hm : 0 < m) : ∃ n : Nat, x % m = (n : Int) ∧ (n : Int) < m := ⟨(x % m).toNat, by rw [Int.toNat_of_nonneg (Int.emod_nonneg _ (by omega))], by rw [Int.toNat_of_nonneg (Int.emod_nonneg _ (by omega))]; exact Int.emod_lt_of_pos _ hm⟩
theorem FieldBounds : tollbarlaw04_FieldBounds.Pure := by
  intro a b c _ _ _
  refine ⟨6000, ?_⟩
  unfold tollbarlaw04_FieldBounds.f
  rw [parsing_ok _ (by omega), Option.bind_some, if_pos rfl, looking_ok _ (by omega), Option.bind_some]
  show tollbarlaw04_FieldBounds.j0 (5999 + 1) a b c false = some true
  simp only [tollbarlaw04_FieldBounds.j0]
  rw [if_neg (by simp), and127, and127, and63]
  obtain ⟨n, e1, h1⟩ := nat_of a (127 + 1) (by omega)
  obtain ⟨v, e2, h2⟩ := nat_of b (127 + 1) (by omega)
  obtain ⟨m, e3, h3⟩ := nat_of c (63 + 1) (by omega)
  have w1 : wrap64 (1 + (n : Int)) = ((1 + n : Nat) : Int) := by rw [wrap64_in (by omega) (by omega)]; omega
  have w2 : wrap64 (900 + (v : Int)) = ((900 + v : Nat) : Int) := by rw [wrap64_in (by omega) (by omega)]; omega
  rw [show a % 128 = (n : Int) from e1, show b % 128 = (v : Int) from e2, show c % 64 = (m : Int) from e3, w1, w2]
  clear w1 w2 e1 e2 e3
  have h := l0_ok (1 + n) (900 + v) m (by omega) (by omega) (by omega) (by omega) (1 + n) 0 5999 (by omega) (by omega)
  rw [Int.natCast_zero, List.replicate_zero] at h
  exact h
end Go.Proofs.YtijindelbagpiaaDoor.Pure
