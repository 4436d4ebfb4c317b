/- Paths without a ?: what fits them, and what comes of it. -/
import Derived.Test.YticcigdibkajaaaXRoute5
import Derived.Test.YticcigdibkajaaaPAllx7
namespace Go.Proofs.Yticcigdibkajaaa.X
open Go.RowKit Go.Proofs.Yticcigdibkajaaa.PAll Go.Proofs.YticcigdibkajaaaW.PrintWords Go.Proofs.YticcigdibkajaaaW.PrintMore
set_option linter.unusedVariables false
set_option linter.unusedSimpArgs false

theorem target_loop (s : ByteArray) (hs : s.size ≤ 562949953404928) : ∀ (d i k : Nat), i + d = s.size → d + 1 ≤ k → ∃ b, tollbarref02_Target.l0 k s (i : Int) = some b ∧ (b = true → 0 < s.size) := by
  intro d
  induction d with
  | zero =>
    intro i k hi hk
    obtain ⟨k, rfl⟩ : ∃ q, k = q + 1 := ⟨k - 1, by omega⟩
    simp only [tollbarref02_Target.l0]
    rw [if_neg (by omega)]
    exact ⟨_, rfl, fun h => by have := of_decide_eq_true h; omega⟩
  | succ d ih =>
    intro i k hi hk
    obtain ⟨k, rfl⟩ : ∃ q, k = q + 1 := ⟨k - 1, by omega⟩
    simp only [tollbarref02_Target.l0]
    rw [if_pos (by omega), if_pos (by omega)]
    have hw : wrap64 ((i : Int) + 1) = ((i + 1 : Nat) : Int) := by rw [wrap64_in] <;> omega
    rw [hw]
    split
    · exact ⟨_, rfl, fun h => by cases h⟩
    · split
      · exact ⟨_, rfl, fun h => by cases h⟩
      · exact ih (i + 1) k (by omega) (by omega)
theorem target_some (s : ByteArray) (hs : s.size ≤ 562949953404928) (k : Nat) (hk : s.size + 1 ≤ k) : ∃ b, tollbarref02_Target.f k s = some b ∧ (b = true → 0 < s.size) := by
  unfold tollbarref02_Target.f
  exact target_loop s hs s.size 0 k (by omega) hk

/-- no ? in it -/
def NoQ (p : List UInt8) : Prop := 63 ∉ p
theorem path_noQ {p : List UInt8} (h : NoQ p) : pathOf p = p := takeWhile_all h
theorem path_append {p q : List UInt8} (h : NoQ p) : pathOf (p ++ q) = p ++ pathOf q := by
  unfold pathOf
  rw [List.takeWhile_append_of_pos]
  intro x hx
  have : x ≠ 63 := fun e => h (e ▸ hx)
  simpa using this
theorem path_q (q : List UInt8) : pathOf (63 :: q) = [] := by simp [pathOf]
theorem path_c {c : UInt8} (hc : c ≠ 63) (q : List UInt8) : pathOf (c :: q) = c :: pathOf q := by
  unfold pathOf
  rw [List.takeWhile_cons, if_pos (by simpa using hc)]
theorem pre_self (p q : List UInt8) : p.isPrefixOf (p ++ q) = true := List.isPrefixOf_iff_prefix.2 ⟨q, rfl⟩
theorem fits_self {p : List UInt8} (h : NoQ p) : fitsL p p = true := by
  have := pre_self p []
  rw [List.append_nil] at this
  unfold fitsL
  rw [path_noQ h, this]; simp
theorem fits_query {p : List UInt8} (h : NoQ p) (q : List UInt8) : fitsL p (p ++ 63 :: q) = true := by
  unfold fitsL
  rw [path_append h, path_q, List.append_nil]
  have := pre_self p []
  rw [List.append_nil] at this
  rw [this]; simp
theorem fits_c {p : List UInt8} (h : NoQ p) (q : List UInt8) {c : UInt8} (hc : c ≠ 63) : fitsL p (p ++ c :: q) = (p.getLast? == some 47 || c == 47) := by
  unfold fitsL
  rw [path_append h, path_c hc, pre_self]
  have h1 : (p.length == (p ++ c :: pathOf q).length) = false := by rw [beq_eq_false_iff_ne]; simp
  have h2 : (p ++ c :: pathOf q)[p.length]? = some c := by rw [List.getElem?_append_right (Nat.le_refl _)]; simp
  rw [h1, h2]
  simp
theorem fits_longer {p t : List UInt8} (h : t.length < p.length) : fitsL p t = false := by
  cases hh : fitsL p t with
  | false => rfl
  | true => have := fits_le hh; omega

theorem noQ_of (s : ByteArray) (h : ∀ i : Nat, i < s.size → bt s (i : Int) ≠ 63) : NoQ (L s) := by
  intro hm
  obtain ⟨i, hi⟩ := List.mem_iff_getElem?.1 hm
  have hl := (List.getElem?_eq_some_iff.1 hi).1
  rw [L_len] at hl
  exact h i hl ((bt_eq_iff s i 63 hl).2 hi)
end Go.Proofs.Yticcigdibkajaaa.X
