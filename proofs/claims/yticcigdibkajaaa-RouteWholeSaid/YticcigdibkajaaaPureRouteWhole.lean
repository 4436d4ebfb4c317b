/- A path leads to itself, with a query, and to what lies below it, and nowhere else; with a / at its end to what goes on: for every input (no condition). -/
import Derived.Test.YticcigdibkajaaaXRoute6
import Derived.Test.YticcigdibkajaaaPAllx9
namespace Go.Proofs.Yticcigdibkajaaa.Pure
open Go.RowKit Go.Proofs.Yticcigdibkajaaa.PAll Go.Proofs.Yticcigdibkajaaa.X Go.Proofs.YticcigdibkajaaaW.PrintWords Go.Proofs.YticcigdibkajaaaW.PrintMore
set_option linter.unusedVariables false
set_option linter.unusedSimpArgs false

theorem last_eq (p : ByteArray) (hp : 0 < p.size) (h1 : p.size ≤ 100) : (bt p (wrap64 ((p.size : Int) - 1)) == 47) = ((L p).getLast? == some 47) := by
  have hw : wrap64 ((p.size : Int) - 1) = ((p.size - 1 : Nat) : Int) := by rw [wrap64_in] <;> omega
  rw [hw, Bool.eq_iff_iff, beq_iff_eq, beq_iff_eq, List.getLast?_eq_getElem?, L_len]
  exact bt_eq_iff p (p.size - 1) 47 (by omega)

theorem tail (p tl : ByteArray) (c : Int) (hc : (Lit.int .u8 c).wf = true) (hp : 0 < p.size) (h1 : p.size ≤ 100) (h2 : tl.size ≤ 200) (hq : NoQ (L p)) (k : Nat) (hk : 20 ≤ k) :
    tollbarlaw11_RouteWhole.l0 k p tl c (p.size : Int) = some true := by
  obtain ⟨k, rfl⟩ : ∃ q, k = q + 3 := ⟨k - 3, by omega⟩
  have hc' : 0 ≤ c ∧ c ≤ 255 := by simpa [Lit.wf, IntKind.min, IntKind.max, IntKind.signed, IntKind.bits] using hc
  have hw : wrap64 ((p.size : Int) - 1) = ((p.size - 1 : Nat) : Int) := by rw [wrap64_in] <;> omega
  have hend := last_eq p hp h1
  have s1 : (⟨#[63]⟩ : ByteArray).size = 1 := rfl
  have s2 : (⟨#[47]⟩ : ByteArray).size = 1 := rfl
  simp only [tollbarlaw11_RouteWhole.l0]
  rw [if_neg (by omega)]
  generalize hendv : (bt p (wrap64 ((p.size : Int) - 1)) == 47) = ends at *
  rw [hw, if_pos (by omega), if_pos (by omega), fits_spec p p (by omega) (by omega), fits_self hq]
  simp only [Option.bind_some, if_true]
  rw [if_pos (by omega), if_pos (by rw [size_append]; omega), fits_spec p _ (by omega) (by rw [size_append, size_append]; omega)]
  have e1 : fitsL (L p) (L (p ++ (⟨#[63]⟩ : ByteArray) ++ tl)) = true := by
    rw [L_append, L_append, List.append_assoc]; exact fits_query hq (L tl)
  rw [e1]
  simp only [Option.bind_some, if_true]
  rw [if_pos (by rw [size_append]; omega), fits_spec p _ (by omega) (by rw [size_append, size_append]; omega)]
  have e2 : fitsL (L p) (L (p ++ (⟨#[47]⟩ : ByteArray) ++ tl)) = true := by
    rw [L_append, L_append, List.append_assoc]
    have := fits_c hq (L tl) (c := 47) (by decide)
    rw [show ((47 : UInt8) == 47) = true from rfl, Bool.or_true] at this
    exact this
  rw [e2]
  simp only [Option.bind_some, if_true]
  rw [if_pos (by omega), fits_spec p _ (by omega) (by rw [size_extract]; omega)]
  have e3 : fitsL (L p) (L (p.extract 0 ((((p.size - 1 : Nat) : Int)) : Int).toNat)) = false := by
    refine fits_longer ?_
    rw [L_len, L_len, size_extract, Int.toNat_natCast]; omega
  rw [e3]
  simp only [Option.bind_some, tollbarlaw11_RouteWhole.j2, Bool.false_eq_true, if_false]
  by_cases h47 : c = 47
  · rw [if_pos h47]
    simp only [tollbarlaw11_RouteWhole.j3, if_true]
  · rw [if_neg h47]
    by_cases h63 : c = 63
    · have : (c == 63) = true := by simpa using h63
      rw [this]
      simp only [tollbarlaw11_RouteWhole.j3, if_true]
    · have : (c == 63) = false := by simpa using h63
      rw [this]
      simp only [tollbarlaw11_RouteWhole.j3, Bool.false_eq_true, if_false]
      obtain ⟨s, es, hs⟩ := rewrite_spec p (⟨#[]⟩ : ByteArray) (⟨#[47, 110]⟩ : ByteArray) p (by omega) (by omega) (by decide) k (by omega)
      have er : rewL (L p) (L (⟨#[47, 110]⟩ : ByteArray)) (L p) = ([47, 110], true) := by
        unfold rewL
        rw [fits_self hq, if_pos rfl]
        have : (L p).drop (L p).length = [] := List.drop_length
        rw [this]
        rfl
      rw [er] at es hs
      rw [es]
      simp only [Option.bind_some, if_true]
      have hsn : (strOfNums [c]).size = 1 := rfl
      rw [if_pos (by omega), if_pos (by rw [size_append]; omega), fits_spec p _ (by omega) (by rw [size_append, size_append]; omega)]
      have e4 : fitsL (L p) (L (p ++ strOfNums [c] ++ tl)) = ends := by
        have hb : L (strOfNums [c]) = [UInt8.ofNat c.toNat] := rfl
        rw [L_append, L_append, List.append_assoc, hb]
        have n63 : UInt8.ofNat c.toNat ≠ 63 := by
          intro e
          have := congrArg UInt8.toNat e
          rw [UInt8.toNat_ofNat'] at this
          have h : (63 : UInt8).toNat = 63 := rfl
          omega
        have n47 : (UInt8.ofNat c.toNat == 47) = false := by
          rw [beq_eq_false_iff_ne]
          intro e
          have := congrArg UInt8.toNat e
          rw [UInt8.toNat_ofNat'] at this
          have h : (47 : UInt8).toNat = 47 := rfl
          omega
        have := fits_c hq (L tl) n63
        rw [n47, Bool.or_false] at this
        rw [hend]
        exact this
      rw [e4]
      simp only [Option.bind_some]
      rw [if_pos (by simp), toList_eq, hs]
      rfl

theorem loop (p tl : ByteArray) (c : Int) (hc : (Lit.int .u8 c).wf = true) (hp : 0 < p.size) (h1 : p.size ≤ 100) (h2 : tl.size ≤ 200) : ∀ (d i k : Nat), i + d = p.size → d + 21 ≤ k → (∀ j : Nat, j < i → bt p (j : Int) ≠ 63) →
    tollbarlaw11_RouteWhole.l0 k p tl c (i : Int) = some true := by
  intro d
  induction d with
  | zero =>
    intro i k hi hk hq
    have : i = p.size := by omega
    subst this
    exact tail p tl c hc hp h1 h2 (noQ_of p hq) k (by omega)
  | succ d ih =>
    intro i k hi hk hq
    obtain ⟨k, rfl⟩ : ∃ q, k = q + 1 := ⟨k - 1, by omega⟩
    simp only [tollbarlaw11_RouteWhole.l0]
    rw [if_pos (by omega), if_pos (by omega)]
    have hw : wrap64 ((i : Int) + 1) = ((i + 1 : Nat) : Int) := by rw [wrap64_in] <;> omega
    by_cases h : bt p (i : Int) = 63
    · rw [if_pos h]
    · rw [if_neg h, hw]
      refine ih (i + 1) k (by omega) (by omega) (fun j hj => ?_)
      rcases Nat.lt_or_ge j i with h3 | h3
      · exact hq j h3
      · have : j = i := by omega
        rw [this]; exact h

theorem RouteWhole : tollbarlaw11_RouteWhole.Pure := by
  intro p tl c hp ht hc
  obtain ⟨k0, hk0⟩ : ∃ k0, k0 = 2 * p.size + 200 := ⟨_, rfl⟩
  refine ⟨k0, ?_⟩
  unfold tollbarlaw11_RouteWhole.f
  rw [alive_true _ (by omega)]
  simp only [Option.bind_some, if_true]
  obtain ⟨b, eb, hb⟩ := target_some p (by omega) k0 (by omega)
  rw [eb]
  simp only [Option.bind_some]
  obtain ⟨k, rfl⟩ : ∃ q, k0 = q + 1 := ⟨k0 - 1, by omega⟩
  have triv : tollbarlaw11_RouteWhole.j0 (k + 1) p tl c true = some true := by simp only [tollbarlaw11_RouteWhole.j0, if_true]
  cases b with
  | false => rw [if_neg (by simp)]; exact triv
  | true =>
    have hpos := hb rfl
    rw [if_pos rfl, if_pos (by omega)]
    by_cases h47 : bt p 0 = 47
    · rw [if_pos h47]
      by_cases h1 : (p.size : Int) > 100
      · rw [if_pos h1]; exact triv
      · rw [if_neg h1]
        by_cases h2 : (tl.size : Int) > 200
        · rw [decide_eq_true h2]; exact triv
        · rw [decide_eq_false h2]
          simp only [tollbarlaw11_RouteWhole.j0, Bool.false_eq_true, if_false]
          exact loop p tl c hc hpos (by omega) (by omega) p.size 0 k (by omega) (by omega) (fun j hj => by omega)
    · rw [if_neg h47]; exact triv
end Go.Proofs.Yticcigdibkajaaa.Pure
