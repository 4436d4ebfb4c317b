/- The document's Rewrite, and the two Matches, on lists of bytes. -/
import Derived.Test.YticcigdibkajaaaXRoute3
namespace Go.Proofs.Yticcigdibkajaaa.X
open Go.RowKit Go.Proofs.Yticcigdibkajaaa.PAll Go.Proofs.YticcigdibkajaaaW.PrintWords Go.Proofs.YticcigdibkajaaaW.PrintMore
set_option linter.unusedVariables false
set_option linter.unusedSimpArgs false

theorem refRewrite_spec (p u swap t : ByteArray) (hp : p.size ≤ 562949953404928) (ht : t.size ≤ 562949953404928) (hs : swap.size ≤ 562949953404928) (k : Nat) (hk : t.size + 4 ≤ k) :
    RB (tollbarref11_Rewrite.f k p u swap t) (rewL (L p) (L swap) (L t)) := by
  obtain ⟨k, rfl⟩ : ∃ m, k = m + 3 := ⟨k - 3, by omega⟩
  unfold tollbarref11_Rewrite.f
  rw [refFits_spec p t hp ht _ (by omega)]
  simp only [Option.bind_some]
  unfold rewL
  cases hf : fitsL (L p) (L t) with
  | false => exact ⟨_, by simp; rfl, rfl⟩
  | true =>
    have hle := fits_le hf
    rw [L_len, L_len] at hle
    simp only [if_true]
    rw [if_pos (by omega), if_pos (by omega)]
    have er : L (t.extract p.size t.size) = (L t).drop (L p).length := by
      rw [L_extract, L_len, List.take_of_length_le (by rw [List.length_drop, L_len]; omega)]
    rw [← er]
    have hrs : (t.extract p.size t.size).size ≤ 562949953404928 := by rw [size_extract]; omega
    generalize t.extract p.size t.size = rest at *
    have hz := L_len rest
    have key : ∀ b : Bool, (b = true ↔ (L swap).getLast? = some 47) → RB (tollbarref11_Rewrite.j0 (k + 3) rest b p u swap) (if (L swap ++ restL (L swap) (L rest)).length > 512 then ([], false) else (L swap ++ restL (L swap) (L rest), true)) := by
      intro b hb
      simp only [tollbarref11_Rewrite.j0]
      by_cases h0 : (rest.size : Int) > 0
      · rw [if_pos h0]
        have h47 : bt rest 0 = 47 ↔ (L rest)[0]? = some 47 := bt_eq_iff rest 0 47 (by omega)
        have h63 : bt rest 0 = 63 ↔ (L rest)[0]? = some 63 := bt_eq_iff rest 0 63 (by omega)
        have hne : ¬ L rest = [] := fun e => by rw [e] at hz; simp at hz; omega
        cases b with
        | true =>
          have h1 := hb.1 rfl
          simp only [if_true]
          rw [if_pos (by omega)]
          simp only [tollbarref11_Rewrite.j1]
          by_cases h2 : bt rest 0 = 47
          · have e2 : restL (L swap) (L rest) = L (rest.extract 1 rest.size) := by
              unfold restL
              rw [if_pos h1, if_pos (h47.1 h2), L_extract, List.take_of_length_le (by rw [List.length_drop]; omega)]
            rw [e2, if_pos (by rw [h2]; rfl), if_pos (by omega)]
            have hq : rest.size - 1 = (rest.extract 1 rest.size).size := by rw [size_extract]; omega
            rw [hq]
            exact RB_out swap (rest.extract 1 rest.size) (by rw [size_extract]; omega)
          · have e2 : restL (L swap) (L rest) = L rest := by
              unfold restL
              rw [if_pos h1, if_neg (fun e => h2 (h47.2 e))]
            have h3 : (bt rest 0 == 47) = false := by simpa using h2
            rw [e2, h3]
            simp only [Bool.false_eq_true, if_false, if_true, tollbarref11_Rewrite.j2]
            exact RB_out swap rest (by omega)
        | false =>
          have h1 : ¬ (L swap).getLast? = some 47 := fun e => by have := hb.2 e; simp at this
          simp only [Bool.false_eq_true, if_false, tollbarref11_Rewrite.j1]
          rw [if_pos (by omega)]
          by_cases h2 : bt rest 0 = 47
          · have e2 : restL (L swap) (L rest) = L rest := by
              unfold restL
              rw [if_neg h1, if_pos (Or.inr (Or.inl (h47.1 h2)))]
            rw [if_pos h2, e2]
            simp only [Bool.false_eq_true, if_false, tollbarref11_Rewrite.j2]
            exact RB_out swap rest (by omega)
          · rw [if_neg h2]
            by_cases h3 : bt rest 0 = 63
            · have e2 : restL (L swap) (L rest) = L rest := by
                unfold restL
                rw [if_neg h1, if_pos (Or.inr (Or.inr (h63.1 h3)))]
              rw [e2]
              simp only [tollbarref11_Rewrite.j2]
              rw [if_neg (by simp [h3])]
              exact RB_out swap rest (by omega)
            · have e3 : restL (L swap) (L rest) = L ((⟨#[47]⟩ : ByteArray) ++ rest) := by
                unfold restL
                rw [if_neg h1, if_neg (by rintro (h | h | h); exact hne h; exact h2 (h47.2 h); exact h3 (h63.2 h)), L_append]; rfl
              rw [e3]
              simp only [tollbarref11_Rewrite.j2]
              have hh : (bt rest 0 != 63) = true := by simpa using h3
              rw [if_pos hh, if_pos (by omega)]
              exact RB_out swap ((⟨#[47]⟩ : ByteArray) ++ rest) (by rw [size_append]; have : (⟨#[47]⟩ : ByteArray).size = 1 := rfl; omega)
      · rw [if_neg h0]
        have he : L rest = [] := List.eq_nil_of_length_eq_zero (by omega)
        have e2 : restL (L swap) (L rest) = L rest := by
          unfold restL
          rw [he]
          split <;> simp
        rw [e2]
        exact RB_out swap rest (by omega)
    have hl : (L swap).getLast? = (L swap)[swap.size - 1]? := by rw [List.getLast?_eq_getElem?, L_len]
    have hw : wrap64 ((swap.size : Int) - 1) = (swap.size : Int) - 1 := by apply wrap64_in <;> omega
    by_cases h5 : (swap.size : Int) > 0
    · rw [if_pos h5, hw, if_pos (by omega), if_pos (by omega)]
      have e1 : ((swap.size : Int) - 1) = ((swap.size - 1 : Nat) : Int) := by omega
      have h6 := bt_eq_iff swap (swap.size - 1) 47 (by omega)
      rw [e1]
      refine key _ ?_
      rw [beq_iff_eq, hl]
      exact h6
    · rw [if_neg h5]
      refine key _ ?_
      have : L swap = [] := List.eq_nil_of_length_eq_zero (by rw [L_len]; omega)
      rw [this]; simp

/-! matches -/
/-- m is the place of the route that fits best -/
def IsMatch (fs : List (Bool × Nat)) (m : Int) : Prop :=
  (m = -1 ∧ ∀ x ∈ fs, x.1 = false) ∨
  ∃ i x, m = (i : Nat) ∧ fs[i]? = some x ∧ x.1 = true ∧ (∀ (j : Nat) (y : Bool × Nat), fs[j]? = some y → y.1 = true → y.2 ≤ x.2) ∧ (∀ (j : Nat) (y : Bool × Nat), j < i → fs[j]? = some y → y.1 = true → y.2 < x.2)
theorem IsMatch.unique {fs : List (Bool × Nat)} {m m' : Int} (h : IsMatch fs m) (h' : IsMatch fs m') : m = m' := by
  rcases h with ⟨rfl, h⟩ | ⟨i, x, rfl, hx, h1, h2, h3⟩ <;> rcases h' with ⟨rfl, h'⟩ | ⟨i', x', rfl, hx', h1', h2', h3'⟩
  · rfl
  · have := h x' (List.mem_of_getElem? hx'); rw [h1'] at this; cases this
  · have := h' x (List.mem_of_getElem? hx); rw [h1] at this; cases this
  · rcases Nat.lt_trichotomy i i' with hl | hl | hl
    · have a := h3' i x hl hx h1
      have b := h2 i' x' hx' h1'
      omega
    · rw [hl]
    · have a := h3 i' x' hl hx' h1'
      have b := h2' i x hx h1
      omega
def fitsOf (rs : List S26) (t : List UInt8) : List (Bool × Nat) := rs.map fun r => (fitsL (L r.f0) t, r.f0.size)
theorem rd_at (rs : List S26) (i : Nat) (h : i < rs.length) : rd_T26 rs (i : Int) = rs[i] := by
  unfold rd_T26
  rw [Int.toNat_natCast, List.getD_eq_getElem?_getD, List.getElem?_eq_getElem h]; rfl
theorem fitsOf_get (rs : List S26) (t : List UInt8) (i : Nat) (h : i < rs.length) : (fitsOf rs t)[i]? = some (fitsL (L rs[i].f0) t, rs[i].f0.size) := by
  unfold fitsOf
  rw [List.getElem?_map, List.getElem?_eq_getElem h]; rfl
theorem fitsOf_lt {rs : List S26} {t : List UInt8} {j : Nat} {y : Bool × Nat} (h : (fitsOf rs t)[j]? = some y) : j < rs.length := by
  have := (List.getElem?_eq_some_iff.1 h).1
  simpa [fitsOf] using this

theorem match_loop (rs : List S26) (t : ByteArray) (hn : rs.length ≤ 9223372036854775806) (ht : t.size ≤ 562949953404928) (hr : ∀ r ∈ rs, r.f0.size ≤ 562949953404928) : ∀ (d i k : Nat) (m : Int), i + d = rs.length → d + 1 ≤ k →
    IsMatch ((fitsOf rs (L t)).take i) m → ∃ m', route_Match.l0 k rs t m rs (rs.length : Int) (i : Int) = some m' ∧ IsMatch (fitsOf rs (L t)) m' := by
  intro d
  induction d with
  | zero =>
    intro i k m hi hk hm
    obtain ⟨k, rfl⟩ : ∃ q, k = q + 1 := ⟨k - 1, by omega⟩
    refine ⟨m, by simp only [route_Match.l0]; rw [if_neg (by omega)], ?_⟩
    have : (fitsOf rs (L t)).take i = fitsOf rs (L t) := List.take_of_length_le (by simp [fitsOf]; omega)
    rwa [this] at hm
  | succ d ih =>
    intro i k m hi hk hm
    obtain ⟨k, rfl⟩ : ∃ q, k = q + 1 := ⟨k - 1, by omega⟩
    have hil : i < rs.length := by omega
    simp only [route_Match.l0]
    rw [if_pos (by omega), if_pos (by omega), if_pos (by omega), rd_at rs i hil, fits_spec _ t (hr _ (List.getElem_mem hil)) ht]
    simp only [Option.bind_some]
    have hw : wrap64 ((i : Int) + 1) = ((i + 1 : Nat) : Int) := by rw [wrap64_in] <;> omega
    rw [hw]
    have hg := fitsOf_get rs (L t) i hil
    have hlen : ((fitsOf rs (L t)).take i).length = i := by rw [List.length_take]; simp [fitsOf]; omega
    have htk : (fitsOf rs (L t)).take (i + 1) = (fitsOf rs (L t)).take i ++ [(fitsL (L rs[i].f0) (L t), rs[i].f0.size)] := by
      rw [List.take_add_one, hg]; rfl
    have hlow : ∀ j, j < i → ((fitsOf rs (L t)).take (i + 1))[j]? = ((fitsOf rs (L t)).take i)[j]? := by
      intro j hj
      rw [htk, List.getElem?_append_left (by omega)]
    have hat : ((fitsOf rs (L t)).take (i + 1))[i]? = some (fitsL (L rs[i].f0) (L t), rs[i].f0.size) := by
      rw [List.getElem?_take, if_pos (by omega), hg]
    have hup : ∀ (j : Nat) (y : Bool × Nat), ((fitsOf rs (L t)).take (i + 1))[j]? = some y → j = i ∧ y = (fitsL (L rs[i].f0) (L t), rs[i].f0.size) ∨ j < i ∧ ((fitsOf rs (L t)).take i)[j]? = some y := by
      intro j y hy
      rcases Nat.lt_trichotomy j i with h | h | h
      · exact .inr ⟨h, by rwa [hlow j h] at hy⟩
      · subst h; rw [hat] at hy; exact .inl ⟨rfl, (Option.some.inj hy).symm⟩
      · have := (List.getElem?_eq_some_iff.1 hy).1
        rw [List.length_take] at this; omega
    -- the step where this one doesn't better
    have keep : (fitsL (L rs[i].f0) (L t) = true → ∃ b x, m = ((b : Nat) : Int) ∧ ((fitsOf rs (L t)).take i)[b]? = some x ∧ rs[i].f0.size ≤ x.2) → IsMatch ((fitsOf rs (L t)).take (i + 1)) m := by
      intro hk
      rcases hm with ⟨rfl, h⟩ | ⟨b, x, rfl, hx, h1, h2, h3⟩
      · refine .inl ⟨rfl, fun x hx => ?_⟩
        rw [htk] at hx
        rcases List.mem_append.1 hx with hx | hx
        · exact h x hx
        · have := List.mem_singleton.1 hx
          subst this
          show fitsL _ _ = false
          cases hf : fitsL (L rs[i].f0) (L t) with
          | false => rfl
          | true => obtain ⟨b, _, hb, _⟩ := hk hf; omega
      · have hb : b < i := by have := (List.getElem?_eq_some_iff.1 hx).1; omega
        refine .inr ⟨b, x, rfl, by rw [hlow b hb]; exact hx, h1, fun j y hy hy1 => ?_, fun j y hj hy hy1 => ?_⟩
        · rcases hup j y hy with ⟨rfl, rfl⟩ | ⟨_, hy'⟩
          · obtain ⟨b', x', hb', hx', hl'⟩ := hk hy1
            have : b = b' := by omega
            subst this
            rw [hx] at hx'
            obtain rfl := Option.some.inj hx'
            exact hl'
          · exact h2 j y hy' hy1
        · rcases hup j y hy with ⟨rfl, rfl⟩ | ⟨_, hy'⟩
          · omega
          · exact h3 j y hj hy' hy1
    have better : fitsL (L rs[i].f0) (L t) = true → (∀ b x, m = ((b : Nat) : Int) → ((fitsOf rs (L t)).take i)[b]? = some x → x.2 < rs[i].f0.size) → IsMatch ((fitsOf rs (L t)).take (i + 1)) (i : Int) := by
      intro hf hb
      have low : ∀ (j : Nat) (y : Bool × Nat), ((fitsOf rs (L t)).take i)[j]? = some y → y.1 = true → y.2 < rs[i].f0.size := by
        intro j y hy hy1
        rcases hm with ⟨rfl, h⟩ | ⟨b, x, rfl, hx, h1, h2, h3⟩
        · have := h y (List.mem_of_getElem? hy); rw [hy1] at this; cases this
        · have a := h2 j y hy hy1
          have c := hb b x rfl hx
          omega
      refine .inr ⟨i, _, rfl, hat, hf, fun j y hy hy1 => ?_, fun j y hj hy hy1 => ?_⟩
      · rcases hup j y hy with ⟨rfl, rfl⟩ | ⟨_, hy'⟩
        · exact Nat.le_refl _
        · exact Nat.le_of_lt (low j y hy' hy1)
      · rcases hup j y hy with ⟨rfl, rfl⟩ | ⟨_, hy'⟩
        · omega
        · exact low j y hy' hy1
    cases hf : fitsL (L rs[i].f0) (L t) with
    | false =>
      rw [if_neg (by simp)]
      exact ih (i + 1) k m (by omega) (by omega) (keep (fun h => by rw [hf] at h; cases h))
    | true =>
      rw [if_pos rfl]
      have hm' := hm
      rcases hm' with ⟨rfl, h⟩ | ⟨b, x, rfl, hx, h1, h2, h3⟩
      · rw [if_pos (by omega)]
        exact ih (i + 1) k _ (by omega) (by omega) (better hf (fun b x hb => by omega))
      · have hb : b < i := by have := (List.getElem?_eq_some_iff.1 hx).1; omega
        have hbl : b < rs.length := by omega
        have hxe : x = (fitsL (L rs[b].f0) (L t), rs[b].f0.size) := by
          rw [List.getElem?_take, if_pos hb, fitsOf_get rs (L t) b hbl] at hx
          exact (Option.some.inj hx).symm
        rw [if_neg (by omega), if_pos (by omega), if_pos (by omega), rd_at rs b hbl]
        by_cases hc : (rs[i].f0.size : Int) > (rs[b].f0.size : Int)
        · rw [if_pos hc]
          refine ih (i + 1) k _ (by omega) (by omega) (better hf (fun b' x' hb' hx' => ?_))
          have : b = b' := by omega
          subst this
          rw [hx] at hx'
          obtain rfl := Option.some.inj hx'
          rw [hxe]
          show rs[b].f0.size < _
          omega
        · rw [if_neg hc]
          refine ih (i + 1) k _ (by omega) (by omega) (keep (fun _ => ⟨b, x, rfl, hx, ?_⟩))
          rw [hxe]
          show _ ≤ rs[b].f0.size
          omega

theorem match_spec (rs : List S26) (t : ByteArray) (hn : rs.length ≤ 9223372036854775806) (ht : t.size ≤ 562949953404928) (hr : ∀ r ∈ rs, r.f0.size ≤ 562949953404928) (k : Nat) (hk : rs.length + 1 ≤ k) :
    ∃ m, route_Match.f k rs t = some m ∧ IsMatch (fitsOf rs (L t)) m := by
  unfold route_Match.f
  exact match_loop rs t hn ht hr rs.length 0 k (-1) (by omega) hk (Or.inl ⟨rfl, fun x hx => by simp at hx⟩)
end Go.Proofs.Yticcigdibkajaaa.X
