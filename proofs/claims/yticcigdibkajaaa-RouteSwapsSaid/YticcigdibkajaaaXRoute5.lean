/- The document's Match; the example. -/
import Derived.Test.YticcigdibkajaaaXRoute4
import Derived.Test.YticcigdibkajaaaPAllx5
namespace Go.Proofs.Yticcigdibkajaaa.X
open Go.RowKit Go.Proofs.Yticcigdibkajaaa.PAll Go.Proofs.YticcigdibkajaaaW.PrintWords Go.Proofs.YticcigdibkajaaaW.PrintMore
set_option linter.unusedVariables false
set_option linter.unusedSimpArgs false

theorem refMatch_inner (rs : List S26) (t : ByteArray) (hn : rs.length ≤ 9223372036854775806) (ht : t.size ≤ 562949953404928) (hr : ∀ r ∈ rs, r.f0.size ≤ 562949953404928) (N K : Nat) (hK : t.size + 1 ≤ K) (hN : N ≤ 562949953404929)
    (outer : ∀ k, K ≤ k → (∀ (j : Nat) (y : Bool × Nat), (fitsOf rs (L t))[j]? = some y → y.1 = true → y.2 < N) → ∃ m, tollbarref11_Match.l0 k rs t ((N : Int) - 1) = some m ∧ IsMatch (fitsOf rs (L t)) m)
    (hle : ∀ (j : Nat) (y : Bool × Nat), (fitsOf rs (L t))[j]? = some y → y.1 = true → y.2 ≤ N) :
    ∀ (d i k : Nat), i + d = rs.length → d + 1 + K ≤ k → (∀ (j : Nat) (y : Bool × Nat), j < i → (fitsOf rs (L t))[j]? = some y → y.1 = true → y.2 ≠ N) →
      ∃ m, tollbarref11_Match.l1 k rs t (N : Int) (i : Int) = some m ∧ IsMatch (fitsOf rs (L t)) m := by
  intro d
  induction d with
  | zero =>
    intro i k hi hk hne
    obtain ⟨k, rfl⟩ : ∃ q, k = q + 1 := ⟨k - 1, by omega⟩
    simp only [tollbarref11_Match.l1]
    have hw : wrap64 ((N : Int) - 1) = (N : Int) - 1 := by apply wrap64_in <;> omega
    rw [if_neg (by omega), hw]
    refine outer k (by omega) (fun j y hy hy1 => ?_)
    have a := hle j y hy hy1
    have b := hne j y (by have := fitsOf_lt hy; omega) hy hy1
    omega
  | succ d ih =>
    intro i k hi hk hne
    obtain ⟨k, rfl⟩ : ∃ q, k = q + 1 := ⟨k - 1, by omega⟩
    have hil : i < rs.length := by omega
    have hw : wrap64 ((i : Int) + 1) = ((i + 1 : Nat) : Int) := by rw [wrap64_in] <;> omega
    have hg := fitsOf_get rs (L t) i hil
    simp only [tollbarref11_Match.l1]
    rw [if_pos (by omega), if_pos (by omega), rd_at rs i hil, hw]
    by_cases hs : (rs[i].f0.size : Int) = (N : Int)
    · rw [if_pos hs, refFits_spec _ t (hr _ (List.getElem_mem hil)) ht k (by omega)]
      simp only [Option.bind_some]
      cases hf : fitsL (L rs[i].f0) (L t) with
      | true =>
        rw [if_pos rfl]
        refine ⟨(i : Int), rfl, .inr ⟨i, _, rfl, hg, hf, fun j y hy hy1 => ?_, fun j y hj hy hy1 => ?_⟩⟩
        · have := hle j y hy hy1
          show y.2 ≤ rs[i].f0.size
          omega
        · have a := hle j y hy hy1
          have b := hne j y hj hy hy1
          show y.2 < rs[i].f0.size
          omega
      | false =>
        rw [if_neg (by simp)]
        refine ih (i + 1) k (by omega) (by omega) (fun j y hj hy hy1 => ?_)
        rcases Nat.lt_or_ge j i with h | h
        · exact hne j y h hy hy1
        · have : j = i := by omega
          subst this
          rw [hg] at hy
          obtain rfl := Option.some.inj hy
          rw [hf] at hy1; cases hy1
    · rw [if_neg hs]
      refine ih (i + 1) k (by omega) (by omega) (fun j y hj hy hy1 => ?_)
      rcases Nat.lt_or_ge j i with h | h
      · exact hne j y h hy hy1
      · have : j = i := by omega
        subst this
        rw [hg] at hy
        obtain rfl := Option.some.inj hy
        show rs[j].f0.size ≠ N
        omega

theorem refMatch_outer (rs : List S26) (t : ByteArray) (hn : rs.length ≤ 9223372036854775806) (ht : t.size ≤ 562949953404928) (hr : ∀ r ∈ rs, r.f0.size ≤ 562949953404928) : ∀ (N k : Nat), N ≤ 562949953404930 → N * (rs.length + 2) + t.size + 2 ≤ k →
    (∀ (j : Nat) (y : Bool × Nat), (fitsOf rs (L t))[j]? = some y → y.1 = true → y.2 < N) → ∃ m, tollbarref11_Match.l0 k rs t ((N : Int) - 1) = some m ∧ IsMatch (fitsOf rs (L t)) m := by
  intro N
  induction N with
  | zero =>
    intro k _ hk hlt
    obtain ⟨k, rfl⟩ : ∃ q, k = q + 1 := ⟨k - 1, by omega⟩
    refine ⟨-1, by simp only [tollbarref11_Match.l0]; rw [if_neg (by omega)], .inl ⟨rfl, fun x hx => ?_⟩⟩
    obtain ⟨j, hj⟩ := List.mem_iff_getElem?.1 hx
    cases h : x.1 with
    | false => rfl
    | true => have := hlt j x hj h; omega
  | succ N ih =>
    intro k hN hk hlt
    have hmul : (N + 1) * (rs.length + 2) = N * (rs.length + 2) + (rs.length + 2) := Nat.succ_mul _ _
    obtain ⟨k, rfl⟩ : ∃ q, k = q + 1 := ⟨k - 1, by omega⟩
    simp only [tollbarref11_Match.l0]
    have e : (((N + 1 : Nat) : Int) - 1) = (N : Int) := by omega
    rw [e, if_pos (by omega)]
    exact refMatch_inner rs t hn ht hr N (N * (rs.length + 2) + t.size + 2) (by omega) (by omega) (fun k hk h => ih k (by omega) hk h) (fun j y hy hy1 => by have := hlt j y hy hy1; omega) rs.length 0 k (by omega) (by omega) (fun j y hj => by omega)

theorem refMatch_spec (rs : List S26) (t : ByteArray) (hn : rs.length ≤ 9223372036854775806) (ht : t.size ≤ 562949953404928) (hr : ∀ r ∈ rs, r.f0.size ≤ 562949953404928) (k : Nat) (hk : (t.size + 1) * (rs.length + 2) + t.size + 2 ≤ k) :
    ∃ m, tollbarref11_Match.f k rs t = some m ∧ IsMatch (fitsOf rs (L t)) m := by
  unfold tollbarref11_Match.f
  have := refMatch_outer rs t hn ht hr (t.size + 1) k (by omega) hk (fun j y hy hy1 => by
    have hj := fitsOf_lt hy
    rw [fitsOf_get rs (L t) j hj] at hy
    obtain rfl := Option.some.inj hy
    have := fits_le hy1
    rw [L_len, L_len] at this
    show rs[j].f0.size < _
    omega)
  have e : (((t.size + 1 : Nat) : Int) - 1) = (t.size : Int) := by omega
  rwa [e] at this

theorem alive_true (k : Nat) (hk : 60 ≤ k) : tollbarlaw11_alive.f k = some true := by
  have h : tollbarlaw11_alive.f 60 = some true := by decide +kernel
  exact at_rounds (g := fun k => tollbarlaw11_alive.f k) (fun k => tollbarlaw11_alive.mono k) hk h
end Go.Proofs.Yticcigdibkajaaa.X
