/- Of all routes and targets the match, what fits and what comes of it is as the document says: for every input (no condition). -/
import Derived.Test.YticcigdibkajaaaXRoute5
namespace Go.Proofs.Yticcigdibkajaaa.Pure
open Go.RowKit Go.Proofs.Yticcigdibkajaaa.PAll Go.Proofs.Yticcigdibkajaaa.X Go.Proofs.YticcigdibkajaaaW.PrintWords Go.Proofs.YticcigdibkajaaaW.PrintMore
set_option linter.unusedVariables false
set_option linter.unusedSimpArgs false

theorem loop (rs : List S26) (t : ByteArray) (hn : rs.length ≤ 100) (ht : t.size ≤ 2000) (hr : ∀ r ∈ rs, r.f0.size ≤ 140737488351232 ∧ r.f1.size ≤ 140737488351232 ∧ r.f2.size ≤ 140737488351232) : ∀ (d i k : Nat), i + d = rs.length → d + t.size + 10 ≤ k →
    tollbarlaw11_RouteMatches.l0 k t rs (rs.length : Int) (i : Int) = some true := by
  intro d
  induction d with
  | zero =>
    intro i k hi hk
    obtain ⟨k, rfl⟩ : ∃ q, k = q + 1 := ⟨k - 1, by omega⟩
    simp only [tollbarlaw11_RouteMatches.l0]
    rw [if_neg (by omega)]
  | succ d ih =>
    intro i k hi hk
    obtain ⟨k, rfl⟩ : ∃ q, k = q + 1 := ⟨k - 1, by omega⟩
    have hil : i < rs.length := by omega
    obtain ⟨h0, h1, h2⟩ := hr _ (List.getElem_mem hil)
    have hw : wrap64 ((i : Int) + 1) = ((i + 1 : Nat) : Int) := by rw [wrap64_in] <;> omega
    obtain ⟨s1, e1, l1⟩ := rewrite_spec rs[i].f0 rs[i].f1 rs[i].f2 t (by omega) (by omega) (by omega) k (by omega)
    obtain ⟨s2, e2, l2⟩ := refRewrite_spec rs[i].f0 rs[i].f1 rs[i].f2 t (by omega) (by omega) (by omega) k (by omega)
    simp only [tollbarlaw11_RouteMatches.l0]
    rw [if_pos (by omega), if_pos (by omega), if_pos (by omega), rd_at rs i hil, e1]
    simp only [Option.bind_some]
    rw [e2]
    simp only [Option.bind_some]
    rw [if_pos (by rw [toList_eq, toList_eq, l1, l2]), if_neg (by simp), fits_spec _ _ (by omega) (by omega)]
    simp only [Option.bind_some]
    rw [refFits_spec _ _ (by omega) (by omega) k (by omega)]
    simp only [Option.bind_some]
    rw [if_neg (by simp), hw]
    exact ih (i + 1) k (by omega) (by omega)

theorem RouteMatches : tollbarlaw11_RouteMatches.Pure := by
  intro rs t ⟨hlen, hr⟩ ht
  refine ⟨(t.size + 1) * (rs.length + 2) + t.size + 200 + 2 * rs.length, ?_⟩
  unfold tollbarlaw11_RouteMatches.f
  rw [alive_true _ (by omega)]
  simp only [Option.bind_some, if_true]
  generalize hk : (t.size + 1) * (rs.length + 2) + t.size + 200 + 2 * rs.length = k
  obtain ⟨k, rfl⟩ : ∃ q, k = q + 1 := ⟨k - 1, by omega⟩
  by_cases h1 : (rs.length : Int) > 100
  · rw [if_pos h1]
    simp only [tollbarlaw11_RouteMatches.j0, if_true]
  · rw [if_neg h1]
    by_cases h2 : (t.size : Int) > 2000
    · have : decide ((t.size : Int) > 2000) = true := decide_eq_true h2
      rw [this]
      simp only [tollbarlaw11_RouteMatches.j0, if_true]
    · have : decide ((t.size : Int) > 2000) = false := decide_eq_false h2
      rw [this]
      simp only [tollbarlaw11_RouteMatches.j0, Bool.false_eq_true, if_false]
      have hr0 : ∀ r ∈ rs, r.f0.size ≤ 562949953404928 := fun r h => by have := (hr r h).1; omega
      obtain ⟨m, e1, i1⟩ := match_spec rs t (by omega) (by omega) hr0 k (by omega)
      obtain ⟨m', e2, i2⟩ := refMatch_spec rs t (by omega) (by omega) hr0 k (by omega)
      obtain rfl := i1.unique i2
      rw [e1]
      simp only [Option.bind_some]
      rw [e2]
      simp only [Option.bind_some, if_true]
      exact loop rs t (by omega) (by omega) (fun r h => hr r h) rs.length 0 k (by omega) (by omega)
end Go.Proofs.Yticcigdibkajaaa.Pure
