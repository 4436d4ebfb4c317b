-- Written by this session's program xprint.py over the kit's print, with contracts given by hand. Not trusted: Lean checks it.
import Derived.Test.YteffhomollmpdaaPRobinPlaysx0
namespace Go.Proofs.Yteffhomollmpdaa.PRobinPlays
open Go.RowKit Go.Proofs.YteffhomollmpdaaW.PrintWords Go.Proofs.YteffhomollmpdaaW.PrintLast Go.Proofs.YteffhomollmpdaaW.PrintMore
attribute [local go_sem] max2_int min2_int max_two min_two max_three min_three max_four min_four   -- for this text's walks alone
set_option linter.unusedVariables false
set_option linter.unusedSimpArgs false

/-! ### tollbarlaw16_RobinPlays: function 3 -/

def tollbarlaw16_RobinPlays.f (_q : Int) (_l : List (List S47)) : Option Bool := some true
def tollbarlaw16_RobinPlays.g (x : S47) : Int × Int := (x.f0, x.f1)
theorem tollbarlaw16_RobinPlays.calls (q : Int) (A : Option Addr) (c : Nat) (l : List (List S47)) (r : Bool) (w : World) (hr : Kd.C (Kd.slice 47 k47) w A l.length l) (hc : l.length ≤ c) (h : tollbarlaw16_RobinPlays.f q l = some r) :
    Calls Try.prog 3 #[.int .i64 q, .slice A l.length c] w fun e w' => e = .returned (.bool r) ∧ Below w.heap.size w w' := by
  cases h
  have hg := X.C_rows tollbarlaw16_RobinPlays.g rfl (fun w x cs h => by
    obtain rfl := k47_open h
    exact ⟨[.int .i64 x.f0], [.int .i64 x.f1], rfl, rfl, rfl⟩) hr
  have hh := X.robinPlays_calls q A c (l.map (·.map tollbarlaw16_RobinPlays.g)) w (by rw [List.length_map]; exact hg) (by rw [List.length_map]; exact hc)
  rw [List.length_map] at hh
  exact hh


/-- THE ONE PURE STATEMENT of tollbarlaw16_RobinPlays. -/
def tollbarlaw16_RobinPlays.Pure : Prop := ∀ (a0 : Int) (l1 : List (List (S47))), ((Lit.int .i64 a0).wf = true) → (l1.length * 24 ≤ 140737488351232 ∧ ∀ x_ ∈ l1, x_.length * 16 ≤ 140737488351232 ∧ ∀ x__ ∈ x_, ((Lit.int .i64 x__.f0).wf = true) ∧ ((Lit.int .i64 x__.f1).wf = true)) → tollbarlaw16_RobinPlays.f a0 l1 = some true

end Go.Proofs.Yteffhomollmpdaa.PRobinPlays
