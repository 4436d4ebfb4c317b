-- Written by this session's program xprint.py over the kit's print, with contracts given by hand. Not trusted: Lean checks it.
import Derived.Test.YteffhomollmpdaaPRobinNothingx0
namespace Go.Proofs.Yteffhomollmpdaa.PRobinNothing
open Go.RowKit Go.Proofs.YteffhomollmpdaaW.PrintWords Go.Proofs.YteffhomollmpdaaW.PrintLast Go.Proofs.YteffhomollmpdaaW.PrintMore
attribute [local go_sem] max2_int min2_int max_two min_two max_three min_three max_four min_four   -- for this text's walks alone
set_option linter.unusedVariables false
set_option linter.unusedSimpArgs false

/-! ### tollbarlaw16_RobinNothing: function 6 -/

def tollbarlaw16_RobinNothing.f (_q : Int) (l : List S47) : Option Bool := if l.length * 16 ≤ 140737488351232 then some true else none
def tollbarlaw16_RobinNothing.g (x : S47) : Int × Int := (x.f0, x.f1)
theorem tollbarlaw16_RobinNothing.gC {w : World} {A : Option Addr} {l : List S47} (hr : Kd.C k47 w A l.length l) : Kd.C X.kP w A (l.map tollbarlaw16_RobinNothing.g).length (l.map tollbarlaw16_RobinNothing.g) := by
  have h := X.C_map (d' := X.kP) tollbarlaw16_RobinNothing.g rfl (fun w x cs h => by
    obtain rfl := k47_open h
    exact ⟨[.int .i64 x.f0], [.int .i64 x.f1], rfl, rfl, rfl⟩) hr
  rw [List.length_map]
  exact h
theorem tollbarlaw16_RobinNothing.calls (q : Int) (A : Option Addr) (c : Nat) (l : List S47) (r : Bool) (w : World) (hr : Kd.C k47 w A l.length l) (hc : l.length ≤ c) (h : tollbarlaw16_RobinNothing.f q l = some r) :
    Calls Try.prog 6 #[.int .i64 q, .slice A l.length c] w fun e w' => e = .returned (.bool r) ∧ Below w.heap.size w w' := by
  unfold tollbarlaw16_RobinNothing.f at h
  split at h
  · rename_i hb
    obtain rfl := Option.some.inj h
    have hh := X.robinNothing_calls q A c (l.map tollbarlaw16_RobinNothing.g) w (by rw [List.length_map]; omega) (tollbarlaw16_RobinNothing.gC hr) (by rw [List.length_map]; exact hc)
    rw [List.length_map] at hh
    exact hh
  · cases h


/-- THE ONE PURE STATEMENT of tollbarlaw16_RobinNothing. -/
def tollbarlaw16_RobinNothing.Pure : Prop := ∀ (a0 : Int) (l1 : List (S47)), ((Lit.int .i64 a0).wf = true) → (l1.length * 16 ≤ 140737488351232 ∧ ∀ x_ ∈ l1, ((Lit.int .i64 x_.f0).wf = true) ∧ ((Lit.int .i64 x_.f1).wf = true)) → tollbarlaw16_RobinNothing.f a0 l1 = some true

end Go.Proofs.Yteffhomollmpdaa.PRobinNothing
