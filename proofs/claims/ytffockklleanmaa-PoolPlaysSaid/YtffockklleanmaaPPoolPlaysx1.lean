-- Written by this session's program xprint.py over the kit's print, with contracts given by hand. Not trusted: Lean checks it.
import Derived.Test.YtffockklleanmaaPPoolPlaysx0
namespace Go.Proofs.Ytffockklleanmaa.PPoolPlays
open Go.RowKit Go.Proofs.YtffockklleanmaaW.PrintWords Go.Proofs.YtffockklleanmaaW.PrintLast Go.Proofs.YtffockklleanmaaW.PrintMore
attribute [local go_sem] max2_int min2_int max_two min_two max_three min_three max_four min_four   -- for this text's walks alone
set_option linter.unusedVariables false
set_option linter.unusedSimpArgs false

/-! ### tollbarlaw17_PoolPlays: function 6 -/

def tollbarlaw17_PoolPlays.f (_most : Int) (_l : List S34) : Option Bool := some true
def tollbarlaw17_PoolPlays.g (x : S34) : X.OpT := (x.f0, x.f1, x.f2, (x.f3.f0, x.f3.f1), x.f4, x.f5, x.f6)
theorem tollbarlaw17_PoolPlays.gC {w : World} {A : Option Addr} {l : List S34} (hr : Kd.C k34 w A l.length l) : Kd.C X.kO w A (l.map tollbarlaw17_PoolPlays.g).length (l.map tollbarlaw17_PoolPlays.g) := by
  have h := X.C_map (d' := X.kO) tollbarlaw17_PoolPlays.g rfl (fun w x cs h => by
    obtain ⟨A4, c4, rfl, l4, g4⟩ := k34_open h
    exact ⟨[.int .i64 x.f0], _, rfl, rfl, [.int .i64 x.f1], _, rfl, rfl, [.string x.f2], _, rfl, rfl, [.string x.f3.f0, .slice A4 x.f3.f1.length c4], _, rfl, ⟨[.string x.f3.f0], _, rfl, rfl, ⟨A4, c4, rfl, l4, g4⟩⟩, [.int .i64 x.f4], _, rfl, rfl, [.int .i64 x.f5], [.int .i64 x.f6], rfl, rfl, rfl⟩) hr
  rw [List.length_map]
  exact h
theorem tollbarlaw17_PoolPlays.calls (most : Int) (A : Option Addr) (c : Nat) (l : List S34) (r : Bool) (w : World) (hr : Kd.C k34 w A l.length l) (hc : l.length ≤ c) (h : tollbarlaw17_PoolPlays.f most l = some r) :
    Calls Try.prog 6 #[.int .i64 most, .slice A l.length c] w fun e w' => e = .returned (.bool r) ∧ Below w.heap.size w w' := by
  cases h
  have hh := X.poolPlays_calls most A c (l.map tollbarlaw17_PoolPlays.g) w (tollbarlaw17_PoolPlays.gC hr) (by rw [List.length_map]; exact hc)
  rw [List.length_map] at hh
  exact hh


/-- THE ONE PURE STATEMENT of tollbarlaw17_PoolPlays. -/
def tollbarlaw17_PoolPlays.Pure : Prop := ∀ (a0 : Int) (l1 : List (S34)), ((Lit.int .i64 a0).wf = true) → (l1.length * 96 ≤ 140737488351232 ∧ ∀ x_ ∈ l1, ((Lit.int .i64 x_.f0).wf = true) ∧ ((Lit.int .i64 x_.f1).wf = true) ∧ (x_.f2.size ≤ 140737488351232) ∧ ((x_.f3.f0.size ≤ 140737488351232) ∧ (x_.f3.f1.length * 16 ≤ 140737488351232 ∧ ∀ x__ ∈ x_.f3.f1, x__.size ≤ 140737488351232)) ∧ ((Lit.int .i64 x_.f4).wf = true) ∧ ((Lit.int .i64 x_.f5).wf = true) ∧ ((Lit.int .i64 x_.f6).wf = true)) → tollbarlaw17_PoolPlays.f a0 l1 = some true

end Go.Proofs.Ytffockklleanmaa.PPoolPlays
