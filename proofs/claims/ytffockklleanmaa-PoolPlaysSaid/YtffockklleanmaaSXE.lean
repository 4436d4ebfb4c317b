import Derived.Test.YtffockklleanmaaSXT
import Derived.Test.YtffockklleanmaaAMZ2
/- The pool's machine: its tables. -/
namespace Go.Proofs.Ytffockklleanmaa.AM.SX
open Go
set_option maxRecDepth 100000
/-- lending is known to be true; a row that has nothing in it has the length 0 -/
noncomputable def XL : Nat → Option Ext := trueX [20]
def one22 (ts : Array Nat) : Bool := match ts.toList with | [t] => Nat.beq t 22 | _ => false
def tbL : Op → List Value → Option Value := fun op vs => match op, vs with
  | .call ⟨.builtin .len, _, ts⟩, [.chan (some 0)] => bif one22 ts then some (.int .i64 0) else none
  | _, _ => none
noncomputable abbrev EE : Env := env XL tbL
theorem E_T : EE.T = tab := by kernel_rfl
theorem TL {t : Nat} {i : TI} (h : tab.get t = some i) : EE.T.get t = some i := by rw [E_T]; exact h
theorem E_X (f : Nat) (h : memN f [20] = false := by rfl) : EE.X f = none := by
  show (bif memN f [20] then _ else none) = none
  rw [h]; rfl
theorem E_Xl : EE.X 20 = some (fun args h => match args with | [] => some (.bool true, h) | _ => none) := rfl
theorem E_Y (f : Nat) : EE.Y f = none := rfl
theorem F_bound : EE.F.get 7 = some Try.f7 := by kernel_rfl
theorem F_plays : EE.F.get 6 = some Try.f6 := by kernel_rfl
theorem F_new : EE.F.get 19 = some Try.f19 := by kernel_rfl
theorem F_take : EE.F.get 23 = some Try.f23 := by kernel_rfl
theorem F_joined : EE.F.get 25 = some Try.f25 := by kernel_rfl
theorem F_rest : EE.F.get 27 = some Try.f27 := by kernel_rfl
theorem F_shut : EE.F.get 29 = some Try.f29 := by kernel_rfl
theorem F_shut1 : EE.F.get 44 = some Try.f44 := by kernel_rfl
theorem F_len : EE.F.get 30 = some Try.f30 := by kernel_rfl
theorem F_state : EE.F.get 31 = some Try.f31 := by kernel_rfl
theorem F_aim : EE.F.get 33 = some Try.f33 := by kernel_rfl
theorem F_turn : EE.F.get 42 = some Try.f42 := by kernel_rfl
theorem F_back : EE.F.get 39 = some Try.f39 := by kernel_rfl
theorem F_delete : EE.F.get 40 = some Try.f40 := by kernel_rfl
theorem F_deleteFunc : EE.F.get 43 = some Try.f43 := by kernel_rfl
theorem F_indexFunc : EE.F.get 46 = some Try.f46 := by kernel_rfl
end Go.Proofs.Ytffockklleanmaa.AM.SX
