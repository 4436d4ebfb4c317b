/- Robin's machine: its tables. -/
import Derived.Test.YteffhomollmpdaaSXT
import Derived.Test.YteffhomollmpdaaRMP
namespace Go.Proofs.Yteffhomollmpdaa.AM.SX
open Go
set_option maxRecDepth 100000
/-- alive is known to be true; a row that has nothing in it has the length 0 -/
noncomputable def XL : Nat → Option Ext := trueX [9]
def lenTy (ts : Array Nat) : Bool := match ts.toList with | [t] => Nat.beq t 29 || Nat.beq t 45 || Nat.beq t 22 | _ => false
def tbL : Op → List Value → Option Value := fun op vs => match op, vs with
  | .call ⟨.builtin .len, _, ts⟩, [.chan (some _)] => bif lenTy ts then some (.int .i64 0) else none
  | _, _ => none
noncomputable abbrev EE : Env := env XL tbL
theorem E_T : EE.T = tab := by kernel_rfl
theorem TL {t : Nat} {i : TI} (h : tab.get t = some i) : EE.T.get t = some i := by rw [E_T]; exact h
theorem E_X (f : Nat) (h : memN f [9] = false := by rfl) : EE.X f = none := by
  show (bif memN f [9] then _ else none) = none
  rw [h]; rfl
theorem E_Xl : EE.X 9 = some (fun args h => match args with | [] => some (.bool true, h) | _ => none) := rfl
theorem E_Y (f : Nat) : EE.Y f = none := rfl
theorem F_plays : EE.F.get 3 = some Try.f3 := by kernel_rfl
theorem F_new : EE.F.get 8 = some Try.f8 := by kernel_rfl
theorem F_dnew : EE.F.get 10 = some Try.f10 := by kernel_rfl
theorem F_small : EE.F.get 11 = some Try.f11 := by kernel_rfl
theorem F_dround : EE.F.get 12 = some Try.f12 := by kernel_rfl
theorem F_das : EE.F.get 13 = some Try.f13 := by kernel_rfl
theorem F_round : EE.F.get 14 = some Try.f14 := by kernel_rfl
theorem F_credit : EE.F.get 15 = some Try.f15 := by kernel_rfl
theorem F_between : EE.F.get 16 = some Try.f16 := by kernel_rfl
theorem F_counted : EE.F.get 17 = some Try.f17 := by kernel_rfl
theorem F_pick : EE.F.get 18 = some Try.f18 := by kernel_rfl
theorem F_flows : EE.F.get 19 = some Try.f19 := by kernel_rfl
theorem F_next : EE.F.get 20 = some Try.f20 := by kernel_rfl
theorem F_delete : EE.F.get 21 = some Try.f21 := by kernel_rfl
theorem F_clone : EE.F.get 22 = some Try.f22 := by kernel_rfl
theorem F_sort : EE.F.get 23 = some Try.f23 := by kernel_rfl
theorem F_flows1 : EE.F.get 24 = some Try.f24 := by kernel_rfl
theorem F_compare : EE.F.get 25 = some Try.f25 := by kernel_rfl
theorem F_compact : EE.F.get 26 = some Try.f26 := by kernel_rfl
theorem F_flows2 : EE.F.get 27 = some Try.f27 := by kernel_rfl
theorem F_deleteFunc : EE.F.get 28 = some Try.f28 := by kernel_rfl
theorem F_flows3 : EE.F.get 29 = some Try.f29 := by kernel_rfl
theorem F_indexFunc : EE.F.get 30 = some Try.f30 := by kernel_rfl
theorem F_next1 : EE.F.get 31 = some Try.f31 := by kernel_rfl
theorem F_stable : EE.F.get 32 = some Try.f32 := by kernel_rfl
theorem F_isNaN : EE.F.get 33 = some Try.f33 := by kernel_rfl
theorem F_insertion : EE.F.get 34 = some Try.f34 := by kernel_rfl
end Go.Proofs.Yteffhomollmpdaa.AM.SX
