import Derived.Test.YteffhomollmpdaaAMZ2
import Derived.Test.YteffhomollmpdaaProg
import Derived.KernelRfl
/- The machine at robin's translation. -/
namespace Go.Proofs.Yteffhomollmpdaa.AM
open Go Go.RowKit Go.Proofs
set_option linter.unusedVariables false
set_option linter.unusedSectionVars false
set_option linter.unusedSimpArgs false
set_option maxRecDepth 1000000
def RE : Nat → Bool := fun k => false
def noX : Nat → Option Ext := fun _ => none
noncomputable def env (X : Nat → Option Ext) (Tb : Op → List Value → Option Value) : Env := mk Try.prog X noX [] RE Tb
theorem okT_ : okT Try.prog = true := by kernel_rfl
theorem okF_ : okF Try.prog 0 = true := by kernel_rfl
theorem mixed_ : Try.prog.follows .mixedOrders = true := by kernel_rfl
section
variable [Tok]
def TbOk (P : Program) (G N : Nat) (Tb : Op → List Value → Option Value) : Prop := ∀ op vs v, Tb op vs = some v → ∀ (o : Oper) (π : Pi) (g : AG) (nx : Nat) (w : World) (ρ : Operand → Value), o.op = op → GR G π → HR π N g nx w → VRs π vs (op.operands.toList.map ρ) → ∃ v', (execOp ρ o).run P w = .ok (.value v') w ∧ VR π v v'
theorem eok {N : Nat} {X : Nat → Option Ext} {Tb : Op → List Value → Option Value} (hX : ∀ k x, X k = some x → ∀ args h v h', x args h = some (v, h') → CallOk Try.prog 0 N k args h v h') (hT : TbOk Try.prog 0 N Tb) : EOk Try.prog 0 N (env X Tb) :=
  { t := mk_t okT_
    f := mk_f okF_
    x := hX
    y := fun k y h => by cases h
    m := fun t n f hm => by cases hm
    md := fun t n f e hm => by cases hm
    r := fun g hg => by cases hg
    tb := hT }
theorem sound {N : Nat} {X : Nat → Option Ext} {Tb : Op → List Value → Option Value} (hX : ∀ k x, X k = some x → ∀ args h v h', x args h = some (v, h') → CallOk Try.prog 0 N k args h v h') (hT : TbOk Try.prog 0 N Tb) (n : Nat) : CallsOk Try.prog 0 N (acall (env X Tb) n) := machine_sound mixed_ (eok hX hT) n
def noTb : Op → List Value → Option Value := fun _ _ => none
theorem noTb_ok {N : Nat} : TbOk Try.prog 0 N noTb := fun _ _ _ h => by cases h
theorem noX_ok {N : Nat} : ∀ k x, noX k = some x → ∀ args h v h', x args h = some (v, h') → CallOk Try.prog 0 N k args h v h' := fun _ _ h => by cases h
theorem tok_inv {π : Pi} {i : Nat} {u : Value} (h : VR π (.chan (some i)) u) : u = Tok.val i := by cases h; rfl
theorem int_inv {π : Pi} {k : IntKind} {n : Int} {u : Value} (h : VR π (.int k n) u) : u = .int k n := by cases h; rfl
end
def resB (r : Option (Value × AHeap)) : Option Bool := match r with | some (.bool b, _) => some b | _ => none
theorem resB_some {r : Option (Value × AHeap)} {b : Bool} (h : resB r = some b) : ∃ h', r = some (.bool b, h') := by
  unfold resB at h
  split at h
  · simp only [Option.some.injEq] at h; subst h; exact ⟨_, rfl⟩
  · cases h
theorem alive_run : resB (callF (env noX noTb) 1000 9 [] ⟨.nil, 0⟩) = some true := by kernel_rfl
end Go.Proofs.Yteffhomollmpdaa.AM
