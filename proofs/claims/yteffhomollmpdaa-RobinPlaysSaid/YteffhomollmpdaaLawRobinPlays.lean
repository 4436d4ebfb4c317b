-- Written by this session's program xprint.py over the kit's print, with contracts given by hand. Not trusted: Lean checks it.
import Derived.Test.YteffhomollmpdaaRows
import Derived.Test.YteffhomollmpdaaPRobinPlaysx1
import Derived.Test.YteffhomollmpdaaPureRobinPlays
import Derived.Test.YteffhomollmpdaaXOpen
import Derived.WalkKit
import Derived.ProofKit
import Derived.OpenShut
import Derived.ShutString
import Derived.ChangeOld
import Derived.Below
import Derived.SizedLaws
import Derived.JoinedCond
import Derived.Deep.CondSized
namespace Go.Proofs.Yteffhomollmpdaa.robinPlays
open Go.ChangeShapes Go.WideShapes Go.ChangeAt Go.RowKit Go.Proofs.Yteffhomollmpdaa.X Go.Proofs.Yteffhomollmpdaa.PRobinPlays Go.Proofs.YteffhomollmpdaaW.PrintWords
open Go.ChangeMaps (open_string shut_string)
set_option linter.unusedVariables false
set_option linter.unusedSimpArgs false
theorem own : ownKnob Try.prog.godebug = none := by kernel_rfl
theorem laidOut : laidOutB Try.prog = true := by kernel_rfl
set_option maxRecDepth 100000 in
theorem lifted (os : Os) (started : os.Started) (H : Type) (enc : TypeId × Value → H) :
    ReturnsInHanded {} Try.checked os 3 .any (Rows.robinPlaysSpec.pre6 enc Try.prog Try.f3 Rows.robinPlaysRow.domain false) (Rows.robinPlaysSpec.post enc Try.prog Try.f3 false true false false) := by
  refine returnsInHanded_of_change_sized (C := Try.checked) own started (by kernel_rfl) Try.func3
    (ChangeSpec.witness6 (enc := enc) (C := Try.checked) false ⟨#[], #[.int .i64 0, .slice none 0 0], []⟩ 8 (by kernel_rfl) (by kernel_rfl) (by kernel_rfl) (by kernel_rfl)) ?_
  intro W base args ds gs before hval0 hW hcnd hsz0 _
  have hsz : (DataW.weightsEach Try.prog (Try.f3.params.toList ++ Rows.robinPlaysSpec.plain.varTypes Try.prog) (ds ++ gs)).all (· ≤ reachBytes) = true := hsz0
  have hval : ∀ (j : Nat) t v, Try.f3.params[j]? = some t → args[j]? = some v → Value.okWide Try.prog W .any base t v := hval0
  have hW' := hW
  obtain ⟨p, q, hA0, hV, rfl, hfz, hnd⟩ := hW
  have hA : DataW.TrodAll enc Try.prog W 0 (fun _ => true) true Try.f3.params.toList args.toList ds p := hA0
  rw [Try.params3] at hA hval hsz
  obtain ⟨v0, vs0, d0, ds0, p0, q0, hargs, rfl, rfl, h0, r0⟩ := trodAll_cons hA
  obtain ⟨v1, vs1, d1, ds1, p1, q1, rfl, rfl, rfl, h1, r1⟩ := trodAll_cons r0
  obtain ⟨rfl, rfl, rfl⟩ := trodAll_nil r1
  obtain rfl : args = #[v0, v1] := by cases args; simp_all
  obtain ⟨rfl, rfl⟩ := trodVars_none hV
  obtain ⟨a0, rfl, rfl, rfl, w0⟩ := open_int Try.underlying3 (hval 0 3 v0 rfl rfl) h0
  have k1 := h1
  have lt1 : ∀ x ∈ p1, x.block < W.heap.size := by obtain ⟨m, hm⟩ := k1; exact DataW.trod_lt m _ _ _ hm
  obtain ⟨A1, c1, l1, rfl, hc1, hr1, gd1, bk1⟩ := param_slice (Opens.slice (Opens.struct (P := Try.prog) (d := _) Try.underlying47 (OpensF.pair (Opens.int (P := Try.prog) Try.underlying3 (by kernel_rfl)) (OpensF.one (Opens.int (P := Try.prog) Try.underlying3 (by kernel_rfl))) rfl) (by kernel_rfl) (fun x_ : S47 => (x_.f0, x_.f1)) (fun p_ => ⟨p_.1, p_.2⟩) (fun _ => rfl)) Try.underlying29 (by kernel_rfl)) Try.underlying22 (by kernel_rfl) (hval 1 22 v1 rfl rfl) h1 hsz (j := 1) rfl rfl
  clear hA0 hval0 hsz0 hsz
  have hK := Pure.RobinPlays a0 l1 w0 gd1
  refine (tollbarlaw16_RobinPlays.calls a0 A1 c1 l1 true W hr1 hc1 hK).mono fun e W' hE => ?_
  obtain ⟨he, hd⟩ := hE
  have bel : Below W.heap.size W W' := hd
  subst he
  exact ⟨_, rfl, _, _, _, [], _, [], hW', trodAll_mk1 (shut_bool Try.underlying4 _), (trodAll_cons_mk (shut_int Try.underlying3 w0) (trodAll_cons_mk (Below.trod laidOut (by kernel_rfl) (of_decide_eq_true (by kernel_rfl)) k1 bel lt1) trodAll_mk0)), rfl, bel.frame _, fun h => by cases h⟩
theorem over : Rows.robinPlaysRow.holds Try.pinned (OpenSpec.ofChange Rows.robinPlaysSpec) :=
  OpenClaim.holds_of_wide 3 Try.f3 rfl rfl rfl rfl rfl rfl rfl ⟨rfl, rfl, rfl, rfl, rfl⟩ rfl rfl rfl rfl rfl (by kernel_rfl) Try.func3 (by kernel_rfl)
    (of_decide_eq_true (by kernel_rfl)) (by unfold Func.isWrapper; first | (rw [if_pos (by decide +kernel)]; kernel_rfl) | (rw [if_neg (by decide +kernel)]; exact ⟨rfl, rfl⟩))
    (fun os started H enc _ => lifted os started H enc)
theorem proved : Rows.RobinPlaysSaid := over
#print axioms proved
end Go.Proofs.Yteffhomollmpdaa.robinPlays
namespace Go.Proofs.Yteffhomollmpdaa
/-- The row, under a short name, for the claim. -/
theorem robinPlays_holds : Rows.RobinPlaysSaid := robinPlays.proved
end Go.Proofs.Yteffhomollmpdaa
