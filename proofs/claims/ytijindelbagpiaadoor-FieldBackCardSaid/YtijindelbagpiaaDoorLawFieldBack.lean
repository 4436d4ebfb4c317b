-- Written by this session's program xprint.py over the kit's print, with contracts given by hand. Not trusted: Lean checks it.
import Derived.Test.YtijindelbagpiaaDoorRows
import Derived.Test.YtijindelbagpiaaDoorPAllx14
import Derived.Test.YtijindelbagpiaaDoorPureFieldBack
import Derived.Test.YtijindelbagpiaaDoorXOpen
import Derived.WalkKit
import Derived.ProofKit
import Derived.OpenShut
import Derived.ShutString
import Derived.ChangeOld
import Derived.Below
import Derived.SizedLaws
import Derived.JoinedCond
import Derived.Deep.CondSized
import Derived.Test.YtijindelbagpiaaDoorCards
import Derived.Test.YtijindelbagpiaaDoorTie
import Derived.Lay
import Derived.Deep.DeepHandedRow
import Derived.SevenTiedAt
import Derived.LaidOnce
namespace Go.Proofs.YtijindelbagpiaaDoor.fieldBack
open Go.ChangeShapes Go.WideShapes Go.ChangeAt Go.RowKit Go.Proofs.YtijindelbagpiaaDoor.X Go.Proofs.YtijindelbagpiaaDoor.PAll Go.Proofs.YtijindelbagpiaaDoorW.PrintWords
open Go.ChangeMaps (open_string shut_string)
set_option linter.unusedVariables false
set_option linter.unusedSimpArgs false
theorem own : ownKnob Tryd.prog.godebug = none := by kernel_rfl
theorem laidOut : laidOutB Tryd.prog = true := by kernel_rfl
noncomputable def lw (os : Os) : World := World.laidAll Tryd.prog os Rows.fieldBackRow.laid
set_option maxRecDepth 100000 in
theorem met (os : Os) : laidMetH Tryd.prog Rows.fieldBackRow.laid ((lw os).forCall (fun _ _ => 0) ⟨#[], #[.agg #[.string ByteArray.empty, .string ByteArray.empty]], []⟩).memory := by
  rw [MakeChecks.laidMetH_plain _ _ _ (by kernel_rfl)]
  exact laidMet_laidAll _ (by kernel_rfl) (by kernel_rfl)
set_option maxRecDepth 100000 in
theorem reads (os : Os) {H : Type} (enc : TypeId × Value → H) : ∃ places, DataW.whole enc Tryd.prog ((lw os).forCall (fun _ _ => 0) ⟨#[], #[.agg #[.string ByteArray.empty, .string ByteArray.empty]], []⟩).memory Tryd.f8.params.toList (OpenSpec.ofChange Rows.fieldBackSpec).vars false #[.agg #[.string ByteArray.empty, .string ByteArray.empty]].toList 8 = some ([.agg [.lit (.string []), .lit (.string [])]], [], places) := ⟨[], by kernel_rfl⟩
set_option maxRecDepth 100000 in
theorem lifted (os : Os) (started : os.Started) (H : Type) (enc : TypeId × Value → H) (F : Stop.Interp) :
    ReturnsInHanded {} Tryd.checked os 8 .any ((OpenSpec.ofChange Rows.fieldBackSpec).preRow enc Tryd.prog Tryd.f8 Rows.fieldBackRow.domain false Rows.fieldBackRow.laid) (((OpenSpec.ofChange Rows.fieldBackSpec).at F).post enc Tryd.prog Tryd.f8 false true false false) := by
  obtain ⟨places, hx⟩ := reads os enc
  refine returnsInHanded_of_row (C := Tryd.checked) (s := (OpenSpec.ofChange Rows.fieldBackSpec)) own started (by kernel_rfl) Tryd.func8
    ⟨lw os, fun _ _ => 0, ⟨#[], #[.agg #[.string ByteArray.empty, .string ByteArray.empty]], []⟩, World.laidAll_os _ _ _, World.shaped_of_ZipB (by kernel_rfl) (by kernel_rfl), rfl, (Input.okWide_of_okWideB (by kernel_rfl)).2, OpenSpec.preRow_of_cond 8 hx (by kernel_rfl) (fun k hk => by cases hk) (by kernel_rfl) (met os), by
      simp only [Assume.holds]
      exact ⟨by simp, by simp, fun _ => Modest.zero, by simp, by simp⟩⟩ ?_
  intro W base args ds gs before hval0 hW hcnd hk hsz0 hL hSh _
  have hsz : (DataW.weightsEach Tryd.prog (Tryd.f8.params.toList ++ Rows.fieldBackSpec.plain.varTypes Tryd.prog) (ds ++ gs)).all (· ≤ reachBytes) = true := hsz0
  have hval : ∀ (j : Nat) t v, Tryd.f8.params[j]? = some t → args[j]? = some v → Value.okWide Tryd.prog W .any base t v := hval0
  have hW' := hW
  obtain ⟨p, q, hA0, hV, rfl, hfz, hnd⟩ := hW
  have hA : DataW.TrodAll enc Tryd.prog W 0 (fun _ => true) true Tryd.f8.params.toList args.toList ds p := hA0
  rw [Tryd.params8] at hA hval hsz
  obtain ⟨v0, vs0, d0, ds0, p0, q0, hargs, rfl, rfl, h0, r0⟩ := trodAll_cons hA
  obtain ⟨rfl, rfl, rfl⟩ := trodAll_nil r0
  obtain rfl : args = #[v0] := by cases args; simp_all
  obtain ⟨rfl, rfl⟩ := trodVars_none hV
  have k0 := h0
  have lt0 : ∀ x ∈ p0, x.block < W.heap.size := by obtain ⟨m, hm⟩ := k0; exact DataW.trod_lt m _ _ _ hm
  obtain ⟨cs0, a0, rfl, K0, gd0, bk0⟩ := param_struct (Opens.struct (P := Tryd.prog) (d := _) Tryd.underlying24 (OpensF.pair (Opens.string (P := Tryd.prog) Tryd.underlying9 (by kernel_rfl)) (OpensF.one (Opens.string (P := Tryd.prog) Tryd.underlying9 (by kernel_rfl))) rfl) (by kernel_rfl) (fun x_ : S24 => (x_.f0, x_.f1)) (fun p_ => ⟨p_.1, p_.2⟩) (fun _ => rfl)) Tryd.underlying24 (hval 0 24 v0 rfl rfl) h0 hsz (j := 0) rfl rfl
  obtain rfl := k24_open K0
  clear hA0 hval0 hsz0 hsz
  obtain ⟨k, hK⟩ := Pure.FieldBack a0 gd0
  refine (tollbarlaw04_FieldBack.calls k a0.f0 a0.f1 true W  hK).mono fun e W' hE => ?_
  obtain ⟨he, hd⟩ := hE
  have bel : Below W.heap.size W W' := hd
  subst he
  exact ⟨_, rfl, _, _, _, [], _, [], hW', trodAll_mk1 (shut_bool Tryd.underlying4 _), (trodAll_cons_mk (Below.trod laidOut (by kernel_rfl) (of_decide_eq_true (by kernel_rfl)) k0 bel lt0) trodAll_mk0), rfl, bel.frame _, fun h => by cases h⟩
theorem over : Rows.fieldBackRow.holds Tryd.pinned (OpenSpec.ofChange Rows.fieldBackSpec) :=
  OpenClaim.holds_of_cond 8 Tryd.f8 rfl rfl rfl rfl rfl rfl rfl ⟨rfl, rfl, rfl, rfl, rfl⟩ rfl rfl rfl rfl rfl (by kernel_rfl) Tryd.func8 (by kernel_rfl)
    (of_decide_eq_true (by kernel_rfl)) (by unfold Func.isWrapper; first | (rw [if_pos (by decide +kernel)]; kernel_rfl) | (rw [if_neg (by decide +kernel)]; exact ⟨rfl, rfl⟩))
    (fun os started H enc _ F => by rw [OpenClaim.pre_eq_preRow]; exact lifted os started H enc F)
theorem plain (f : FuncId) (fn : Func) (hf : Tryd.pinned.checked.prog.funcNamed Rows.fieldBackRow.func = some f) (hfn : Tryd.pinned.checked.prog.funcs[f]? = some fn) :
    false = Tryd.pinned.checked.prog.looks [] ∧ ∀ (j : Nat) t, fn.params[j]? = some t → Tryd.pinned.checked.prog.wantsStandIn t = false := by
  obtain rfl : f = 8 := Option.some.inj ((show Tryd.prog.funcNamed Rows.fieldBackRow.func = some 8 by kernel_rfl).symm.trans hf) |>.symm
  obtain rfl : fn = Tryd.f8 := (Option.some.inj (Tryd.func8.symm.trans hfn)).symm
  refine ⟨by kernel_rfl, fun j t ht => ?_⟩
  rw [Tryd.params8] at ht
  have hm : t ∈ [24] := by simpa using Array.mem_of_getElem? ht
  have hall : ([24].all fun u => !Tryd.prog.wantsStandIn u) = true := by kernel_rfl
  exact (show Tryd.prog.wantsStandIn t = false by simpa using List.all_eq_true.1 hall t hm)
/-- The card. -/
theorem proved : Rows.FieldBackCardSaid :=
  Claim7.holds_tied_plain_at .later [] _ _ _ _ over (fun _ h => by cases h) (by kernel_rfl) (fun _ h => by cases h) fieldBack_row_tie rfl ⟨rfl, rfl⟩ (by kernel_rfl) rfl plain (by kernel_rfl)
#print axioms proved
end Go.Proofs.YtijindelbagpiaaDoor.fieldBack
namespace Go.Proofs.YtijindelbagpiaaDoor
/-- The card, under a short name, for the claim. -/
theorem fieldBack_holds : Rows.FieldBackCardSaid := fieldBack.proved
end Go.Proofs.YtijindelbagpiaaDoor
