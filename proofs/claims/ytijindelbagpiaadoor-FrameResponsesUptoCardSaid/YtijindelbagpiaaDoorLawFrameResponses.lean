-- Written by this session's program xprint.py over the kit's print, with contracts given by hand. Not trusted: Lean checks it.
import Derived.Test.YtijindelbagpiaaDoorRows
import Derived.Test.YtijindelbagpiaaDoorPFramex8
import Derived.Test.YtijindelbagpiaaDoorPureFrameResponses
import Derived.Test.YtijindelbagpiaaDoorXOpen
import Derived.WalkKit
import Derived.ProofKit
import Derived.OpenShut
import Derived.ShutString
import Derived.ChangeOld
import Derived.Below
import Derived.SizedLaws
import Derived.JoinedCond
import Derived.Deep.CondSized
import Derived.Test.YtijindelbagpiaaDoorCards
import Derived.Test.YtijindelbagpiaaDoorTie
import Derived.Lay
import Derived.Deep.DeepHandedRow
import Derived.SevenTiedAt
import Derived.LaidOnce
namespace Go.Proofs.YtijindelbagpiaaDoor.frameResponses
open Go.ChangeShapes Go.WideShapes Go.ChangeAt Go.RowKit Go.Proofs.YtijindelbagpiaaDoor.X Go.Proofs.YtijindelbagpiaaDoor.PFrame Go.Proofs.YtijindelbagpiaaDoorW.PrintWords
open Go.ChangeMaps (open_string shut_string)
set_option linter.unusedVariables false
set_option linter.unusedSimpArgs false
theorem own : ownKnob Tryd.prog.godebug = none := by kernel_rfl
theorem laidOut : laidOutB Tryd.prog = true := by kernel_rfl
noncomputable def lw (os : Os) : World := World.laidAll Tryd.prog os Rows.frameResponsesUptoRow.laid
set_option maxRecDepth 100000 in
theorem met (os : Os) : laidMetH Tryd.prog Rows.frameResponsesUptoRow.laid ((lw os).forCall (fun _ _ => 0) ⟨#[], #[.string ByteArray.empty, .agg #[.int .i64 0, .string ByteArray.empty, .int .i64 0, .slice none 0 0, .slice none 0 0]], []⟩).memory := by
  rw [MakeChecks.laidMetH_plain _ _ _ (by kernel_rfl)]
  exact laidMet_laidAll _ (by kernel_rfl) (by kernel_rfl)
set_option maxRecDepth 100000 in
theorem reads (os : Os) {H : Type} (enc : TypeId × Value → H) : ∃ places, DataW.whole enc Tryd.prog ((lw os).forCall (fun _ _ => 0) ⟨#[], #[.string ByteArray.empty, .agg #[.int .i64 0, .string ByteArray.empty, .int .i64 0, .slice none 0 0, .slice none 0 0]], []⟩).memory Tryd.f11.params.toList (Rows.OpenSpec.upto Rows.frameResponsesSpec).vars false #[.string ByteArray.empty, .agg #[.int .i64 0, .string ByteArray.empty, .int .i64 0, .slice none 0 0, .slice none 0 0]].toList 8 = some ([.lit (.string []), .agg [.lit (.int .i64 0), .lit (.string []), .lit (.int .i64 0), .nil, .nil]], [], places) := ⟨[], by kernel_rfl⟩
set_option maxRecDepth 100000 in
theorem lifted (os : Os) (started : os.Started) (H : Type) (enc : TypeId × Value → H) (F : Stop.Interp) :
    ReturnsInHanded {} Tryd.checked os 11 .any ((Rows.OpenSpec.upto Rows.frameResponsesSpec).preRow enc Tryd.prog Tryd.f11 Rows.frameResponsesUptoRow.domain false Rows.frameResponsesUptoRow.laid) (((Rows.OpenSpec.upto Rows.frameResponsesSpec).at F).post enc Tryd.prog Tryd.f11 false true false false) := by
  obtain ⟨places, hx⟩ := reads os enc
  refine returnsInHanded_of_row (C := Tryd.checked) (s := (Rows.OpenSpec.upto Rows.frameResponsesSpec)) own started (by kernel_rfl) Tryd.func11
    ⟨lw os, fun _ _ => 0, ⟨#[], #[.string ByteArray.empty, .agg #[.int .i64 0, .string ByteArray.empty, .int .i64 0, .slice none 0 0, .slice none 0 0]], []⟩, World.laidAll_os _ _ _, World.shaped_of_ZipB (by kernel_rfl) (by kernel_rfl), rfl, (Input.okWide_of_okWideB (by kernel_rfl)).2, OpenSpec.preRow_of_cond 8 hx (by kernel_rfl) (fun k hk => by cases hk; kernel_rfl) (by kernel_rfl) (met os), by
      simp only [Assume.holds]
      exact ⟨by simp, by simp, fun _ => Modest.zero, by simp, by simp⟩⟩ ?_
  intro W base args ds gs before hval0 hW hcnd hk hsz0 hL hSh _
  have hsz : (DataW.weightsEach Tryd.prog (Tryd.f11.params.toList ++ Rows.frameResponsesSpec.plain.varTypes Tryd.prog) (ds ++ gs)).all (· ≤ reachBytes) = true := hsz0
  have hval : ∀ (j : Nat) t v, Tryd.f11.params[j]? = some t → args[j]? = some v → Value.okWide Tryd.prog W .any base t v := hval0
  have hW' := hW
  obtain ⟨p, q, hA0, hV, rfl, hfz, hnd⟩ := hW
  have hA : DataW.TrodAll enc Tryd.prog W 0 (fun _ => true) true Tryd.f11.params.toList args.toList ds p := hA0
  rw [Tryd.params11] at hA hval hsz
  obtain ⟨v0, vs0, d0, ds0, p0, q0, hargs, rfl, rfl, h0, r0⟩ := trodAll_cons hA
  obtain ⟨v1, vs1, d1, ds1, p1, q1, rfl, rfl, rfl, h1, r1⟩ := trodAll_cons r0
  obtain ⟨rfl, rfl, rfl⟩ := trodAll_nil r1
  obtain rfl : args = #[v0, v1] := by cases args; simp_all
  obtain ⟨rfl, rfl⟩ := trodVars_none hV
  have hk2 : Rows.uptoBulkAll ([d0, d1] ++ []) ≤ 1048576 := of_decide_eq_true (hk _ rfl)
  simp only [List.append_nil, Rows.uptoBulkAll] at hk2
  clear hk
  have hk3 := hk2
  clear hk2
  obtain ⟨a0, rfl, rfl, rfl, y0⟩ := open_string Tryd.underlying9 (hval 0 9 v0 rfl rfl) h0
  have w0 : a0.size ≤ 140737488351232 := by
    have z := sized_string hsz (j := 0) (t := 9) rfl rfl
    rw [Array.length_toList] at z
    exact z
  have bk0 : Rows.uptoBulk (DataW.lit (H := H) (.string a0.data.toList)) = a0.size + 1 := by simp [Rows.uptoBulk]
  have k1 := h1
  have lt1 : ∀ x ∈ p1, x.block < W.heap.size := by obtain ⟨m, hm⟩ := k1; exact DataW.trod_lt m _ _ _ hm
  obtain ⟨cs1, a1, rfl, K1, gd1, bk1⟩ := param_struct (Opens.struct (P := Tryd.prog) (d := _) Tryd.underlying53 (OpensF.pair (Opens.int (P := Tryd.prog) Tryd.underlying3 (by kernel_rfl)) (OpensF.pair (Opens.string (P := Tryd.prog) Tryd.underlying9 (by kernel_rfl)) (OpensF.pair (Opens.int (P := Tryd.prog) Tryd.underlying3 (by kernel_rfl)) (OpensF.pair (Opens.slice (Opens.struct (P := Tryd.prog) (d := _) Tryd.underlying24 (OpensF.pair (Opens.string (P := Tryd.prog) Tryd.underlying9 (by kernel_rfl)) (OpensF.one (Opens.string (P := Tryd.prog) Tryd.underlying9 (by kernel_rfl))) rfl) (by kernel_rfl) (fun x_ : S24 => (x_.f0, x_.f1)) (fun p_ => ⟨p_.1, p_.2⟩) (fun _ => rfl)) Tryd.underlying31 (by kernel_rfl)) (OpensF.one (Opens.slice (Opens.int (P := Tryd.prog) Tryd.underlying5 (by kernel_rfl)) Tryd.underlying51 (by kernel_rfl))) rfl) rfl) rfl) rfl) (by kernel_rfl) (fun x_ : S53 => (x_.f0, x_.f1, x_.f2, x_.f3, x_.f4)) (fun p_ => ⟨p_.1, p_.2.1, p_.2.2.1, p_.2.2.2.1, p_.2.2.2.2⟩) (fun _ => rfl)) Tryd.underlying53 (hval 1 53 v1 rfl rfl) h1 hsz (j := 1) rfl rfl
  obtain ⟨A1_3, c1_3, A1_4, c1_4, rfl, hc1_3, hr1_3, hc1_4, hr1_4⟩ := k53_open K1
  have bl1 : (1 + ((a1.f1.size + 1) + (1 + (((a1.f3.map (fun x_ => ((x_.f0.size + 1) + (x_.f1.size + 1)))).sum + 1) + ((a1.f4.map (fun x_ => 1)).sum + 1))))) ≤ Rows.uptoBulk d1 := bk1
  clear hA0 hval0 hsz0 hsz
  obtain ⟨k, hK⟩ := Pure.FrameResponses a0 a1 w0 gd1 (by omega)
  refine (tollbarlaw07_FrameResponses.calls k a0 a1.f0 a1.f1 a1.f2 A1_3 c1_3 a1.f3 A1_4 c1_4 a1.f4 true W hr1_3 hc1_3 hr1_4 hc1_4 hK).mono fun e W' hE => ?_
  obtain ⟨he, hd⟩ := hE
  have bel : Below W.heap.size W W' := hd
  subst he
  exact ⟨_, rfl, _, _, _, [], _, [], hW', trodAll_mk1 (shut_bool Tryd.underlying4 _), (trodAll_cons_mk (shut_string Tryd.underlying9 y0) (trodAll_cons_mk (Below.trod laidOut (by kernel_rfl) (of_decide_eq_true (by kernel_rfl)) k1 bel lt1) trodAll_mk0)), rfl, bel.frame _, fun h => by cases h⟩
theorem over : Rows.frameResponsesUptoRow.holds Tryd.pinned (Rows.OpenSpec.upto Rows.frameResponsesSpec) :=
  OpenClaim.holds_of_cond 11 Tryd.f11 rfl rfl rfl rfl rfl rfl rfl ⟨rfl, rfl, rfl, rfl, rfl⟩ rfl rfl rfl rfl rfl (by kernel_rfl) Tryd.func11 (by kernel_rfl)
    (of_decide_eq_true (by kernel_rfl)) (by unfold Func.isWrapper; first | (rw [if_pos (by decide +kernel)]; kernel_rfl) | (rw [if_neg (by decide +kernel)]; exact ⟨rfl, rfl⟩))
    (fun os started H enc _ F => by rw [OpenClaim.pre_eq_preRow]; exact lifted os started H enc F)
theorem plain (f : FuncId) (fn : Func) (hf : Tryd.pinned.checked.prog.funcNamed Rows.frameResponsesUptoRow.func = some f) (hfn : Tryd.pinned.checked.prog.funcs[f]? = some fn) :
    false = Tryd.pinned.checked.prog.looks [] ∧ ∀ (j : Nat) t, fn.params[j]? = some t → Tryd.pinned.checked.prog.wantsStandIn t = false := by
  obtain rfl : f = 11 := Option.some.inj ((show Tryd.prog.funcNamed Rows.frameResponsesUptoRow.func = some 11 by kernel_rfl).symm.trans hf) |>.symm
  obtain rfl : fn = Tryd.f11 := (Option.some.inj (Tryd.func11.symm.trans hfn)).symm
  refine ⟨by kernel_rfl, fun j t ht => ?_⟩
  rw [Tryd.params11] at ht
  have hm : t ∈ [9, 53] := by simpa using Array.mem_of_getElem? ht
  have hall : ([9, 53].all fun u => !Tryd.prog.wantsStandIn u) = true := by kernel_rfl
  exact (show Tryd.prog.wantsStandIn t = false by simpa using List.all_eq_true.1 hall t hm)
/-- The card. -/
theorem proved : Rows.FrameResponsesUptoCardSaid :=
  Claim7.holds_tied_plain_at .later [] _ _ _ _ over (fun _ h => by cases h) (by kernel_rfl) (fun _ h => by cases h) frameResponsesUpto_row_tie rfl ⟨rfl, rfl⟩ (by kernel_rfl) rfl plain (by kernel_rfl)
#print axioms proved
end Go.Proofs.YtijindelbagpiaaDoor.frameResponses
namespace Go.Proofs.YtijindelbagpiaaDoor
/-- The card, under a short name, for the claim. -/
theorem frameResponses_holds : Rows.FrameResponsesUptoCardSaid := frameResponses.proved
end Go.Proofs.YtijindelbagpiaaDoor
