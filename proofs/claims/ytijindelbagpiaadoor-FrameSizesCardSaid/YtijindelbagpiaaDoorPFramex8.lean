-- Written by this session's program xprint.py over the kit's print, with contracts given by hand. Not trusted: Lean checks it.
import Derived.Test.YtijindelbagpiaaDoorPFramex0
import Derived.Test.YtijindelbagpiaaDoorPFramex3
import Derived.Test.YtijindelbagpiaaDoorPFramex7
namespace Go.Proofs.YtijindelbagpiaaDoor.PFrame
open Go.RowKit Go.Proofs.YtijindelbagpiaaDoorW.PrintWords Go.Proofs.YtijindelbagpiaaDoorW.PrintLast Go.Proofs.YtijindelbagpiaaDoorW.PrintMore
attribute [local go_sem] max2_int min2_int max_two min_two max_three min_three max_four min_four   -- for this text's walks alone
set_option linter.unusedVariables false
set_option linter.unusedSimpArgs false

/-! ### tollbarlaw07_FrameResponses: function 11 -/
def tollbarlaw07_FrameResponses.f (k : Nat) (a0 : ByteArray) (a1_0 : Int) (a1_1 : ByteArray) (a1_2 : Int) (l1_3 : List (S24)) (l1_4 : List Int) : Option (Bool) := (tollbarlaw07_alive.f k).bind fun t275 => (if t275 = true then (if (l1_3.length : Int) > 200 then (some true) else ((frame_Response.f k a0 a1_0 a1_1 a1_2 l1_3 l1_4).bind fun bt276 => ((tollbarref07_Response.f k a0 a1_0 a1_1 a1_2 l1_3 l1_4).bind fun bt279 => (if bt276.1 = bt279.1 then (if bt276.2.1 = bt279.2.1 then (some (bt276.2.2 == bt279.2.2)) else (none)) else (none))))) else (none))
theorem tollbarlaw07_FrameResponses.mono : ∀ a0 a1 a2 a3 a4 a5 k, LeO (tollbarlaw07_FrameResponses.f k a0 a1 a2 a3 a4 a5) (tollbarlaw07_FrameResponses.f (k + 1) a0 a1 a2 a3 a4 a5) := by
  intro a0 a1 a2 a3 a4 a5 k
  unfold tollbarlaw07_FrameResponses.f
  repeat' first
      | (with_reducible exact frame_Response.mono _ _ _ _ _ _ _)
      | (with_reducible exact tollbarlaw07_alive.mono _)
      | (with_reducible exact tollbarref07_Response.mono _ _ _ _ _ _ _)
      | (with_reducible exact LeO.refl _)
      | (with_reducible exact LeO.none _)
      | (with_reducible refine LeO.ite ?_ ?_)
      | (with_reducible refine LeO.bind ?_ (fun _ => ?_))
      | exact frame_Response.mono _ _ _ _ _ _ _
      | exact tollbarlaw07_alive.mono _
      | exact tollbarref07_Response.mono _ _ _ _ _ _ _
      | exact LeO.none _
      | refine LeO.ite ?_ ?_
      | refine LeO.bind ?_ (fun _ => ?_)
set_option maxHeartbeats 8000000 in
set_option maxRecDepth 100000 in
theorem tollbarlaw07_FrameResponses.calls (k : Nat) (a0 : ByteArray) (a1_0 : Int) (a1_1 : ByteArray) (a1_2 : Int) (A1_3 : Option Addr) (c1_3 : Nat) (l1_3 : List (S24)) (A1_4 : Option Addr) (c1_4 : Nat) (l1_4 : List Int) (r : Bool) (w : World) (hr1_3 : Kd.C k24 w A1_3 l1_3.length l1_3) (hc1_3 : l1_3.length ≤ c1_3) (hr1_4 : Kd.C (Kd.int .u8) w A1_4 l1_4.length l1_4) (hc1_4 : l1_4.length ≤ c1_4) (h : tollbarlaw07_FrameResponses.f k a0 a1_0 a1_1 a1_2 l1_3 l1_4 = some r) :
    Calls Tryd.prog 11 #[.string a0, .agg #[.int .i64 a1_0, .string a1_1, .int .i64 a1_2, .slice A1_3 l1_3.length c1_3, .slice A1_4 l1_4.length c1_4]] w fun e w' => e = .returned (.bool r) ∧ Below w.heap.size w w' := by
  have hu53 := Tryd.underlying53
  have HR1_3 := Aside0.mk hr1_3
  have HC1_3 := Aside0.mk hc1_3
  clear hr1_3 hc1_3
  have HR1_4 := Aside0.mk hr1_4
  have HC1_4 := Aside0.mk hc1_4
  clear hr1_4 hc1_4
  have HB := Aside0.mk (Below.refl w.heap.size w)
  have H : ((tollbarlaw07_alive.f k).bind fun t275 => (if t275 = true then (if (l1_3.length : Int) > 200 then (some true) else ((frame_Response.f k a0 a1_0 a1_1 a1_2 l1_3 l1_4).bind fun bt276 => ((tollbarref07_Response.f k a0 a1_0 a1_1 a1_2 l1_3 l1_4).bind fun bt279 => (if bt276.1 = bt279.1 then (if bt276.2.1 = bt279.2.1 then (some (bt276.2.2 == bt279.2.2)) else (none)) else (none))))) else (none))) = some r := h
  clear h
  replace H := Option.bind_eq_some_iff.mp H
  obtain ⟨t275, A30, H⟩ := H
  replace H : (if t275 = true then (if (l1_3.length : Int) > 200 then (some true) else ((frame_Response.f k a0 a1_0 a1_1 a1_2 l1_3 l1_4).bind fun bt276 => ((tollbarref07_Response.f k a0 a1_0 a1_1 a1_2 l1_3 l1_4).bind fun bt279 => (if bt276.1 = bt279.1 then (if bt276.2.1 = bt279.2.1 then (some (bt276.2.2 == bt279.2.2)) else (none)) else (none))))) else (none)) = some r := H
  have A3 := Aside0.mk A30
  clear A30
  by_cases c4 : t275 = true
  · subst c4
    have H1 : (if (l1_3.length : Int) > 200 then (some true) else ((frame_Response.f k a0 a1_0 a1_1 a1_2 l1_3 l1_4).bind fun bt276 => ((tollbarref07_Response.f k a0 a1_0 a1_1 a1_2 l1_3 l1_4).bind fun bt279 => (if bt276.1 = bt279.1 then (if bt276.2.1 = bt279.2.1 then (some (bt276.2.2 == bt279.2.2)) else (none)) else (none))))) = some r := by rw [if_pos rfl] at H; exact H
    clear H
    have H := H1
    clear H1
    by_cases c5 : (l1_3.length : Int) > 200
    · rw [if_pos c5] at H
      have c5b0 : decide (200 < (l1_3.length : Int)) = true := decide_eq_true c5
      have c5b1 : decide (200 < l1_3.length) = true := decide_eq_true (by omega)
      clear c5
      obtain rfl := Option.some.inj H
      go_enter Tryd.func11, Tryd.ntmps11
      go_wp2_with (first | ((with_reducible refine gate_dst (N := 3) rfl ?_); refine box_event ?hg (N := 3) ?hd (cs := #[.int .i64 a1_0, .string a1_1, .int .i64 a1_2, .slice A1_3 l1_3.length c1_3, .slice A1_4 l1_4.length c1_4]) (t := 53) ?hr ?_; (case hd => rfl); (case hg => rfl); (case hr => first | (go_simp; done) | (go_simp; rfl)); intro gb274 hg w6 hbox hb; have n0_ := Aside0.mk (below_step (by repeat (first | (with_reducible first | exact HB.out | apply below_alloc | apply pw_below_drewN | apply below_drew1) | exact HB.out)) hb); have n1_ := Aside0.mk (hbox); have n2_ := Aside0.mk ((by rw [hg]; exact (below_size (by repeat (first | (with_reducible first | exact HB.out | apply below_alloc | apply pw_below_drewN | apply below_drew1) | exact HB.out))) : w.heap.size ≤ gb274)); have n3_ := Aside0.mk ((by rw [hg]; exact (below_size (by repeat (first | (with_reducible first | exact HB.out | apply below_alloc | apply pw_below_drewN | apply below_drew1) | exact HB.out))) : w.heap.size ≤ gb274)); clear HB; have HB := n0_; have BK274 := n1_; have GW274 := n2_; have GE274 := n3_; clear n0_ n1_ n2_ n3_; clear hb hbox hg) | ((with_reducible refine gate_callee (f := 34) rfl ?_); refine goesL_ (some 11) rfl rfl Tryd.func34 (by kernel_rfl) rfl #[] rfl (by (try simp only [List.map_toArray, List.map_cons, List.map_nil]); first | done | rfl | (simp only [List.length_drop, List.length_take]; rfl)) ?_; (with_reducible refine (tollbarlaw07_alive.calls k  true _ A3.out).mono ?_); rintro e w7 ⟨rfl, hb⟩; refine ⟨_, rfl, ?_⟩; have n0_ := Aside0.mk (blk_below (g := gb274) (o := .cells #[.int .i64 a1_0, .string a1_1, .int .i64 a1_2, .slice A1_3 l1_3.length c1_3, .slice A1_4 l1_4.length c1_4] 53 (0, 0)) (by (with_reducible repeat (first | refine blk_drewN ?_ _ | refine blk_drew ?_ | refine blk_alloc ?_ _)); exact BK274.out) hb); have n1_ := Aside0.mk (below_step (by repeat (first | (with_reducible first | exact HB.out | apply below_alloc | apply pw_below_drewN | apply below_drew1 | refine below_set ?_ GE274.out) | exact HB.out)) hb); clear BK274; clear HB; have BK274 := n0_; have HB := n1_; clear n0_ n1_; (try clear hb); (try clear hb2); (try clear hk); (try clear hi); have hcz8_0 : w7.cell? ⟨gb274, 0, none⟩ = some (.int .i64 a1_0) := (blk_cell BK274.out 0).trans rfl; have hcz8_1 : w7.cell? ⟨gb274, 1, none⟩ = some (.string a1_1) := (blk_cell BK274.out 1).trans rfl; have hcz8_2 : w7.cell? ⟨gb274, 2, none⟩ = some (.int .i64 a1_2) := (blk_cell BK274.out 2).trans rfl; have hcz8_3 : w7.cell? ⟨gb274, 3, none⟩ = some (.slice A1_3 l1_3.length c1_3) := (blk_cell BK274.out 3).trans rfl; have hcz8_4 : w7.cell? ⟨gb274, 4, none⟩ = some (.slice A1_4 l1_4.length c1_4) := (blk_cell BK274.out 4).trans rfl; have hfz8_0 := blk_frozen BK274.out 0; have hfz8_1 := blk_frozen BK274.out 1; have hfz8_2 := blk_frozen BK274.out 2; have hfz8_3 := blk_frozen BK274.out 3; have hfz8_4 := blk_frozen BK274.out 4))
      go_ret
      exact ⟨by first | rfl | (simp [errW_none, errW_some] <;> rfl) | (simp [*, errW_none, errW_some] <;> rfl), by repeat (first | (with_reducible first | exact HB.out | apply below_alloc | apply pw_below_drewN | apply below_drew1 | refine below_set ?_ GE274.out) | exact HB.out)⟩
    · rw [if_neg c5] at H
      have c5b0 : decide (200 < (l1_3.length : Int)) = false := decide_eq_false c5
      have c5b1 : decide (200 < l1_3.length) = false := decide_eq_false (by omega)
      clear c5
      replace H := Option.bind_eq_some_iff.mp H
      obtain ⟨⟨t276, t277, t278⟩, A90, H⟩ := H
      replace H : ((tollbarref07_Response.f k a0 a1_0 a1_1 a1_2 l1_3 l1_4).bind fun bt279 => (if t276 = bt279.1 then (if t277 = bt279.2.1 then (some (t278 == bt279.2.2)) else (none)) else (none))) = some r := H
      have A9 := Aside0.mk A90
      clear A90
      replace H := Option.bind_eq_some_iff.mp H
      obtain ⟨⟨t279, t280, t281⟩, A100, H⟩ := H
      replace H : (if t276 = t279 then (if t277 = t280 then (some (t278 == t281)) else (none)) else (none)) = some r := H
      have A10 := Aside0.mk A100
      clear A100
      by_cases c11 : t276 = t279
      · rw [if_pos c11] at H
        have c11b0 : (t276 == t279) = true := beq_iff_eq.mpr c11
        have c11b1 : (t276 != t279) = false := bne_eq_false_iff_eq.mpr c11
        clear c11
        by_cases c12 : t277 = t280
        · rw [if_pos c12] at H
          have c12b0 : (t277 == t280) = true := beq_iff_eq.mpr c12
          have c12b1 : (t277 != t280) = false := bne_eq_false_iff_eq.mpr c12
          clear c12
          obtain rfl := Option.some.inj H
          go_enter Tryd.func11, Tryd.ntmps11
          go_wp2_with (first | ((with_reducible refine gate_dst (N := 3) rfl ?_); refine box_event ?hg (N := 3) ?hd (cs := #[.int .i64 a1_0, .string a1_1, .int .i64 a1_2, .slice A1_3 l1_3.length c1_3, .slice A1_4 l1_4.length c1_4]) (t := 53) ?hr ?_; (case hd => rfl); (case hg => rfl); (case hr => first | (go_simp; done) | (go_simp; rfl)); intro gb274 hg w13 hbox hb; have n0_ := Aside0.mk (below_step (by repeat (first | (with_reducible first | exact HB.out | apply below_alloc | apply pw_below_drewN | apply below_drew1) | exact HB.out)) hb); have n1_ := Aside0.mk (hbox); have n2_ := Aside0.mk ((by rw [hg]; exact (below_size (by repeat (first | (with_reducible first | exact HB.out | apply below_alloc | apply pw_below_drewN | apply below_drew1) | exact HB.out))) : w.heap.size ≤ gb274)); have n3_ := Aside0.mk ((by rw [hg]; exact (below_size (by repeat (first | (with_reducible first | exact HB.out | apply below_alloc | apply pw_below_drewN | apply below_drew1) | exact HB.out))) : w.heap.size ≤ gb274)); clear HB; have HB := n0_; have BK274 := n1_; have GW274 := n2_; have GE274 := n3_; clear n0_ n1_ n2_ n3_; clear hb hbox hg) | ((with_reducible refine gate_callee (f := 34) rfl ?_); refine goesL_ (some 11) rfl rfl Tryd.func34 (by kernel_rfl) rfl #[] rfl (by (try simp only [List.map_toArray, List.map_cons, List.map_nil]); first | done | rfl | (simp only [List.length_drop, List.length_take]; rfl)) ?_; (with_reducible refine (tollbarlaw07_alive.calls k  true _ A3.out).mono ?_); rintro e w14 ⟨rfl, hb⟩; refine ⟨_, rfl, ?_⟩; have n0_ := Aside0.mk (blk_below (g := gb274) (o := .cells #[.int .i64 a1_0, .string a1_1, .int .i64 a1_2, .slice A1_3 l1_3.length c1_3, .slice A1_4 l1_4.length c1_4] 53 (0, 0)) (by (with_reducible repeat (first | refine blk_drewN ?_ _ | refine blk_drew ?_ | refine blk_alloc ?_ _)); exact BK274.out) hb); have n1_ := Aside0.mk (below_step (by repeat (first | (with_reducible first | exact HB.out | apply below_alloc | apply pw_below_drewN | apply below_drew1 | refine below_set ?_ GE274.out) | exact HB.out)) hb); clear BK274; clear HB; have BK274 := n0_; have HB := n1_; clear n0_ n1_; (try clear hb); (try clear hb2); (try clear hk); (try clear hi); have hcz15_0 : w14.cell? ⟨gb274, 0, none⟩ = some (.int .i64 a1_0) := (blk_cell BK274.out 0).trans rfl; have hcz15_1 : w14.cell? ⟨gb274, 1, none⟩ = some (.string a1_1) := (blk_cell BK274.out 1).trans rfl; have hcz15_2 : w14.cell? ⟨gb274, 2, none⟩ = some (.int .i64 a1_2) := (blk_cell BK274.out 2).trans rfl; have hcz15_3 : w14.cell? ⟨gb274, 3, none⟩ = some (.slice A1_3 l1_3.length c1_3) := (blk_cell BK274.out 3).trans rfl; have hcz15_4 : w14.cell? ⟨gb274, 4, none⟩ = some (.slice A1_4 l1_4.length c1_4) := (blk_cell BK274.out 4).trans rfl; have hfz15_0 := blk_frozen BK274.out 0; have hfz15_1 := blk_frozen BK274.out 1; have hfz15_2 := blk_frozen BK274.out 2; have hfz15_3 := blk_frozen BK274.out 3; have hfz15_4 := blk_frozen BK274.out 4) | ((with_reducible refine gate_callee (f := 39) rfl ?_); refine goesL_ (some 20) rfl rfl Tryd.func39 (by kernel_rfl) rfl #[.string a0, .agg #[.int .i64 a1_0, .string a1_1, .int .i64 a1_2, .slice A1_3 l1_3.length c1_3, .slice A1_4 l1_4.length c1_4]] rfl (by (try simp only [List.map_toArray, List.map_cons, List.map_nil]); first | done | rfl | (simp only [List.length_drop, List.length_take]; rfl)) ?_; (with_reducible refine (frame_Response.calls k a0 a1_0 a1_1 a1_2 _ _ l1_3 _ _ l1_4 t276 t277 t278 _ ?side1 ?side2 ?side3 ?side4 A9.out).mono ?_); (case side1 => repeat (first | exact (Kd.C_below HR1_3.out HB.out) | (with_reducible refine Kd.C_alloc ?_ _) | (with_reducible refine Kd.C_drewN ?_ _) | (with_reducible refine Kd.C_drew ?_))); (case side2 => exact HC1_3.out); (case side3 => repeat (first | exact (Kd.C_below HR1_4.out HB.out) | (with_reducible refine Kd.C_alloc ?_ _) | (with_reducible refine Kd.C_drewN ?_ _) | (with_reducible refine Kd.C_drew ?_))); (case side4 => exact HC1_4.out); rintro e w16 ⟨rfl, hb⟩; refine ⟨_, rfl, ?_⟩; have n0_ := Aside0.mk (blk_below (g := gb274) (o := .cells #[.int .i64 a1_0, .string a1_1, .int .i64 a1_2, .slice A1_3 l1_3.length c1_3, .slice A1_4 l1_4.length c1_4] 53 (0, 0)) (by (with_reducible repeat (first | refine blk_drewN ?_ _ | refine blk_drew ?_ | refine blk_alloc ?_ _)); exact BK274.out) hb); have n1_ := Aside0.mk (below_step (by repeat (first | (with_reducible first | exact HB.out | apply below_alloc | apply pw_below_drewN | apply below_drew1 | refine below_set ?_ GE274.out) | exact HB.out)) hb); clear BK274; clear HB; have BK274 := n0_; have HB := n1_; clear n0_ n1_; (try clear hb); (try clear hb2); (try clear hk); (try clear hi); have hcz17_0 : w16.cell? ⟨gb274, 0, none⟩ = some (.int .i64 a1_0) := (blk_cell BK274.out 0).trans rfl; have hcz17_1 : w16.cell? ⟨gb274, 1, none⟩ = some (.string a1_1) := (blk_cell BK274.out 1).trans rfl; have hcz17_2 : w16.cell? ⟨gb274, 2, none⟩ = some (.int .i64 a1_2) := (blk_cell BK274.out 2).trans rfl; have hcz17_3 : w16.cell? ⟨gb274, 3, none⟩ = some (.slice A1_3 l1_3.length c1_3) := (blk_cell BK274.out 3).trans rfl; have hcz17_4 : w16.cell? ⟨gb274, 4, none⟩ = some (.slice A1_4 l1_4.length c1_4) := (blk_cell BK274.out 4).trans rfl; have hfz17_0 := blk_frozen BK274.out 0; have hfz17_1 := blk_frozen BK274.out 1; have hfz17_2 := blk_frozen BK274.out 2; have hfz17_3 := blk_frozen BK274.out 3; have hfz17_4 := blk_frozen BK274.out 4) | ((with_reducible refine gate_callee (f := 40) rfl ?_); refine goesL_ (some 27) rfl rfl Tryd.func40 (by kernel_rfl) rfl #[.string a0, .agg #[.int .i64 a1_0, .string a1_1, .int .i64 a1_2, .slice A1_3 l1_3.length c1_3, .slice A1_4 l1_4.length c1_4]] rfl (by (try simp only [List.map_toArray, List.map_cons, List.map_nil]); first | done | rfl | (simp only [List.length_drop, List.length_take]; rfl)) ?_; (with_reducible refine (tollbarref07_Response.calls k a0 a1_0 a1_1 a1_2 _ _ l1_3 _ _ l1_4 t279 t280 t281 _ ?side1 ?side2 ?side3 ?side4 A10.out).mono ?_); (case side1 => repeat (first | exact (Kd.C_below HR1_3.out HB.out) | (with_reducible refine Kd.C_alloc ?_ _) | (with_reducible refine Kd.C_drewN ?_ _) | (with_reducible refine Kd.C_drew ?_))); (case side2 => exact HC1_3.out); (case side3 => repeat (first | exact (Kd.C_below HR1_4.out HB.out) | (with_reducible refine Kd.C_alloc ?_ _) | (with_reducible refine Kd.C_drewN ?_ _) | (with_reducible refine Kd.C_drew ?_))); (case side4 => exact HC1_4.out); rintro e w18 ⟨rfl, hb⟩; refine ⟨_, rfl, ?_⟩; have n0_ := Aside0.mk (blk_below (g := gb274) (o := .cells #[.int .i64 a1_0, .string a1_1, .int .i64 a1_2, .slice A1_3 l1_3.length c1_3, .slice A1_4 l1_4.length c1_4] 53 (0, 0)) (by (with_reducible repeat (first | refine blk_drewN ?_ _ | refine blk_drew ?_ | refine blk_alloc ?_ _)); exact BK274.out) hb); have n1_ := Aside0.mk (below_step (by repeat (first | (with_reducible first | exact HB.out | apply below_alloc | apply pw_below_drewN | apply below_drew1 | refine below_set ?_ GE274.out) | exact HB.out)) hb); clear BK274; clear HB; have BK274 := n0_; have HB := n1_; clear n0_ n1_; (try clear hb); (try clear hb2); (try clear hk); (try clear hi)))
          go_ret
          exact ⟨by first | rfl | (simp [errW_none, errW_some] <;> rfl) | (simp [*, errW_none, errW_some] <;> rfl), by repeat (first | (with_reducible first | exact HB.out | apply below_alloc | apply pw_below_drewN | apply below_drew1 | refine below_set ?_ GE274.out) | exact HB.out)⟩
        · rw [if_neg c12] at H
          exact absurd H (by simp)
      · rw [if_neg c11] at H
        exact absurd H (by simp)
  · replace c4 := Bool.eq_false_iff.mpr c4
    subst c4
    have H1 : (none) = some r := by rw [if_neg (show ¬ (false = true) by decide)] at H; exact H
    clear H
    have H := H1
    clear H1
    exact absurd H (by simp)

/-- THE ONE PURE STATEMENT of tollbarlaw07_FrameResponses. -/
def tollbarlaw07_FrameResponses.Pure : Prop := ∀ (a0 : ByteArray) (a1 : S53), (a0.size ≤ 140737488351232) → (((Lit.int .i64 a1.f0).wf = true) ∧ (a1.f1.size ≤ 140737488351232) ∧ ((Lit.int .i64 a1.f2).wf = true) ∧ (a1.f3.length * 32 ≤ 140737488351232 ∧ ∀ x_ ∈ a1.f3, (x_.f0.size ≤ 140737488351232) ∧ (x_.f1.size ≤ 140737488351232)) ∧ (a1.f4.length * 1 ≤ 140737488351232 ∧ ∀ x_ ∈ a1.f4, (Lit.int .u8 x_).wf = true)) → ((a0.size + 1) + (1 + ((a1.f1.size + 1) + (1 + (((a1.f3.map (fun x_ => ((x_.f0.size + 1) + (x_.f1.size + 1)))).sum + 1) + ((a1.f4.map (fun x_ => 1)).sum + 1))))) ≤ 1048576) → ∃ k, tollbarlaw07_FrameResponses.f k a0 a1.f0 a1.f1 a1.f2 a1.f3 a1.f4 = some true

/-! ### tollbarlaw07_FrameBoth_1: function 41 -/
def tollbarlaw07_FrameBoth_1.l0 : Nat → Int → ByteArray → Option (ByteArray)
  | 0, _, _ => none
  | k + 1, x0, x3 => if x3.toList = ([] : List UInt8) then ((some (([(wrap64 (48 + (Int.tmod x0 10))) % 256] : List Int) : List Int)).bind fun y282 => (if (strOfNums y282).size + x3.size ≤ 9223372036854775807 then (tollbarlaw07_FrameBoth_1.l0 k (wrap64 (Int.tdiv x0 10)) ((strOfNums y282) ++ x3)) else (none))) else (if x0 > 0 then ((some (([(wrap64 (48 + (Int.tmod x0 10))) % 256] : List Int) : List Int)).bind fun y285 => (if (strOfNums y285).size + x3.size ≤ 9223372036854775807 then (tollbarlaw07_FrameBoth_1.l0 k (wrap64 (Int.tdiv x0 10)) ((strOfNums y285) ++ x3)) else (none))) else (some x3))
def tollbarlaw07_FrameBoth_1.f (k : Nat) (a0 : Int) : Option (ByteArray) := tollbarlaw07_FrameBoth_1.l0 k a0 (⟨#[]⟩ : ByteArray)
theorem tollbarlaw07_FrameBoth_1.mono_l : ∀ k, (∀ y0 y1, LeO (tollbarlaw07_FrameBoth_1.l0 k y0 y1) (tollbarlaw07_FrameBoth_1.l0 (k + 1) y0 y1))
  | 0 => fun _ _ r h => by simp [tollbarlaw07_FrameBoth_1.l0] at h
  | k + 1 => by
    have ih0 := tollbarlaw07_FrameBoth_1.mono_l k
    · intro y0 y1
      unfold tollbarlaw07_FrameBoth_1.l0
      repeat' first
      | (with_reducible exact ih0 _ _)
      | (with_reducible exact LeO.refl _)
      | (with_reducible exact LeO.none _)
      | (with_reducible refine LeO.ite ?_ ?_)
      | (with_reducible refine LeO.bind ?_ (fun _ => ?_))
      | exact ih0 _ _
      | exact LeO.none _
      | refine LeO.ite ?_ ?_
      | refine LeO.bind ?_ (fun _ => ?_)
theorem tollbarlaw07_FrameBoth_1.mono : ∀ a0 k, LeO (tollbarlaw07_FrameBoth_1.f k a0) (tollbarlaw07_FrameBoth_1.f (k + 1) a0) := by
  intro a0 k
  have ih0 := tollbarlaw07_FrameBoth_1.mono_l k
  unfold tollbarlaw07_FrameBoth_1.f
  repeat' first
      | (with_reducible exact ih0 _ _)
      | (with_reducible exact LeO.refl _)
      | (with_reducible exact LeO.none _)
      | (with_reducible refine LeO.ite ?_ ?_)
      | (with_reducible refine LeO.bind ?_ (fun _ => ?_))
      | exact ih0 _ _
      | exact LeO.none _
      | refine LeO.ite ?_ ?_
      | refine LeO.bind ?_ (fun _ => ?_)
set_option maxHeartbeats 8000000 in
set_option maxRecDepth 100000 in
theorem tollbarlaw07_FrameBoth_1.calls (k : Nat) (a0 : Int) (r : ByteArray) (w : World) (h : tollbarlaw07_FrameBoth_1.f k a0 = some r) :
    Calls Tryd.prog 41 #[.int .i64 a0] w fun e w' => e = .returned (.string r) ∧ Below w.heap.size w w' := by
  have HB := Aside0.mk (Below.refl w.heap.size w)
  have H : (tollbarlaw07_FrameBoth_1.l0 k a0 (⟨#[]⟩ : ByteArray)) = some r := h
  clear h
  have H' := Aside0.mk H
  clear H
  go_enter Tryd.func41, Tryd.ntmps41
  go_wp2
  go_loopg [0, 3] k (fun kq v0 v3 w' => ∃ (x0_1 : Int) (x3_1 : ByteArray), v0 = .int .i64 x0_1 ∧ v3 = .string x3_1 ∧ Aside0 (tollbarlaw07_FrameBoth_1.l0 kq x0_1 x3_1 = some r) ∧ Aside0 (kq ≤ k) ∧ Aside0 (Below w.heap.size w w'))
  case atStart => exact ⟨(a0), ((⟨#[]⟩ : ByteArray)), (by first | rfl | (simp; done) | (simp [*]; done)), (by first | rfl | (simp; done) | (simp [*]; done)), H', ⟨Nat.le_refl _⟩, ⟨by repeat (first | (with_reducible first | exact HB.out | apply below_alloc | apply pw_below_drewN | apply below_drew1) | exact HB.out)⟩⟩
  case round =>
    clear H'
    obtain ⟨x0_1, x3_1, rfl, rfl, HA, HK1, HB⟩ := hrel
    cases gk with
    | zero => exact absurd HA.out (by simp [tollbarlaw07_FrameBoth_1.l0])
    | succ k1 =>
      have H := HA.out
      clear HA
      simp only [tollbarlaw07_FrameBoth_1.l0] at H
      by_cases c2 : x3_1.toList = ([] : List UInt8)
      · rw [if_pos c2] at H
        have c2b0 : (x3_1.toList == ([] : List UInt8)) = true := beq_iff_eq.mpr c2
        have c2b1 : (x3_1.toList != ([] : List UInt8)) = false := bne_eq_false_iff_eq.mpr c2
        clear c2
        obtain ⟨y282, hy282⟩ : ∃ y_ : List Int, y_ = (([(wrap64 (48 + (Int.tmod x0_1 10))) % 256] : List Int)) := ⟨_, rfl⟩
        replace H : (if (strOfNums y282).size + x3_1.size ≤ 9223372036854775807 then (tollbarlaw07_FrameBoth_1.l0 k1 (wrap64 (Int.tdiv x0_1 10)) ((strOfNums y282) ++ x3_1)) else (none)) = some r := by first | (rw [hy282]; with_reducible exact H) | (have H2_ := (Option.bind_some _ _).symm.trans H; rw [hy282]; with_reducible exact H2_) | (have H2_ := (Option.bind_some _ _).symm.trans H; with_reducible exact H2_) | with_reducible exact H | (rw [hy282]; exact H) | exact H
        have Ny282 := Aside0.mk hy282
        clear hy282
        by_cases c3 : (strOfNums y282).size + x3_1.size ≤ 9223372036854775807
        · rw [if_pos c3] at H
          have c3b0 := eq_true c3
          try (have c3z_ := c3; simp only [xsz_app, xsz_rest, xsz_mk, List.length_cons, List.length_nil, Nat.zero_add, Int.natCast_add] at c3z_)
          have c3b1 : decide ((strOfNums y282).size + x3_1.size ≤ 9223372036854775807) = true := decide_eq_true c3
          try have c3b2 : (9223372036854775807 < (strOfNums y282).size + x3_1.size) = False := eq_false (Nat.not_lt.2 c3)
          have H' := Aside0.mk H
          clear H
          go_wp2_with (first | ((with_reducible refine gate_dst (N := 14) rfl ?_); refine Kd.R_lit (Kd.int .u8) _ 5 ?hg (N := 14) ?hd (xs := ([(wrap64 (48 + (Int.tmod x0_1 10))) % 256] : List Int)) (inner := [.int .u8 ((wrap64 (48 + (Int.tmod x0_1 10))) % 256)]) (ok := fun _ => True) (okp := fun _ => True) ?hr ?hp (fun _ hk => hk) trivial (Below.refl _ _) (Nat.le_refl _) (by simp) ?_; (case hd => rfl); (case hg => rfl); (case hr => first | (go_simp; done) | (go_simp; rfl)); (case hp => exact (Reps.one (show Kd.M (Kd.int .u8) _ _ _ ((wrap64 (48 + (Int.tmod x0_1 10))) % 256) [.int .u8 ((wrap64 (48 + (Int.tmod x0_1 10))) % 256)] from rfl) (Reps.none _ _))); intro v283 w4 ho5 hb hg_ hnew_; clear hg_ hnew_; (first | rw [← Ny282.out] at ho5 | (simp only [Int.reduceToNat] at ho5; rw [← Ny282.out] at ho5)); have n0_ := Aside0.mk (Kd.R_lower ho5 (below_size (by repeat (first | (with_reducible first | exact HB.out | apply below_alloc | apply pw_below_drewN | apply below_drew1) | exact HB.out)))); have n1_ := Aside0.mk (below_step (by repeat (first | (with_reducible first | exact HB.out | apply below_alloc | apply pw_below_drewN | apply below_drew1) | exact HB.out)) hb); clear HB; have HO284 := n0_; have HB := n1_; clear n0_ n1_; clear hb ho5; have hcv6 := own_string (P := Tryd.prog) Tryd.underlying51 Tryd.underlying5 Tryd.underlying9 (Kd.own_of_R HO284.out)))
          go_roundg k1
          case measure => have := HK1.out; omega
          case rel => exact ⟨(wrap64 (Int.tdiv x0_1 10)), ((strOfNums y282) ++ x3_1), (by first | rfl | (simp; done) | (simp [*]; done)), (by first | rfl | (simp; done) | (simp [*]; done)), H', ⟨by have := HK1.out; omega⟩, ⟨by repeat (first | (with_reducible first | exact HB.out | apply below_alloc | apply pw_below_drewN | apply below_drew1) | exact HB.out)⟩⟩
        · rw [if_neg c3] at H
          exact absurd H (by simp)
      · rw [if_neg c2] at H
        have c2b0 : (x3_1.toList == ([] : List UInt8)) = false := beq_eq_false_iff_ne.mpr c2
        have c2b1 : (x3_1.toList != ([] : List UInt8)) = true := bne_iff_ne.mpr c2
        by_cases c7 : x0_1 > 0
        · rw [if_pos c7] at H
          have c7b0 : decide (0 < x0_1) = true := decide_eq_true c7
          clear c7
          obtain ⟨y285, hy285⟩ : ∃ y_ : List Int, y_ = (([(wrap64 (48 + (Int.tmod x0_1 10))) % 256] : List Int)) := ⟨_, rfl⟩
          replace H : (if (strOfNums y285).size + x3_1.size ≤ 9223372036854775807 then (tollbarlaw07_FrameBoth_1.l0 k1 (wrap64 (Int.tdiv x0_1 10)) ((strOfNums y285) ++ x3_1)) else (none)) = some r := by first | (rw [hy285]; with_reducible exact H) | (have H2_ := (Option.bind_some _ _).symm.trans H; rw [hy285]; with_reducible exact H2_) | (have H2_ := (Option.bind_some _ _).symm.trans H; with_reducible exact H2_) | with_reducible exact H | (rw [hy285]; exact H) | exact H
          have Ny285 := Aside0.mk hy285
          clear hy285
          by_cases c8 : (strOfNums y285).size + x3_1.size ≤ 9223372036854775807
          · rw [if_pos c8] at H
            have c8b0 := eq_true c8
            try (have c8z_ := c8; simp only [xsz_app, xsz_rest, xsz_mk, List.length_cons, List.length_nil, Nat.zero_add, Int.natCast_add] at c8z_)
            have c8b1 : decide ((strOfNums y285).size + x3_1.size ≤ 9223372036854775807) = true := decide_eq_true c8
            try have c8b2 : (9223372036854775807 < (strOfNums y285).size + x3_1.size) = False := eq_false (Nat.not_lt.2 c8)
            have H' := Aside0.mk H
            clear H
            go_wp2_with (first | ((with_reducible refine gate_dst (N := 14) rfl ?_); refine Kd.R_lit (Kd.int .u8) _ 5 ?hg (N := 14) ?hd (xs := ([(wrap64 (48 + (Int.tmod x0_1 10))) % 256] : List Int)) (inner := [.int .u8 ((wrap64 (48 + (Int.tmod x0_1 10))) % 256)]) (ok := fun _ => True) (okp := fun _ => True) ?hr ?hp (fun _ hk => hk) trivial (Below.refl _ _) (Nat.le_refl _) (by simp) ?_; (case hd => rfl); (case hg => rfl); (case hr => first | (go_simp; done) | (go_simp; rfl)); (case hp => exact (Reps.one (show Kd.M (Kd.int .u8) _ _ _ ((wrap64 (48 + (Int.tmod x0_1 10))) % 256) [.int .u8 ((wrap64 (48 + (Int.tmod x0_1 10))) % 256)] from rfl) (Reps.none _ _))); intro v286 w9 ho10 hb hg_ hnew_; clear hg_ hnew_; (first | rw [← Ny285.out] at ho10 | (simp only [Int.reduceToNat] at ho10; rw [← Ny285.out] at ho10)); have n0_ := Aside0.mk (Kd.R_lower ho10 (below_size (by repeat (first | (with_reducible first | exact HB.out | apply below_alloc | apply pw_below_drewN | apply below_drew1) | exact HB.out)))); have n1_ := Aside0.mk (below_step (by repeat (first | (with_reducible first | exact HB.out | apply below_alloc | apply pw_below_drewN | apply below_drew1) | exact HB.out)) hb); clear HB; have HO287 := n0_; have HB := n1_; clear n0_ n1_; clear hb ho10; have hcv11 := own_string (P := Tryd.prog) Tryd.underlying51 Tryd.underlying5 Tryd.underlying9 (Kd.own_of_R HO287.out)))
            go_roundg k1
            case measure => have := HK1.out; omega
            case rel => exact ⟨(wrap64 (Int.tdiv x0_1 10)), ((strOfNums y285) ++ x3_1), (by first | rfl | (simp; done) | (simp [*]; done)), (by first | rfl | (simp; done) | (simp [*]; done)), H', ⟨by have := HK1.out; omega⟩, ⟨by repeat (first | (with_reducible first | exact HB.out | apply below_alloc | apply pw_below_drewN | apply below_drew1) | exact HB.out)⟩⟩
          · rw [if_neg c8] at H
            exact absurd H (by simp)
        · rw [if_neg c7] at H
          have c7b0 : decide (0 < x0_1) = false := decide_eq_false c7
          clear c7
          obtain rfl := Option.some.inj H
          go_wp2
          go_ret
          exact ⟨by first | rfl | (simp [errW_none, errW_some] <;> rfl) | (simp [*, errW_none, errW_some] <;> rfl), by repeat (first | (with_reducible first | exact HB.out | apply below_alloc | apply pw_below_drewN | apply below_drew1) | exact HB.out)⟩

/-! ### tollbarlaw07_FrameBoth: function 12 -/
def tollbarlaw07_FrameBoth.j0 : Nat → Int → Int → Bool → List (S24) → Option (Bool)
  | 0, _, _, _, _ => none
  | k + 1, x1, x2, x3, x10 => (frame_Request.f k x10 1).bind fun bt310 => ((frame_Response.f k (⟨#[71, 69, 84]⟩ : ByteArray) 200 (⟨#[]⟩ : ByteArray) 1 x10 ([] : List Int)).bind fun bt313 => (if x3 = true then (if bt310.2.2 = 400 then (some (!bt313.2.2)) else (none)) else (if x1 = x2 then ((frame_Request.f k x10 1).bind fun bt316 => (if bt310.2.2 = 0 then (if bt316.1 = x1 then (if bt316.2.1 = true then (none) else (some bt313.2.2)) else (none)) else (some true))) else (if bt310.2.2 = 400 then (some (!bt313.2.2)) else (none)))))
def tollbarlaw07_FrameBoth.f (k : Nat) (l0 : List (S24)) (a1 : Int) (a2 : Int) (a3 : Bool) : Option (Bool) := (tollbarlaw07_alive.f k).bind fun t288 => (if t288 = true then (if (l0.length : Int) > 100 then (some true) else ((tollbarlaw07_FrameBoth_1.f k (Go.bits .and .i64 a1 4095)).bind fun t289 => ((tollbarlaw07_of.f (⟨#[67, 79, 78, 84, 69, 78, 84, 45, 108, 101, 110, 103, 116, 104]⟩ : ByteArray) t289).bind fun t290 => (if t290.length + l0.length < 4398046511104 then ((some (t290 ++ l0 : List (S24))).bind fun y293 => ((tollbarlaw07_FrameBoth_1.f k (Go.bits .and .i64 a2 4095)).bind fun t296 => (if y293.length < 4398046511104 then (if a3 = true then ((tollbarlaw07_of.f (⟨#[116, 114, 97, 110, 115, 102, 101, 114, 45, 101, 110, 99, 111, 100, 105, 110, 103]⟩ : ByteArray) (⟨#[99, 104, 117, 110, 107, 101, 100]⟩ : ByteArray)).bind fun t300 => (if t300.length + l0.length < 4398046511104 then ((some (t300 ++ l0 : List (S24))).bind fun y303 => ((tollbarlaw07_FrameBoth_1.f k (Go.bits .and .i64 a2 4095)).bind fun t306 => (if y303.length < 4398046511104 then (tollbarlaw07_FrameBoth.j0 k (Go.bits .and .i64 a1 4095) (Go.bits .and .i64 a2 4095) a3 (y303 ++ [(⟨(⟨#[67, 111, 110, 116, 101, 110, 116, 45, 76, 101, 110, 103, 116, 104]⟩ : ByteArray), t306⟩ : S24)])) else (none)))) else (none))) else (tollbarlaw07_FrameBoth.j0 k (Go.bits .and .i64 a1 4095) (Go.bits .and .i64 a2 4095) a3 (y293 ++ [(⟨(⟨#[67, 111, 110, 116, 101, 110, 116, 45, 76, 101, 110, 103, 116, 104]⟩ : ByteArray), t296⟩ : S24)]))) else (none)))) else (none))))) else (none))
theorem tollbarlaw07_FrameBoth.mono_l : ∀ k, (∀ y0 y1 y2 y3, LeO (tollbarlaw07_FrameBoth.j0 k y0 y1 y2 y3) (tollbarlaw07_FrameBoth.j0 (k + 1) y0 y1 y2 y3))
  | 0 => fun _ _ _ _ r h => by simp [tollbarlaw07_FrameBoth.j0] at h
  | k + 1 => by
    have ih0 := tollbarlaw07_FrameBoth.mono_l k
    · intro y0 y1 y2 y3
      unfold tollbarlaw07_FrameBoth.j0
      repeat' first
      | (with_reducible exact ih0 _ _ _ _)
      | (with_reducible exact frame_Request.mono _ _ _)
      | (with_reducible exact frame_Response.mono _ _ _ _ _ _ _)
      | (with_reducible exact tollbarlaw07_FrameBoth_1.mono _ _)
      | (with_reducible exact tollbarlaw07_alive.mono _)
      | (with_reducible exact LeO.refl _)
      | (with_reducible exact LeO.none _)
      | (with_reducible refine LeO.ite ?_ ?_)
      | (with_reducible refine LeO.bind ?_ (fun _ => ?_))
      | exact ih0 _ _ _ _
      | exact frame_Request.mono _ _ _
      | exact frame_Response.mono _ _ _ _ _ _ _
      | exact tollbarlaw07_FrameBoth_1.mono _ _
      | exact tollbarlaw07_alive.mono _
      | exact LeO.none _
      | refine LeO.ite ?_ ?_
      | refine LeO.bind ?_ (fun _ => ?_)
theorem tollbarlaw07_FrameBoth.mono : ∀ a0 a1 a2 a3 k, LeO (tollbarlaw07_FrameBoth.f k a0 a1 a2 a3) (tollbarlaw07_FrameBoth.f (k + 1) a0 a1 a2 a3) := by
  intro a0 a1 a2 a3 k
  have ih0 := tollbarlaw07_FrameBoth.mono_l k
  unfold tollbarlaw07_FrameBoth.f
  repeat' first
      | (with_reducible exact ih0 _ _ _ _)
      | (with_reducible exact frame_Request.mono _ _ _)
      | (with_reducible exact frame_Response.mono _ _ _ _ _ _ _)
      | (with_reducible exact tollbarlaw07_FrameBoth_1.mono _ _)
      | (with_reducible exact tollbarlaw07_alive.mono _)
      | (with_reducible exact LeO.refl _)
      | (with_reducible exact LeO.none _)
      | (with_reducible refine LeO.ite ?_ ?_)
      | (with_reducible refine LeO.bind ?_ (fun _ => ?_))
      | exact ih0 _ _ _ _
      | exact frame_Request.mono _ _ _
      | exact frame_Response.mono _ _ _ _ _ _ _
      | exact tollbarlaw07_FrameBoth_1.mono _ _
      | exact tollbarlaw07_alive.mono _
      | exact LeO.none _
      | refine LeO.ite ?_ ?_
      | refine LeO.bind ?_ (fun _ => ?_)
set_option maxHeartbeats 8000000 in
set_option maxRecDepth 100000 in
theorem tollbarlaw07_FrameBoth.calls (k : Nat) (A0 : Option Addr) (c0 : Nat) (l0 : List (S24)) (a1 : Int) (a2 : Int) (a3 : Bool) (r : Bool) (w : World) (hr0 : Kd.C k24 w A0 l0.length l0) (hc0 : l0.length ≤ c0) (h : tollbarlaw07_FrameBoth.f k l0 a1 a2 a3 = some r) :
    Calls Tryd.prog 12 #[.slice A0 l0.length c0, .int .i64 a1, .int .i64 a2, .bool a3] w fun e w' => e = .returned (.bool r) ∧ Below w.heap.size w w' := by
  have hu24 := Tryd.underlying24
  have hu53 := Tryd.underlying53
  have HR0 := Aside0.mk hr0
  have HC0 := Aside0.mk hc0
  clear hr0 hc0
  have HB := Aside0.mk (Below.refl w.heap.size w)
  have H : ((tollbarlaw07_alive.f k).bind fun t288 => (if t288 = true then (if (l0.length : Int) > 100 then (some true) else ((tollbarlaw07_FrameBoth_1.f k (Go.bits .and .i64 a1 4095)).bind fun t289 => ((tollbarlaw07_of.f (⟨#[67, 79, 78, 84, 69, 78, 84, 45, 108, 101, 110, 103, 116, 104]⟩ : ByteArray) t289).bind fun t290 => (if t290.length + l0.length < 4398046511104 then ((some (t290 ++ l0 : List (S24))).bind fun y293 => ((tollbarlaw07_FrameBoth_1.f k (Go.bits .and .i64 a2 4095)).bind fun t296 => (if y293.length < 4398046511104 then (if a3 = true then ((tollbarlaw07_of.f (⟨#[116, 114, 97, 110, 115, 102, 101, 114, 45, 101, 110, 99, 111, 100, 105, 110, 103]⟩ : ByteArray) (⟨#[99, 104, 117, 110, 107, 101, 100]⟩ : ByteArray)).bind fun t300 => (if t300.length + l0.length < 4398046511104 then ((some (t300 ++ l0 : List (S24))).bind fun y303 => ((tollbarlaw07_FrameBoth_1.f k (Go.bits .and .i64 a2 4095)).bind fun t306 => (if y303.length < 4398046511104 then (tollbarlaw07_FrameBoth.j0 k (Go.bits .and .i64 a1 4095) (Go.bits .and .i64 a2 4095) a3 (y303 ++ [(⟨(⟨#[67, 111, 110, 116, 101, 110, 116, 45, 76, 101, 110, 103, 116, 104]⟩ : ByteArray), t306⟩ : S24)])) else (none)))) else (none))) else (tollbarlaw07_FrameBoth.j0 k (Go.bits .and .i64 a1 4095) (Go.bits .and .i64 a2 4095) a3 (y293 ++ [(⟨(⟨#[67, 111, 110, 116, 101, 110, 116, 45, 76, 101, 110, 103, 116, 104]⟩ : ByteArray), t296⟩ : S24)]))) else (none)))) else (none))))) else (none))) = some r := h
  clear h
  replace H := Option.bind_eq_some_iff.mp H
  obtain ⟨t288, A50, H⟩ := H
  replace H : (if t288 = true then (if (l0.length : Int) > 100 then (some true) else ((tollbarlaw07_FrameBoth_1.f k (Go.bits .and .i64 a1 4095)).bind fun t289 => ((tollbarlaw07_of.f (⟨#[67, 79, 78, 84, 69, 78, 84, 45, 108, 101, 110, 103, 116, 104]⟩ : ByteArray) t289).bind fun t290 => (if t290.length + l0.length < 4398046511104 then ((some (t290 ++ l0 : List (S24))).bind fun y293 => ((tollbarlaw07_FrameBoth_1.f k (Go.bits .and .i64 a2 4095)).bind fun t296 => (if y293.length < 4398046511104 then (if a3 = true then ((tollbarlaw07_of.f (⟨#[116, 114, 97, 110, 115, 102, 101, 114, 45, 101, 110, 99, 111, 100, 105, 110, 103]⟩ : ByteArray) (⟨#[99, 104, 117, 110, 107, 101, 100]⟩ : ByteArray)).bind fun t300 => (if t300.length + l0.length < 4398046511104 then ((some (t300 ++ l0 : List (S24))).bind fun y303 => ((tollbarlaw07_FrameBoth_1.f k (Go.bits .and .i64 a2 4095)).bind fun t306 => (if y303.length < 4398046511104 then (tollbarlaw07_FrameBoth.j0 k (Go.bits .and .i64 a1 4095) (Go.bits .and .i64 a2 4095) a3 (y303 ++ [(⟨(⟨#[67, 111, 110, 116, 101, 110, 116, 45, 76, 101, 110, 103, 116, 104]⟩ : ByteArray), t306⟩ : S24)])) else (none)))) else (none))) else (tollbarlaw07_FrameBoth.j0 k (Go.bits .and .i64 a1 4095) (Go.bits .and .i64 a2 4095) a3 (y293 ++ [(⟨(⟨#[67, 111, 110, 116, 101, 110, 116, 45, 76, 101, 110, 103, 116, 104]⟩ : ByteArray), t296⟩ : S24)]))) else (none)))) else (none))))) else (none)) = some r := H
  have A5 := Aside0.mk A50
  clear A50
  by_cases c6 : t288 = true
  · subst c6
    have H1 : (if (l0.length : Int) > 100 then (some true) else ((tollbarlaw07_FrameBoth_1.f k (Go.bits .and .i64 a1 4095)).bind fun t289 => ((tollbarlaw07_of.f (⟨#[67, 79, 78, 84, 69, 78, 84, 45, 108, 101, 110, 103, 116, 104]⟩ : ByteArray) t289).bind fun t290 => (if t290.length + l0.length < 4398046511104 then ((some (t290 ++ l0 : List (S24))).bind fun y293 => ((tollbarlaw07_FrameBoth_1.f k (Go.bits .and .i64 a2 4095)).bind fun t296 => (if y293.length < 4398046511104 then (if a3 = true then ((tollbarlaw07_of.f (⟨#[116, 114, 97, 110, 115, 102, 101, 114, 45, 101, 110, 99, 111, 100, 105, 110, 103]⟩ : ByteArray) (⟨#[99, 104, 117, 110, 107, 101, 100]⟩ : ByteArray)).bind fun t300 => (if t300.length + l0.length < 4398046511104 then ((some (t300 ++ l0 : List (S24))).bind fun y303 => ((tollbarlaw07_FrameBoth_1.f k (Go.bits .and .i64 a2 4095)).bind fun t306 => (if y303.length < 4398046511104 then (tollbarlaw07_FrameBoth.j0 k (Go.bits .and .i64 a1 4095) (Go.bits .and .i64 a2 4095) a3 (y303 ++ [(⟨(⟨#[67, 111, 110, 116, 101, 110, 116, 45, 76, 101, 110, 103, 116, 104]⟩ : ByteArray), t306⟩ : S24)])) else (none)))) else (none))) else (tollbarlaw07_FrameBoth.j0 k (Go.bits .and .i64 a1 4095) (Go.bits .and .i64 a2 4095) a3 (y293 ++ [(⟨(⟨#[67, 111, 110, 116, 101, 110, 116, 45, 76, 101, 110, 103, 116, 104]⟩ : ByteArray), t296⟩ : S24)]))) else (none)))) else (none))))) = some r := by rw [if_pos rfl] at H; exact H
    clear H
    have H := H1
    clear H1
    by_cases c7 : (l0.length : Int) > 100
    · rw [if_pos c7] at H
      have c7b0 : decide (100 < (l0.length : Int)) = true := decide_eq_true c7
      have c7b1 : decide (100 < l0.length) = true := decide_eq_true (by omega)
      clear c7
      obtain rfl := Option.some.inj H
      go_enter Tryd.func12, Tryd.ntmps12
      go_wp2_with (first | ((with_reducible refine gate_callee (f := 34) rfl ?_); refine goesL_ (some 20) rfl rfl Tryd.func34 (by kernel_rfl) rfl #[] rfl (by (try simp only [List.map_toArray, List.map_cons, List.map_nil]); first | done | rfl | (simp only [List.length_drop, List.length_take]; rfl)) ?_; (with_reducible refine (tollbarlaw07_alive.calls k  true _ A5.out).mono ?_); rintro e w8 ⟨rfl, hb⟩; refine ⟨_, rfl, ?_⟩; have n0_ := Aside0.mk (below_step (by repeat (first | (with_reducible first | exact HB.out | apply below_alloc | apply pw_below_drewN | apply below_drew1) | exact HB.out)) hb); clear HB; have HB := n0_; clear n0_; (try clear hb); (try clear hb2); (try clear hk); (try clear hi)))
      go_ret
      exact ⟨by first | rfl | (simp [errW_none, errW_some] <;> rfl) | (simp [*, errW_none, errW_some] <;> rfl), by repeat (first | (with_reducible first | exact HB.out | apply below_alloc | apply pw_below_drewN | apply below_drew1) | exact HB.out)⟩
    · rw [if_neg c7] at H
      have c7b0 : decide (100 < (l0.length : Int)) = false := decide_eq_false c7
      have c7b1 : decide (100 < l0.length) = false := decide_eq_false (by omega)
      clear c7
      replace H := Option.bind_eq_some_iff.mp H
      obtain ⟨t289, A90, H⟩ := H
      replace H : ((tollbarlaw07_of.f (⟨#[67, 79, 78, 84, 69, 78, 84, 45, 108, 101, 110, 103, 116, 104]⟩ : ByteArray) t289).bind fun t290 => (if t290.length + l0.length < 4398046511104 then ((some (t290 ++ l0 : List (S24))).bind fun y293 => ((tollbarlaw07_FrameBoth_1.f k (Go.bits .and .i64 a2 4095)).bind fun t296 => (if y293.length < 4398046511104 then (if a3 = true then ((tollbarlaw07_of.f (⟨#[116, 114, 97, 110, 115, 102, 101, 114, 45, 101, 110, 99, 111, 100, 105, 110, 103]⟩ : ByteArray) (⟨#[99, 104, 117, 110, 107, 101, 100]⟩ : ByteArray)).bind fun t300 => (if t300.length + l0.length < 4398046511104 then ((some (t300 ++ l0 : List (S24))).bind fun y303 => ((tollbarlaw07_FrameBoth_1.f k (Go.bits .and .i64 a2 4095)).bind fun t306 => (if y303.length < 4398046511104 then (tollbarlaw07_FrameBoth.j0 k (Go.bits .and .i64 a1 4095) (Go.bits .and .i64 a2 4095) a3 (y303 ++ [(⟨(⟨#[67, 111, 110, 116, 101, 110, 116, 45, 76, 101, 110, 103, 116, 104]⟩ : ByteArray), t306⟩ : S24)])) else (none)))) else (none))) else (tollbarlaw07_FrameBoth.j0 k (Go.bits .and .i64 a1 4095) (Go.bits .and .i64 a2 4095) a3 (y293 ++ [(⟨(⟨#[67, 111, 110, 116, 101, 110, 116, 45, 76, 101, 110, 103, 116, 104]⟩ : ByteArray), t296⟩ : S24)]))) else (none)))) else (none))) = some r := H
      have A9 := Aside0.mk A90
      clear A90
      replace H := Option.bind_eq_some_iff.mp H
      obtain ⟨t290, A100, H⟩ := H
      replace H : (if t290.length + l0.length < 4398046511104 then ((some (t290 ++ l0 : List (S24))).bind fun y293 => ((tollbarlaw07_FrameBoth_1.f k (Go.bits .and .i64 a2 4095)).bind fun t296 => (if y293.length < 4398046511104 then (if a3 = true then ((tollbarlaw07_of.f (⟨#[116, 114, 97, 110, 115, 102, 101, 114, 45, 101, 110, 99, 111, 100, 105, 110, 103]⟩ : ByteArray) (⟨#[99, 104, 117, 110, 107, 101, 100]⟩ : ByteArray)).bind fun t300 => (if t300.length + l0.length < 4398046511104 then ((some (t300 ++ l0 : List (S24))).bind fun y303 => ((tollbarlaw07_FrameBoth_1.f k (Go.bits .and .i64 a2 4095)).bind fun t306 => (if y303.length < 4398046511104 then (tollbarlaw07_FrameBoth.j0 k (Go.bits .and .i64 a1 4095) (Go.bits .and .i64 a2 4095) a3 (y303 ++ [(⟨(⟨#[67, 111, 110, 116, 101, 110, 116, 45, 76, 101, 110, 103, 116, 104]⟩ : ByteArray), t306⟩ : S24)])) else (none)))) else (none))) else (tollbarlaw07_FrameBoth.j0 k (Go.bits .and .i64 a1 4095) (Go.bits .and .i64 a2 4095) a3 (y293 ++ [(⟨(⟨#[67, 111, 110, 116, 101, 110, 116, 45, 76, 101, 110, 103, 116, 104]⟩ : ByteArray), t296⟩ : S24)]))) else (none)))) else (none)) = some r := H
      have A10 := Aside0.mk A100
      clear A100
      by_cases c11 : t290.length + l0.length < 4398046511104
      · rw [if_pos c11] at H
        have LMc11 := Aside0.mk c11
        clear c11
        obtain ⟨y293, hy293⟩ : ∃ y_ : List (S24), y_ = (t290 ++ l0) := ⟨_, rfl⟩
        replace H : ((tollbarlaw07_FrameBoth_1.f k (Go.bits .and .i64 a2 4095)).bind fun t296 => (if y293.length < 4398046511104 then (if a3 = true then ((tollbarlaw07_of.f (⟨#[116, 114, 97, 110, 115, 102, 101, 114, 45, 101, 110, 99, 111, 100, 105, 110, 103]⟩ : ByteArray) (⟨#[99, 104, 117, 110, 107, 101, 100]⟩ : ByteArray)).bind fun t300 => (if t300.length + l0.length < 4398046511104 then ((some (t300 ++ l0 : List (S24))).bind fun y303 => ((tollbarlaw07_FrameBoth_1.f k (Go.bits .and .i64 a2 4095)).bind fun t306 => (if y303.length < 4398046511104 then (tollbarlaw07_FrameBoth.j0 k (Go.bits .and .i64 a1 4095) (Go.bits .and .i64 a2 4095) a3 (y303 ++ [(⟨(⟨#[67, 111, 110, 116, 101, 110, 116, 45, 76, 101, 110, 103, 116, 104]⟩ : ByteArray), t306⟩ : S24)])) else (none)))) else (none))) else (tollbarlaw07_FrameBoth.j0 k (Go.bits .and .i64 a1 4095) (Go.bits .and .i64 a2 4095) a3 (y293 ++ [(⟨(⟨#[67, 111, 110, 116, 101, 110, 116, 45, 76, 101, 110, 103, 116, 104]⟩ : ByteArray), t296⟩ : S24)]))) else (none))) = some r := by first | (rw [hy293]; with_reducible exact H) | (have H2_ := (Option.bind_some _ _).symm.trans H; rw [hy293]; with_reducible exact H2_) | (have H2_ := (Option.bind_some _ _).symm.trans H; with_reducible exact H2_) | with_reducible exact H | (rw [hy293]; exact H) | exact H
        have Ny293 := Aside0.mk hy293
        clear hy293
        replace H := Option.bind_eq_some_iff.mp H
        obtain ⟨t296, A120, H⟩ := H
        replace H : (if y293.length < 4398046511104 then (if a3 = true then ((tollbarlaw07_of.f (⟨#[116, 114, 97, 110, 115, 102, 101, 114, 45, 101, 110, 99, 111, 100, 105, 110, 103]⟩ : ByteArray) (⟨#[99, 104, 117, 110, 107, 101, 100]⟩ : ByteArray)).bind fun t300 => (if t300.length + l0.length < 4398046511104 then ((some (t300 ++ l0 : List (S24))).bind fun y303 => ((tollbarlaw07_FrameBoth_1.f k (Go.bits .and .i64 a2 4095)).bind fun t306 => (if y303.length < 4398046511104 then (tollbarlaw07_FrameBoth.j0 k (Go.bits .and .i64 a1 4095) (Go.bits .and .i64 a2 4095) a3 (y303 ++ [(⟨(⟨#[67, 111, 110, 116, 101, 110, 116, 45, 76, 101, 110, 103, 116, 104]⟩ : ByteArray), t306⟩ : S24)])) else (none)))) else (none))) else (tollbarlaw07_FrameBoth.j0 k (Go.bits .and .i64 a1 4095) (Go.bits .and .i64 a2 4095) a3 (y293 ++ [(⟨(⟨#[67, 111, 110, 116, 101, 110, 116, 45, 76, 101, 110, 103, 116, 104]⟩ : ByteArray), t296⟩ : S24)]))) else (none)) = some r := H
        have A12 := Aside0.mk A120
        clear A120
        by_cases c13 : y293.length < 4398046511104
        · rw [if_pos c13] at H
          have LMc13 := Aside0.mk c13
          clear c13
          obtain ⟨y297, hy297⟩ : ∃ y_ : List (S24), y_ = (y293 ++ [(⟨(⟨#[67, 111, 110, 116, 101, 110, 116, 45, 76, 101, 110, 103, 116, 104]⟩ : ByteArray), t296⟩ : S24)]) := ⟨_, rfl⟩
          replace H : (if a3 = true then ((tollbarlaw07_of.f (⟨#[116, 114, 97, 110, 115, 102, 101, 114, 45, 101, 110, 99, 111, 100, 105, 110, 103]⟩ : ByteArray) (⟨#[99, 104, 117, 110, 107, 101, 100]⟩ : ByteArray)).bind fun t300 => (if t300.length + l0.length < 4398046511104 then ((some (t300 ++ l0 : List (S24))).bind fun y303 => ((tollbarlaw07_FrameBoth_1.f k (Go.bits .and .i64 a2 4095)).bind fun t306 => (if y303.length < 4398046511104 then (tollbarlaw07_FrameBoth.j0 k (Go.bits .and .i64 a1 4095) (Go.bits .and .i64 a2 4095) a3 (y303 ++ [(⟨(⟨#[67, 111, 110, 116, 101, 110, 116, 45, 76, 101, 110, 103, 116, 104]⟩ : ByteArray), t306⟩ : S24)])) else (none)))) else (none))) else (tollbarlaw07_FrameBoth.j0 k (Go.bits .and .i64 a1 4095) (Go.bits .and .i64 a2 4095) a3 y297)) = some r := by first | (rw [hy297]; with_reducible exact H) | (have H2_ := (Option.bind_some _ _).symm.trans H; rw [hy297]; with_reducible exact H2_) | (have H2_ := (Option.bind_some _ _).symm.trans H; with_reducible exact H2_) | with_reducible exact H | (rw [hy297]; exact H) | exact H
          have Ny297 := Aside0.mk hy297
          clear hy297
          have HC14 := Aside0.mk H
          clear H
          go_enter Tryd.func12, Tryd.ntmps12
          go_upto_if 41 with (first | ((with_reducible refine gate_callee (f := 34) rfl ?_); refine goesL_ (some 20) rfl rfl Tryd.func34 (by kernel_rfl) rfl #[] rfl (by (try simp only [List.map_toArray, List.map_cons, List.map_nil]); first | done | rfl | (simp only [List.length_drop, List.length_take]; rfl)) ?_; (with_reducible refine (tollbarlaw07_alive.calls k  true _ A5.out).mono ?_); rintro e w15 ⟨rfl, hb⟩; refine ⟨_, rfl, ?_⟩; have n0_ := Aside0.mk (below_step (by repeat (first | (with_reducible first | exact HB.out | apply below_alloc | apply pw_below_drewN | apply below_drew1) | exact HB.out)) hb); clear HB; have HB := n0_; clear n0_; (try clear hb); (try clear hb2); (try clear hk); (try clear hi)) | (go_at_call 41; (with_reducible refine (tollbarlaw07_FrameBoth_1.calls k (Go.bits .and .i64 a1 4095) t289 _ A9.out).mono ?_); rintro e w16 ⟨rfl, hb⟩; have n0_ := Aside0.mk (below_step (by repeat (first | (with_reducible first | exact HB.out | apply below_alloc | apply pw_below_drewN | apply below_drew1) | exact HB.out)) hb); clear HB; have HB := n0_; clear n0_; (try clear hb); (try clear hb2); (try clear hk); (try clear hi)) | ((with_reducible refine gate_callee (f := 42) rfl ?_); refine goesL_ (some 32) rfl rfl Tryd.func42 (by kernel_rfl) rfl #[.string (⟨#[67, 79, 78, 84, 69, 78, 84, 45, 108, 101, 110, 103, 116, 104]⟩ : ByteArray), .string t289] rfl (by (try simp only [List.map_toArray, List.map_cons, List.map_nil]); first | done | rfl | (simp only [List.length_drop, List.length_take]; rfl)) ?_; (with_reducible refine (tollbarlaw07_of.calls (⟨#[67, 79, 78, 84, 69, 78, 84, 45, 108, 101, 110, 103, 116, 104]⟩ : ByteArray) t289 t290 _ A10.out).mono ?_); rintro e w17 ⟨v291, rfl, ho0, hb⟩; refine ⟨_, rfl, ?_⟩; have n0_ := Aside0.mk (Kd.R_lower ho0 (below_size (by repeat (first | (with_reducible first | exact HB.out | apply below_alloc | apply pw_below_drewN | apply below_drew1) | exact HB.out)))); have n1_ := Aside0.mk (below_step (by repeat (first | (with_reducible first | exact HB.out | apply below_alloc | apply pw_below_drewN | apply below_drew1) | exact HB.out)) hb); clear HB; have HO292 := n0_; have HB := n1_; clear n0_ n1_; (try clear hb); (try clear hb2); (try clear hk); (try clear hi); (try clear ho0)) | ((with_reducible refine gate_builtin (b := .append) (xs := #[.tmp 32, .tmp 33]) rfl ?_); at_builtin; refine Kd.R_append_rows k24 (w0 := w) w.heap.size rfl (.tmp 32) (.tmp 33) 31 24 (.agg #[(.string ⟨#[]⟩), (.string ⟨#[]⟩)]) 32 rfl Tryd.underlying31 info24 rfl (by decide) (by omega) v291 t290 l0 _ _ _ (fun _ => True) (fun _ => False) rfl rfl ?aO ?aR (fun _ _ h => h) (fun _ h => h.elim) ?aF ?aB ?aS ?aL ?_; (case aR => repeat (first | exact (Kd.C_below HR0.out HB.out) | (with_reducible refine Kd.C_alloc ?_ _) | (with_reducible refine Kd.C_drewN ?_ _) | (with_reducible refine Kd.C_drew ?_))); (case aB => exact (by repeat (first | (with_reducible first | exact HB.out | apply below_alloc | apply pw_below_drewN | apply below_drew1) | exact HB.out))); (case aF => exact (fun _ _ => trivial)); (case aO => exact (by (with_reducible repeat (first | apply Kd.R_alloc | apply Kd.R_drewN | apply Kd.R_drew)); exact HO292.out)); (case aS => exact (below_size (by repeat (first | (with_reducible first | exact HB.out | apply below_alloc | apply pw_below_drewN | apply below_drew1) | exact HB.out)))); (case aL => have := LMc11.out; omega); intro v294 w18 ho hb hg hat; rw [← Ny293.out] at ho; have n0_ := Aside0.mk (hb); have n1_ := Aside0.mk (ho); clear HB; clear HO292; have HB := n0_; have HO295 := n1_; clear n0_ n1_; clear ho hb hg hat) | (go_at_call 41; (with_reducible refine (tollbarlaw07_FrameBoth_1.calls k (Go.bits .and .i64 a2 4095) t296 _ A12.out).mono ?_); rintro e w19 ⟨rfl, hb⟩; have n0_ := Aside0.mk (Kd.R_below (by (with_reducible repeat (first | apply Kd.R_alloc | apply Kd.R_drewN | apply Kd.R_drew)); exact HO295.out) hb); have n1_ := Aside0.mk (below_step (by repeat (first | (with_reducible first | exact HB.out | apply below_alloc | apply pw_below_drewN | apply below_drew1) | exact HB.out)) hb); clear HO295; clear HB; have HO295 := n0_; have HB := n1_; clear n0_ n1_; (try clear hb); (try clear hb2); (try clear hk); (try clear hi)) | ((with_reducible refine gate_builtin (b := .append) (xs := #[.tmp 34, .tmp 39]) rfl ?_); at_builtin; refine Kd.R_append k24 (w0 := w) w.heap.size rfl (.tmp 34) (.tmp 39) 31 24 (.agg #[(.string ⟨#[]⟩), (.string ⟨#[]⟩)]) 32 rfl Tryd.underlying31 info24 rfl (by decide) (by omega) v294 y293 (⟨(⟨#[67, 111, 110, 116, 101, 110, 116, 45, 76, 101, 110, 103, 116, 104]⟩ : ByteArray), t296⟩ : S24) [.string (⟨#[67, 111, 110, 116, 101, 110, 116, 45, 76, 101, 110, 103, 116, 104]⟩ : ByteArray), .string t296] (fun _ => True) (fun _ => False) rfl rfl ?aP (fun _ hk => hk.elim) ?aF ?aO ?aB ?aS ?aL ?_; (case aP => exact k24_mkM _ _ _ (⟨(⟨#[67, 111, 110, 116, 101, 110, 116, 45, 76, 101, 110, 103, 116, 104]⟩ : ByteArray), t296⟩ : S24)); (case aB => exact (by repeat (first | (with_reducible first | exact HB.out | apply below_alloc | apply pw_below_drewN | apply below_drew1) | exact HB.out))); (case aF => exact (fun _ _ => trivial)); (case aO => exact (by (with_reducible repeat (first | apply Kd.R_alloc | apply Kd.R_drewN | apply Kd.R_drew)); exact HO295.out)); (case aS => exact (below_size (by repeat (first | (with_reducible first | exact HB.out | apply below_alloc | apply pw_below_drewN | apply below_drew1) | exact HB.out)))); (case aL => have := LMc13.out; omega); intro v298 w20 ho hb hg hat; rw [← Ny297.out] at ho; have n0_ := Aside0.mk (hb); have n1_ := Aside0.mk (ho); clear HB; clear HO295; have HB := n0_; have HO299 := n1_; clear n0_ n1_; clear ho hb hg hat))
          (try simp only [Act.put, List.setIfInBounds_toArray, List.set_cons_zero, List.set_cons_succ])
          go_cut [10] (fun v10 wc => ∃ (kq : Nat) (x10_13 : List (S24)), Aside0 (tollbarlaw07_FrameBoth.j0 kq (Go.bits .and .i64 a1 4095) (Go.bits .and .i64 a2 4095) a3 x10_13 = some r) ∧ Aside0 (kq ≤ k) ∧ Aside0 (Kd.R k24 24 wc w.heap.size (fun _ => True) v10 x10_13) ∧ Aside0 (Below w.heap.size w wc))
          case first =>
            have H := HC14.out
            clear HC14
            by_cases c21 : a3 = true
            · subst c21
              have H1 : ((tollbarlaw07_of.f (⟨#[116, 114, 97, 110, 115, 102, 101, 114, 45, 101, 110, 99, 111, 100, 105, 110, 103]⟩ : ByteArray) (⟨#[99, 104, 117, 110, 107, 101, 100]⟩ : ByteArray)).bind fun t300 => (if t300.length + l0.length < 4398046511104 then ((some (t300 ++ l0 : List (S24))).bind fun y303 => ((tollbarlaw07_FrameBoth_1.f k (Go.bits .and .i64 a2 4095)).bind fun t306 => (if y303.length < 4398046511104 then (tollbarlaw07_FrameBoth.j0 k (Go.bits .and .i64 a1 4095) (Go.bits .and .i64 a2 4095) true (y303 ++ [(⟨(⟨#[67, 111, 110, 116, 101, 110, 116, 45, 76, 101, 110, 103, 116, 104]⟩ : ByteArray), t306⟩ : S24)])) else (none)))) else (none))) = some r := by rw [if_pos rfl] at H; exact H
              clear H
              have H := H1
              clear H1
              replace H := Option.bind_eq_some_iff.mp H
              obtain ⟨t300, A220, H⟩ := H
              replace H : (if t300.length + l0.length < 4398046511104 then ((some (t300 ++ l0 : List (S24))).bind fun y303 => ((tollbarlaw07_FrameBoth_1.f k (Go.bits .and .i64 a2 4095)).bind fun t306 => (if y303.length < 4398046511104 then (tollbarlaw07_FrameBoth.j0 k (Go.bits .and .i64 a1 4095) (Go.bits .and .i64 a2 4095) true (y303 ++ [(⟨(⟨#[67, 111, 110, 116, 101, 110, 116, 45, 76, 101, 110, 103, 116, 104]⟩ : ByteArray), t306⟩ : S24)])) else (none)))) else (none)) = some r := H
              have A22 := Aside0.mk A220
              clear A220
              by_cases c23 : t300.length + l0.length < 4398046511104
              · rw [if_pos c23] at H
                have LMc23 := Aside0.mk c23
                clear c23
                obtain ⟨y303, hy303⟩ : ∃ y_ : List (S24), y_ = (t300 ++ l0) := ⟨_, rfl⟩
                replace H : ((tollbarlaw07_FrameBoth_1.f k (Go.bits .and .i64 a2 4095)).bind fun t306 => (if y303.length < 4398046511104 then (tollbarlaw07_FrameBoth.j0 k (Go.bits .and .i64 a1 4095) (Go.bits .and .i64 a2 4095) true (y303 ++ [(⟨(⟨#[67, 111, 110, 116, 101, 110, 116, 45, 76, 101, 110, 103, 116, 104]⟩ : ByteArray), t306⟩ : S24)])) else (none))) = some r := by first | (rw [hy303]; with_reducible exact H) | (have H2_ := (Option.bind_some _ _).symm.trans H; rw [hy303]; with_reducible exact H2_) | (have H2_ := (Option.bind_some _ _).symm.trans H; with_reducible exact H2_) | with_reducible exact H | (rw [hy303]; exact H) | exact H
                have Ny303 := Aside0.mk hy303
                clear hy303
                replace H := Option.bind_eq_some_iff.mp H
                obtain ⟨t306, A240, H⟩ := H
                replace H : (if y303.length < 4398046511104 then (tollbarlaw07_FrameBoth.j0 k (Go.bits .and .i64 a1 4095) (Go.bits .and .i64 a2 4095) true (y303 ++ [(⟨(⟨#[67, 111, 110, 116, 101, 110, 116, 45, 76, 101, 110, 103, 116, 104]⟩ : ByteArray), t306⟩ : S24)])) else (none)) = some r := H
                have A24 := Aside0.mk A240
                clear A240
                by_cases c25 : y303.length < 4398046511104
                · rw [if_pos c25] at H
                  have LMc25 := Aside0.mk c25
                  clear c25
                  obtain ⟨y307, hy307⟩ : ∃ y_ : List (S24), y_ = (y303 ++ [(⟨(⟨#[67, 111, 110, 116, 101, 110, 116, 45, 76, 101, 110, 103, 116, 104]⟩ : ByteArray), t306⟩ : S24)]) := ⟨_, rfl⟩
                  replace H : (tollbarlaw07_FrameBoth.j0 k (Go.bits .and .i64 a1 4095) (Go.bits .and .i64 a2 4095) true y307) = some r := by first | (rw [hy307]; with_reducible exact H) | (have H2_ := (Option.bind_some _ _).symm.trans H; rw [hy307]; with_reducible exact H2_) | (have H2_ := (Option.bind_some _ _).symm.trans H; with_reducible exact H2_) | with_reducible exact H | (rw [hy307]; exact H) | exact H
                  have Ny307 := Aside0.mk hy307
                  clear hy307
                  have H' := Aside0.mk H
                  clear H
                  go_wp2_with (first | ((with_reducible refine gate_callee (f := 42) rfl ?_); refine goesL_ (some 42) rfl rfl Tryd.func42 (by kernel_rfl) rfl #[.string (⟨#[116, 114, 97, 110, 115, 102, 101, 114, 45, 101, 110, 99, 111, 100, 105, 110, 103]⟩ : ByteArray), .string (⟨#[99, 104, 117, 110, 107, 101, 100]⟩ : ByteArray)] rfl (by (try simp only [List.map_toArray, List.map_cons, List.map_nil]); first | done | rfl | (simp only [List.length_drop, List.length_take]; rfl)) ?_; (with_reducible refine (tollbarlaw07_of.calls (⟨#[116, 114, 97, 110, 115, 102, 101, 114, 45, 101, 110, 99, 111, 100, 105, 110, 103]⟩ : ByteArray) (⟨#[99, 104, 117, 110, 107, 101, 100]⟩ : ByteArray) t300 _ A22.out).mono ?_); rintro e w26 ⟨v301, rfl, ho0, hb⟩; refine ⟨_, rfl, ?_⟩; have n0_ := Aside0.mk (Kd.R_elder' (by (with_reducible repeat (first | apply Kd.R_alloc | apply Kd.R_drewN | apply Kd.R_drew)); exact HO299.out) (Kd.R_base ho0) hb); have n1_ := Aside0.mk (Kd.R_lower (Kd.R_new' ho0 (Kd.R_lt (by (with_reducible repeat (first | apply Kd.R_alloc | apply Kd.R_drewN | apply Kd.R_drew)); exact HO299.out))) (below_size (by repeat (first | (with_reducible first | exact HB.out | apply below_alloc | apply pw_below_drewN | apply below_drew1) | exact HB.out)))); have n2_ := Aside0.mk (below_step (by repeat (first | (with_reducible first | exact HB.out | apply below_alloc | apply pw_below_drewN | apply below_drew1) | exact HB.out)) hb); clear HO299; clear HB; have HO299 := n0_; have HO302 := n1_; have HB := n2_; clear n0_ n1_ n2_; (try clear hb); (try clear hb2); (try clear hk); (try clear hi); (try clear ho0)) | ((with_reducible refine gate_builtin (b := .append) (xs := #[.tmp 42, .tmp 43]) rfl ?_); at_builtin; refine Kd.R_append_rows k24 (w0 := w) w.heap.size rfl (.tmp 42) (.tmp 43) 31 24 (.agg #[(.string ⟨#[]⟩), (.string ⟨#[]⟩)]) 32 rfl Tryd.underlying31 info24 rfl (by decide) (by omega) v301 t300 l0 _ _ _ (fun k_ => some k_ ≠ (v298 : Value).ownBlock) (fun _ => False) rfl rfl ?aO ?aR (fun _ _ h => h) (fun _ h => h.elim) ?aF ?aB ?aS ?aL ?_; (case aR => repeat (first | exact (Kd.C_below HR0.out HB.out) | (with_reducible refine Kd.C_alloc ?_ _) | (with_reducible refine Kd.C_drewN ?_ _) | (with_reducible refine Kd.C_drew ?_))); (case aB => exact (by repeat (first | (with_reducible first | exact HB.out | apply below_alloc | apply pw_below_drewN | apply below_drew1) | exact HB.out))); (case aF => exact (fun k_ hk => Kd.fresh' (Kd.R_lt (by (with_reducible repeat (first | apply Kd.R_alloc | apply Kd.R_drewN | apply Kd.R_drew)); exact HO299.out)) k_ hk)); (case aO => exact (by (with_reducible repeat (first | apply Kd.R_alloc | apply Kd.R_drewN | apply Kd.R_drew)); exact Kd.R_mono HO302.out (fun _ hk => hk.2))); (case aS => exact (below_size (by repeat (first | (with_reducible first | exact HB.out | apply below_alloc | apply pw_below_drewN | apply below_drew1) | exact HB.out)))); (case aL => have := LMc23.out; omega); intro v304 w27 ho hb hg hat; rw [← Ny303.out] at ho; have n0_ := Aside0.mk (Kd.R_after (ok := (fun _ => True)) (by (with_reducible repeat (first | apply Kd.R_alloc | apply Kd.R_drewN | apply Kd.R_drew)); exact HO299.out) hg hat); have n1_ := Aside0.mk (hb); have n2_ := Aside0.mk (ho); clear HO299; clear HB; clear HO302; have HO299 := n0_; have HB := n1_; have HO305 := n2_; clear n0_ n1_ n2_; clear ho hb hg hat) | (go_at_call 41; (with_reducible refine (tollbarlaw07_FrameBoth_1.calls k (Go.bits .and .i64 a2 4095) t306 _ A24.out).mono ?_); rintro e w28 ⟨rfl, hb⟩; have n0_ := Aside0.mk (Kd.R_below (by (with_reducible repeat (first | apply Kd.R_alloc | apply Kd.R_drewN | apply Kd.R_drew)); exact HO299.out) hb); have n1_ := Aside0.mk (Kd.R_below (by (with_reducible repeat (first | apply Kd.R_alloc | apply Kd.R_drewN | apply Kd.R_drew)); exact HO305.out) hb); have n2_ := Aside0.mk (below_step (by repeat (first | (with_reducible first | exact HB.out | apply below_alloc | apply pw_below_drewN | apply below_drew1) | exact HB.out)) hb); clear HO299; clear HO305; clear HB; have HO299 := n0_; have HO305 := n1_; have HB := n2_; clear n0_ n1_ n2_; (try clear hb); (try clear hb2); (try clear hk); (try clear hi)) | ((with_reducible refine gate_builtin (b := .append) (xs := #[.tmp 44, .tmp 49]) rfl ?_); at_builtin; refine Kd.R_append k24 (w0 := w) w.heap.size rfl (.tmp 44) (.tmp 49) 31 24 (.agg #[(.string ⟨#[]⟩), (.string ⟨#[]⟩)]) 32 rfl Tryd.underlying31 info24 rfl (by decide) (by omega) v304 y303 (⟨(⟨#[67, 111, 110, 116, 101, 110, 116, 45, 76, 101, 110, 103, 116, 104]⟩ : ByteArray), t306⟩ : S24) [.string (⟨#[67, 111, 110, 116, 101, 110, 116, 45, 76, 101, 110, 103, 116, 104]⟩ : ByteArray), .string t306] (fun k_ => some k_ ≠ (v298 : Value).ownBlock) (fun _ => False) rfl rfl ?aP (fun _ hk => hk.elim) ?aF ?aO ?aB ?aS ?aL ?_; (case aP => exact k24_mkM _ _ _ (⟨(⟨#[67, 111, 110, 116, 101, 110, 116, 45, 76, 101, 110, 103, 116, 104]⟩ : ByteArray), t306⟩ : S24)); (case aB => exact (by repeat (first | (with_reducible first | exact HB.out | apply below_alloc | apply pw_below_drewN | apply below_drew1) | exact HB.out))); (case aF => exact (fun k_ hk => Kd.fresh' (Kd.R_lt (by (with_reducible repeat (first | apply Kd.R_alloc | apply Kd.R_drewN | apply Kd.R_drew)); exact HO299.out)) k_ hk)); (case aO => exact (by (with_reducible repeat (first | apply Kd.R_alloc | apply Kd.R_drewN | apply Kd.R_drew)); exact HO305.out)); (case aS => exact (below_size (by repeat (first | (with_reducible first | exact HB.out | apply below_alloc | apply pw_below_drewN | apply below_drew1) | exact HB.out)))); (case aL => have := LMc25.out; omega); intro v308 w29 ho hb hg hat; rw [← Ny307.out] at ho; have n0_ := Aside0.mk (Kd.R_after (ok := (fun _ => True)) (by (with_reducible repeat (first | apply Kd.R_alloc | apply Kd.R_drewN | apply Kd.R_drew)); exact HO299.out) hg hat); have n1_ := Aside0.mk (hb); have n2_ := Aside0.mk (ho); clear HO299; clear HB; clear HO305; have HO299 := n0_; have HB := n1_; have HO309 := n2_; clear n0_ n1_ n2_; clear ho hb hg hat))
                  go_meet
                  case rel => exact ⟨_, (y307), H', ⟨by first | omega | exact Nat.le_refl _⟩, ⟨by (with_reducible repeat (first | apply Kd.R_alloc | apply Kd.R_drewN | apply Kd.R_drew)); exact Kd.R_mono HO309.out (fun _ hk => trivial)⟩, ⟨by repeat (first | (with_reducible first | exact HB.out | apply below_alloc | apply pw_below_drewN | apply below_drew1) | exact HB.out)⟩⟩
                · rw [if_neg c25] at H
                  exact absurd H (by simp)
              · rw [if_neg c23] at H
                exact absurd H (by simp)
            · replace c21 := Bool.eq_false_iff.mpr c21
              subst c21
              have H1 : (tollbarlaw07_FrameBoth.j0 k (Go.bits .and .i64 a1 4095) (Go.bits .and .i64 a2 4095) false y297) = some r := by rw [if_neg (show ¬ (false = true) by decide)] at H; exact H
              clear H
              have H := H1
              clear H1
              have H' := Aside0.mk H
              clear H
              go_wp2
              go_meet
              case rel => exact ⟨_, (y297), H', ⟨by first | omega | exact Nat.le_refl _⟩, ⟨by (with_reducible repeat (first | apply Kd.R_alloc | apply Kd.R_drewN | apply Kd.R_drew)); exact HO299.out⟩, ⟨by repeat (first | (with_reducible first | exact HB.out | apply below_alloc | apply pw_below_drewN | apply below_drew1) | exact HB.out)⟩⟩
          case rest =>
            clear HC14
            try clear c1
            try clear c2
            try clear p2
            try clear c3
            try clear c4
            try clear c6
            try clear c7
            try clear c7b0
            try clear c7b1
            try clear c11
            try clear c12
            try clear c13
            try clear c21
            try clear c23
            try clear c25
            obtain ⟨kq, x10_13, HA, HJ13, HO_10, HB⟩ := hcut
            cases kq with
            | zero => exact absurd HA.out (by simp [tollbarlaw07_FrameBoth.j0])
            | succ kj13 =>
              have H := HA.out
              clear HA
              simp only [tollbarlaw07_FrameBoth.j0] at H
              replace H := Option.bind_eq_some_iff.mp H
              obtain ⟨⟨t310, t311, t312⟩, A300, H⟩ := H
              replace H : ((frame_Response.f kj13 (⟨#[71, 69, 84]⟩ : ByteArray) 200 (⟨#[]⟩ : ByteArray) 1 x10_13 ([] : List Int)).bind fun bt313 => (if a3 = true then (if t312 = 400 then (some (!bt313.2.2)) else (none)) else (if (Go.bits .and .i64 a1 4095) = (Go.bits .and .i64 a2 4095) then ((frame_Request.f kj13 x10_13 1).bind fun bt316 => (if t312 = 0 then (if bt316.1 = (Go.bits .and .i64 a1 4095) then (if bt316.2.1 = true then (none) else (some bt313.2.2)) else (none)) else (some true))) else (if t312 = 400 then (some (!bt313.2.2)) else (none))))) = some r := H
              have A30 := Aside0.mk A300
              clear A300
              replace H := Option.bind_eq_some_iff.mp H
              obtain ⟨⟨t313, t314, t315⟩, A310, H⟩ := H
              replace H : (if a3 = true then (if t312 = 400 then (some (!t315)) else (none)) else (if (Go.bits .and .i64 a1 4095) = (Go.bits .and .i64 a2 4095) then ((frame_Request.f kj13 x10_13 1).bind fun bt316 => (if t312 = 0 then (if bt316.1 = (Go.bits .and .i64 a1 4095) then (if bt316.2.1 = true then (none) else (some t315)) else (none)) else (some true))) else (if t312 = 400 then (some (!t315)) else (none)))) = some r := H
              have A31 := Aside0.mk A310
              clear A310
              by_cases c32 : a3 = true
              · subst c32
                have H1 : (if t312 = 400 then (some (!t315)) else (none)) = some r := by rw [if_pos rfl] at H; exact H
                clear H
                have H := H1
                clear H1
                by_cases c33 : t312 = 400
                · rw [if_pos c33] at H
                  have c33b0 : (t312 == 400) = true := beq_iff_eq.mpr c33
                  have c33b1 : (t312 != 400) = false := bne_eq_false_iff_eq.mpr c33
                  clear c33
                  obtain rfl := Option.some.inj H
                  obtain ⟨Ao34, co34, eo34⟩ := Kd.R_slice HO_10.out
                  subst eo34
                  go_wp2_with (first | ((with_reducible refine gate_callee (f := 35) rfl ?_); refine goesL_ (some 53) rfl rfl Tryd.func35 (by kernel_rfl) rfl #[.slice Ao34 x10_13.length co34, .int .i64 1] rfl (by (try simp only [List.map_toArray, List.map_cons, List.map_nil]); first | done | rfl | (simp only [List.length_drop, List.length_take]; rfl)) ?_; (with_reducible refine (frame_Request.calls kj13 _ _ x10_13 1 t310 t311 t312 _ ?side1 ?side2 A30.out).mono ?_); (case side1 => repeat (first | exact (Kd.R_reads' HO_10.out).2.2 | (with_reducible refine Kd.C_alloc ?_ _) | (with_reducible refine Kd.C_drewN ?_ _) | (with_reducible refine Kd.C_drew ?_))); (case side2 => exact (Kd.R_reads' HO_10.out).2.1); rintro e w35 ⟨rfl, hb⟩; refine ⟨_, rfl, ?_⟩; have n0_ := Aside0.mk (Kd.R_below (by (with_reducible repeat (first | apply Kd.R_alloc | apply Kd.R_drewN | apply Kd.R_drew)); exact HO_10.out) hb); have n1_ := Aside0.mk (below_step (by repeat (first | (with_reducible first | exact HB.out | apply below_alloc | apply pw_below_drewN | apply below_drew1) | exact HB.out)) hb); clear HO_10; clear HB; have HO_10 := n0_; have HB := n1_; clear n0_ n1_; (try clear hb); (try clear hb2); (try clear hk); (try clear hi)) | ((with_reducible refine gate_callee (f := 39) rfl ?_); refine goesL_ (some 60) rfl rfl Tryd.func39 (by kernel_rfl) rfl #[.string (⟨#[71, 69, 84]⟩ : ByteArray), .agg #[.int .i64 200, .string (⟨#[]⟩ : ByteArray), .int .i64 1, .slice Ao34 x10_13.length co34, .slice none 0 0]] rfl (by (try simp only [List.map_toArray, List.map_cons, List.map_nil]); first | done | rfl | (simp only [List.length_drop, List.length_take]; rfl)) ?_; (refine (frame_Response.calls kj13 (⟨#[71, 69, 84]⟩ : ByteArray) 200 (⟨#[]⟩ : ByteArray) 1 _ _ x10_13 _ _ ([] : List Int) t313 t314 t315 _ ?side1 ?side2 ?side3 ?side4 A31.out).mono ?_); (case side1 => repeat (first | exact (Kd.R_reads' HO_10.out).2.2 | (with_reducible refine Kd.C_alloc ?_ _) | (with_reducible refine Kd.C_drewN ?_ _) | (with_reducible refine Kd.C_drew ?_))); (case side2 => exact (Kd.R_reads' HO_10.out).2.1); (case side3 => exact Kd.C_nil _ _); (case side4 => exact Nat.le_refl _); rintro e w36 ⟨rfl, hb⟩; refine ⟨_, rfl, ?_⟩; have n0_ := Aside0.mk (Kd.R_below (by (with_reducible repeat (first | apply Kd.R_alloc | apply Kd.R_drewN | apply Kd.R_drew)); exact HO_10.out) hb); have n1_ := Aside0.mk (below_step (by repeat (first | (with_reducible first | exact HB.out | apply below_alloc | apply pw_below_drewN | apply below_drew1) | exact HB.out)) hb); clear HO_10; clear HB; have HO_10 := n0_; have HB := n1_; clear n0_ n1_; (try clear hb); (try clear hb2); (try clear hk); (try clear hi)))
                  go_ret
                  exact ⟨by first | rfl | (simp [errW_none, errW_some] <;> rfl) | (simp [*, errW_none, errW_some] <;> rfl), by repeat (first | (with_reducible first | exact HB.out | apply below_alloc | apply pw_below_drewN | apply below_drew1) | exact HB.out)⟩
                · rw [if_neg c33] at H
                  exact absurd H (by simp)
              · replace c32 := Bool.eq_false_iff.mpr c32
                subst c32
                have H1 : (if (Go.bits .and .i64 a1 4095) = (Go.bits .and .i64 a2 4095) then ((frame_Request.f kj13 x10_13 1).bind fun bt316 => (if t312 = 0 then (if bt316.1 = (Go.bits .and .i64 a1 4095) then (if bt316.2.1 = true then (none) else (some t315)) else (none)) else (some true))) else (if t312 = 400 then (some (!t315)) else (none))) = some r := by rw [if_neg (show ¬ (false = true) by decide)] at H; exact H
                clear H
                have H := H1
                clear H1
                by_cases c37 : (Go.bits .and .i64 a1 4095) = (Go.bits .and .i64 a2 4095)
                · rw [if_pos c37] at H
                  have c37b0 : ((Go.bits .and .i64 a1 4095) == (Go.bits .and .i64 a2 4095)) = true := beq_iff_eq.mpr c37
                  have c37b1 : ((Go.bits .and .i64 a1 4095) != (Go.bits .and .i64 a2 4095)) = false := bne_eq_false_iff_eq.mpr c37
                  clear c37
                  replace H := Option.bind_eq_some_iff.mp H
                  obtain ⟨⟨t316, t317, t318⟩, A380, H⟩ := H
                  replace H : (if t312 = 0 then (if t316 = (Go.bits .and .i64 a1 4095) then (if t317 = true then (none) else (some t315)) else (none)) else (some true)) = some r := H
                  have A38 := Aside0.mk A380
                  clear A380
                  by_cases c39 : t312 = 0
                  · rw [if_pos c39] at H
                    have c39b0 : (t312 == 0) = true := beq_iff_eq.mpr c39
                    have c39b1 : (t312 != 0) = false := bne_eq_false_iff_eq.mpr c39
                    clear c39
                    by_cases c40 : t316 = (Go.bits .and .i64 a1 4095)
                    · rw [if_pos c40] at H
                      have c40b0 : (t316 == (Go.bits .and .i64 a1 4095)) = true := beq_iff_eq.mpr c40
                      have c40b1 : (t316 != (Go.bits .and .i64 a1 4095)) = false := bne_eq_false_iff_eq.mpr c40
                      clear c40
                      by_cases c41 : t317 = true
                      · subst c41
                        have H1 : (none) = some r := by rw [if_pos rfl] at H; exact H
                        clear H
                        have H := H1
                        clear H1
                        exact absurd H (by simp)
                      · replace c41 := Bool.eq_false_iff.mpr c41
                        subst c41
                        have H1 : (some t315) = some r := by rw [if_neg (show ¬ (false = true) by decide)] at H; exact H
                        clear H
                        have H := H1
                        clear H1
                        obtain rfl := Option.some.inj H
                        obtain ⟨Ao42, co42, eo42⟩ := Kd.R_slice HO_10.out
                        subst eo42
                        go_wp2_with (first | ((with_reducible refine gate_callee (f := 35) rfl ?_); refine goesL_ (some 53) rfl rfl Tryd.func35 (by kernel_rfl) rfl #[.slice Ao42 x10_13.length co42, .int .i64 1] rfl (by (try simp only [List.map_toArray, List.map_cons, List.map_nil]); first | done | rfl | (simp only [List.length_drop, List.length_take]; rfl)) ?_; (with_reducible refine (frame_Request.calls kj13 _ _ x10_13 1 t310 t311 t312 _ ?side1 ?side2 A30.out).mono ?_); (case side1 => repeat (first | exact (Kd.R_reads' HO_10.out).2.2 | (with_reducible refine Kd.C_alloc ?_ _) | (with_reducible refine Kd.C_drewN ?_ _) | (with_reducible refine Kd.C_drew ?_))); (case side2 => exact (Kd.R_reads' HO_10.out).2.1); rintro e w43 ⟨rfl, hb⟩; refine ⟨_, rfl, ?_⟩; have n0_ := Aside0.mk (Kd.R_below (by (with_reducible repeat (first | apply Kd.R_alloc | apply Kd.R_drewN | apply Kd.R_drew)); exact HO_10.out) hb); have n1_ := Aside0.mk (below_step (by repeat (first | (with_reducible first | exact HB.out | apply below_alloc | apply pw_below_drewN | apply below_drew1) | exact HB.out)) hb); clear HO_10; clear HB; have HO_10 := n0_; have HB := n1_; clear n0_ n1_; (try clear hb); (try clear hb2); (try clear hk); (try clear hi)) | ((with_reducible refine gate_callee (f := 39) rfl ?_); refine goesL_ (some 60) rfl rfl Tryd.func39 (by kernel_rfl) rfl #[.string (⟨#[71, 69, 84]⟩ : ByteArray), .agg #[.int .i64 200, .string (⟨#[]⟩ : ByteArray), .int .i64 1, .slice Ao42 x10_13.length co42, .slice none 0 0]] rfl (by (try simp only [List.map_toArray, List.map_cons, List.map_nil]); first | done | rfl | (simp only [List.length_drop, List.length_take]; rfl)) ?_; (refine (frame_Response.calls kj13 (⟨#[71, 69, 84]⟩ : ByteArray) 200 (⟨#[]⟩ : ByteArray) 1 _ _ x10_13 _ _ ([] : List Int) t313 t314 t315 _ ?side1 ?side2 ?side3 ?side4 A31.out).mono ?_); (case side1 => repeat (first | exact (Kd.R_reads' HO_10.out).2.2 | (with_reducible refine Kd.C_alloc ?_ _) | (with_reducible refine Kd.C_drewN ?_ _) | (with_reducible refine Kd.C_drew ?_))); (case side2 => exact (Kd.R_reads' HO_10.out).2.1); (case side3 => exact Kd.C_nil _ _); (case side4 => exact Nat.le_refl _); rintro e w44 ⟨rfl, hb⟩; refine ⟨_, rfl, ?_⟩; have n0_ := Aside0.mk (Kd.R_below (by (with_reducible repeat (first | apply Kd.R_alloc | apply Kd.R_drewN | apply Kd.R_drew)); exact HO_10.out) hb); have n1_ := Aside0.mk (below_step (by repeat (first | (with_reducible first | exact HB.out | apply below_alloc | apply pw_below_drewN | apply below_drew1) | exact HB.out)) hb); clear HO_10; clear HB; have HO_10 := n0_; have HB := n1_; clear n0_ n1_; (try clear hb); (try clear hb2); (try clear hk); (try clear hi)) | ((with_reducible refine gate_callee (f := 35) rfl ?_); refine goesL_ (some 78) rfl rfl Tryd.func35 (by kernel_rfl) rfl #[.slice Ao42 x10_13.length co42, .int .i64 1] rfl (by (try simp only [List.map_toArray, List.map_cons, List.map_nil]); first | done | rfl | (simp only [List.length_drop, List.length_take]; rfl)) ?_; (with_reducible refine (frame_Request.calls kj13 _ _ x10_13 1 t316 false t318 _ ?side1 ?side2 A38.out).mono ?_); (case side1 => repeat (first | exact (Kd.R_reads' HO_10.out).2.2 | (with_reducible refine Kd.C_alloc ?_ _) | (with_reducible refine Kd.C_drewN ?_ _) | (with_reducible refine Kd.C_drew ?_))); (case side2 => exact (Kd.R_reads' HO_10.out).2.1); rintro e w45 ⟨rfl, hb⟩; refine ⟨_, rfl, ?_⟩; have n0_ := Aside0.mk (Kd.R_below (by (with_reducible repeat (first | apply Kd.R_alloc | apply Kd.R_drewN | apply Kd.R_drew)); exact HO_10.out) hb); have n1_ := Aside0.mk (below_step (by repeat (first | (with_reducible first | exact HB.out | apply below_alloc | apply pw_below_drewN | apply below_drew1) | exact HB.out)) hb); clear HO_10; clear HB; have HO_10 := n0_; have HB := n1_; clear n0_ n1_; (try clear hb); (try clear hb2); (try clear hk); (try clear hi)))
                        go_ret
                        exact ⟨by first | rfl | (simp [errW_none, errW_some] <;> rfl) | (simp [*, errW_none, errW_some] <;> rfl), by repeat (first | (with_reducible first | exact HB.out | apply below_alloc | apply pw_below_drewN | apply below_drew1) | exact HB.out)⟩
                    · rw [if_neg c40] at H
                      exact absurd H (by simp)
                  · rw [if_neg c39] at H
                    have c39b0 : (t312 == 0) = false := beq_eq_false_iff_ne.mpr c39
                    have c39b1 : (t312 != 0) = true := bne_iff_ne.mpr c39
                    obtain rfl := Option.some.inj H
                    obtain ⟨Ao46, co46, eo46⟩ := Kd.R_slice HO_10.out
                    subst eo46
                    go_wp2_with (first | ((with_reducible refine gate_callee (f := 35) rfl ?_); refine goesL_ (some 53) rfl rfl Tryd.func35 (by kernel_rfl) rfl #[.slice Ao46 x10_13.length co46, .int .i64 1] rfl (by (try simp only [List.map_toArray, List.map_cons, List.map_nil]); first | done | rfl | (simp only [List.length_drop, List.length_take]; rfl)) ?_; (with_reducible refine (frame_Request.calls kj13 _ _ x10_13 1 t310 t311 t312 _ ?side1 ?side2 A30.out).mono ?_); (case side1 => repeat (first | exact (Kd.R_reads' HO_10.out).2.2 | (with_reducible refine Kd.C_alloc ?_ _) | (with_reducible refine Kd.C_drewN ?_ _) | (with_reducible refine Kd.C_drew ?_))); (case side2 => exact (Kd.R_reads' HO_10.out).2.1); rintro e w47 ⟨rfl, hb⟩; refine ⟨_, rfl, ?_⟩; have n0_ := Aside0.mk (Kd.R_below (by (with_reducible repeat (first | apply Kd.R_alloc | apply Kd.R_drewN | apply Kd.R_drew)); exact HO_10.out) hb); have n1_ := Aside0.mk (below_step (by repeat (first | (with_reducible first | exact HB.out | apply below_alloc | apply pw_below_drewN | apply below_drew1) | exact HB.out)) hb); clear HO_10; clear HB; have HO_10 := n0_; have HB := n1_; clear n0_ n1_; (try clear hb); (try clear hb2); (try clear hk); (try clear hi)) | ((with_reducible refine gate_callee (f := 39) rfl ?_); refine goesL_ (some 60) rfl rfl Tryd.func39 (by kernel_rfl) rfl #[.string (⟨#[71, 69, 84]⟩ : ByteArray), .agg #[.int .i64 200, .string (⟨#[]⟩ : ByteArray), .int .i64 1, .slice Ao46 x10_13.length co46, .slice none 0 0]] rfl (by (try simp only [List.map_toArray, List.map_cons, List.map_nil]); first | done | rfl | (simp only [List.length_drop, List.length_take]; rfl)) ?_; (refine (frame_Response.calls kj13 (⟨#[71, 69, 84]⟩ : ByteArray) 200 (⟨#[]⟩ : ByteArray) 1 _ _ x10_13 _ _ ([] : List Int) t313 t314 t315 _ ?side1 ?side2 ?side3 ?side4 A31.out).mono ?_); (case side1 => repeat (first | exact (Kd.R_reads' HO_10.out).2.2 | (with_reducible refine Kd.C_alloc ?_ _) | (with_reducible refine Kd.C_drewN ?_ _) | (with_reducible refine Kd.C_drew ?_))); (case side2 => exact (Kd.R_reads' HO_10.out).2.1); (case side3 => exact Kd.C_nil _ _); (case side4 => exact Nat.le_refl _); rintro e w48 ⟨rfl, hb⟩; refine ⟨_, rfl, ?_⟩; have n0_ := Aside0.mk (Kd.R_below (by (with_reducible repeat (first | apply Kd.R_alloc | apply Kd.R_drewN | apply Kd.R_drew)); exact HO_10.out) hb); have n1_ := Aside0.mk (below_step (by repeat (first | (with_reducible first | exact HB.out | apply below_alloc | apply pw_below_drewN | apply below_drew1) | exact HB.out)) hb); clear HO_10; clear HB; have HO_10 := n0_; have HB := n1_; clear n0_ n1_; (try clear hb); (try clear hb2); (try clear hk); (try clear hi)) | ((with_reducible refine gate_callee (f := 35) rfl ?_); refine goesL_ (some 78) rfl rfl Tryd.func35 (by kernel_rfl) rfl #[.slice Ao46 x10_13.length co46, .int .i64 1] rfl (by (try simp only [List.map_toArray, List.map_cons, List.map_nil]); first | done | rfl | (simp only [List.length_drop, List.length_take]; rfl)) ?_; (with_reducible refine (frame_Request.calls kj13 _ _ x10_13 1 t316 t317 t318 _ ?side1 ?side2 A38.out).mono ?_); (case side1 => repeat (first | exact (Kd.R_reads' HO_10.out).2.2 | (with_reducible refine Kd.C_alloc ?_ _) | (with_reducible refine Kd.C_drewN ?_ _) | (with_reducible refine Kd.C_drew ?_))); (case side2 => exact (Kd.R_reads' HO_10.out).2.1); rintro e w49 ⟨rfl, hb⟩; refine ⟨_, rfl, ?_⟩; have n0_ := Aside0.mk (Kd.R_below (by (with_reducible repeat (first | apply Kd.R_alloc | apply Kd.R_drewN | apply Kd.R_drew)); exact HO_10.out) hb); have n1_ := Aside0.mk (below_step (by repeat (first | (with_reducible first | exact HB.out | apply below_alloc | apply pw_below_drewN | apply below_drew1) | exact HB.out)) hb); clear HO_10; clear HB; have HO_10 := n0_; have HB := n1_; clear n0_ n1_; (try clear hb); (try clear hb2); (try clear hk); (try clear hi)))
                    go_ret
                    exact ⟨by first | rfl | (simp [errW_none, errW_some] <;> rfl) | (simp [*, errW_none, errW_some] <;> rfl), by repeat (first | (with_reducible first | exact HB.out | apply below_alloc | apply pw_below_drewN | apply below_drew1) | exact HB.out)⟩
                · rw [if_neg c37] at H
                  have c37b0 : ((Go.bits .and .i64 a1 4095) == (Go.bits .and .i64 a2 4095)) = false := beq_eq_false_iff_ne.mpr c37
                  have c37b1 : ((Go.bits .and .i64 a1 4095) != (Go.bits .and .i64 a2 4095)) = true := bne_iff_ne.mpr c37
                  by_cases c50 : t312 = 400
                  · rw [if_pos c50] at H
                    have c50b0 : (t312 == 400) = true := beq_iff_eq.mpr c50
                    have c50b1 : (t312 != 400) = false := bne_eq_false_iff_eq.mpr c50
                    clear c50
                    obtain rfl := Option.some.inj H
                    obtain ⟨Ao51, co51, eo51⟩ := Kd.R_slice HO_10.out
                    subst eo51
                    go_wp2_with (first | ((with_reducible refine gate_callee (f := 35) rfl ?_); refine goesL_ (some 53) rfl rfl Tryd.func35 (by kernel_rfl) rfl #[.slice Ao51 x10_13.length co51, .int .i64 1] rfl (by (try simp only [List.map_toArray, List.map_cons, List.map_nil]); first | done | rfl | (simp only [List.length_drop, List.length_take]; rfl)) ?_; (with_reducible refine (frame_Request.calls kj13 _ _ x10_13 1 t310 t311 t312 _ ?side1 ?side2 A30.out).mono ?_); (case side1 => repeat (first | exact (Kd.R_reads' HO_10.out).2.2 | (with_reducible refine Kd.C_alloc ?_ _) | (with_reducible refine Kd.C_drewN ?_ _) | (with_reducible refine Kd.C_drew ?_))); (case side2 => exact (Kd.R_reads' HO_10.out).2.1); rintro e w52 ⟨rfl, hb⟩; refine ⟨_, rfl, ?_⟩; have n0_ := Aside0.mk (Kd.R_below (by (with_reducible repeat (first | apply Kd.R_alloc | apply Kd.R_drewN | apply Kd.R_drew)); exact HO_10.out) hb); have n1_ := Aside0.mk (below_step (by repeat (first | (with_reducible first | exact HB.out | apply below_alloc | apply pw_below_drewN | apply below_drew1) | exact HB.out)) hb); clear HO_10; clear HB; have HO_10 := n0_; have HB := n1_; clear n0_ n1_; (try clear hb); (try clear hb2); (try clear hk); (try clear hi)) | ((with_reducible refine gate_callee (f := 39) rfl ?_); refine goesL_ (some 60) rfl rfl Tryd.func39 (by kernel_rfl) rfl #[.string (⟨#[71, 69, 84]⟩ : ByteArray), .agg #[.int .i64 200, .string (⟨#[]⟩ : ByteArray), .int .i64 1, .slice Ao51 x10_13.length co51, .slice none 0 0]] rfl (by (try simp only [List.map_toArray, List.map_cons, List.map_nil]); first | done | rfl | (simp only [List.length_drop, List.length_take]; rfl)) ?_; (refine (frame_Response.calls kj13 (⟨#[71, 69, 84]⟩ : ByteArray) 200 (⟨#[]⟩ : ByteArray) 1 _ _ x10_13 _ _ ([] : List Int) t313 t314 t315 _ ?side1 ?side2 ?side3 ?side4 A31.out).mono ?_); (case side1 => repeat (first | exact (Kd.R_reads' HO_10.out).2.2 | (with_reducible refine Kd.C_alloc ?_ _) | (with_reducible refine Kd.C_drewN ?_ _) | (with_reducible refine Kd.C_drew ?_))); (case side2 => exact (Kd.R_reads' HO_10.out).2.1); (case side3 => exact Kd.C_nil _ _); (case side4 => exact Nat.le_refl _); rintro e w53 ⟨rfl, hb⟩; refine ⟨_, rfl, ?_⟩; have n0_ := Aside0.mk (Kd.R_below (by (with_reducible repeat (first | apply Kd.R_alloc | apply Kd.R_drewN | apply Kd.R_drew)); exact HO_10.out) hb); have n1_ := Aside0.mk (below_step (by repeat (first | (with_reducible first | exact HB.out | apply below_alloc | apply pw_below_drewN | apply below_drew1) | exact HB.out)) hb); clear HO_10; clear HB; have HO_10 := n0_; have HB := n1_; clear n0_ n1_; (try clear hb); (try clear hb2); (try clear hk); (try clear hi)))
                    go_ret
                    exact ⟨by first | rfl | (simp [errW_none, errW_some] <;> rfl) | (simp [*, errW_none, errW_some] <;> rfl), by repeat (first | (with_reducible first | exact HB.out | apply below_alloc | apply pw_below_drewN | apply below_drew1) | exact HB.out)⟩
                  · rw [if_neg c50] at H
                    exact absurd H (by simp)
        · rw [if_neg c13] at H
          exact absurd H (by simp)
      · rw [if_neg c11] at H
        exact absurd H (by simp)
  · replace c6 := Bool.eq_false_iff.mpr c6
    subst c6
    have H1 : (none) = some r := by rw [if_neg (show ¬ (false = true) by decide)] at H; exact H
    clear H
    have H := H1
    clear H1
    exact absurd H (by simp)

/-- THE ONE PURE STATEMENT of tollbarlaw07_FrameBoth. -/
def tollbarlaw07_FrameBoth.Pure : Prop := ∀ (l0 : List (S24)) (a1 : Int) (a2 : Int) (a3 : Bool), (l0.length * 32 ≤ 140737488351232 ∧ ∀ x_ ∈ l0, (x_.f0.size ≤ 140737488351232) ∧ (x_.f1.size ≤ 140737488351232)) → ((Lit.int .i64 a1).wf = true) → ((Lit.int .i64 a2).wf = true) → (((l0.map (fun x_ => ((x_.f0.size + 1) + (x_.f1.size + 1)))).sum + 1) + 1 + 1 + 1 ≤ 1048576) → ∃ k, tollbarlaw07_FrameBoth.f k l0 a1 a2 a3 = some true

end Go.Proofs.YtijindelbagpiaaDoor.PFrame
