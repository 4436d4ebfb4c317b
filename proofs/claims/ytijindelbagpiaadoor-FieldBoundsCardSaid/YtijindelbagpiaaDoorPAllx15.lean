-- Written by this session's program xprint.py over the kit's print, with contracts given by hand. Not trusted: Lean checks it.
import Derived.Test.YtijindelbagpiaaDoorPAllx0
import Derived.Test.YtijindelbagpiaaDoorPAllx1
import Derived.Test.YtijindelbagpiaaDoorPAllx4
import Derived.Test.YtijindelbagpiaaDoorPAllx7
import Derived.Test.YtijindelbagpiaaDoorPAllx8
import Derived.Test.YtijindelbagpiaaDoorPAllx9
namespace Go.Proofs.YtijindelbagpiaaDoor.PAll
open Go.RowKit Go.Proofs.YtijindelbagpiaaDoorW.PrintWords Go.Proofs.YtijindelbagpiaaDoorW.PrintLast Go.Proofs.YtijindelbagpiaaDoorW.PrintMore
attribute [local go_sem] max2_int min2_int max_two min_two max_three min_three max_four min_four   -- for this text's walks alone
set_option linter.unusedVariables false
set_option linter.unusedSimpArgs false

attribute [local go_sem high] eqA24
/-! ### tollbarlaw04_FieldBounds: function 9 -/
mutual
def tollbarlaw04_FieldBounds.j0 : Nat → Int → Int → Int → Bool → Option (Bool)
  | 0, _, _, _, _ => none
  | k + 1, x0, x1, x2, x21 => if x21 = true then (none) else (tollbarlaw04_FieldBounds.l0 k (wrap64 (1 + (Go.bits .and .i64 x0 127))) (wrap64 (900 + (Go.bits .and .i64 x1 127))) (Go.bits .and .i64 x2 63) (⟨#[]⟩ : ByteArray) (⟨#[]⟩ : ByteArray) 0)
def tollbarlaw04_FieldBounds.l0 : Nat → Int → Int → Int → ByteArray → ByteArray → Int → Option (Bool)
  | 0, _, _, _, _, _, _ => none
  | k + 1, x0, x1, x2, x7, x8, x9 => if x9 < x0 then (if x7.size + 1 ≤ 9223372036854775807 then (tollbarlaw04_FieldBounds.l0 k x0 x1 x2 (x7 ++ (⟨#[110]⟩ : ByteArray)) x8 (wrap64 (x9 + 1))) else (none)) else (tollbarlaw04_FieldBounds.l1 k x0 x1 x2 x7 x8 0)
def tollbarlaw04_FieldBounds.l1 : Nat → Int → Int → Int → ByteArray → ByteArray → Int → Option (Bool)
  | 0, _, _, _, _, _, _ => none
  | k + 1, x0, x1, x2, x7, x8, x10 => if x10 < x1 then (if x8.size + 1 ≤ 9223372036854775807 then (tollbarlaw04_FieldBounds.l1 k x0 x1 x2 x7 (x8 ++ (⟨#[118]⟩ : ByteArray)) (wrap64 (x10 + 1))) else (none)) else (if x0 ≤ 100 then (tollbarlaw04_FieldBounds.j3 k x2 x7 x8 (decide (x1 ≤ 1000))) else (tollbarlaw04_FieldBounds.j3 k x2 x7 x8 false))
def tollbarlaw04_FieldBounds.j3 : Nat → Int → ByteArray → ByteArray → Bool → Option (Bool)
  | 0, _, _, _, _ => none
  | k + 1, x2, x7, x8, x11 => if x7.size + 1 ≤ 9223372036854775807 then (if (x7 ++ (⟨#[58]⟩ : ByteArray)).size + x8.size ≤ 9223372036854775807 then ((field_Parse.f k ((x7 ++ (⟨#[58]⟩ : ByteArray)) ++ x8)).bind fun bt492 => (if ((bt492.2.2 == 0) != x11) = true then (tollbarlaw04_FieldBounds.j4 k x2 true) else (if x11 = true then (if (!(bt492.1.toList == x7.toList) || (!(bt492.2.1.toList == x8.toList))) = true then (tollbarlaw04_FieldBounds.j4 k x2 true) else ((field_Right.f k (([(⟨x7, x8⟩ : S24)] : List (S24)))).bind fun t499 => (tollbarlaw04_FieldBounds.j4 k x2 (t499 != x11)))) else ((field_Right.f k (([(⟨x7, x8⟩ : S24)] : List (S24)))).bind fun t503 => (tollbarlaw04_FieldBounds.j4 k x2 (t503 != x11)))))) else (none)) else (none)
def tollbarlaw04_FieldBounds.j4 : Nat → Int → Bool → Option (Bool)
  | 0, _, _ => none
  | k + 1, x2, x80 => if x80 = true then (none) else (tollbarlaw04_FieldBounds.l2 k x2 (([] : List (S24))) 0)
def tollbarlaw04_FieldBounds.l2 : Nat → Int → List (S24) → Int → Option (Bool)
  | 0, _, _, _ => none
  | k + 1, x2, x14, x15 => if x15 < x2 then (if x14.length < 4398046511104 then (tollbarlaw04_FieldBounds.l2 k x2 (x14 ++ [(⟨(⟨#[97]⟩ : ByteArray), (⟨#[98]⟩ : ByteArray)⟩ : S24)]) (wrap64 (x15 + 1))) else (none)) else ((field_Right.f k x14).bind fun t510 => (if (t510 == (decide (x2 ≤ 40))) = true then ((field_Get.f k x14 (⟨#[65]⟩ : ByteArray)).bind fun t511 => (some ((t511.length : Int) == x2))) else (none)))
end
def tollbarlaw04_FieldBounds.f (k : Nat) (a0 : Int) (a1 : Int) (a2 : Int) : Option (Bool) := (tollbarlaw04_parsing.f k).bind fun t490 => (if t490 = true then ((tollbarlaw04_looking.f k).bind fun t491 => (tollbarlaw04_FieldBounds.j0 k a0 a1 a2 (!t491))) else (tollbarlaw04_FieldBounds.j0 k a0 a1 a2 true))
theorem tollbarlaw04_FieldBounds.mono_l : ∀ k, (∀ y0 y1 y2 y3, LeO (tollbarlaw04_FieldBounds.j0 k y0 y1 y2 y3) (tollbarlaw04_FieldBounds.j0 (k + 1) y0 y1 y2 y3)) ∧ (∀ y0 y1 y2 y3 y4 y5, LeO (tollbarlaw04_FieldBounds.l0 k y0 y1 y2 y3 y4 y5) (tollbarlaw04_FieldBounds.l0 (k + 1) y0 y1 y2 y3 y4 y5)) ∧ (∀ y0 y1 y2 y3 y4 y5, LeO (tollbarlaw04_FieldBounds.l1 k y0 y1 y2 y3 y4 y5) (tollbarlaw04_FieldBounds.l1 (k + 1) y0 y1 y2 y3 y4 y5)) ∧ (∀ y0 y1 y2 y3, LeO (tollbarlaw04_FieldBounds.j3 k y0 y1 y2 y3) (tollbarlaw04_FieldBounds.j3 (k + 1) y0 y1 y2 y3)) ∧ (∀ y0 y1, LeO (tollbarlaw04_FieldBounds.j4 k y0 y1) (tollbarlaw04_FieldBounds.j4 (k + 1) y0 y1)) ∧ (∀ y0 y1 y2, LeO (tollbarlaw04_FieldBounds.l2 k y0 y1 y2) (tollbarlaw04_FieldBounds.l2 (k + 1) y0 y1 y2))
  | 0 => ⟨fun _ _ _ _ r h => by simp [tollbarlaw04_FieldBounds.j0] at h, fun _ _ _ _ _ _ r h => by simp [tollbarlaw04_FieldBounds.l0] at h, fun _ _ _ _ _ _ r h => by simp [tollbarlaw04_FieldBounds.l1] at h, fun _ _ _ _ r h => by simp [tollbarlaw04_FieldBounds.j3] at h, fun _ _ r h => by simp [tollbarlaw04_FieldBounds.j4] at h, fun _ _ _ r h => by simp [tollbarlaw04_FieldBounds.l2] at h⟩
  | k + 1 => by
    obtain ⟨ih0, ih1, ih2, ih3, ih4, ih5⟩ := tollbarlaw04_FieldBounds.mono_l k
    refine ⟨?_, ?_, ?_, ?_, ?_, ?_⟩
    · intro y0 y1 y2 y3
      unfold tollbarlaw04_FieldBounds.j0
      repeat' first
      | (with_reducible exact ih0 _ _ _ _)
      | (with_reducible exact ih1 _ _ _ _ _ _)
      | (with_reducible exact ih2 _ _ _ _ _ _)
      | (with_reducible exact ih3 _ _ _ _)
      | (with_reducible exact ih4 _ _)
      | (with_reducible exact ih5 _ _ _)
      | (with_reducible exact field_Get.mono _ _ _)
      | (with_reducible exact field_Parse.mono _ _)
      | (with_reducible exact field_Right.mono _ _)
      | (with_reducible exact tollbarlaw04_looking.mono _)
      | (with_reducible exact tollbarlaw04_parsing.mono _)
      | (with_reducible exact LeO.refl _)
      | (with_reducible exact LeO.none _)
      | (with_reducible refine LeO.ite ?_ ?_)
      | (with_reducible refine LeO.bind ?_ (fun _ => ?_))
      | exact ih0 _ _ _ _
      | exact ih1 _ _ _ _ _ _
      | exact ih2 _ _ _ _ _ _
      | exact ih3 _ _ _ _
      | exact ih4 _ _
      | exact ih5 _ _ _
      | exact field_Get.mono _ _ _
      | exact field_Parse.mono _ _
      | exact field_Right.mono _ _
      | exact tollbarlaw04_looking.mono _
      | exact tollbarlaw04_parsing.mono _
      | exact LeO.none _
      | refine LeO.ite ?_ ?_
      | refine LeO.bind ?_ (fun _ => ?_)
    · intro y0 y1 y2 y3 y4 y5
      unfold tollbarlaw04_FieldBounds.l0
      repeat' first
      | (with_reducible exact ih0 _ _ _ _)
      | (with_reducible exact ih1 _ _ _ _ _ _)
      | (with_reducible exact ih2 _ _ _ _ _ _)
      | (with_reducible exact ih3 _ _ _ _)
      | (with_reducible exact ih4 _ _)
      | (with_reducible exact ih5 _ _ _)
      | (with_reducible exact field_Get.mono _ _ _)
      | (with_reducible exact field_Parse.mono _ _)
      | (with_reducible exact field_Right.mono _ _)
      | (with_reducible exact tollbarlaw04_looking.mono _)
      | (with_reducible exact tollbarlaw04_parsing.mono _)
      | (with_reducible exact LeO.refl _)
      | (with_reducible exact LeO.none _)
      | (with_reducible refine LeO.ite ?_ ?_)
      | (with_reducible refine LeO.bind ?_ (fun _ => ?_))
      | exact ih0 _ _ _ _
      | exact ih1 _ _ _ _ _ _
      | exact ih2 _ _ _ _ _ _
      | exact ih3 _ _ _ _
      | exact ih4 _ _
      | exact ih5 _ _ _
      | exact field_Get.mono _ _ _
      | exact field_Parse.mono _ _
      | exact field_Right.mono _ _
      | exact tollbarlaw04_looking.mono _
      | exact tollbarlaw04_parsing.mono _
      | exact LeO.none _
      | refine LeO.ite ?_ ?_
      | refine LeO.bind ?_ (fun _ => ?_)
    · intro y0 y1 y2 y3 y4 y5
      unfold tollbarlaw04_FieldBounds.l1
      repeat' first
      | (with_reducible exact ih0 _ _ _ _)
      | (with_reducible exact ih1 _ _ _ _ _ _)
      | (with_reducible exact ih2 _ _ _ _ _ _)
      | (with_reducible exact ih3 _ _ _ _)
      | (with_reducible exact ih4 _ _)
      | (with_reducible exact ih5 _ _ _)
      | (with_reducible exact field_Get.mono _ _ _)
      | (with_reducible exact field_Parse.mono _ _)
      | (with_reducible exact field_Right.mono _ _)
      | (with_reducible exact tollbarlaw04_looking.mono _)
      | (with_reducible exact tollbarlaw04_parsing.mono _)
      | (with_reducible exact LeO.refl _)
      | (with_reducible exact LeO.none _)
      | (with_reducible refine LeO.ite ?_ ?_)
      | (with_reducible refine LeO.bind ?_ (fun _ => ?_))
      | exact ih0 _ _ _ _
      | exact ih1 _ _ _ _ _ _
      | exact ih2 _ _ _ _ _ _
      | exact ih3 _ _ _ _
      | exact ih4 _ _
      | exact ih5 _ _ _
      | exact field_Get.mono _ _ _
      | exact field_Parse.mono _ _
      | exact field_Right.mono _ _
      | exact tollbarlaw04_looking.mono _
      | exact tollbarlaw04_parsing.mono _
      | exact LeO.none _
      | refine LeO.ite ?_ ?_
      | refine LeO.bind ?_ (fun _ => ?_)
    · intro y0 y1 y2 y3
      unfold tollbarlaw04_FieldBounds.j3
      repeat' first
      | (with_reducible exact ih0 _ _ _ _)
      | (with_reducible exact ih1 _ _ _ _ _ _)
      | (with_reducible exact ih2 _ _ _ _ _ _)
      | (with_reducible exact ih3 _ _ _ _)
      | (with_reducible exact ih4 _ _)
      | (with_reducible exact ih5 _ _ _)
      | (with_reducible exact field_Get.mono _ _ _)
      | (with_reducible exact field_Parse.mono _ _)
      | (with_reducible exact field_Right.mono _ _)
      | (with_reducible exact tollbarlaw04_looking.mono _)
      | (with_reducible exact tollbarlaw04_parsing.mono _)
      | (with_reducible exact LeO.refl _)
      | (with_reducible exact LeO.none _)
      | (with_reducible refine LeO.ite ?_ ?_)
      | (with_reducible refine LeO.bind ?_ (fun _ => ?_))
      | exact ih0 _ _ _ _
      | exact ih1 _ _ _ _ _ _
      | exact ih2 _ _ _ _ _ _
      | exact ih3 _ _ _ _
      | exact ih4 _ _
      | exact ih5 _ _ _
      | exact field_Get.mono _ _ _
      | exact field_Parse.mono _ _
      | exact field_Right.mono _ _
      | exact tollbarlaw04_looking.mono _
      | exact tollbarlaw04_parsing.mono _
      | exact LeO.none _
      | refine LeO.ite ?_ ?_
      | refine LeO.bind ?_ (fun _ => ?_)
    · intro y0 y1
      unfold tollbarlaw04_FieldBounds.j4
      repeat' first
      | (with_reducible exact ih0 _ _ _ _)
      | (with_reducible exact ih1 _ _ _ _ _ _)
      | (with_reducible exact ih2 _ _ _ _ _ _)
      | (with_reducible exact ih3 _ _ _ _)
      | (with_reducible exact ih4 _ _)
      | (with_reducible exact ih5 _ _ _)
      | (with_reducible exact field_Get.mono _ _ _)
      | (with_reducible exact field_Parse.mono _ _)
      | (with_reducible exact field_Right.mono _ _)
      | (with_reducible exact tollbarlaw04_looking.mono _)
      | (with_reducible exact tollbarlaw04_parsing.mono _)
      | (with_reducible exact LeO.refl _)
      | (with_reducible exact LeO.none _)
      | (with_reducible refine LeO.ite ?_ ?_)
      | (with_reducible refine LeO.bind ?_ (fun _ => ?_))
      | exact ih0 _ _ _ _
      | exact ih1 _ _ _ _ _ _
      | exact ih2 _ _ _ _ _ _
      | exact ih3 _ _ _ _
      | exact ih4 _ _
      | exact ih5 _ _ _
      | exact field_Get.mono _ _ _
      | exact field_Parse.mono _ _
      | exact field_Right.mono _ _
      | exact tollbarlaw04_looking.mono _
      | exact tollbarlaw04_parsing.mono _
      | exact LeO.none _
      | refine LeO.ite ?_ ?_
      | refine LeO.bind ?_ (fun _ => ?_)
    · intro y0 y1 y2
      unfold tollbarlaw04_FieldBounds.l2
      repeat' first
      | (with_reducible exact ih0 _ _ _ _)
      | (with_reducible exact ih1 _ _ _ _ _ _)
      | (with_reducible exact ih2 _ _ _ _ _ _)
      | (with_reducible exact ih3 _ _ _ _)
      | (with_reducible exact ih4 _ _)
      | (with_reducible exact ih5 _ _ _)
      | (with_reducible exact field_Get.mono _ _ _)
      | (with_reducible exact field_Parse.mono _ _)
      | (with_reducible exact field_Right.mono _ _)
      | (with_reducible exact tollbarlaw04_looking.mono _)
      | (with_reducible exact tollbarlaw04_parsing.mono _)
      | (with_reducible exact LeO.refl _)
      | (with_reducible exact LeO.none _)
      | (with_reducible refine LeO.ite ?_ ?_)
      | (with_reducible refine LeO.bind ?_ (fun _ => ?_))
      | exact ih0 _ _ _ _
      | exact ih1 _ _ _ _ _ _
      | exact ih2 _ _ _ _ _ _
      | exact ih3 _ _ _ _
      | exact ih4 _ _
      | exact ih5 _ _ _
      | exact field_Get.mono _ _ _
      | exact field_Parse.mono _ _
      | exact field_Right.mono _ _
      | exact tollbarlaw04_looking.mono _
      | exact tollbarlaw04_parsing.mono _
      | exact LeO.none _
      | refine LeO.ite ?_ ?_
      | refine LeO.bind ?_ (fun _ => ?_)
theorem tollbarlaw04_FieldBounds.mono : ∀ a0 a1 a2 k, LeO (tollbarlaw04_FieldBounds.f k a0 a1 a2) (tollbarlaw04_FieldBounds.f (k + 1) a0 a1 a2) := by
  intro a0 a1 a2 k
  obtain ⟨ih0, ih1, ih2, ih3, ih4, ih5⟩ := tollbarlaw04_FieldBounds.mono_l k
  unfold tollbarlaw04_FieldBounds.f
  repeat' first
      | (with_reducible exact ih0 _ _ _ _)
      | (with_reducible exact ih1 _ _ _ _ _ _)
      | (with_reducible exact ih2 _ _ _ _ _ _)
      | (with_reducible exact ih3 _ _ _ _)
      | (with_reducible exact ih4 _ _)
      | (with_reducible exact ih5 _ _ _)
      | (with_reducible exact field_Get.mono _ _ _)
      | (with_reducible exact field_Parse.mono _ _)
      | (with_reducible exact field_Right.mono _ _)
      | (with_reducible exact tollbarlaw04_looking.mono _)
      | (with_reducible exact tollbarlaw04_parsing.mono _)
      | (with_reducible exact LeO.refl _)
      | (with_reducible exact LeO.none _)
      | (with_reducible refine LeO.ite ?_ ?_)
      | (with_reducible refine LeO.bind ?_ (fun _ => ?_))
      | exact ih0 _ _ _ _
      | exact ih1 _ _ _ _ _ _
      | exact ih2 _ _ _ _ _ _
      | exact ih3 _ _ _ _
      | exact ih4 _ _
      | exact ih5 _ _ _
      | exact field_Get.mono _ _ _
      | exact field_Parse.mono _ _
      | exact field_Right.mono _ _
      | exact tollbarlaw04_looking.mono _
      | exact tollbarlaw04_parsing.mono _
      | exact LeO.none _
      | refine LeO.ite ?_ ?_
      | refine LeO.bind ?_ (fun _ => ?_)
set_option maxHeartbeats 8000000 in
set_option maxRecDepth 100000 in
theorem tollbarlaw04_FieldBounds.calls (k : Nat) (a0 : Int) (a1 : Int) (a2 : Int) (r : Bool) (w : World) (h : tollbarlaw04_FieldBounds.f k a0 a1 a2 = some r) :
    Calls Tryd.prog 9 #[.int .i64 a0, .int .i64 a1, .int .i64 a2] w fun e w' => e = .returned (.bool r) ∧ Below w.heap.size w w' := by
  have hu24 := Tryd.underlying24
  have HB := Aside0.mk (Below.refl w.heap.size w)
  have H : ((tollbarlaw04_parsing.f k).bind fun t490 => (if t490 = true then ((tollbarlaw04_looking.f k).bind fun t491 => (tollbarlaw04_FieldBounds.j0 k a0 a1 a2 (!t491))) else (tollbarlaw04_FieldBounds.j0 k a0 a1 a2 true))) = some r := h
  clear h
  have HC4 := Aside0.mk H
  clear H
  go_enter Tryd.func9, Tryd.ntmps9
  go_upto_region 1 with (fail)
  go_cut [21] (fun v21 wc => ∃ (kq : Nat) (x21_3 : Bool), v21 = .bool x21_3 ∧ Aside0 (tollbarlaw04_FieldBounds.j0 kq a0 a1 a2 x21_3 = some r) ∧ Aside0 (kq ≤ k) ∧ Aside0 (Below w.heap.size w wc))
  case first =>
    have H := HC4.out
    clear HC4
    replace H := Option.bind_eq_some_iff.mp H
    obtain ⟨t490, A50, H⟩ := H
    replace H : (if t490 = true then ((tollbarlaw04_looking.f k).bind fun t491 => (tollbarlaw04_FieldBounds.j0 k a0 a1 a2 (!t491))) else (tollbarlaw04_FieldBounds.j0 k a0 a1 a2 true)) = some r := H
    have A5 := Aside0.mk A50
    clear A50
    by_cases c6 : t490 = true
    · subst c6
      have H1 : ((tollbarlaw04_looking.f k).bind fun t491 => (tollbarlaw04_FieldBounds.j0 k a0 a1 a2 (!t491))) = some r := by rw [if_pos rfl] at H; exact H
      clear H
      have H := H1
      clear H1
      replace H := Option.bind_eq_some_iff.mp H
      obtain ⟨t491, A70, H⟩ := H
      replace H : (tollbarlaw04_FieldBounds.j0 k a0 a1 a2 (!t491)) = some r := H
      have A7 := Aside0.mk A70
      clear A70
      have H' := Aside0.mk H
      clear H
      go_wp2_with (first | ((with_reducible refine gate_callee (f := 15) rfl ?_); refine goesL_ (some 16) rfl rfl Tryd.func15 (by kernel_rfl) rfl #[] rfl (by (try simp only [List.map_toArray, List.map_cons, List.map_nil]); first | done | rfl | (simp only [List.length_drop, List.length_take]; rfl)) ?_; (with_reducible refine (tollbarlaw04_parsing.calls k  true _ A5.out).mono ?_); rintro e w8 ⟨rfl, hb⟩; refine ⟨_, rfl, ?_⟩; have n0_ := Aside0.mk (below_step (by repeat (first | (with_reducible first | exact HB.out | apply below_alloc | apply pw_below_drewN | apply below_drew1) | exact HB.out)) hb); clear HB; have HB := n0_; clear n0_; (try clear hb); (try clear hb2); (try clear hk); (try clear hi)) | (go_at_call 18; (with_reducible refine (tollbarlaw04_looking.calls k  t491 _ A7.out).mono ?_); rintro e w9 ⟨rfl, hb⟩; have n0_ := Aside0.mk (below_step (by repeat (first | (with_reducible first | exact HB.out | apply below_alloc | apply pw_below_drewN | apply below_drew1) | exact HB.out)) hb); clear HB; have HB := n0_; clear n0_; (try clear hb); (try clear hb2); (try clear hk); (try clear hi)))
      go_meet
      case rel => exact ⟨_, (!t491), (by first | rfl | (simp; done) | (simp [*]; done)), H', ⟨by first | omega | exact Nat.le_refl _⟩, ⟨by repeat (first | (with_reducible first | exact HB.out | apply below_alloc | apply pw_below_drewN | apply below_drew1) | exact HB.out)⟩⟩
    · replace c6 := Bool.eq_false_iff.mpr c6
      subst c6
      have H1 : (tollbarlaw04_FieldBounds.j0 k a0 a1 a2 true) = some r := by rw [if_neg (show ¬ (false = true) by decide)] at H; exact H
      clear H
      have H := H1
      clear H1
      have H' := Aside0.mk H
      clear H
      go_wp2_with (first | ((with_reducible refine gate_callee (f := 15) rfl ?_); refine goesL_ (some 16) rfl rfl Tryd.func15 (by kernel_rfl) rfl #[] rfl (by (try simp only [List.map_toArray, List.map_cons, List.map_nil]); first | done | rfl | (simp only [List.length_drop, List.length_take]; rfl)) ?_; (with_reducible refine (tollbarlaw04_parsing.calls k  false _ A5.out).mono ?_); rintro e w10 ⟨rfl, hb⟩; refine ⟨_, rfl, ?_⟩; have n0_ := Aside0.mk (below_step (by repeat (first | (with_reducible first | exact HB.out | apply below_alloc | apply pw_below_drewN | apply below_drew1) | exact HB.out)) hb); clear HB; have HB := n0_; clear n0_; (try clear hb); (try clear hb2); (try clear hk); (try clear hi)))
      go_meet
      case rel => exact ⟨_, (true), (by first | rfl | (simp; done) | (simp [*]; done)), H', ⟨by first | omega | exact Nat.le_refl _⟩, ⟨by repeat (first | (with_reducible first | exact HB.out | apply below_alloc | apply pw_below_drewN | apply below_drew1) | exact HB.out)⟩⟩
  case rest =>
    clear HC4
    try clear c1
    try clear p2
    try clear c6
    try clear c9
    obtain ⟨kq, x21_3, rfl, HA, HJ3, HB⟩ := hcut
    cases kq with
    | zero => exact absurd HA.out (by simp [tollbarlaw04_FieldBounds.j0])
    | succ kj3 =>
      have H := HA.out
      clear HA
      simp only [tollbarlaw04_FieldBounds.j0] at H
      by_cases c11 : x21_3 = true
      · subst c11
        have H1 : (none) = some r := by rw [if_pos rfl] at H; exact H
        clear H
        have H := H1
        clear H1
        exact absurd H (by simp)
      · replace c11 := Bool.eq_false_iff.mpr c11
        subst c11
        have H1 : (tollbarlaw04_FieldBounds.l0 kj3 (wrap64 (1 + (Go.bits .and .i64 a0 127))) (wrap64 (900 + (Go.bits .and .i64 a1 127))) (Go.bits .and .i64 a2 63) (⟨#[]⟩ : ByteArray) (⟨#[]⟩ : ByteArray) 0) = some r := by rw [if_neg (show ¬ (false = true) by decide)] at H; exact H
        clear H
        have H := H1
        clear H1
        have H' := Aside0.mk H
        clear H
        go_wp2
        go_loopg [7, 9] kj3 (fun kq v7 v9 w' => ∃ (x7_2 : ByteArray) (x9_2 : Int), v7 = .string x7_2 ∧ v9 = .int .i64 x9_2 ∧ Aside0 (tollbarlaw04_FieldBounds.l0 kq (wrap64 (1 + (Go.bits .and .i64 a0 127))) (wrap64 (900 + (Go.bits .and .i64 a1 127))) (Go.bits .and .i64 a2 63) x7_2 (⟨#[]⟩ : ByteArray) x9_2 = some r) ∧ Aside0 (kq ≤ kj3) ∧ Aside0 (Below w.heap.size w w'))
        case atStart => exact ⟨((⟨#[]⟩ : ByteArray)), (0), (by first | rfl | (simp; done) | (simp [*]; done)), (by first | rfl | (simp; done) | (simp [*]; done)), H', ⟨Nat.le_refl _⟩, ⟨by repeat (first | (with_reducible first | exact HB.out | apply below_alloc | apply pw_below_drewN | apply below_drew1) | exact HB.out)⟩⟩
        case round =>
          clear H'
          try clear c1
          try clear p2
          try clear c6
          try clear p6
          try clear c9
          try clear c11
          try clear p2
          obtain ⟨x7_2, x9_2, rfl, rfl, HA, HK2, HB⟩ := hrel
          cases gk with
          | zero => exact absurd HA.out (by simp [tollbarlaw04_FieldBounds.l0])
          | succ k2 =>
            have H := HA.out
            clear HA
            simp only [tollbarlaw04_FieldBounds.l0] at H
            by_cases c12 : x9_2 < (wrap64 (1 + (Go.bits .and .i64 a0 127)))
            · rw [if_pos c12] at H
              have c12b0 : decide (x9_2 < (wrap64 (1 + (Go.bits .and .i64 a0 127)))) = true := decide_eq_true c12
              clear c12
              by_cases c13 : x7_2.size + 1 ≤ 9223372036854775807
              · rw [if_pos c13] at H
                have c13b0 := eq_true c13
                try (have c13z_ := c13; simp only [xsz_app, xsz_rest, xsz_mk, List.length_cons, List.length_nil, Nat.zero_add, Int.natCast_add] at c13z_)
                have c13b1 : decide (x7_2.size + 1 ≤ 9223372036854775807) = true := decide_eq_true c13
                try have c13b2 : (9223372036854775807 < x7_2.size + 1) = False := eq_false (Nat.not_lt.2 c13)
                have H' := Aside0.mk H
                clear H
                go_wp2
                go_roundg k2
                case measure => have := HJ3.out; have := HK2.out; omega
                case rel => exact ⟨(x7_2 ++ (⟨#[110]⟩ : ByteArray)), (wrap64 (x9_2 + 1)), (by first | rfl | (simp; done) | (simp [*]; done)), (by first | rfl | (simp; done) | (simp [*]; done)), H', ⟨by have := HJ3.out; have := HK2.out; omega⟩, ⟨by repeat (first | (with_reducible first | exact HB.out | apply below_alloc | apply pw_below_drewN | apply below_drew1) | exact HB.out)⟩⟩
              · rw [if_neg c13] at H
                exact absurd H (by simp)
            · rw [if_neg c12] at H
              have c12b0 : decide (x9_2 < (wrap64 (1 + (Go.bits .and .i64 a0 127)))) = false := decide_eq_false c12
              clear c12
              have H' := Aside0.mk H
              clear H
              go_wp2
              go_loopg [8, 10] k2 (fun kq v8 v10 w' => ∃ (x8_3 : ByteArray) (x10_3 : Int), v8 = .string x8_3 ∧ v10 = .int .i64 x10_3 ∧ Aside0 (tollbarlaw04_FieldBounds.l1 kq (wrap64 (1 + (Go.bits .and .i64 a0 127))) (wrap64 (900 + (Go.bits .and .i64 a1 127))) (Go.bits .and .i64 a2 63) x7_2 x8_3 x10_3 = some r) ∧ Aside0 (kq ≤ k2) ∧ Aside0 (Below w.heap.size w w'))
              case atStart => exact ⟨((⟨#[]⟩ : ByteArray)), (0), (by first | rfl | (simp; done) | (simp [*]; done)), (by first | rfl | (simp; done) | (simp [*]; done)), H', ⟨Nat.le_refl _⟩, ⟨by repeat (first | (with_reducible first | exact HB.out | apply below_alloc | apply pw_below_drewN | apply below_drew1) | exact HB.out)⟩⟩
              case round =>
                clear H'
                try clear c1
                try clear p2
                try clear c6
                try clear p6
                try clear c9
                try clear c11
                try clear c12
                try clear c12b0
                try clear c13
                try clear c13b0
                try clear c13b1
                try clear c13b2
                try clear p2
                try clear p6
                obtain ⟨x8_3, x10_3, rfl, rfl, HA, HK3, HB⟩ := hrel
                cases gk with
                | zero => exact absurd HA.out (by simp [tollbarlaw04_FieldBounds.l1])
                | succ k3 =>
                  have H := HA.out
                  clear HA
                  simp only [tollbarlaw04_FieldBounds.l1] at H
                  by_cases c14 : x10_3 < (wrap64 (900 + (Go.bits .and .i64 a1 127)))
                  · rw [if_pos c14] at H
                    have c14b0 : decide (x10_3 < (wrap64 (900 + (Go.bits .and .i64 a1 127)))) = true := decide_eq_true c14
                    clear c14
                    by_cases c15 : x8_3.size + 1 ≤ 9223372036854775807
                    · rw [if_pos c15] at H
                      have c15b0 := eq_true c15
                      try (have c15z_ := c15; simp only [xsz_app, xsz_rest, xsz_mk, List.length_cons, List.length_nil, Nat.zero_add, Int.natCast_add] at c15z_)
                      have c15b1 : decide (x8_3.size + 1 ≤ 9223372036854775807) = true := decide_eq_true c15
                      try have c15b2 : (9223372036854775807 < x8_3.size + 1) = False := eq_false (Nat.not_lt.2 c15)
                      have H' := Aside0.mk H
                      clear H
                      go_wp2
                      go_roundg k3
                      case measure => have := HJ3.out; have := HK2.out; have := HK3.out; omega
                      case rel => exact ⟨(x8_3 ++ (⟨#[118]⟩ : ByteArray)), (wrap64 (x10_3 + 1)), (by first | rfl | (simp; done) | (simp [*]; done)), (by first | rfl | (simp; done) | (simp [*]; done)), H', ⟨by have := HJ3.out; have := HK2.out; have := HK3.out; omega⟩, ⟨by repeat (first | (with_reducible first | exact HB.out | apply below_alloc | apply pw_below_drewN | apply below_drew1) | exact HB.out)⟩⟩
                    · rw [if_neg c15] at H
                      exact absurd H (by simp)
                  · rw [if_neg c14] at H
                    have c14b0 : decide (x10_3 < (wrap64 (900 + (Go.bits .and .i64 a1 127)))) = false := decide_eq_false c14
                    clear c14
                    have HC16 := Aside0.mk H
                    clear H
                    go_upto_region 15 with (fail)
                    go_cut [11] (fun v11 wc => ∃ (kq : Nat) (x11_15 : Bool), v11 = .bool x11_15 ∧ Aside0 (tollbarlaw04_FieldBounds.j3 kq (Go.bits .and .i64 a2 63) x7_2 x8_3 x11_15 = some r) ∧ Aside0 (kq ≤ k3) ∧ Aside0 (Below w.heap.size w wc))
                    case first =>
                      have H := HC16.out
                      clear HC16
                      by_cases c17 : (wrap64 (1 + (Go.bits .and .i64 a0 127))) ≤ 100
                      · rw [if_pos c17] at H
                        have c17b0 : decide ((wrap64 (1 + (Go.bits .and .i64 a0 127))) ≤ 100) = true := decide_eq_true c17
                        clear c17
                        (first | rw [c17b0] | (simp only [i64_w, i32_w]; rw [c17b0]) | skip)
                        have H' := Aside0.mk H
                        clear H
                        go_wp2
                        go_meet
                        case rel => exact ⟨_, (decide ((wrap64 (900 + (Go.bits .and .i64 a1 127))) ≤ 1000)), (by first | rfl | (simp; done) | (simp [*]; done)), H', ⟨by have := HJ3.out; have := HK2.out; have := HK3.out; first | omega | exact Nat.le_refl _⟩, ⟨by repeat (first | (with_reducible first | exact HB.out | apply below_alloc | apply pw_below_drewN | apply below_drew1) | exact HB.out)⟩⟩
                      · rw [if_neg c17] at H
                        have c17b0 : decide ((wrap64 (1 + (Go.bits .and .i64 a0 127))) ≤ 100) = false := decide_eq_false c17
                        clear c17
                        (first | rw [c17b0] | (simp only [i64_w, i32_w]; rw [c17b0]) | skip)
                        have H' := Aside0.mk H
                        clear H
                        go_wp2
                        go_meet
                        case rel => exact ⟨_, (false), (by first | rfl | (simp; done) | (simp [*]; done)), H', ⟨by have := HJ3.out; have := HK2.out; have := HK3.out; first | omega | exact Nat.le_refl _⟩, ⟨by repeat (first | (with_reducible first | exact HB.out | apply below_alloc | apply pw_below_drewN | apply below_drew1) | exact HB.out)⟩⟩
                    case rest =>
                      clear HC16
                      try clear c1
                      try clear p2
                      try clear c6
                      try clear p6
                      try clear c9
                      try clear c11
                      try clear c12
                      try clear c12b0
                      try clear c13
                      try clear c13b0
                      try clear c13b1
                      try clear c13b2
                      try clear c14
                      try clear c14b0
                      try clear c15
                      try clear c15b0
                      try clear c15b1
                      try clear c15b2
                      try clear c17
                      try clear c17b0
                      try clear p2
                      try clear p6
                      obtain ⟨kq, x11_15, rfl, HA, HJ15, HB⟩ := hcut
                      cases kq with
                      | zero => exact absurd HA.out (by simp [tollbarlaw04_FieldBounds.j3])
                      | succ kj15 =>
                        have H := HA.out
                        clear HA
                        simp only [tollbarlaw04_FieldBounds.j3] at H
                        by_cases c18 : x7_2.size + 1 ≤ 9223372036854775807
                        · rw [if_pos c18] at H
                          have c18b0 := eq_true c18
                          try (have c18z_ := c18; simp only [xsz_app, xsz_rest, xsz_mk, List.length_cons, List.length_nil, Nat.zero_add, Int.natCast_add] at c18z_)
                          have c18b1 : decide (x7_2.size + 1 ≤ 9223372036854775807) = true := decide_eq_true c18
                          try have c18b2 : (9223372036854775807 < x7_2.size + 1) = False := eq_false (Nat.not_lt.2 c18)
                          by_cases c19 : (x7_2 ++ (⟨#[58]⟩ : ByteArray)).size + x8_3.size ≤ 9223372036854775807
                          · rw [if_pos c19] at H
                            have c19b0 := eq_true c19
                            have c19b1 : decide ((x7_2 ++ (⟨#[58]⟩ : ByteArray)).size + x8_3.size ≤ 9223372036854775807) = true := decide_eq_true c19
                            try have c19b2 : (9223372036854775807 < (x7_2 ++ (⟨#[58]⟩ : ByteArray)).size + x8_3.size) = False := eq_false (Nat.not_lt.2 c19)
                            replace H := Option.bind_eq_some_iff.mp H
                            obtain ⟨⟨t492, t493, t494⟩, A200, H⟩ := H
                            replace H : (if ((t494 == 0) != x11_15) = true then (tollbarlaw04_FieldBounds.j4 kj15 (Go.bits .and .i64 a2 63) true) else (if x11_15 = true then (if (!(t492.toList == x7_2.toList) || (!(t493.toList == x8_3.toList))) = true then (tollbarlaw04_FieldBounds.j4 kj15 (Go.bits .and .i64 a2 63) true) else ((field_Right.f kj15 (([(⟨x7_2, x8_3⟩ : S24)] : List (S24)))).bind fun t499 => (tollbarlaw04_FieldBounds.j4 kj15 (Go.bits .and .i64 a2 63) (t499 != x11_15)))) else ((field_Right.f kj15 (([(⟨x7_2, x8_3⟩ : S24)] : List (S24)))).bind fun t503 => (tollbarlaw04_FieldBounds.j4 kj15 (Go.bits .and .i64 a2 63) (t503 != x11_15))))) = some r := H
                            have A20 := Aside0.mk A200
                            clear A200
                            have HC21 := Aside0.mk H
                            clear H
                            go_upto_region 17 with (first | ((with_reducible refine gate_callee (f := 16) rfl ?_); refine goesL_ (some 55) rfl rfl Tryd.func16 (by kernel_rfl) rfl #[.string ((x7_2 ++ (⟨#[58]⟩ : ByteArray)) ++ x8_3)] rfl (by (try simp only [List.map_toArray, List.map_cons, List.map_nil]); first | done | rfl | (simp only [List.length_drop, List.length_take]; rfl)) ?_; (with_reducible refine (field_Parse.calls kj15 ((x7_2 ++ (⟨#[58]⟩ : ByteArray)) ++ x8_3) t492 t493 t494 _ A20.out).mono ?_); rintro e w22 ⟨rfl, hb⟩; refine ⟨_, rfl, ?_⟩; have n0_ := Aside0.mk (below_step (by repeat (first | (with_reducible first | exact HB.out | apply below_alloc | apply pw_below_drewN | apply below_drew1) | exact HB.out)) hb); clear HB; have HB := n0_; clear n0_; (try clear hb); (try clear hb2); (try clear hk); (try clear hi)) | ((with_reducible refine gate_dst (N := 12) rfl ?_); (try (refine gate_guard (by rfl) ?_; dsimp only)); refine box_event ?hg (N := 12) ?hd (cs := #[.string (⟨#[]⟩ : ByteArray), .string (⟨#[]⟩ : ByteArray)]) (t := 24) ?hr ?_; (case hd => rfl); (case hg => rfl); (case hr => first | (go_simp; done) | (go_simp; rfl)); intro gb495 hg w23 hbox hb; have n0_ := Aside0.mk (below_step (by repeat (first | (with_reducible first | exact HB.out | apply below_alloc | apply pw_below_drewN | apply below_drew1) | exact HB.out)) hb); have n1_ := Aside0.mk (hbox); have n2_ := Aside0.mk ((by rw [hg]; exact (below_size (by repeat (first | (with_reducible first | exact HB.out | apply below_alloc | apply pw_below_drewN | apply below_drew1) | exact HB.out))) : w.heap.size ≤ gb495)); have n3_ := Aside0.mk ((by rw [hg]; exact (below_size (by repeat (first | (with_reducible first | exact HB.out | apply below_alloc | apply pw_below_drewN | apply below_drew1) | exact HB.out))) : w.heap.size ≤ gb495)); clear HB; have HB := n0_; have BK495 := n1_; have GW495 := n2_; have GE495 := n3_; clear n0_ n1_ n2_ n3_; clear hb hbox hg; have hcz24_0 : w23.cell? ⟨gb495, 0, none⟩ = some (.string (⟨#[]⟩ : ByteArray)) := (blk_cell BK495.out 0).trans rfl; have hcz24_1 : w23.cell? ⟨gb495, 1, none⟩ = some (.string (⟨#[]⟩ : ByteArray)) := (blk_cell BK495.out 1).trans rfl; have hfz24_0 := blk_frozen BK495.out 0; have hfz24_1 := blk_frozen BK495.out 1))
                            (try simp only [Act.put, List.setIfInBounds_toArray, List.set_cons_zero, List.set_cons_succ])
                            go_cut [80] (fun v80 wc => ∃ (kq : Nat) (x80_20 : Bool), v80 = .bool x80_20 ∧ Aside0 (tollbarlaw04_FieldBounds.j4 kq (Go.bits .and .i64 a2 63) x80_20 = some r) ∧ Aside0 (kq ≤ kj15) ∧ Aside0 (wc.heap[gb495]? = some (.cells #[.string t492, .string t493] 24 (0, 0))) ∧ Aside0 (Below w.heap.size w wc))
                            case first =>
                              have H := HC21.out
                              clear HC21
                              by_cases c25 : ((t494 == 0) != x11_15) = true
                              · rw [if_pos c25] at H
                                have c25b0 : ((t494 == 0) != x11_15) = true := c25
                                (try (have c25b1 : decide ((t494 == 0) = x11_15) = false := by simpa using c25))
                                (try (have c25b2 : ((t494 == 0) == x11_15) = false := by simpa using c25))
                                (try (have c25b3 : ¬ ((t494 == 0) = x11_15) := by simpa using c25))
                                clear c25
                                (first | rw [c25b0] | (simp only [i64_w, i32_w]; rw [c25b0]) | skip)
                                have H' := Aside0.mk H
                                clear H
                                go_wp2
                                go_meet
                                case rel => exact ⟨_, (true), (by first | rfl | (simp; done) | (simp [*]; done)), H', ⟨by have := HJ3.out; have := HK2.out; have := HK3.out; have := HJ15.out; first | omega | exact Nat.le_refl _⟩, ⟨by (with_reducible repeat (first | refine blk_drewN ?_ _ | refine blk_drew ?_ | refine blk_alloc ?_ _)); refine blk_put (cs := #[.string t492, .string (⟨#[]⟩ : ByteArray)]) ?_ 1 _ rfl; (with_reducible repeat (first | refine blk_drewN ?_ _ | refine blk_drew ?_ | refine blk_alloc ?_ _)); refine blk_put (cs := #[.string (⟨#[]⟩ : ByteArray), .string (⟨#[]⟩ : ByteArray)]) ?_ 0 _ rfl; (with_reducible repeat (first | refine blk_drewN ?_ _ | refine blk_drew ?_ | refine blk_alloc ?_ _)); exact BK495.out⟩, ⟨by repeat (first | (with_reducible first | exact HB.out | apply below_alloc | apply pw_below_drewN | apply below_drew1 | refine below_set ?_ GE495.out) | exact HB.out)⟩⟩
                              · rw [if_neg c25] at H
                                have c25b0 : ((t494 == 0) != x11_15) = false := by simpa using c25
                                (try (have c25b1 : decide ((t494 == 0) = x11_15) = true := by simpa using c25))
                                (try (have c25b2 : ((t494 == 0) == x11_15) = true := by simpa using c25))
                                clear c25
                                (first | rw [c25b0] | (simp only [i64_w, i32_w]; rw [c25b0]) | skip)
                                by_cases c26 : x11_15 = true
                                · subst c26
                                  have H1 : (if (!(t492.toList == x7_2.toList) || (!(t493.toList == x8_3.toList))) = true then (tollbarlaw04_FieldBounds.j4 kj15 (Go.bits .and .i64 a2 63) true) else ((field_Right.f kj15 (([(⟨x7_2, x8_3⟩ : S24)] : List (S24)))).bind fun t499 => (tollbarlaw04_FieldBounds.j4 kj15 (Go.bits .and .i64 a2 63) (t499 != true)))) = some r := by rw [if_pos rfl] at H; exact H
                                  clear H
                                  have H := H1
                                  clear H1
                                  by_cases c27 : (!(t492.toList == x7_2.toList) || (!(t493.toList == x8_3.toList))) = true
                                  · rw [if_pos c27] at H
                                    have c27b0 : (!(t492.toList == x7_2.toList) || (!(t493.toList == x8_3.toList))) = true := c27
                                    clear c27
                                    have H' := Aside0.mk H
                                    clear H
                                    have hcz28_0 : w23.cell? ⟨gb495, 0, none⟩ = some (.string (⟨#[]⟩ : ByteArray)) := (blk_cell BK495.out 0).trans rfl
                                    have hcz28_1 : w23.cell? ⟨gb495, 1, none⟩ = some (.string (⟨#[]⟩ : ByteArray)) := (blk_cell BK495.out 1).trans rfl
                                    have hfz28_0 := blk_frozen BK495.out 0
                                    have hfz28_1 := blk_frozen BK495.out 1
                                    go_wp2
                                    go_meet
                                    case rel => exact ⟨_, (true), (by first | rfl | (simp; done) | (simp [*]; done)), H', ⟨by have := HJ3.out; have := HK2.out; have := HK3.out; have := HJ15.out; first | omega | exact Nat.le_refl _⟩, ⟨by (with_reducible repeat (first | refine blk_drewN ?_ _ | refine blk_drew ?_ | refine blk_alloc ?_ _)); refine blk_put (cs := #[.string t492, .string (⟨#[]⟩ : ByteArray)]) ?_ 1 _ rfl; (with_reducible repeat (first | refine blk_drewN ?_ _ | refine blk_drew ?_ | refine blk_alloc ?_ _)); refine blk_put (cs := #[.string (⟨#[]⟩ : ByteArray), .string (⟨#[]⟩ : ByteArray)]) ?_ 0 _ rfl; (with_reducible repeat (first | refine blk_drewN ?_ _ | refine blk_drew ?_ | refine blk_alloc ?_ _)); exact BK495.out⟩, ⟨by repeat (first | (with_reducible first | exact HB.out | apply below_alloc | apply pw_below_drewN | apply below_drew1 | refine below_set ?_ GE495.out) | exact HB.out)⟩⟩
                                  · rw [if_neg c27] at H
                                    have c27b0 : (!(t492.toList == x7_2.toList) || (!(t493.toList == x8_3.toList))) = false := by simpa using c27
                                    clear c27
                                    obtain ⟨y496, hy496⟩ : ∃ y_ : List (S24), y_ = (([(⟨x7_2, x8_3⟩ : S24)] : List (S24))) := ⟨_, rfl⟩
                                    replace H : ((field_Right.f kj15 y496).bind fun t499 => (tollbarlaw04_FieldBounds.j4 kj15 (Go.bits .and .i64 a2 63) (t499 != true))) = some r := by first | (rw [hy496]; with_reducible exact H) | (have H2_ := (Option.bind_some _ _).symm.trans H; rw [hy496]; with_reducible exact H2_) | (have H2_ := (Option.bind_some _ _).symm.trans H; with_reducible exact H2_) | with_reducible exact H | (rw [hy496]; exact H) | exact H
                                    have Ny496 := Aside0.mk hy496
                                    clear hy496
                                    replace H := Option.bind_eq_some_iff.mp H
                                    obtain ⟨t499, A290, H⟩ := H
                                    replace H : (tollbarlaw04_FieldBounds.j4 kj15 (Go.bits .and .i64 a2 63) (t499 != true)) = some r := H
                                    have A29 := Aside0.mk A290
                                    clear A290
                                    have H' := Aside0.mk H
                                    clear H
                                    have hcz30_0 : w23.cell? ⟨gb495, 0, none⟩ = some (.string (⟨#[]⟩ : ByteArray)) := (blk_cell BK495.out 0).trans rfl
                                    have hcz30_1 : w23.cell? ⟨gb495, 1, none⟩ = some (.string (⟨#[]⟩ : ByteArray)) := (blk_cell BK495.out 1).trans rfl
                                    have hfz30_0 := blk_frozen BK495.out 0
                                    have hfz30_1 := blk_frozen BK495.out 1
                                    go_wp2_with (first | ((with_reducible refine gate_dst (N := 76) rfl ?_); (try (refine gate_guard (by rfl) ?_; dsimp only)); refine Kd.R_lit k24 _ 24 ?hg (N := 76) ?hd (xs := ([(⟨x7_2, x8_3⟩ : S24)] : List (S24))) (inner := [.string x7_2, .string x8_3]) (ok := fun _ => True) (okp := fun _ => True) ?hr ?hp (fun _ hk => hk) trivial (Below.refl _ _) (Nat.le_refl _) (by simp) ?_; (case hd => rfl); (case hg => rfl); (case hr => first | (go_simp; done) | (go_simp; rfl)); (case hp => exact (Reps.c2 (show Kd.M k24 _ _ _ (⟨x7_2, x8_3⟩ : S24) [.string x7_2, .string x8_3] from (k24_mkM _ _ _ (⟨x7_2, x8_3⟩ : S24) )) (Reps.none _ _))); intro v497 w31 ho32 hb hg_ hnew_; clear hg_ hnew_; (first | rw [← Ny496.out] at ho32 | (simp only [Int.reduceToNat] at ho32; rw [← Ny496.out] at ho32)); have n0_ := Aside0.mk (Kd.R_lower (Kd.R_newB ho32 (g := gb495) (o := .cells #[.string t492, .string t493] 24 (0, 0)) (by (with_reducible repeat (first | refine blk_drewN ?_ _ | refine blk_drew ?_ | refine blk_alloc ?_ _)); refine blk_put (cs := #[.string t492, .string (⟨#[]⟩ : ByteArray)]) ?_ 1 _ rfl; (with_reducible repeat (first | refine blk_drewN ?_ _ | refine blk_drew ?_ | refine blk_alloc ?_ _)); refine blk_put (cs := #[.string (⟨#[]⟩ : ByteArray), .string (⟨#[]⟩ : ByteArray)]) ?_ 0 _ rfl; (with_reducible repeat (first | refine blk_drewN ?_ _ | refine blk_drew ?_ | refine blk_alloc ?_ _)); exact BK495.out)) (below_size (by repeat (first | (with_reducible first | exact HB.out | apply below_alloc | apply pw_below_drewN | apply below_drew1 | refine below_set ?_ GE495.out) | exact HB.out)))); have n1_ := Aside0.mk (blk_below (g := gb495) (o := .cells #[.string t492, .string t493] 24 (0, 0)) (by (with_reducible repeat (first | refine blk_drewN ?_ _ | refine blk_drew ?_ | refine blk_alloc ?_ _)); refine blk_put (cs := #[.string t492, .string (⟨#[]⟩ : ByteArray)]) ?_ 1 _ rfl; (with_reducible repeat (first | refine blk_drewN ?_ _ | refine blk_drew ?_ | refine blk_alloc ?_ _)); refine blk_put (cs := #[.string (⟨#[]⟩ : ByteArray), .string (⟨#[]⟩ : ByteArray)]) ?_ 0 _ rfl; (with_reducible repeat (first | refine blk_drewN ?_ _ | refine blk_drew ?_ | refine blk_alloc ?_ _)); exact BK495.out) hb); have n2_ := Aside0.mk (below_step (by repeat (first | (with_reducible first | exact HB.out | apply below_alloc | apply pw_below_drewN | apply below_drew1 | refine below_set ?_ GE495.out) | exact HB.out)) hb); clear BK495; clear HB; have HO498 := n0_; have BK495 := n1_; have HB := n2_; clear n0_ n1_ n2_; clear hb ho32; obtain ⟨Ao33, co33, eo33⟩ := Kd.R_slice HO498.out; subst eo33) | (go_at_call 26; (with_reducible refine (field_Right.calls kj15 _ _ y496 t499 _ ?side1 ?side2 A29.out).mono ?_); (case side1 => repeat (first | exact (Kd.R_reads' HO498.out).2.2 | (with_reducible refine Kd.C_alloc ?_ _) | (with_reducible refine Kd.C_drewN ?_ _) | (with_reducible refine Kd.C_drew ?_))); (case side2 => exact (Kd.R_reads' HO498.out).2.1); rintro e w34 ⟨rfl, hb⟩; have n0_ := Aside0.mk (Kd.R_below (by (with_reducible repeat (first | apply Kd.R_alloc | apply Kd.R_drewN | apply Kd.R_drew)); exact HO498.out) hb); have n1_ := Aside0.mk (blk_below (g := gb495) (o := .cells #[.string t492, .string t493] 24 (0, 0)) (by (with_reducible repeat (first | refine blk_drewN ?_ _ | refine blk_drew ?_ | refine blk_alloc ?_ _)); exact BK495.out) hb); have n2_ := Aside0.mk (below_step (by repeat (first | (with_reducible first | exact HB.out | apply below_alloc | apply pw_below_drewN | apply below_drew1 | refine below_set ?_ GE495.out) | exact HB.out)) hb); clear HO498; clear BK495; clear HB; have HO498 := n0_; have BK495 := n1_; have HB := n2_; clear n0_ n1_ n2_; (try clear hb); (try clear hb2); (try clear hk); (try clear hi)))
                                    go_meet
                                    case rel => exact ⟨_, ((t499 != true)), (by first | rfl | (simp; done) | (simp [*]; done)), H', ⟨by have := HJ3.out; have := HK2.out; have := HK3.out; have := HJ15.out; first | omega | exact Nat.le_refl _⟩, ⟨by (with_reducible repeat (first | refine blk_drewN ?_ _ | refine blk_drew ?_ | refine blk_alloc ?_ _)); exact BK495.out⟩, ⟨by repeat (first | (with_reducible first | exact HB.out | apply below_alloc | apply pw_below_drewN | apply below_drew1 | refine below_set ?_ GE495.out) | exact HB.out)⟩⟩
                                · replace c26 := Bool.eq_false_iff.mpr c26
                                  subst c26
                                  have H1 : ((field_Right.f kj15 (([(⟨x7_2, x8_3⟩ : S24)] : List (S24)))).bind fun t503 => (tollbarlaw04_FieldBounds.j4 kj15 (Go.bits .and .i64 a2 63) (t503 != false))) = some r := by rw [if_neg (show ¬ (false = true) by decide)] at H; exact H
                                  clear H
                                  have H := H1
                                  clear H1
                                  obtain ⟨y500, hy500⟩ : ∃ y_ : List (S24), y_ = (([(⟨x7_2, x8_3⟩ : S24)] : List (S24))) := ⟨_, rfl⟩
                                  replace H : ((field_Right.f kj15 y500).bind fun t503 => (tollbarlaw04_FieldBounds.j4 kj15 (Go.bits .and .i64 a2 63) (t503 != false))) = some r := by first | (rw [hy500]; with_reducible exact H) | (have H2_ := (Option.bind_some _ _).symm.trans H; rw [hy500]; with_reducible exact H2_) | (have H2_ := (Option.bind_some _ _).symm.trans H; with_reducible exact H2_) | with_reducible exact H | (rw [hy500]; exact H) | exact H
                                  have Ny500 := Aside0.mk hy500
                                  clear hy500
                                  replace H := Option.bind_eq_some_iff.mp H
                                  obtain ⟨t503, A350, H⟩ := H
                                  replace H : (tollbarlaw04_FieldBounds.j4 kj15 (Go.bits .and .i64 a2 63) (t503 != false)) = some r := H
                                  have A35 := Aside0.mk A350
                                  clear A350
                                  have H' := Aside0.mk H
                                  clear H
                                  go_wp2_with (first | ((with_reducible refine gate_dst (N := 76) rfl ?_); (try (refine gate_guard (by rfl) ?_; dsimp only)); refine Kd.R_lit k24 _ 24 ?hg (N := 76) ?hd (xs := ([(⟨x7_2, x8_3⟩ : S24)] : List (S24))) (inner := [.string x7_2, .string x8_3]) (ok := fun _ => True) (okp := fun _ => True) ?hr ?hp (fun _ hk => hk) trivial (Below.refl _ _) (Nat.le_refl _) (by simp) ?_; (case hd => rfl); (case hg => rfl); (case hr => first | (go_simp; done) | (go_simp; rfl)); (case hp => exact (Reps.c2 (show Kd.M k24 _ _ _ (⟨x7_2, x8_3⟩ : S24) [.string x7_2, .string x8_3] from (k24_mkM _ _ _ (⟨x7_2, x8_3⟩ : S24) )) (Reps.none _ _))); intro v501 w36 ho37 hb hg_ hnew_; clear hg_ hnew_; (first | rw [← Ny500.out] at ho37 | (simp only [Int.reduceToNat] at ho37; rw [← Ny500.out] at ho37)); have n0_ := Aside0.mk (Kd.R_lower (Kd.R_newB ho37 (g := gb495) (o := .cells #[.string t492, .string t493] 24 (0, 0)) (by (with_reducible repeat (first | refine blk_drewN ?_ _ | refine blk_drew ?_ | refine blk_alloc ?_ _)); refine blk_put (cs := #[.string t492, .string (⟨#[]⟩ : ByteArray)]) ?_ 1 _ rfl; (with_reducible repeat (first | refine blk_drewN ?_ _ | refine blk_drew ?_ | refine blk_alloc ?_ _)); refine blk_put (cs := #[.string (⟨#[]⟩ : ByteArray), .string (⟨#[]⟩ : ByteArray)]) ?_ 0 _ rfl; (with_reducible repeat (first | refine blk_drewN ?_ _ | refine blk_drew ?_ | refine blk_alloc ?_ _)); exact BK495.out)) (below_size (by repeat (first | (with_reducible first | exact HB.out | apply below_alloc | apply pw_below_drewN | apply below_drew1 | refine below_set ?_ GE495.out) | exact HB.out)))); have n1_ := Aside0.mk (blk_below (g := gb495) (o := .cells #[.string t492, .string t493] 24 (0, 0)) (by (with_reducible repeat (first | refine blk_drewN ?_ _ | refine blk_drew ?_ | refine blk_alloc ?_ _)); refine blk_put (cs := #[.string t492, .string (⟨#[]⟩ : ByteArray)]) ?_ 1 _ rfl; (with_reducible repeat (first | refine blk_drewN ?_ _ | refine blk_drew ?_ | refine blk_alloc ?_ _)); refine blk_put (cs := #[.string (⟨#[]⟩ : ByteArray), .string (⟨#[]⟩ : ByteArray)]) ?_ 0 _ rfl; (with_reducible repeat (first | refine blk_drewN ?_ _ | refine blk_drew ?_ | refine blk_alloc ?_ _)); exact BK495.out) hb); have n2_ := Aside0.mk (below_step (by repeat (first | (with_reducible first | exact HB.out | apply below_alloc | apply pw_below_drewN | apply below_drew1 | refine below_set ?_ GE495.out) | exact HB.out)) hb); clear BK495; clear HB; have HO502 := n0_; have BK495 := n1_; have HB := n2_; clear n0_ n1_ n2_; clear hb ho37; obtain ⟨Ao38, co38, eo38⟩ := Kd.R_slice HO502.out; subst eo38) | (go_at_call 26; (with_reducible refine (field_Right.calls kj15 _ _ y500 t503 _ ?side1 ?side2 A35.out).mono ?_); (case side1 => repeat (first | exact (Kd.R_reads' HO502.out).2.2 | (with_reducible refine Kd.C_alloc ?_ _) | (with_reducible refine Kd.C_drewN ?_ _) | (with_reducible refine Kd.C_drew ?_))); (case side2 => exact (Kd.R_reads' HO502.out).2.1); rintro e w39 ⟨rfl, hb⟩; have n0_ := Aside0.mk (Kd.R_below (by (with_reducible repeat (first | apply Kd.R_alloc | apply Kd.R_drewN | apply Kd.R_drew)); exact HO502.out) hb); have n1_ := Aside0.mk (blk_below (g := gb495) (o := .cells #[.string t492, .string t493] 24 (0, 0)) (by (with_reducible repeat (first | refine blk_drewN ?_ _ | refine blk_drew ?_ | refine blk_alloc ?_ _)); exact BK495.out) hb); have n2_ := Aside0.mk (below_step (by repeat (first | (with_reducible first | exact HB.out | apply below_alloc | apply pw_below_drewN | apply below_drew1 | refine below_set ?_ GE495.out) | exact HB.out)) hb); clear HO502; clear BK495; clear HB; have HO502 := n0_; have BK495 := n1_; have HB := n2_; clear n0_ n1_ n2_; (try clear hb); (try clear hb2); (try clear hk); (try clear hi)))
                                  go_meet
                                  case rel => exact ⟨_, ((t503 != false)), (by first | rfl | (simp; done) | (simp [*]; done)), H', ⟨by have := HJ3.out; have := HK2.out; have := HK3.out; have := HJ15.out; first | omega | exact Nat.le_refl _⟩, ⟨by (with_reducible repeat (first | refine blk_drewN ?_ _ | refine blk_drew ?_ | refine blk_alloc ?_ _)); exact BK495.out⟩, ⟨by repeat (first | (with_reducible first | exact HB.out | apply below_alloc | apply pw_below_drewN | apply below_drew1 | refine below_set ?_ GE495.out) | exact HB.out)⟩⟩
                            case rest =>
                              clear HC21
                              try clear c1
                              try clear c2
                              try clear p2
                              try clear c6
                              try clear p6
                              try clear c9
                              try clear c11
                              try clear c12
                              try clear c12b0
                              try clear c13
                              try clear c13b0
                              try clear c13b1
                              try clear c13b2
                              try clear c14
                              try clear c14b0
                              try clear c15
                              try clear c15b0
                              try clear c15b1
                              try clear c15b2
                              try clear c16
                              try clear c17
                              try clear c17b0
                              try clear c18
                              try clear c18b0
                              try clear c18b1
                              try clear c18b2
                              try clear c19
                              try clear c19b0
                              try clear c19b1
                              try clear c19b2
                              try clear c25
                              try clear c25b0
                              try clear c25b1
                              try clear c25b2
                              try clear c26
                              try clear c27
                              try clear c27b0
                              try clear hcz24_0
                              try clear hcz24_1
                              try clear hcz28_0
                              try clear hcz28_1
                              try clear hcz30_0
                              try clear hcz30_1
                              try clear hfz24_0
                              try clear hfz24_1
                              try clear hfz28_0
                              try clear hfz28_1
                              try clear hfz30_0
                              try clear hfz30_1
                              try clear p2
                              try clear p6
                              obtain ⟨kq, x80_20, rfl, HA, HJ20, BK495, HB⟩ := hcut
                              cases kq with
                              | zero => exact absurd HA.out (by simp [tollbarlaw04_FieldBounds.j4])
                              | succ kj20 =>
                                have H := HA.out
                                clear HA
                                simp only [tollbarlaw04_FieldBounds.j4] at H
                                by_cases c40 : x80_20 = true
                                · subst c40
                                  have H1 : (none) = some r := by rw [if_pos rfl] at H; exact H
                                  clear H
                                  have H := H1
                                  clear H1
                                  exact absurd H (by simp)
                                · replace c40 := Bool.eq_false_iff.mpr c40
                                  subst c40
                                  have H1 : (tollbarlaw04_FieldBounds.l2 kj20 (Go.bits .and .i64 a2 63) (([] : List (S24))) 0) = some r := by rw [if_neg (show ¬ (false = true) by decide)] at H; exact H
                                  clear H
                                  have H := H1
                                  clear H1
                                  obtain ⟨y504, hy504⟩ : ∃ y_ : List (S24), y_ = (([] : List (S24))) := ⟨_, rfl⟩
                                  replace H : (tollbarlaw04_FieldBounds.l2 kj20 (Go.bits .and .i64 a2 63) y504 0) = some r := by first | (rw [hy504]; with_reducible exact H) | (have H2_ := (Option.bind_some _ _).symm.trans H; rw [hy504]; with_reducible exact H2_) | (have H2_ := (Option.bind_some _ _).symm.trans H; with_reducible exact H2_) | with_reducible exact H | (rw [hy504]; exact H) | exact H
                                  have Ny504 := Aside0.mk hy504
                                  clear hy504
                                  have H' := Aside0.mk H
                                  clear H
                                  go_wp2_with (first | ((with_reducible refine gate_dst (N := 81) rfl ?_); (try (refine gate_guard (by rfl) ?_; dsimp only)); refine Kd.R_lit k24 _ 24 ?hg (N := 81) ?hd (xs := ([] : List (S24))) (inner := []) (ok := fun _ => True) (okp := fun _ => True) ?hr ?hp (fun _ hk => hk) trivial (Below.refl _ _) (Nat.le_refl _) (by simp) ?_; (case hd => rfl); (case hg => rfl); (case hr => first | (go_simp; done) | (go_simp; rfl)); (case hp => exact (Reps.none _ _)); intro v505 w41 ho42 hb hg_ hnew_; clear hg_ hnew_; (first | rw [← Ny504.out] at ho42 | (simp only [Int.reduceToNat] at ho42; rw [← Ny504.out] at ho42)); have n0_ := Aside0.mk (Kd.R_lower (Kd.R_newB ho42 (g := gb495) (o := .cells #[.string t492, .string t493] 24 (0, 0)) (by (with_reducible repeat (first | refine blk_drewN ?_ _ | refine blk_drew ?_ | refine blk_alloc ?_ _)); exact BK495.out)) (below_size (by repeat (first | (with_reducible first | exact HB.out | apply below_alloc | apply pw_below_drewN | apply below_drew1 | refine below_set ?_ GE495.out) | exact HB.out)))); have n1_ := Aside0.mk (blk_below (g := gb495) (o := .cells #[.string t492, .string t493] 24 (0, 0)) (by (with_reducible repeat (first | refine blk_drewN ?_ _ | refine blk_drew ?_ | refine blk_alloc ?_ _)); exact BK495.out) hb); have n2_ := Aside0.mk (below_step (by repeat (first | (with_reducible first | exact HB.out | apply below_alloc | apply pw_below_drewN | apply below_drew1 | refine below_set ?_ GE495.out) | exact HB.out)) hb); clear BK495; clear HB; have HO506 := n0_; have BK495 := n1_; have HB := n2_; clear n0_ n1_ n2_; clear hb ho42))
                                  go_loopg [14, 15] kj20 (fun kq v14 v15 w' => ∃ (x14_6 : List (S24)) (x15_6 : Int), v15 = .int .i64 x15_6 ∧ Aside0 (tollbarlaw04_FieldBounds.l2 kq (Go.bits .and .i64 a2 63) x14_6 x15_6 = some r) ∧ Aside0 (kq ≤ kj20) ∧ Aside0 (Kd.R k24 24 w' w.heap.size (fun k_ => k_ ≠ gb495) v14 x14_6) ∧ Aside0 (w'.heap[gb495]? = some (.cells #[.string t492, .string t493] 24 (0, 0))) ∧ Aside0 (Below w.heap.size w w'))
                                  case atStart => exact ⟨(y504), (0), (by first | rfl | (simp; done) | (simp [*]; done)), H', ⟨Nat.le_refl _⟩, ⟨by (with_reducible repeat (first | apply Kd.R_alloc | apply Kd.R_drewN | apply Kd.R_drew)); exact Kd.R_mono HO506.out (fun _ hk => hk.2)⟩, ⟨by (with_reducible repeat (first | refine blk_drewN ?_ _ | refine blk_drew ?_ | refine blk_alloc ?_ _)); exact BK495.out⟩, ⟨by repeat (first | (with_reducible first | exact HB.out | apply below_alloc | apply pw_below_drewN | apply below_drew1 | refine below_set ?_ GE495.out) | exact HB.out)⟩⟩
                                  case round =>
                                    clear H'
                                    try clear c1
                                    try clear c2
                                    try clear p2
                                    try clear c4
                                    try clear c6
                                    try clear p6
                                    try clear c9
                                    try clear c11
                                    try clear c12
                                    try clear c12b0
                                    try clear c13
                                    try clear c13b0
                                    try clear c13b1
                                    try clear c13b2
                                    try clear c14
                                    try clear c14b0
                                    try clear c15
                                    try clear c15b0
                                    try clear c15b1
                                    try clear c15b2
                                    try clear c16
                                    try clear c17
                                    try clear c17b0
                                    try clear c18
                                    try clear c18b0
                                    try clear c18b1
                                    try clear c18b2
                                    try clear c19
                                    try clear c19b0
                                    try clear c19b1
                                    try clear c19b2
                                    try clear c25
                                    try clear c25b0
                                    try clear c25b1
                                    try clear c25b2
                                    try clear c26
                                    try clear c27
                                    try clear c27b0
                                    try clear c40
                                    try clear hcz24_0
                                    try clear hcz24_1
                                    try clear hcz28_0
                                    try clear hcz28_1
                                    try clear hcz30_0
                                    try clear hcz30_1
                                    try clear hfz24_0
                                    try clear hfz24_1
                                    try clear hfz28_0
                                    try clear hfz28_1
                                    try clear hfz30_0
                                    try clear hfz30_1
                                    try clear p2
                                    try clear p6
                                    obtain ⟨x14_6, x15_6, rfl, HA, HK6, HO_14, BK495, HB⟩ := hrel
                                    cases gk with
                                    | zero => exact absurd HA.out (by simp [tollbarlaw04_FieldBounds.l2])
                                    | succ k6 =>
                                      have H := HA.out
                                      clear HA
                                      simp only [tollbarlaw04_FieldBounds.l2] at H
                                      by_cases c43 : x15_6 < (Go.bits .and .i64 a2 63)
                                      · rw [if_pos c43] at H
                                        have c43b0 : decide (x15_6 < (Go.bits .and .i64 a2 63)) = true := decide_eq_true c43
                                        clear c43
                                        by_cases c44 : x14_6.length < 4398046511104
                                        · rw [if_pos c44] at H
                                          have LMc44 := Aside0.mk c44
                                          clear c44
                                          obtain ⟨y507, hy507⟩ : ∃ y_ : List (S24), y_ = (x14_6 ++ [(⟨(⟨#[97]⟩ : ByteArray), (⟨#[98]⟩ : ByteArray)⟩ : S24)]) := ⟨_, rfl⟩
                                          replace H : (tollbarlaw04_FieldBounds.l2 k6 (Go.bits .and .i64 a2 63) y507 (wrap64 (x15_6 + 1))) = some r := by first | (rw [hy507]; with_reducible exact H) | (have H2_ := (Option.bind_some _ _).symm.trans H; rw [hy507]; with_reducible exact H2_) | (have H2_ := (Option.bind_some _ _).symm.trans H; with_reducible exact H2_) | with_reducible exact H | (rw [hy507]; exact H) | exact H
                                          have Ny507 := Aside0.mk hy507
                                          clear hy507
                                          have H' := Aside0.mk H
                                          clear H
                                          go_wp2_with (first | ((with_reducible refine gate_builtin (b := .append) (xs := #[.tmp 87, .tmp 89]) rfl ?_); (try (refine gate_guard (by rfl) ?_; dsimp only)); at_builtin; refine Kd.R_append k24 (w0 := w) w.heap.size rfl (.tmp 87) (.tmp 89) 31 24 (.agg #[(.string ⟨#[]⟩), (.string ⟨#[]⟩)]) 32 rfl Tryd.underlying31 info24 rfl (by decide) (by omega) u14 x14_6 (⟨(⟨#[97]⟩ : ByteArray), (⟨#[98]⟩ : ByteArray)⟩ : S24) [.string (⟨#[97]⟩ : ByteArray), .string (⟨#[98]⟩ : ByteArray)] (fun k_ => k_ ≠ gb495) (fun _ => False) rfl rfl ?aP (fun _ hk => hk.elim) ?aF ?aO ?aB ?aS ?aL ?_; (case aP => exact k24_mkM _ _ _ (⟨(⟨#[97]⟩ : ByteArray), (⟨#[98]⟩ : ByteArray)⟩ : S24)); (case aB => exact (by repeat (first | (with_reducible first | exact HB.out | apply below_alloc | apply pw_below_drewN | apply below_drew1 | refine below_set ?_ GE495.out) | exact HB.out))); (case aF => exact (fun k_ hk => Kd.freshB (g := gb495) (o := .cells #[.string t492, .string t493] 24 (0, 0)) (by (with_reducible repeat (first | refine blk_drewN ?_ _ | refine blk_drew ?_ | refine blk_alloc ?_ _)); exact BK495.out) k_ hk)); (case aO => exact (by (with_reducible repeat (first | apply Kd.R_alloc | apply Kd.R_drewN | apply Kd.R_drew)); exact HO_14.out)); (case aS => exact (below_size (by repeat (first | (with_reducible first | exact HB.out | apply below_alloc | apply pw_below_drewN | apply below_drew1 | refine below_set ?_ GE495.out) | exact HB.out)))); (case aL => have := LMc44.out; omega); intro v508 w45 ho hb hg hat; rw [← Ny507.out] at ho; have n0_ := Aside0.mk (blk_grown (g := gb495) (o := .cells #[.string t492, .string t493] 24 (0, 0)) (by (with_reducible repeat (first | refine blk_drewN ?_ _ | refine blk_drew ?_ | refine blk_alloc ?_ _)); exact BK495.out) hg (Kd.R_away HO_14.out (fun _ hk => hk))); have n1_ := Aside0.mk (hb); have n2_ := Aside0.mk (ho); clear BK495; clear HB; clear HO_14; have BK495 := n0_; have HB := n1_; have HO509 := n2_; clear n0_ n1_ n2_; clear ho hb hg hat))
                                          go_roundg k6
                                          case measure => have := HJ3.out; have := HK2.out; have := HK3.out; have := HJ15.out; have := HJ20.out; have := HK6.out; omega
                                          case rel => exact ⟨(y507), (wrap64 (x15_6 + 1)), (by first | rfl | (simp; done) | (simp [*]; done)), H', ⟨by have := HJ3.out; have := HK2.out; have := HK3.out; have := HJ15.out; have := HJ20.out; have := HK6.out; omega⟩, ⟨by (with_reducible repeat (first | apply Kd.R_alloc | apply Kd.R_drewN | apply Kd.R_drew)); exact HO509.out⟩, ⟨by (with_reducible repeat (first | refine blk_drewN ?_ _ | refine blk_drew ?_ | refine blk_alloc ?_ _)); exact BK495.out⟩, ⟨by repeat (first | (with_reducible first | exact HB.out | apply below_alloc | apply pw_below_drewN | apply below_drew1 | refine below_set ?_ GE495.out) | exact HB.out)⟩⟩
                                        · rw [if_neg c44] at H
                                          exact absurd H (by simp)
                                      · rw [if_neg c43] at H
                                        have c43b0 : decide (x15_6 < (Go.bits .and .i64 a2 63)) = false := decide_eq_false c43
                                        clear c43
                                        replace H := Option.bind_eq_some_iff.mp H
                                        obtain ⟨t510, A460, H⟩ := H
                                        replace H : (if (t510 == (decide ((Go.bits .and .i64 a2 63) ≤ 40))) = true then ((field_Get.f k6 x14_6 (⟨#[65]⟩ : ByteArray)).bind fun t511 => (some ((t511.length : Int) == (Go.bits .and .i64 a2 63)))) else (none)) = some r := H
                                        have A46 := Aside0.mk A460
                                        clear A460
                                        by_cases c47 : (t510 == (decide ((Go.bits .and .i64 a2 63) ≤ 40))) = true
                                        · rw [if_pos c47] at H
                                          have c47b0 : (t510 == (decide ((Go.bits .and .i64 a2 63) ≤ 40))) = true := c47
                                          (try (have c47b1 : decide (t510 = (decide ((Go.bits .and .i64 a2 63) ≤ 40))) = true := by simpa using c47))
                                          (try (have c47b2 : (t510 == (decide ((Go.bits .and .i64 a2 63) ≤ 40))) = true := by simpa using c47))
                                          clear c47
                                          replace H := Option.bind_eq_some_iff.mp H
                                          obtain ⟨t511, A480, H⟩ := H
                                          replace H : (some ((t511.length : Int) == (Go.bits .and .i64 a2 63))) = some r := H
                                          have A48 := Aside0.mk A480
                                          clear A480
                                          obtain rfl := Option.some.inj H
                                          obtain ⟨Ao49, co49, eo49⟩ := Kd.R_slice HO_14.out
                                          subst eo49
                                          go_wp2_with (first | ((with_reducible refine gate_callee (f := 26) rfl ?_); refine goesL_ (some 92) rfl rfl Tryd.func26 (by kernel_rfl) rfl #[.slice Ao49 x14_6.length co49] rfl (by (try simp only [List.map_toArray, List.map_cons, List.map_nil]); first | done | rfl | (simp only [List.length_drop, List.length_take]; rfl)) ?_; (with_reducible refine (field_Right.calls k6 _ _ x14_6 t510 _ ?side1 ?side2 A46.out).mono ?_); (case side1 => repeat (first | exact (Kd.R_reads' HO_14.out).2.2 | (with_reducible refine Kd.C_alloc ?_ _) | (with_reducible refine Kd.C_drewN ?_ _) | (with_reducible refine Kd.C_drew ?_))); (case side2 => exact (Kd.R_reads' HO_14.out).2.1); rintro e w50 ⟨rfl, hb⟩; refine ⟨_, rfl, ?_⟩; have n0_ := Aside0.mk (Kd.R_below (by (with_reducible repeat (first | apply Kd.R_alloc | apply Kd.R_drewN | apply Kd.R_drew)); exact HO_14.out) hb); have n1_ := Aside0.mk (blk_below (g := gb495) (o := .cells #[.string t492, .string t493] 24 (0, 0)) (by (with_reducible repeat (first | refine blk_drewN ?_ _ | refine blk_drew ?_ | refine blk_alloc ?_ _)); exact BK495.out) hb); have n2_ := Aside0.mk (below_step (by repeat (first | (with_reducible first | exact HB.out | apply below_alloc | apply pw_below_drewN | apply below_drew1 | refine below_set ?_ GE495.out) | exact HB.out)) hb); clear HO_14; clear BK495; clear HB; have HO_14 := n0_; have BK495 := n1_; have HB := n2_; clear n0_ n1_ n2_; (try clear hb); (try clear hb2); (try clear hk); (try clear hi)) | (go_at_call 20; (with_reducible refine (field_Get.calls k6 _ _ x14_6 (⟨#[65]⟩ : ByteArray) t511 _ ?side1 ?side2 A48.out).mono ?_); (case side1 => repeat (first | exact (Kd.R_reads' HO_14.out).2.2 | (with_reducible refine Kd.C_alloc ?_ _) | (with_reducible refine Kd.C_drewN ?_ _) | (with_reducible refine Kd.C_drew ?_))); (case side2 => exact (Kd.R_reads' HO_14.out).2.1); rintro e w51 ⟨v512, rfl, ho0, hb⟩; have n0_ := Aside0.mk (Kd.R_below (by (with_reducible repeat (first | apply Kd.R_alloc | apply Kd.R_drewN | apply Kd.R_drew)); exact HO_14.out) hb); have n1_ := Aside0.mk (Kd.R_lower ho0 (below_size (by repeat (first | (with_reducible first | exact HB.out | apply below_alloc | apply pw_below_drewN | apply below_drew1 | refine below_set ?_ GE495.out) | exact HB.out)))); have n2_ := Aside0.mk (blk_below (g := gb495) (o := .cells #[.string t492, .string t493] 24 (0, 0)) (by (with_reducible repeat (first | refine blk_drewN ?_ _ | refine blk_drew ?_ | refine blk_alloc ?_ _)); exact BK495.out) hb); have n3_ := Aside0.mk (below_step (by repeat (first | (with_reducible first | exact HB.out | apply below_alloc | apply pw_below_drewN | apply below_drew1 | refine below_set ?_ GE495.out) | exact HB.out)) hb); clear HO_14; clear BK495; clear HB; have HO_14 := n0_; have HO513 := n1_; have BK495 := n2_; have HB := n3_; clear n0_ n1_ n2_ n3_; (try clear hb); (try clear hb2); (try clear hk); (try clear hi); (try clear ho0); obtain ⟨Ao52, co52, eo52⟩ := Kd.R_slice HO513.out; subst eo52))
                                          go_ret
                                          exact ⟨by first | rfl | (simp [errW_none, errW_some] <;> rfl) | (simp [*, errW_none, errW_some] <;> rfl), by repeat (first | (with_reducible first | exact HB.out | apply below_alloc | apply pw_below_drewN | apply below_drew1 | refine below_set ?_ GE495.out) | exact HB.out)⟩
                                        · rw [if_neg c47] at H
                                          exact absurd H (by simp)
                          · rw [if_neg c19] at H
                            exact absurd H (by simp)
                        · rw [if_neg c18] at H
                          exact absurd H (by simp)

/-- THE ONE PURE STATEMENT of tollbarlaw04_FieldBounds. -/
def tollbarlaw04_FieldBounds.Pure : Prop := ∀ (a0 : Int) (a1 : Int) (a2 : Int), ((Lit.int .i64 a0).wf = true) → ((Lit.int .i64 a1).wf = true) → ((Lit.int .i64 a2).wf = true) → ∃ k, tollbarlaw04_FieldBounds.f k a0 a1 a2 = some true

/-! ### frame_there: function 60 -/
def frame_there.f (k : Nat) (l0 : List (S24)) (a1 : ByteArray) : Option (Bool) := (field_Get.f k l0 a1).bind fun t514 => (some (decide ((t514.length : Int) > 0)))
theorem frame_there.mono : ∀ a0 a1 k, LeO (frame_there.f k a0 a1) (frame_there.f (k + 1) a0 a1) := by
  intro a0 a1 k
  unfold frame_there.f
  repeat' first
      | (with_reducible exact field_Get.mono _ _ _)
      | (with_reducible exact LeO.refl _)
      | (with_reducible exact LeO.none _)
      | (with_reducible refine LeO.ite ?_ ?_)
      | (with_reducible refine LeO.bind ?_ (fun _ => ?_))
      | exact field_Get.mono _ _ _
      | exact LeO.none _
      | refine LeO.ite ?_ ?_
      | refine LeO.bind ?_ (fun _ => ?_)
set_option maxHeartbeats 8000000 in
set_option maxRecDepth 100000 in
theorem frame_there.calls (k : Nat) (A0 : Option Addr) (c0 : Nat) (l0 : List (S24)) (a1 : ByteArray) (r : Bool) (w : World) (hr0 : Kd.C k24 w A0 l0.length l0) (hc0 : l0.length ≤ c0) (h : frame_there.f k l0 a1 = some r) :
    Calls Tryd.prog 60 #[.slice A0 l0.length c0, .string a1] w fun e w' => e = .returned (.bool r) ∧ Below w.heap.size w w' := by
  have HR0 := Aside0.mk hr0
  have HC0 := Aside0.mk hc0
  clear hr0 hc0
  have HB := Aside0.mk (Below.refl w.heap.size w)
  have H : ((field_Get.f k l0 a1).bind fun t514 => (some (decide ((t514.length : Int) > 0)))) = some r := h
  clear h
  replace H := Option.bind_eq_some_iff.mp H
  obtain ⟨t514, A30, H⟩ := H
  replace H : (some (decide ((t514.length : Int) > 0))) = some r := H
  have A3 := Aside0.mk A30
  clear A30
  obtain rfl := Option.some.inj H
  go_enter Tryd.func60, Tryd.ntmps60
  go_wp2_with (first | ((with_reducible refine gate_callee (f := 20) rfl ?_); refine goesL_ (some 7) rfl rfl Tryd.func20 (by kernel_rfl) rfl #[.slice A0 l0.length c0, .string a1] rfl (by (try simp only [List.map_toArray, List.map_cons, List.map_nil]); first | done | rfl | (simp only [List.length_drop, List.length_take]; rfl)) ?_; (with_reducible refine (field_Get.calls k _ _ l0 a1 t514 _ ?side1 ?side2 A3.out).mono ?_); (case side1 => repeat (first | exact HR0.out | (with_reducible refine Kd.C_alloc ?_ _) | (with_reducible refine Kd.C_drewN ?_ _) | (with_reducible refine Kd.C_drew ?_))); (case side2 => exact HC0.out); rintro e w4 ⟨v515, rfl, ho0, hb⟩; refine ⟨_, rfl, ?_⟩; have n0_ := Aside0.mk (Kd.R_lower ho0 (below_size (by repeat (first | (with_reducible first | exact HB.out | apply below_alloc | apply pw_below_drewN | apply below_drew1) | exact HB.out)))); have n1_ := Aside0.mk (below_step (by repeat (first | (with_reducible first | exact HB.out | apply below_alloc | apply pw_below_drewN | apply below_drew1) | exact HB.out)) hb); clear HB; have HO516 := n0_; have HB := n1_; clear n0_ n1_; (try clear hb); (try clear hb2); (try clear hk); (try clear hi); (try clear ho0); obtain ⟨Ao5, co5, eo5⟩ := Kd.R_slice HO516.out; subst eo5))
  go_ret
  exact ⟨by first | rfl | (simp [errW_none, errW_some] <;> rfl) | (simp [*, errW_none, errW_some] <;> rfl), by repeat (first | (with_reducible first | exact HB.out | apply below_alloc | apply pw_below_drewN | apply below_drew1) | exact HB.out)⟩

end Go.Proofs.YtijindelbagpiaaDoor.PAll
