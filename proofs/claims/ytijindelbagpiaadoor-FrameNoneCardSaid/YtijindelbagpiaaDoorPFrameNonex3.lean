-- Written by this session's program xprint.py over the kit's print, with contracts given by hand. Not trusted: Lean checks it.
import Derived.Test.YtijindelbagpiaaDoorPFrameNonex0
import Derived.Test.YtijindelbagpiaaDoorPFrameNonex1
import Derived.Test.YtijindelbagpiaaDoorPFrameNonex2
namespace Go.Proofs.YtijindelbagpiaaDoor.PFrameNone
open Go.RowKit Go.Proofs.YtijindelbagpiaaDoorW.PrintWords Go.Proofs.YtijindelbagpiaaDoorW.PrintLast Go.Proofs.YtijindelbagpiaaDoorW.PrintMore
attribute [local go_sem] max2_int min2_int max_two min_two max_three min_three max_four min_four   -- for this text's walks alone
set_option linter.unusedVariables false
set_option linter.unusedSimpArgs false

/-! ### frame_Request: function 35 -/
mutual
def frame_Request.j0 : Nat → List (S24) → Bool → Bool → Int → Bool → Bool → Option (Int × Bool × Int)
  | 0, _, _, _, _, _, _ => none
  | k + 1, x0, x7, x8, x9, x10, x20 => if x20 = true then (some (0, false, 400)) else (if x8 = true then ((frame_chunked.f k x0).bind fun t172 => (frame_Request.j1 k x7 x8 x9 x10 (!t172))) else (frame_Request.j1 k x7 x8 x9 x10 false))
def frame_Request.j1 : Nat → Bool → Bool → Int → Bool → Bool → Option (Int × Bool × Int)
  | 0, _, _, _, _, _ => none
  | k + 1, x7, x8, x9, x10, x29 => if x29 = true then (some (0, false, 501)) else (if x8 = true then (some (0, true, 0)) else (if x7 = true then (if x10 = true then (if x9 > 4096 then (some (0, false, 413)) else (some (x9, false, 0))) else (some (0, false, 400))) else (some (0, false, 0))))
end
def frame_Request.f (k : Nat) (l0 : List (S24)) (a1 : Int) : Option (Int × Bool × Int) := (frame_there.f k l0 (⟨#[67, 111, 110, 116, 101, 110, 116, 45, 76, 101, 110, 103, 116, 104]⟩ : ByteArray)).bind fun t168 => ((frame_there.f k l0 (⟨#[84, 114, 97, 110, 115, 102, 101, 114, 45, 69, 110, 99, 111, 100, 105, 110, 103]⟩ : ByteArray)).bind fun t169 => ((frame_length.f k l0).bind fun bt170 => (if t169 = true then (if t168 = true then (frame_Request.j0 k l0 t168 t169 bt170.1 bt170.2 true) else (frame_Request.j0 k l0 t168 t169 bt170.1 bt170.2 (a1 == 0))) else (frame_Request.j0 k l0 t168 t169 bt170.1 bt170.2 false))))
theorem frame_Request.mono_l : ∀ k, (∀ y0 y1 y2 y3 y4 y5, LeO (frame_Request.j0 k y0 y1 y2 y3 y4 y5) (frame_Request.j0 (k + 1) y0 y1 y2 y3 y4 y5)) ∧ (∀ y0 y1 y2 y3 y4, LeO (frame_Request.j1 k y0 y1 y2 y3 y4) (frame_Request.j1 (k + 1) y0 y1 y2 y3 y4))
  | 0 => ⟨fun _ _ _ _ _ _ r h => by simp [frame_Request.j0] at h, fun _ _ _ _ _ r h => by simp [frame_Request.j1] at h⟩
  | k + 1 => by
    obtain ⟨ih0, ih1⟩ := frame_Request.mono_l k
    refine ⟨?_, ?_⟩
    · intro y0 y1 y2 y3 y4 y5
      unfold frame_Request.j0
      repeat' first
      | (with_reducible exact ih0 _ _ _ _ _ _)
      | (with_reducible exact ih1 _ _ _ _ _)
      | (with_reducible exact frame_chunked.mono _ _)
      | (with_reducible exact frame_length.mono _ _)
      | (with_reducible exact frame_there.mono _ _ _)
      | (with_reducible exact LeO.refl _)
      | (with_reducible exact LeO.none _)
      | (with_reducible refine LeO.ite ?_ ?_)
      | (with_reducible refine LeO.bind ?_ (fun _ => ?_))
      | exact ih0 _ _ _ _ _ _
      | exact ih1 _ _ _ _ _
      | exact frame_chunked.mono _ _
      | exact frame_length.mono _ _
      | exact frame_there.mono _ _ _
      | exact LeO.none _
      | refine LeO.ite ?_ ?_
      | refine LeO.bind ?_ (fun _ => ?_)
    · intro y0 y1 y2 y3 y4
      unfold frame_Request.j1
      repeat' first
      | (with_reducible exact ih0 _ _ _ _ _ _)
      | (with_reducible exact ih1 _ _ _ _ _)
      | (with_reducible exact frame_chunked.mono _ _)
      | (with_reducible exact frame_length.mono _ _)
      | (with_reducible exact frame_there.mono _ _ _)
      | (with_reducible exact LeO.refl _)
      | (with_reducible exact LeO.none _)
      | (with_reducible refine LeO.ite ?_ ?_)
      | (with_reducible refine LeO.bind ?_ (fun _ => ?_))
      | exact ih0 _ _ _ _ _ _
      | exact ih1 _ _ _ _ _
      | exact frame_chunked.mono _ _
      | exact frame_length.mono _ _
      | exact frame_there.mono _ _ _
      | exact LeO.none _
      | refine LeO.ite ?_ ?_
      | refine LeO.bind ?_ (fun _ => ?_)
theorem frame_Request.mono : ∀ a0 a1 k, LeO (frame_Request.f k a0 a1) (frame_Request.f (k + 1) a0 a1) := by
  intro a0 a1 k
  obtain ⟨ih0, ih1⟩ := frame_Request.mono_l k
  unfold frame_Request.f
  repeat' first
      | (with_reducible exact ih0 _ _ _ _ _ _)
      | (with_reducible exact ih1 _ _ _ _ _)
      | (with_reducible exact frame_chunked.mono _ _)
      | (with_reducible exact frame_length.mono _ _)
      | (with_reducible exact frame_there.mono _ _ _)
      | (with_reducible exact LeO.refl _)
      | (with_reducible exact LeO.none _)
      | (with_reducible refine LeO.ite ?_ ?_)
      | (with_reducible refine LeO.bind ?_ (fun _ => ?_))
      | exact ih0 _ _ _ _ _ _
      | exact ih1 _ _ _ _ _
      | exact frame_chunked.mono _ _
      | exact frame_length.mono _ _
      | exact frame_there.mono _ _ _
      | exact LeO.none _
      | refine LeO.ite ?_ ?_
      | refine LeO.bind ?_ (fun _ => ?_)
set_option maxHeartbeats 8000000 in
set_option maxRecDepth 100000 in
theorem frame_Request.calls (k : Nat) (A0 : Option Addr) (c0 : Nat) (l0 : List (S24)) (a1 : Int) (r1 : Int) (r2 : Bool) (r3 : Int) (w : World) (hr0 : Kd.C k24 w A0 l0.length l0) (hc0 : l0.length ≤ c0) (h : frame_Request.f k l0 a1 = some (r1, r2, r3)) :
    Calls Tryd.prog 35 #[.slice A0 l0.length c0, .int .i64 a1] w fun e w' => e = .returned (.tuple #[.int .i64 r1, .bool r2, .int .i64 r3]) ∧ Below w.heap.size w w' := by
  have HR0 := Aside0.mk hr0
  have HC0 := Aside0.mk hc0
  clear hr0 hc0
  have HB := Aside0.mk (Below.refl w.heap.size w)
  have H : ((frame_there.f k l0 (⟨#[67, 111, 110, 116, 101, 110, 116, 45, 76, 101, 110, 103, 116, 104]⟩ : ByteArray)).bind fun t168 => ((frame_there.f k l0 (⟨#[84, 114, 97, 110, 115, 102, 101, 114, 45, 69, 110, 99, 111, 100, 105, 110, 103]⟩ : ByteArray)).bind fun t169 => ((frame_length.f k l0).bind fun bt170 => (if t169 = true then (if t168 = true then (frame_Request.j0 k l0 t168 t169 bt170.1 bt170.2 true) else (frame_Request.j0 k l0 t168 t169 bt170.1 bt170.2 (a1 == 0))) else (frame_Request.j0 k l0 t168 t169 bt170.1 bt170.2 false))))) = some (r1, r2, r3) := h
  clear h
  replace H := Option.bind_eq_some_iff.mp H
  obtain ⟨t168, A30, H⟩ := H
  replace H : ((frame_there.f k l0 (⟨#[84, 114, 97, 110, 115, 102, 101, 114, 45, 69, 110, 99, 111, 100, 105, 110, 103]⟩ : ByteArray)).bind fun t169 => ((frame_length.f k l0).bind fun bt170 => (if t169 = true then (if t168 = true then (frame_Request.j0 k l0 t168 t169 bt170.1 bt170.2 true) else (frame_Request.j0 k l0 t168 t169 bt170.1 bt170.2 (a1 == 0))) else (frame_Request.j0 k l0 t168 t169 bt170.1 bt170.2 false)))) = some (r1, r2, r3) := H
  have A3 := Aside0.mk A30
  clear A30
  replace H := Option.bind_eq_some_iff.mp H
  obtain ⟨t169, A40, H⟩ := H
  replace H : ((frame_length.f k l0).bind fun bt170 => (if t169 = true then (if t168 = true then (frame_Request.j0 k l0 t168 t169 bt170.1 bt170.2 true) else (frame_Request.j0 k l0 t168 t169 bt170.1 bt170.2 (a1 == 0))) else (frame_Request.j0 k l0 t168 t169 bt170.1 bt170.2 false))) = some (r1, r2, r3) := H
  have A4 := Aside0.mk A40
  clear A40
  replace H := Option.bind_eq_some_iff.mp H
  obtain ⟨⟨t170, t171⟩, A50, H⟩ := H
  replace H : (if t169 = true then (if t168 = true then (frame_Request.j0 k l0 t168 t169 t170 t171 true) else (frame_Request.j0 k l0 t168 t169 t170 t171 (a1 == 0))) else (frame_Request.j0 k l0 t168 t169 t170 t171 false)) = some (r1, r2, r3) := H
  have A5 := Aside0.mk A50
  clear A50
  have HC6 := Aside0.mk H
  clear H
  go_enter Tryd.func35, Tryd.ntmps35
  go_upto_region 3 with (first | ((with_reducible refine gate_callee (f := 60) rfl ?_); refine goesL_ (some 12) rfl rfl Tryd.func60 (by kernel_rfl) rfl #[.slice A0 l0.length c0, .string (⟨#[67, 111, 110, 116, 101, 110, 116, 45, 76, 101, 110, 103, 116, 104]⟩ : ByteArray)] rfl (by (try simp only [List.map_toArray, List.map_cons, List.map_nil]); first | done | rfl | (simp only [List.length_drop, List.length_take]; rfl)) ?_; (with_reducible refine (frame_there.calls k _ _ l0 (⟨#[67, 111, 110, 116, 101, 110, 116, 45, 76, 101, 110, 103, 116, 104]⟩ : ByteArray) t168 _ ?side1 ?side2 A3.out).mono ?_); (case side1 => repeat (first | exact HR0.out | (with_reducible refine Kd.C_alloc ?_ _) | (with_reducible refine Kd.C_drewN ?_ _) | (with_reducible refine Kd.C_drew ?_))); (case side2 => exact HC0.out); rintro e w7 ⟨rfl, hb⟩; refine ⟨_, rfl, ?_⟩; have n0_ := Aside0.mk (below_step (by repeat (first | (with_reducible first | exact HB.out | apply below_alloc | apply pw_below_drewN | apply below_drew1) | exact HB.out)) hb); clear HB; have HB := n0_; clear n0_; (try clear hb); (try clear hb2); (try clear hk); (try clear hi)) | ((with_reducible refine gate_callee (f := 60) rfl ?_); refine goesL_ (some 14) rfl rfl Tryd.func60 (by kernel_rfl) rfl #[.slice A0 l0.length c0, .string (⟨#[84, 114, 97, 110, 115, 102, 101, 114, 45, 69, 110, 99, 111, 100, 105, 110, 103]⟩ : ByteArray)] rfl (by (try simp only [List.map_toArray, List.map_cons, List.map_nil]); first | done | rfl | (simp only [List.length_drop, List.length_take]; rfl)) ?_; (with_reducible refine (frame_there.calls k _ _ l0 (⟨#[84, 114, 97, 110, 115, 102, 101, 114, 45, 69, 110, 99, 111, 100, 105, 110, 103]⟩ : ByteArray) t169 _ ?side1 ?side2 A4.out).mono ?_); (case side1 => repeat (first | exact (Kd.C_below HR0.out HB.out) | (with_reducible refine Kd.C_alloc ?_ _) | (with_reducible refine Kd.C_drewN ?_ _) | (with_reducible refine Kd.C_drew ?_))); (case side2 => exact HC0.out); rintro e w8 ⟨rfl, hb⟩; refine ⟨_, rfl, ?_⟩; have n0_ := Aside0.mk (below_step (by repeat (first | (with_reducible first | exact HB.out | apply below_alloc | apply pw_below_drewN | apply below_drew1) | exact HB.out)) hb); clear HB; have HB := n0_; clear n0_; (try clear hb); (try clear hb2); (try clear hk); (try clear hi)) | ((with_reducible refine gate_callee (f := 61) rfl ?_); refine goesL_ (some 17) rfl rfl Tryd.func61 (by kernel_rfl) rfl #[.slice A0 l0.length c0] rfl (by (try simp only [List.map_toArray, List.map_cons, List.map_nil]); first | done | rfl | (simp only [List.length_drop, List.length_take]; rfl)) ?_; (with_reducible refine (frame_length.calls k _ _ l0 t170 t171 _ ?side1 ?side2 A5.out).mono ?_); (case side1 => repeat (first | exact (Kd.C_below HR0.out HB.out) | (with_reducible refine Kd.C_alloc ?_ _) | (with_reducible refine Kd.C_drewN ?_ _) | (with_reducible refine Kd.C_drew ?_))); (case side2 => exact HC0.out); rintro e w9 ⟨rfl, hb⟩; refine ⟨_, rfl, ?_⟩; have n0_ := Aside0.mk (below_step (by repeat (first | (with_reducible first | exact HB.out | apply below_alloc | apply pw_below_drewN | apply below_drew1) | exact HB.out)) hb); clear HB; have HB := n0_; clear n0_; (try clear hb); (try clear hb2); (try clear hk); (try clear hi)))
  (try simp only [Act.put, List.setIfInBounds_toArray, List.set_cons_zero, List.set_cons_succ])
  go_cut [20] (fun v20 wc => ∃ (kq : Nat) (x20_5 : Bool), v20 = .bool x20_5 ∧ Aside0 (frame_Request.j0 kq l0 t168 t169 t170 t171 x20_5 = some (r1, r2, r3)) ∧ Aside0 (kq ≤ k) ∧ Aside0 (Below w.heap.size w wc))
  case first =>
    have H := HC6.out
    clear HC6
    by_cases c10 : t169 = true
    · subst c10
      have H1 : (if t168 = true then (frame_Request.j0 k l0 t168 true t170 t171 true) else (frame_Request.j0 k l0 t168 true t170 t171 (a1 == 0))) = some (r1, r2, r3) := by rw [if_pos rfl] at H; exact H
      clear H
      have H := H1
      clear H1
      by_cases c11 : t168 = true
      · subst c11
        have H1 : (frame_Request.j0 k l0 true true t170 t171 true) = some (r1, r2, r3) := by rw [if_pos rfl] at H; exact H
        clear H
        have H := H1
        clear H1
        have H' := Aside0.mk H
        clear H
        go_wp2
        go_meet
        case rel => exact ⟨_, (true), (by first | rfl | (simp; done) | (simp [*]; done)), H', ⟨by first | omega | exact Nat.le_refl _⟩, ⟨by repeat (first | (with_reducible first | exact HB.out | apply below_alloc | apply pw_below_drewN | apply below_drew1) | exact HB.out)⟩⟩
      · replace c11 := Bool.eq_false_iff.mpr c11
        subst c11
        have H1 : (frame_Request.j0 k l0 false true t170 t171 (a1 == 0)) = some (r1, r2, r3) := by rw [if_neg (show ¬ (false = true) by decide)] at H; exact H
        clear H
        have H := H1
        clear H1
        have H' := Aside0.mk H
        clear H
        go_wp2
        go_meet
        case rel => exact ⟨_, ((a1 == 0)), (by first | rfl | (simp; done) | (simp [*]; done)), H', ⟨by first | omega | exact Nat.le_refl _⟩, ⟨by repeat (first | (with_reducible first | exact HB.out | apply below_alloc | apply pw_below_drewN | apply below_drew1) | exact HB.out)⟩⟩
    · replace c10 := Bool.eq_false_iff.mpr c10
      subst c10
      have H1 : (frame_Request.j0 k l0 t168 false t170 t171 false) = some (r1, r2, r3) := by rw [if_neg (show ¬ (false = true) by decide)] at H; exact H
      clear H
      have H := H1
      clear H1
      have H' := Aside0.mk H
      clear H
      go_wp2
      go_meet
      case rel => exact ⟨_, (false), (by first | rfl | (simp; done) | (simp [*]; done)), H', ⟨by first | omega | exact Nat.le_refl _⟩, ⟨by repeat (first | (with_reducible first | exact HB.out | apply below_alloc | apply pw_below_drewN | apply below_drew1) | exact HB.out)⟩⟩
  case rest =>
    clear HC6
    try clear c1
    try clear p2
    try clear c3
    try clear c6
    try clear c10
    try clear c11
    obtain ⟨kq, x20_5, rfl, HA, HJ5, HB⟩ := hcut
    cases kq with
    | zero => exact absurd HA.out (by simp [frame_Request.j0])
    | succ kj5 =>
      have H := HA.out
      clear HA
      simp only [frame_Request.j0] at H
      by_cases c12 : x20_5 = true
      · subst c12
        have H1 : (some (0, false, 400)) = some (r1, r2, r3) := by rw [if_pos rfl] at H; exact H
        clear H
        have H := H1
        clear H1
        simp only [Option.some.injEq, Prod.mk.injEq] at H
        obtain ⟨rfl, rfl, rfl⟩ := H
        go_wp2
        go_ret3
        exact ⟨by first | rfl | (simp [errW_none, errW_some] <;> rfl) | (simp [*, errW_none, errW_some] <;> rfl), by repeat (first | (with_reducible first | exact HB.out | apply below_alloc | apply pw_below_drewN | apply below_drew1) | exact HB.out)⟩
      · replace c12 := Bool.eq_false_iff.mpr c12
        subst c12
        have H1 : (if t169 = true then ((frame_chunked.f kj5 l0).bind fun t172 => (frame_Request.j1 kj5 t168 t169 t170 t171 (!t172))) else (frame_Request.j1 kj5 t168 t169 t170 t171 false)) = some (r1, r2, r3) := by rw [if_neg (show ¬ (false = true) by decide)] at H; exact H
        clear H
        have H := H1
        clear H1
        have HC13 := Aside0.mk H
        clear H
        go_upto_region 5 with (fail)
        go_cut [29] (fun v29 wc => ∃ (kq : Nat) (x29_12 : Bool), v29 = .bool x29_12 ∧ Aside0 (frame_Request.j1 kq t168 t169 t170 t171 x29_12 = some (r1, r2, r3)) ∧ Aside0 (kq ≤ kj5) ∧ Aside0 (Below w.heap.size w wc))
        case first =>
          have H := HC13.out
          clear HC13
          by_cases c14 : t169 = true
          · subst c14
            have H1 : ((frame_chunked.f kj5 l0).bind fun t172 => (frame_Request.j1 kj5 t168 true t170 t171 (!t172))) = some (r1, r2, r3) := by rw [if_pos rfl] at H; exact H
            clear H
            have H := H1
            clear H1
            replace H := Option.bind_eq_some_iff.mp H
            obtain ⟨t172, A150, H⟩ := H
            replace H : (frame_Request.j1 kj5 t168 true t170 t171 (!t172)) = some (r1, r2, r3) := H
            have A15 := Aside0.mk A150
            clear A150
            have H' := Aside0.mk H
            clear H
            go_wp2_with (first | (go_at_call 62; (with_reducible refine (frame_chunked.calls kj5 _ _ l0 t172 _ ?side1 ?side2 A15.out).mono ?_); (case side1 => repeat (first | exact (Kd.C_below HR0.out HB.out) | (with_reducible refine Kd.C_alloc ?_ _) | (with_reducible refine Kd.C_drewN ?_ _) | (with_reducible refine Kd.C_drew ?_))); (case side2 => exact HC0.out); rintro e w16 ⟨rfl, hb⟩; have n0_ := Aside0.mk (below_step (by repeat (first | (with_reducible first | exact HB.out | apply below_alloc | apply pw_below_drewN | apply below_drew1) | exact HB.out)) hb); clear HB; have HB := n0_; clear n0_; (try clear hb); (try clear hb2); (try clear hk); (try clear hi)))
            go_meet
            case rel => exact ⟨_, (!t172), (by first | rfl | (simp; done) | (simp [*]; done)), H', ⟨by have := HJ5.out; first | omega | exact Nat.le_refl _⟩, ⟨by repeat (first | (with_reducible first | exact HB.out | apply below_alloc | apply pw_below_drewN | apply below_drew1) | exact HB.out)⟩⟩
          · replace c14 := Bool.eq_false_iff.mpr c14
            subst c14
            have H1 : (frame_Request.j1 kj5 t168 false t170 t171 false) = some (r1, r2, r3) := by rw [if_neg (show ¬ (false = true) by decide)] at H; exact H
            clear H
            have H := H1
            clear H1
            have H' := Aside0.mk H
            clear H
            go_wp2
            go_meet
            case rel => exact ⟨_, (false), (by first | rfl | (simp; done) | (simp [*]; done)), H', ⟨by have := HJ5.out; first | omega | exact Nat.le_refl _⟩, ⟨by repeat (first | (with_reducible first | exact HB.out | apply below_alloc | apply pw_below_drewN | apply below_drew1) | exact HB.out)⟩⟩
        case rest =>
          clear HC13
          try clear c1
          try clear p2
          try clear c3
          try clear c6
          try clear c10
          try clear c11
          try clear c12
          try clear c14
          try clear p2
          obtain ⟨kq, x29_12, rfl, HA, HJ12, HB⟩ := hcut
          cases kq with
          | zero => exact absurd HA.out (by simp [frame_Request.j1])
          | succ kj12 =>
            have H := HA.out
            clear HA
            simp only [frame_Request.j1] at H
            by_cases c17 : x29_12 = true
            · subst c17
              have H1 : (some (0, false, 501)) = some (r1, r2, r3) := by rw [if_pos rfl] at H; exact H
              clear H
              have H := H1
              clear H1
              simp only [Option.some.injEq, Prod.mk.injEq] at H
              obtain ⟨rfl, rfl, rfl⟩ := H
              go_wp2
              go_ret3
              exact ⟨by first | rfl | (simp [errW_none, errW_some] <;> rfl) | (simp [*, errW_none, errW_some] <;> rfl), by repeat (first | (with_reducible first | exact HB.out | apply below_alloc | apply pw_below_drewN | apply below_drew1) | exact HB.out)⟩
            · replace c17 := Bool.eq_false_iff.mpr c17
              subst c17
              have H1 : (if t169 = true then (some (0, true, 0)) else (if t168 = true then (if t171 = true then (if t170 > 4096 then (some (0, false, 413)) else (some (t170, false, 0))) else (some (0, false, 400))) else (some (0, false, 0)))) = some (r1, r2, r3) := by rw [if_neg (show ¬ (false = true) by decide)] at H; exact H
              clear H
              have H := H1
              clear H1
              by_cases c18 : t169 = true
              · subst c18
                have H1 : (some (0, true, 0)) = some (r1, r2, r3) := by rw [if_pos rfl] at H; exact H
                clear H
                have H := H1
                clear H1
                simp only [Option.some.injEq, Prod.mk.injEq] at H
                obtain ⟨rfl, rfl, rfl⟩ := H
                go_wp2
                go_ret3
                exact ⟨by first | rfl | (simp [errW_none, errW_some] <;> rfl) | (simp [*, errW_none, errW_some] <;> rfl), by repeat (first | (with_reducible first | exact HB.out | apply below_alloc | apply pw_below_drewN | apply below_drew1) | exact HB.out)⟩
              · replace c18 := Bool.eq_false_iff.mpr c18
                subst c18
                have H1 : (if t168 = true then (if t171 = true then (if t170 > 4096 then (some (0, false, 413)) else (some (t170, false, 0))) else (some (0, false, 400))) else (some (0, false, 0))) = some (r1, r2, r3) := by rw [if_neg (show ¬ (false = true) by decide)] at H; exact H
                clear H
                have H := H1
                clear H1
                by_cases c19 : t168 = true
                · subst c19
                  have H1 : (if t171 = true then (if t170 > 4096 then (some (0, false, 413)) else (some (t170, false, 0))) else (some (0, false, 400))) = some (r1, r2, r3) := by rw [if_pos rfl] at H; exact H
                  clear H
                  have H := H1
                  clear H1
                  by_cases c20 : t171 = true
                  · subst c20
                    have H1 : (if t170 > 4096 then (some (0, false, 413)) else (some (t170, false, 0))) = some (r1, r2, r3) := by rw [if_pos rfl] at H; exact H
                    clear H
                    have H := H1
                    clear H1
                    by_cases c21 : t170 > 4096
                    · rw [if_pos c21] at H
                      have c21b0 : decide (4096 < t170) = true := decide_eq_true c21
                      clear c21
                      simp only [Option.some.injEq, Prod.mk.injEq] at H
                      obtain ⟨rfl, rfl, rfl⟩ := H
                      go_wp2
                      go_ret3
                      exact ⟨by first | rfl | (simp [errW_none, errW_some] <;> rfl) | (simp [*, errW_none, errW_some] <;> rfl), by repeat (first | (with_reducible first | exact HB.out | apply below_alloc | apply pw_below_drewN | apply below_drew1) | exact HB.out)⟩
                    · rw [if_neg c21] at H
                      have c21b0 : decide (4096 < t170) = false := decide_eq_false c21
                      clear c21
                      simp only [Option.some.injEq, Prod.mk.injEq] at H
                      obtain ⟨rfl, rfl, rfl⟩ := H
                      go_wp2
                      go_ret3
                      exact ⟨by first | rfl | (simp [errW_none, errW_some] <;> rfl) | (simp [*, errW_none, errW_some] <;> rfl), by repeat (first | (with_reducible first | exact HB.out | apply below_alloc | apply pw_below_drewN | apply below_drew1) | exact HB.out)⟩
                  · replace c20 := Bool.eq_false_iff.mpr c20
                    subst c20
                    have H1 : (some (0, false, 400)) = some (r1, r2, r3) := by rw [if_neg (show ¬ (false = true) by decide)] at H; exact H
                    clear H
                    have H := H1
                    clear H1
                    simp only [Option.some.injEq, Prod.mk.injEq] at H
                    obtain ⟨rfl, rfl, rfl⟩ := H
                    go_wp2
                    go_ret3
                    exact ⟨by first | rfl | (simp [errW_none, errW_some] <;> rfl) | (simp [*, errW_none, errW_some] <;> rfl), by repeat (first | (with_reducible first | exact HB.out | apply below_alloc | apply pw_below_drewN | apply below_drew1) | exact HB.out)⟩
                · replace c19 := Bool.eq_false_iff.mpr c19
                  subst c19
                  have H1 : (some (0, false, 0)) = some (r1, r2, r3) := by rw [if_neg (show ¬ (false = true) by decide)] at H; exact H
                  clear H
                  have H := H1
                  clear H1
                  simp only [Option.some.injEq, Prod.mk.injEq] at H
                  obtain ⟨rfl, rfl, rfl⟩ := H
                  go_wp2
                  go_ret3
                  exact ⟨by first | rfl | (simp [errW_none, errW_some] <;> rfl) | (simp [*, errW_none, errW_some] <;> rfl), by repeat (first | (with_reducible first | exact HB.out | apply below_alloc | apply pw_below_drewN | apply below_drew1) | exact HB.out)⟩

/-! ### field_Has: function 24 -/

/-- the closure: is p the same as what is captured? -/
theorem field_Has.clo (g : Nat) (p q : ByteArray) (b : Bool) (W : World) (hg : W.cell? ⟨g, 0, none⟩ = some (.string q)) (h : sign_Same.f p q = some b) :
    Calls Tryd.prog 53 #[.string p, .pointer (some ⟨g, 0, none⟩)] W fun e W' => e = .returned (.bool b) ∧ Below W.heap.size W W' := by
  have A := Aside0.mk h
  clear h
  go_enter Tryd.func53, Tryd.ntmps53
  go_wp2_with (go_at_call 48; (with_reducible refine (sign_Same.calls p q b _ A.out).mono ?_); rintro e w' ⟨rfl, hb⟩)
  go_ret
  exact ⟨rfl, hb⟩
/-- does one of the texts stand there? -/
def field_Has.any : List ByteArray → ByteArray → Option Bool
  | [], _ => some false
  | p :: ps, q => (sign_Same.f p q).bind fun b => if b = true then some true else field_Has.any ps q
set_option maxHeartbeats 1000000 in
set_option maxRecDepth 100000 in
theorem field_Has.idx (g : Nat) (q : ByteArray) (r : Bool) (A : Option Addr) (c : Nat) (l : List ByteArray) (w : World) (hg : w.cell? ⟨g, 0, none⟩ = some (.string q)) (hr : Kd.C Kd.string w A l.length l) (h : field_Has.any l q = some r) :
    Calls Tryd.prog 75 #[.slice A l.length c, .func (.func 53) #[] #[.pointer (some ⟨g, 0, none⟩)]] w fun e w' => (∃ i : Int, e = .returned (.int .i64 i) ∧ decide (0 ≤ i) = r) ∧ Below w.heap.size w w' := by
  have HA := Aside0.mk h
  have HR := Aside0.mk hr
  have HG := Aside0.mk hg
  have hm : l.length ≤ 9223372036854775807 := hr.2.1
  clear h hr hg
  go_enter Tryd.func75, Tryd.ntmps75
  go_wp2
  go_loopw [8] (fun v8 wr => ∃ k : Nat, k ≤ l.length ∧ v8 = .int .i64 k ∧ Aside0 (field_Has.any (l.drop k) q = some r) ∧ Aside0 (Below w.heap.size w wr)) (fun v8 _ => l.length - (intOf v8).toNat)
  case atStart => exact ⟨0, Nat.zero_le _, rfl, HA, ⟨Below.refl _ _⟩⟩
  case round =>
    obtain ⟨k, hk, rfl, HK, HB⟩ := hrel
    clear HA
    by_cases hlt : k < l.length
    · have H := HK.out
      rw [List.drop_eq_getElem_cons hlt] at H
      simp only [field_Has.any] at H
      obtain ⟨b, hb, H⟩ := Option.bind_eq_some_iff.1 H
      have HS := Aside0.mk hb
      clear hb HK
      obtain ⟨ad, ead, hx⟩ := Kd.at_string HR.out (k : Int) (by omega) (by omega)
      cases ead
      replace hx := (HB.out.cell (World.block_lt_of_cell? w _ hx)).trans hx
      have hrd : rdOf ByteArray.empty l (k : Int) = l[k] := by
        unfold rdOf
        rw [Int.toNat_natCast, List.getD_eq_getElem?_getD, List.getElem?_eq_getElem hlt]; rfl
      rw [hrd, Int.toNat_natCast] at hx
      have hgc := (HB.out.cell (World.block_lt_of_cell? w _ HG.out)).trans HG.out
      generalize l[k] = p at *
      clear hrd
      cases b with
      | true =>
        have hT : true = r := by simpa using H
        subst hT
        clear H
        go_wp2_with (go_at_call 53; (with_reducible refine (field_Has.clo g p q true _ hgc HS.out).mono ?_); rintro e w' ⟨rfl, hb⟩)
        go_ret
        exact ⟨⟨(k : Int), rfl, by simp⟩, below_step HB.out hb⟩
      | false =>
        have HN : Aside0 (field_Has.any (l.drop (k + 1)) q = some r) := ⟨by simpa using H⟩
        clear H
        go_wp2_with (go_at_call 53; (with_reducible refine (field_Has.clo g p q false _ hgc HS.out).mono ?_); rintro e w' ⟨rfl, hb⟩)
        go_roundw
        case rel => exact ⟨k + 1, by omega, by go_num, HN, ⟨below_step HB.out hb⟩⟩
        case measure => simp [intOf]; omega
    · have hkl : k = l.length := by omega
      have H := HK.out
      rw [List.drop_of_length_le (by omega)] at H
      simp only [field_Has.any, Option.some.injEq] at H
      subst H
      clear HK hkl
      go_wp2
      go_ret
      exact ⟨⟨-1, rfl, rfl⟩, HB.out⟩
theorem field_Has.cont (g : Nat) (q : ByteArray) (r : Bool) (A : Option Addr) (c : Nat) (l : List ByteArray) (w : World) (hg : w.cell? ⟨g, 0, none⟩ = some (.string q)) (hr : Kd.C Kd.string w A l.length l) (h : field_Has.any l q = some r) :
    Calls Tryd.prog 52 #[.slice A l.length c, .func (.func 53) #[] #[.pointer (some ⟨g, 0, none⟩)]] w fun e w' => e = .returned (.bool r) ∧ Below w.heap.size w w' := by
  have HA := Aside0.mk h
  have HR := Aside0.mk hr
  clear h hr
  go_enter Tryd.func52, Tryd.ntmps52
  go_wp2_with (go_at_call 75; (with_reducible refine (field_Has.idx g q r A c l _ hg HR.out HA.out).mono ?_); rintro e w' ⟨⟨i, rfl, hi⟩, hb⟩)
  go_ret
  exact ⟨by rw [← hi]; rfl, hb⟩

def field_Has.f (k : Nat) (l0 : List S24) (a1 : ByteArray) (a2 : ByteArray) : Option Bool := (field_List.f k l0 a1).bind fun ps => field_Has.any ps a2
theorem field_Has.mono : ∀ a0 a1 a2 k, LeO (field_Has.f k a0 a1 a2) (field_Has.f (k + 1) a0 a1 a2) := fun a0 a1 _ k => LeO.bind (field_List.mono a0 a1 k) (fun _ => LeO.refl _)
set_option maxHeartbeats 1000000 in
set_option maxRecDepth 100000 in
theorem field_Has.calls (k : Nat) (A0 : Option Addr) (c0 : Nat) (l0 : List S24) (a1 : ByteArray) (a2 : ByteArray) (r : Bool) (w : World) (hr0 : Kd.C k24 w A0 l0.length l0) (hc0 : l0.length ≤ c0) (h : field_Has.f k l0 a1 a2 = some r) :
    Calls Tryd.prog 24 #[.slice A0 l0.length c0, .string a1, .string a2] w fun e w' => e = .returned (.bool r) ∧ Below w.heap.size w w' := by
  obtain ⟨ps, h1, h2⟩ := Option.bind_eq_some_iff.1 h
  have H1 := Aside0.mk h1
  have H2 := Aside0.mk h2
  have HR := Aside0.mk (Kd.C_below hr0 (below_alloc (Below.refl w.heap.size w) (.cells #[.string a2] 9)))
  have HC := Aside0.mk hc0
  clear h h1 h2 hr0 hc0
  go_enter Tryd.func24, Tryd.ntmps24
  go_wp2_with (first | (go_at_call 22; (with_reducible refine (field_List.calls k A0 c0 l0 a1 ps _ HR.out HC.out H1.out).mono ?_); rintro e w1 ⟨v, rfl, ho, hb⟩; obtain ⟨A1, c1, rfl, _, hC⟩ := Kd.R_reads ho; have HO := Aside0.mk hC; have HB := Aside0.mk hb; have HG : Aside0 (w1.cell? ⟨w.heap.size, 0, none⟩ = some (.string a2)) := ⟨(hb.cell (p := ⟨w.heap.size, 0, none⟩) (by simp)).trans ((blk_cell (heap_alloc_new w (.cells #[.string a2] 9)) 0).trans rfl)⟩; clear ho hb hC) | (go_at_call 52; (with_reducible refine (field_Has.cont w.heap.size a2 r A1 c1 ps _ HG.out HO.out H2.out).mono ?_); rintro e w2 ⟨rfl, hb2⟩))
  go_ret
  exact ⟨rfl, below_step (below_step (below_alloc (Below.refl _ _) _) HB.out) hb2⟩


/-! ### frame_Closes: function 37 -/
def frame_Closes.f (k : Nat) (l0 : List (S24)) (a1 : Int) : Option (Bool) := (field_Has.f k l0 (⟨#[67, 111, 110, 110, 101, 99, 116, 105, 111, 110]⟩ : ByteArray) (⟨#[99, 108, 111, 115, 101]⟩ : ByteArray)).bind fun t173 => (if t173 = true then (some true) else (if a1 = 0 then ((field_Has.f k l0 (⟨#[67, 111, 110, 110, 101, 99, 116, 105, 111, 110]⟩ : ByteArray) (⟨#[107, 101, 101, 112, 45, 97, 108, 105, 118, 101]⟩ : ByteArray)).bind fun t174 => (some (!t174))) else (some false)))
theorem frame_Closes.mono : ∀ a0 a1 k, LeO (frame_Closes.f k a0 a1) (frame_Closes.f (k + 1) a0 a1) := by
  intro a0 a1 k
  unfold frame_Closes.f
  repeat' first
      | (with_reducible exact field_Has.mono _ _ _ _)
      | (with_reducible exact LeO.refl _)
      | (with_reducible exact LeO.none _)
      | (with_reducible refine LeO.ite ?_ ?_)
      | (with_reducible refine LeO.bind ?_ (fun _ => ?_))
      | exact field_Has.mono _ _ _ _
      | exact LeO.none _
      | refine LeO.ite ?_ ?_
      | refine LeO.bind ?_ (fun _ => ?_)
set_option maxHeartbeats 8000000 in
set_option maxRecDepth 100000 in
theorem frame_Closes.calls (k : Nat) (A0 : Option Addr) (c0 : Nat) (l0 : List (S24)) (a1 : Int) (r : Bool) (w : World) (hr0 : Kd.C k24 w A0 l0.length l0) (hc0 : l0.length ≤ c0) (h : frame_Closes.f k l0 a1 = some r) :
    Calls Tryd.prog 37 #[.slice A0 l0.length c0, .int .i64 a1] w fun e w' => e = .returned (.bool r) ∧ Below w.heap.size w w' := by
  have HR0 := Aside0.mk hr0
  have HC0 := Aside0.mk hc0
  clear hr0 hc0
  have HB := Aside0.mk (Below.refl w.heap.size w)
  have H : ((field_Has.f k l0 (⟨#[67, 111, 110, 110, 101, 99, 116, 105, 111, 110]⟩ : ByteArray) (⟨#[99, 108, 111, 115, 101]⟩ : ByteArray)).bind fun t173 => (if t173 = true then (some true) else (if a1 = 0 then ((field_Has.f k l0 (⟨#[67, 111, 110, 110, 101, 99, 116, 105, 111, 110]⟩ : ByteArray) (⟨#[107, 101, 101, 112, 45, 97, 108, 105, 118, 101]⟩ : ByteArray)).bind fun t174 => (some (!t174))) else (some false)))) = some r := h
  clear h
  replace H := Option.bind_eq_some_iff.mp H
  obtain ⟨t173, A30, H⟩ := H
  replace H : (if t173 = true then (some true) else (if a1 = 0 then ((field_Has.f k l0 (⟨#[67, 111, 110, 110, 101, 99, 116, 105, 111, 110]⟩ : ByteArray) (⟨#[107, 101, 101, 112, 45, 97, 108, 105, 118, 101]⟩ : ByteArray)).bind fun t174 => (some (!t174))) else (some false))) = some r := H
  have A3 := Aside0.mk A30
  clear A30
  by_cases c4 : t173 = true
  · subst c4
    have H1 : (some true) = some r := by rw [if_pos rfl] at H; exact H
    clear H
    have H := H1
    clear H1
    obtain rfl := Option.some.inj H
    go_enter Tryd.func37, Tryd.ntmps37
    go_wp2_with (first | ((with_reducible refine gate_callee (f := 24) rfl ?_); refine goesL_ (some 6) rfl rfl Tryd.func24 (by kernel_rfl) rfl #[.slice A0 l0.length c0, .string (⟨#[67, 111, 110, 110, 101, 99, 116, 105, 111, 110]⟩ : ByteArray), .string (⟨#[99, 108, 111, 115, 101]⟩ : ByteArray)] rfl (by (try simp only [List.map_toArray, List.map_cons, List.map_nil]); first | done | rfl | (simp only [List.length_drop, List.length_take]; rfl)) ?_; (with_reducible refine (field_Has.calls k _ _ l0 (⟨#[67, 111, 110, 110, 101, 99, 116, 105, 111, 110]⟩ : ByteArray) (⟨#[99, 108, 111, 115, 101]⟩ : ByteArray) true _ ?side1 ?side2 A3.out).mono ?_); (case side1 => repeat (first | exact HR0.out | (with_reducible refine Kd.C_alloc ?_ _) | (with_reducible refine Kd.C_drewN ?_ _) | (with_reducible refine Kd.C_drew ?_))); (case side2 => exact HC0.out); rintro e w5 ⟨rfl, hb⟩; refine ⟨_, rfl, ?_⟩; have n0_ := Aside0.mk (below_step (by repeat (first | (with_reducible first | exact HB.out | apply below_alloc | apply pw_below_drewN | apply below_drew1) | exact HB.out)) hb); clear HB; have HB := n0_; clear n0_; (try clear hb); (try clear hb2); (try clear hk); (try clear hi)))
    go_ret
    exact ⟨by first | rfl | (simp [errW_none, errW_some] <;> rfl) | (simp [*, errW_none, errW_some] <;> rfl), by repeat (first | (with_reducible first | exact HB.out | apply below_alloc | apply pw_below_drewN | apply below_drew1) | exact HB.out)⟩
  · replace c4 := Bool.eq_false_iff.mpr c4
    subst c4
    have H1 : (if a1 = 0 then ((field_Has.f k l0 (⟨#[67, 111, 110, 110, 101, 99, 116, 105, 111, 110]⟩ : ByteArray) (⟨#[107, 101, 101, 112, 45, 97, 108, 105, 118, 101]⟩ : ByteArray)).bind fun t174 => (some (!t174))) else (some false)) = some r := by rw [if_neg (show ¬ (false = true) by decide)] at H; exact H
    clear H
    have H := H1
    clear H1
    by_cases c6 : a1 = 0
    · rw [if_pos c6] at H
      have c6b0 : (a1 == 0) = true := beq_iff_eq.mpr c6
      try (have c6z_ := c6; simp only [xsz_app, xsz_rest, xsz_mk, List.length_cons, List.length_nil, Nat.zero_add, Int.natCast_add] at c6z_)
      have c6b1 : (a1 != 0) = false := bne_eq_false_iff_eq.mpr c6
      clear c6
      replace H := Option.bind_eq_some_iff.mp H
      obtain ⟨t174, A70, H⟩ := H
      replace H : (some (!t174)) = some r := H
      have A7 := Aside0.mk A70
      clear A70
      obtain rfl := Option.some.inj H
      go_enter Tryd.func37, Tryd.ntmps37
      go_wp2_with (first | ((with_reducible refine gate_callee (f := 24) rfl ?_); refine goesL_ (some 6) rfl rfl Tryd.func24 (by kernel_rfl) rfl #[.slice A0 l0.length c0, .string (⟨#[67, 111, 110, 110, 101, 99, 116, 105, 111, 110]⟩ : ByteArray), .string (⟨#[99, 108, 111, 115, 101]⟩ : ByteArray)] rfl (by (try simp only [List.map_toArray, List.map_cons, List.map_nil]); first | done | rfl | (simp only [List.length_drop, List.length_take]; rfl)) ?_; (with_reducible refine (field_Has.calls k _ _ l0 (⟨#[67, 111, 110, 110, 101, 99, 116, 105, 111, 110]⟩ : ByteArray) (⟨#[99, 108, 111, 115, 101]⟩ : ByteArray) false _ ?side1 ?side2 A3.out).mono ?_); (case side1 => repeat (first | exact HR0.out | (with_reducible refine Kd.C_alloc ?_ _) | (with_reducible refine Kd.C_drewN ?_ _) | (with_reducible refine Kd.C_drew ?_))); (case side2 => exact HC0.out); rintro e w8 ⟨rfl, hb⟩; refine ⟨_, rfl, ?_⟩; have n0_ := Aside0.mk (below_step (by repeat (first | (with_reducible first | exact HB.out | apply below_alloc | apply pw_below_drewN | apply below_drew1) | exact HB.out)) hb); clear HB; have HB := n0_; clear n0_; (try clear hb); (try clear hb2); (try clear hk); (try clear hi)) | (go_at_call 24; (with_reducible refine (field_Has.calls k _ _ l0 (⟨#[67, 111, 110, 110, 101, 99, 116, 105, 111, 110]⟩ : ByteArray) (⟨#[107, 101, 101, 112, 45, 97, 108, 105, 118, 101]⟩ : ByteArray) t174 _ ?side1 ?side2 A7.out).mono ?_); (case side1 => repeat (first | exact (Kd.C_below HR0.out HB.out) | (with_reducible refine Kd.C_alloc ?_ _) | (with_reducible refine Kd.C_drewN ?_ _) | (with_reducible refine Kd.C_drew ?_))); (case side2 => exact HC0.out); rintro e w9 ⟨rfl, hb⟩; have n0_ := Aside0.mk (below_step (by repeat (first | (with_reducible first | exact HB.out | apply below_alloc | apply pw_below_drewN | apply below_drew1) | exact HB.out)) hb); clear HB; have HB := n0_; clear n0_; (try clear hb); (try clear hb2); (try clear hk); (try clear hi)))
      go_ret
      exact ⟨by first | rfl | (simp [errW_none, errW_some] <;> rfl) | (simp [*, errW_none, errW_some] <;> rfl), by repeat (first | (with_reducible first | exact HB.out | apply below_alloc | apply pw_below_drewN | apply below_drew1) | exact HB.out)⟩
    · rw [if_neg c6] at H
      have c6b0 : (a1 == 0) = false := beq_eq_false_iff_ne.mpr c6
      try (have c6z_ := c6; simp only [xsz_app, xsz_rest, xsz_mk, List.length_cons, List.length_nil, Nat.zero_add, Int.natCast_add] at c6z_)
      have c6b1 : (a1 != 0) = true := bne_iff_ne.mpr c6
      obtain rfl := Option.some.inj H
      go_enter Tryd.func37, Tryd.ntmps37
      go_wp2_with (first | ((with_reducible refine gate_callee (f := 24) rfl ?_); refine goesL_ (some 6) rfl rfl Tryd.func24 (by kernel_rfl) rfl #[.slice A0 l0.length c0, .string (⟨#[67, 111, 110, 110, 101, 99, 116, 105, 111, 110]⟩ : ByteArray), .string (⟨#[99, 108, 111, 115, 101]⟩ : ByteArray)] rfl (by (try simp only [List.map_toArray, List.map_cons, List.map_nil]); first | done | rfl | (simp only [List.length_drop, List.length_take]; rfl)) ?_; (with_reducible refine (field_Has.calls k _ _ l0 (⟨#[67, 111, 110, 110, 101, 99, 116, 105, 111, 110]⟩ : ByteArray) (⟨#[99, 108, 111, 115, 101]⟩ : ByteArray) false _ ?side1 ?side2 A3.out).mono ?_); (case side1 => repeat (first | exact HR0.out | (with_reducible refine Kd.C_alloc ?_ _) | (with_reducible refine Kd.C_drewN ?_ _) | (with_reducible refine Kd.C_drew ?_))); (case side2 => exact HC0.out); rintro e w10 ⟨rfl, hb⟩; refine ⟨_, rfl, ?_⟩; have n0_ := Aside0.mk (below_step (by repeat (first | (with_reducible first | exact HB.out | apply below_alloc | apply pw_below_drewN | apply below_drew1) | exact HB.out)) hb); clear HB; have HB := n0_; clear n0_; (try clear hb); (try clear hb2); (try clear hk); (try clear hi)))
      go_ret
      exact ⟨by first | rfl | (simp [errW_none, errW_some] <;> rfl) | (simp [*, errW_none, errW_some] <;> rfl), by repeat (first | (with_reducible first | exact HB.out | apply below_alloc | apply pw_below_drewN | apply below_drew1) | exact HB.out)⟩

/-! ### frame_Response: function 39 -/
def frame_Response.j0 : Nat → Bool → Int → ByteArray → Int → List (S24) → List Int → Option (Int × Int × Bool)
  | 0, _, _, _, _, _, _ => none
  | k + 1, x26, x176000, x176001, x176002, x176003, x176004 => if x26 = true then (some (0, 0, true)) else ((frame_Request.f k x176003 x176002).bind fun bt176 => (if bt176.2.2 = 0 then (if bt176.2.1 = true then (some (2, 0, true)) else ((frame_there.f k x176003 (⟨#[67, 111, 110, 116, 101, 110, 116, 45, 76, 101, 110, 103, 116, 104]⟩ : ByteArray)).bind fun t179 => (if t179 = true then (some (1, bt176.1, true)) else (some (3, 0, true))))) else (some (0, 0, false))))
def frame_Response.f (k : Nat) (a0 : ByteArray) (a1_0 : Int) (a1_1 : ByteArray) (a1_2 : Int) (l1_3 : List (S24)) (l1_4 : List Int) : Option (Int × Int × Bool) := if a0.toList = ([72, 69, 65, 68] : List UInt8) then (frame_Response.j0 k true a1_0 a1_1 a1_2 l1_3 l1_4) else (if a1_0 < 200 then (frame_Response.j0 k true a1_0 a1_1 a1_2 l1_3 l1_4) else (if a1_0 = 204 then (frame_Response.j0 k true a1_0 a1_1 a1_2 l1_3 l1_4) else (frame_Response.j0 k (a1_0 == 304) a1_0 a1_1 a1_2 l1_3 l1_4)))
theorem frame_Response.mono_l : ∀ k, (∀ y0 y1 y2 y3 y4 y5, LeO (frame_Response.j0 k y0 y1 y2 y3 y4 y5) (frame_Response.j0 (k + 1) y0 y1 y2 y3 y4 y5))
  | 0 => fun _ _ _ _ _ _ r h => by simp [frame_Response.j0] at h
  | k + 1 => by
    have ih0 := frame_Response.mono_l k
    · intro y0 y1 y2 y3 y4 y5
      unfold frame_Response.j0
      repeat' first
      | (with_reducible exact ih0 _ _ _ _ _ _)
      | (with_reducible exact frame_Request.mono _ _ _)
      | (with_reducible exact frame_there.mono _ _ _)
      | (with_reducible exact LeO.refl _)
      | (with_reducible exact LeO.none _)
      | (with_reducible refine LeO.ite ?_ ?_)
      | (with_reducible refine LeO.bind ?_ (fun _ => ?_))
      | exact ih0 _ _ _ _ _ _
      | exact frame_Request.mono _ _ _
      | exact frame_there.mono _ _ _
      | exact LeO.none _
      | refine LeO.ite ?_ ?_
      | refine LeO.bind ?_ (fun _ => ?_)
theorem frame_Response.mono : ∀ a0 a1 a2 a3 a4 a5 k, LeO (frame_Response.f k a0 a1 a2 a3 a4 a5) (frame_Response.f (k + 1) a0 a1 a2 a3 a4 a5) := by
  intro a0 a1 a2 a3 a4 a5 k
  have ih0 := frame_Response.mono_l k
  unfold frame_Response.f
  repeat' first
      | (with_reducible exact ih0 _ _ _ _ _ _)
      | (with_reducible exact frame_Request.mono _ _ _)
      | (with_reducible exact frame_there.mono _ _ _)
      | (with_reducible exact LeO.refl _)
      | (with_reducible exact LeO.none _)
      | (with_reducible refine LeO.ite ?_ ?_)
      | (with_reducible refine LeO.bind ?_ (fun _ => ?_))
      | exact ih0 _ _ _ _ _ _
      | exact frame_Request.mono _ _ _
      | exact frame_there.mono _ _ _
      | exact LeO.none _
      | refine LeO.ite ?_ ?_
      | refine LeO.bind ?_ (fun _ => ?_)
set_option maxHeartbeats 8000000 in
set_option maxRecDepth 100000 in
theorem frame_Response.calls (k : Nat) (a0 : ByteArray) (a1_0 : Int) (a1_1 : ByteArray) (a1_2 : Int) (A1_3 : Option Addr) (c1_3 : Nat) (l1_3 : List (S24)) (A1_4 : Option Addr) (c1_4 : Nat) (l1_4 : List Int) (r1 : Int) (r2 : Int) (r3 : Bool) (w : World) (hr1_3 : Kd.C k24 w A1_3 l1_3.length l1_3) (hc1_3 : l1_3.length ≤ c1_3) (hr1_4 : Kd.C (Kd.int .u8) w A1_4 l1_4.length l1_4) (hc1_4 : l1_4.length ≤ c1_4) (h : frame_Response.f k a0 a1_0 a1_1 a1_2 l1_3 l1_4 = some (r1, r2, r3)) :
    Calls Tryd.prog 39 #[.string a0, .agg #[.int .i64 a1_0, .string a1_1, .int .i64 a1_2, .slice A1_3 l1_3.length c1_3, .slice A1_4 l1_4.length c1_4]] w fun e w' => e = .returned (.tuple #[.int .i64 r1, .int .i64 r2, .bool r3]) ∧ Below w.heap.size w w' := by
  have hu53 := Tryd.underlying53
  have HR1_3 := Aside0.mk hr1_3
  have HC1_3 := Aside0.mk hc1_3
  clear hr1_3 hc1_3
  have HR1_4 := Aside0.mk hr1_4
  have HC1_4 := Aside0.mk hc1_4
  clear hr1_4 hc1_4
  have HB := Aside0.mk (Below.refl w.heap.size w)
  have H : (if a0.toList = ([72, 69, 65, 68] : List UInt8) then (frame_Response.j0 k true a1_0 a1_1 a1_2 l1_3 l1_4) else (if a1_0 < 200 then (frame_Response.j0 k true a1_0 a1_1 a1_2 l1_3 l1_4) else (if a1_0 = 204 then (frame_Response.j0 k true a1_0 a1_1 a1_2 l1_3 l1_4) else (frame_Response.j0 k (a1_0 == 304) a1_0 a1_1 a1_2 l1_3 l1_4)))) = some (r1, r2, r3) := h
  clear h
  have HC3 := Aside0.mk H
  clear H
  go_enter Tryd.func39, Tryd.ntmps39
  go_upto_region 1 with (first | ((with_reducible refine gate_dst (N := 3) rfl ?_); refine box_event ?hg (N := 3) ?hd (cs := #[.int .i64 a1_0, .string a1_1, .int .i64 a1_2, .slice A1_3 l1_3.length c1_3, .slice A1_4 l1_4.length c1_4]) (t := 53) ?hr ?_; (case hd => rfl); (case hg => rfl); (case hr => first | (go_simp; done) | (go_simp; rfl)); intro gb175 hg w4 hbox hb; have n0_ := Aside0.mk (below_step (by repeat (first | (with_reducible first | exact HB.out | apply below_alloc | apply pw_below_drewN | apply below_drew1) | exact HB.out)) hb); have n1_ := Aside0.mk (hbox); have n2_ := Aside0.mk ((by rw [hg]; exact (below_size (by repeat (first | (with_reducible first | exact HB.out | apply below_alloc | apply pw_below_drewN | apply below_drew1) | exact HB.out))) : w.heap.size ≤ gb175)); have n3_ := Aside0.mk ((by rw [hg]; exact (below_size (by repeat (first | (with_reducible first | exact HB.out | apply below_alloc | apply pw_below_drewN | apply below_drew1) | exact HB.out))) : w.heap.size ≤ gb175)); clear HB; have HB := n0_; have BK175 := n1_; have GW175 := n2_; have GE175 := n3_; clear n0_ n1_ n2_ n3_; clear hb hbox hg))
  (try simp only [Act.put, List.setIfInBounds_toArray, List.set_cons_zero, List.set_cons_succ])
  go_cut [26] (fun v26 wc => ∃ (kq : Nat) (x26_2 : Bool), v26 = .bool x26_2 ∧ Aside0 (frame_Response.j0 kq x26_2 a1_0 a1_1 a1_2 l1_3 l1_4 = some (r1, r2, r3)) ∧ Aside0 (kq ≤ k) ∧ Aside0 (wc.heap[gb175]? = some (.cells #[.int .i64 a1_0, .string a1_1, .int .i64 a1_2, (.slice A1_3 l1_3.length c1_3), (.slice A1_4 l1_4.length c1_4)] 53 (0, 0))) ∧ Aside0 (Below w.heap.size w wc))
  case first =>
    have H := HC3.out
    clear HC3
    by_cases c5 : a0.toList = ([72, 69, 65, 68] : List UInt8)
    · rw [if_pos c5] at H
      have c5b0 : (a0.toList == ([72, 69, 65, 68] : List UInt8)) = true := beq_iff_eq.mpr c5
      have c5b1 : (a0.toList != ([72, 69, 65, 68] : List UInt8)) = false := bne_eq_false_iff_eq.mpr c5
      clear c5
      (first | rw [c5b0] | (simp only [i64_w, i32_w]; rw [c5b0]) | skip)
      have H' := Aside0.mk H
      clear H
      go_wp2
      go_meet
      case rel => exact ⟨_, (true), (by first | rfl | (simp; done) | (simp [*]; done)), H', ⟨by first | omega | exact Nat.le_refl _⟩, ⟨by (with_reducible repeat (first | refine blk_drewN ?_ _ | refine blk_drew ?_ | refine blk_alloc ?_ _)); exact BK175.out⟩, ⟨by repeat (first | (with_reducible first | exact HB.out | apply below_alloc | apply pw_below_drewN | apply below_drew1 | refine below_set ?_ GE175.out) | exact HB.out)⟩⟩
    · rw [if_neg c5] at H
      have c5b0 : (a0.toList == ([72, 69, 65, 68] : List UInt8)) = false := beq_eq_false_iff_ne.mpr c5
      have c5b1 : (a0.toList != ([72, 69, 65, 68] : List UInt8)) = true := bne_iff_ne.mpr c5
      (first | rw [c5b0] | (simp only [i64_w, i32_w]; rw [c5b0]) | skip)
      by_cases c6 : a1_0 < 200
      · rw [if_pos c6] at H
        have c6b0 : decide (a1_0 < 200) = true := decide_eq_true c6
        clear c6
        have H' := Aside0.mk H
        clear H
        have hcz7_0 : w4.cell? ⟨gb175, 0, none⟩ = some (.int .i64 a1_0) := (blk_cell BK175.out 0).trans rfl
        have hcz7_1 : w4.cell? ⟨gb175, 1, none⟩ = some (.string a1_1) := (blk_cell BK175.out 1).trans rfl
        have hcz7_2 : w4.cell? ⟨gb175, 2, none⟩ = some (.int .i64 a1_2) := (blk_cell BK175.out 2).trans rfl
        have hcz7_3 : w4.cell? ⟨gb175, 3, none⟩ = some (.slice A1_3 l1_3.length c1_3) := (blk_cell BK175.out 3).trans rfl
        have hcz7_4 : w4.cell? ⟨gb175, 4, none⟩ = some (.slice A1_4 l1_4.length c1_4) := (blk_cell BK175.out 4).trans rfl
        have hfz7_0 := blk_frozen BK175.out 0
        have hfz7_1 := blk_frozen BK175.out 1
        have hfz7_2 := blk_frozen BK175.out 2
        have hfz7_3 := blk_frozen BK175.out 3
        have hfz7_4 := blk_frozen BK175.out 4
        go_wp2
        go_meet
        case rel => exact ⟨_, (true), (by first | rfl | (simp; done) | (simp [*]; done)), H', ⟨by first | omega | exact Nat.le_refl _⟩, ⟨by (with_reducible repeat (first | refine blk_drewN ?_ _ | refine blk_drew ?_ | refine blk_alloc ?_ _)); exact BK175.out⟩, ⟨by repeat (first | (with_reducible first | exact HB.out | apply below_alloc | apply pw_below_drewN | apply below_drew1 | refine below_set ?_ GE175.out) | exact HB.out)⟩⟩
      · rw [if_neg c6] at H
        have c6b0 : decide (a1_0 < 200) = false := decide_eq_false c6
        clear c6
        by_cases c8 : a1_0 = 204
        · rw [if_pos c8] at H
          have c8b0 : (a1_0 == 204) = true := beq_iff_eq.mpr c8
          have c8b1 : (a1_0 != 204) = false := bne_eq_false_iff_eq.mpr c8
          clear c8
          have H' := Aside0.mk H
          clear H
          have hcz9_0 : w4.cell? ⟨gb175, 0, none⟩ = some (.int .i64 a1_0) := (blk_cell BK175.out 0).trans rfl
          have hcz9_1 : w4.cell? ⟨gb175, 1, none⟩ = some (.string a1_1) := (blk_cell BK175.out 1).trans rfl
          have hcz9_2 : w4.cell? ⟨gb175, 2, none⟩ = some (.int .i64 a1_2) := (blk_cell BK175.out 2).trans rfl
          have hcz9_3 : w4.cell? ⟨gb175, 3, none⟩ = some (.slice A1_3 l1_3.length c1_3) := (blk_cell BK175.out 3).trans rfl
          have hcz9_4 : w4.cell? ⟨gb175, 4, none⟩ = some (.slice A1_4 l1_4.length c1_4) := (blk_cell BK175.out 4).trans rfl
          have hfz9_0 := blk_frozen BK175.out 0
          have hfz9_1 := blk_frozen BK175.out 1
          have hfz9_2 := blk_frozen BK175.out 2
          have hfz9_3 := blk_frozen BK175.out 3
          have hfz9_4 := blk_frozen BK175.out 4
          go_wp2
          go_meet
          case rel => exact ⟨_, (true), (by first | rfl | (simp; done) | (simp [*]; done)), H', ⟨by first | omega | exact Nat.le_refl _⟩, ⟨by (with_reducible repeat (first | refine blk_drewN ?_ _ | refine blk_drew ?_ | refine blk_alloc ?_ _)); exact BK175.out⟩, ⟨by repeat (first | (with_reducible first | exact HB.out | apply below_alloc | apply pw_below_drewN | apply below_drew1 | refine below_set ?_ GE175.out) | exact HB.out)⟩⟩
        · rw [if_neg c8] at H
          have c8b0 : (a1_0 == 204) = false := beq_eq_false_iff_ne.mpr c8
          have c8b1 : (a1_0 != 204) = true := bne_iff_ne.mpr c8
          have H' := Aside0.mk H
          clear H
          have hcz10_0 : w4.cell? ⟨gb175, 0, none⟩ = some (.int .i64 a1_0) := (blk_cell BK175.out 0).trans rfl
          have hcz10_1 : w4.cell? ⟨gb175, 1, none⟩ = some (.string a1_1) := (blk_cell BK175.out 1).trans rfl
          have hcz10_2 : w4.cell? ⟨gb175, 2, none⟩ = some (.int .i64 a1_2) := (blk_cell BK175.out 2).trans rfl
          have hcz10_3 : w4.cell? ⟨gb175, 3, none⟩ = some (.slice A1_3 l1_3.length c1_3) := (blk_cell BK175.out 3).trans rfl
          have hcz10_4 : w4.cell? ⟨gb175, 4, none⟩ = some (.slice A1_4 l1_4.length c1_4) := (blk_cell BK175.out 4).trans rfl
          have hfz10_0 := blk_frozen BK175.out 0
          have hfz10_1 := blk_frozen BK175.out 1
          have hfz10_2 := blk_frozen BK175.out 2
          have hfz10_3 := blk_frozen BK175.out 3
          have hfz10_4 := blk_frozen BK175.out 4
          go_wp2
          go_meet
          case rel => exact ⟨_, ((a1_0 == 304)), (by first | rfl | (simp; done) | (simp [*]; done)), H', ⟨by first | omega | exact Nat.le_refl _⟩, ⟨by (with_reducible repeat (first | refine blk_drewN ?_ _ | refine blk_drew ?_ | refine blk_alloc ?_ _)); exact BK175.out⟩, ⟨by repeat (first | (with_reducible first | exact HB.out | apply below_alloc | apply pw_below_drewN | apply below_drew1 | refine below_set ?_ GE175.out) | exact HB.out)⟩⟩
  case rest =>
    clear HC3
    try clear c1
    try clear p2
    try clear c3
    try clear c5
    try clear c5b0
    try clear c5b1
    try clear c6
    try clear c6b0
    try clear c8
    try clear c8b0
    try clear c8b1
    try clear hcz10_0
    try clear hcz10_1
    try clear hcz10_2
    try clear hcz10_3
    try clear hcz10_4
    try clear hcz7_0
    try clear hcz7_1
    try clear hcz7_2
    try clear hcz7_3
    try clear hcz7_4
    try clear hcz9_0
    try clear hcz9_1
    try clear hcz9_2
    try clear hcz9_3
    try clear hcz9_4
    try clear hfz10_0
    try clear hfz10_1
    try clear hfz10_2
    try clear hfz10_3
    try clear hfz10_4
    try clear hfz7_0
    try clear hfz7_1
    try clear hfz7_2
    try clear hfz7_3
    try clear hfz7_4
    try clear hfz9_0
    try clear hfz9_1
    try clear hfz9_2
    try clear hfz9_3
    try clear hfz9_4
    obtain ⟨kq, x26_2, rfl, HA, HJ2, BK175, HB⟩ := hcut
    cases kq with
    | zero => exact absurd HA.out (by simp [frame_Response.j0])
    | succ kj2 =>
      have H := HA.out
      clear HA
      simp only [frame_Response.j0] at H
      by_cases c11 : x26_2 = true
      · subst c11
        have H1 : (some (0, 0, true)) = some (r1, r2, r3) := by rw [if_pos rfl] at H; exact H
        clear H
        have H := H1
        clear H1
        simp only [Option.some.injEq, Prod.mk.injEq] at H
        obtain ⟨rfl, rfl, rfl⟩ := H
        go_wp2
        go_ret3
        exact ⟨by first | rfl | (simp [errW_none, errW_some] <;> rfl) | (simp [*, errW_none, errW_some] <;> rfl), by repeat (first | (with_reducible first | exact HB.out | apply below_alloc | apply pw_below_drewN | apply below_drew1 | refine below_set ?_ GE175.out) | exact HB.out)⟩
      · replace c11 := Bool.eq_false_iff.mpr c11
        subst c11
        have H1 : ((frame_Request.f kj2 l1_3 a1_2).bind fun bt176 => (if bt176.2.2 = 0 then (if bt176.2.1 = true then (some (2, 0, true)) else ((frame_there.f kj2 l1_3 (⟨#[67, 111, 110, 116, 101, 110, 116, 45, 76, 101, 110, 103, 116, 104]⟩ : ByteArray)).bind fun t179 => (if t179 = true then (some (1, bt176.1, true)) else (some (3, 0, true))))) else (some (0, 0, false)))) = some (r1, r2, r3) := by rw [if_neg (show ¬ (false = true) by decide)] at H; exact H
        clear H
        have H := H1
        clear H1
        replace H := Option.bind_eq_some_iff.mp H
        obtain ⟨⟨t176, t177, t178⟩, A120, H⟩ := H
        replace H : (if t178 = 0 then (if t177 = true then (some (2, 0, true)) else ((frame_there.f kj2 l1_3 (⟨#[67, 111, 110, 116, 101, 110, 116, 45, 76, 101, 110, 103, 116, 104]⟩ : ByteArray)).bind fun t179 => (if t179 = true then (some (1, t176, true)) else (some (3, 0, true))))) else (some (0, 0, false))) = some (r1, r2, r3) := H
        have A12 := Aside0.mk A120
        clear A120
        by_cases c13 : t178 = 0
        · rw [if_pos c13] at H
          have c13b0 : (t178 == 0) = true := beq_iff_eq.mpr c13
          have c13b1 : (t178 != 0) = false := bne_eq_false_iff_eq.mpr c13
          clear c13
          by_cases c14 : t177 = true
          · subst c14
            have H1 : (some (2, 0, true)) = some (r1, r2, r3) := by rw [if_pos rfl] at H; exact H
            clear H
            have H := H1
            clear H1
            simp only [Option.some.injEq, Prod.mk.injEq] at H
            obtain ⟨rfl, rfl, rfl⟩ := H
            have hcz15_0 : wc.cell? ⟨gb175, 0, none⟩ = some (.int .i64 a1_0) := (blk_cell BK175.out 0).trans rfl
            have hcz15_1 : wc.cell? ⟨gb175, 1, none⟩ = some (.string a1_1) := (blk_cell BK175.out 1).trans rfl
            have hcz15_2 : wc.cell? ⟨gb175, 2, none⟩ = some (.int .i64 a1_2) := (blk_cell BK175.out 2).trans rfl
            have hcz15_3 : wc.cell? ⟨gb175, 3, none⟩ = some (.slice A1_3 l1_3.length c1_3) := (blk_cell BK175.out 3).trans rfl
            have hcz15_4 : wc.cell? ⟨gb175, 4, none⟩ = some (.slice A1_4 l1_4.length c1_4) := (blk_cell BK175.out 4).trans rfl
            have hfz15_0 := blk_frozen BK175.out 0
            have hfz15_1 := blk_frozen BK175.out 1
            have hfz15_2 := blk_frozen BK175.out 2
            have hfz15_3 := blk_frozen BK175.out 3
            have hfz15_4 := blk_frozen BK175.out 4
            go_wp2_with (first | ((with_reducible refine gate_callee (f := 35) rfl ?_); refine goesL_ (some 32) rfl rfl Tryd.func35 (by kernel_rfl) rfl #[.slice A1_3 l1_3.length c1_3, .int .i64 a1_2] rfl (by (try simp only [List.map_toArray, List.map_cons, List.map_nil]); first | done | rfl | (simp only [List.length_drop, List.length_take]; rfl)) ?_; (with_reducible refine (frame_Request.calls kj2 _ _ l1_3 a1_2 t176 true t178 _ ?side1 ?side2 A12.out).mono ?_); (case side1 => repeat (first | exact (Kd.C_below HR1_3.out HB.out) | (with_reducible refine Kd.C_alloc ?_ _) | (with_reducible refine Kd.C_drewN ?_ _) | (with_reducible refine Kd.C_drew ?_))); (case side2 => exact HC1_3.out); rintro e w16 ⟨rfl, hb⟩; refine ⟨_, rfl, ?_⟩; have n0_ := Aside0.mk (blk_below (g := gb175) (o := .cells #[.int .i64 a1_0, .string a1_1, .int .i64 a1_2, .slice A1_3 l1_3.length c1_3, .slice A1_4 l1_4.length c1_4] 53 (0, 0)) (by (with_reducible repeat (first | refine blk_drewN ?_ _ | refine blk_drew ?_ | refine blk_alloc ?_ _)); exact BK175.out) hb); have n1_ := Aside0.mk (below_step (by repeat (first | (with_reducible first | exact HB.out | apply below_alloc | apply pw_below_drewN | apply below_drew1 | refine below_set ?_ GE175.out) | exact HB.out)) hb); clear BK175; clear HB; have BK175 := n0_; have HB := n1_; clear n0_ n1_; (try clear hb); (try clear hb2); (try clear hk); (try clear hi)))
            go_ret3
            exact ⟨by first | rfl | (simp [errW_none, errW_some] <;> rfl) | (simp [*, errW_none, errW_some] <;> rfl), by repeat (first | (with_reducible first | exact HB.out | apply below_alloc | apply pw_below_drewN | apply below_drew1 | refine below_set ?_ GE175.out) | exact HB.out)⟩
          · replace c14 := Bool.eq_false_iff.mpr c14
            subst c14
            have H1 : ((frame_there.f kj2 l1_3 (⟨#[67, 111, 110, 116, 101, 110, 116, 45, 76, 101, 110, 103, 116, 104]⟩ : ByteArray)).bind fun t179 => (if t179 = true then (some (1, t176, true)) else (some (3, 0, true)))) = some (r1, r2, r3) := by rw [if_neg (show ¬ (false = true) by decide)] at H; exact H
            clear H
            have H := H1
            clear H1
            replace H := Option.bind_eq_some_iff.mp H
            obtain ⟨t179, A170, H⟩ := H
            replace H : (if t179 = true then (some (1, t176, true)) else (some (3, 0, true))) = some (r1, r2, r3) := H
            have A17 := Aside0.mk A170
            clear A170
            by_cases c18 : t179 = true
            · subst c18
              have H1 : (some (1, t176, true)) = some (r1, r2, r3) := by rw [if_pos rfl] at H; exact H
              clear H
              have H := H1
              clear H1
              simp only [Option.some.injEq, Prod.mk.injEq] at H
              obtain ⟨rfl, rfl, rfl⟩ := H
              have hcz19_0 : wc.cell? ⟨gb175, 0, none⟩ = some (.int .i64 a1_0) := (blk_cell BK175.out 0).trans rfl
              have hcz19_1 : wc.cell? ⟨gb175, 1, none⟩ = some (.string a1_1) := (blk_cell BK175.out 1).trans rfl
              have hcz19_2 : wc.cell? ⟨gb175, 2, none⟩ = some (.int .i64 a1_2) := (blk_cell BK175.out 2).trans rfl
              have hcz19_3 : wc.cell? ⟨gb175, 3, none⟩ = some (.slice A1_3 l1_3.length c1_3) := (blk_cell BK175.out 3).trans rfl
              have hcz19_4 : wc.cell? ⟨gb175, 4, none⟩ = some (.slice A1_4 l1_4.length c1_4) := (blk_cell BK175.out 4).trans rfl
              have hfz19_0 := blk_frozen BK175.out 0
              have hfz19_1 := blk_frozen BK175.out 1
              have hfz19_2 := blk_frozen BK175.out 2
              have hfz19_3 := blk_frozen BK175.out 3
              have hfz19_4 := blk_frozen BK175.out 4
              go_wp2_with (first | ((with_reducible refine gate_callee (f := 35) rfl ?_); refine goesL_ (some 32) rfl rfl Tryd.func35 (by kernel_rfl) rfl #[.slice A1_3 l1_3.length c1_3, .int .i64 a1_2] rfl (by (try simp only [List.map_toArray, List.map_cons, List.map_nil]); first | done | rfl | (simp only [List.length_drop, List.length_take]; rfl)) ?_; (with_reducible refine (frame_Request.calls kj2 _ _ l1_3 a1_2 t176 false t178 _ ?side1 ?side2 A12.out).mono ?_); (case side1 => repeat (first | exact (Kd.C_below HR1_3.out HB.out) | (with_reducible refine Kd.C_alloc ?_ _) | (with_reducible refine Kd.C_drewN ?_ _) | (with_reducible refine Kd.C_drew ?_))); (case side2 => exact HC1_3.out); rintro e w20 ⟨rfl, hb⟩; refine ⟨_, rfl, ?_⟩; have n0_ := Aside0.mk (blk_below (g := gb175) (o := .cells #[.int .i64 a1_0, .string a1_1, .int .i64 a1_2, .slice A1_3 l1_3.length c1_3, .slice A1_4 l1_4.length c1_4] 53 (0, 0)) (by (with_reducible repeat (first | refine blk_drewN ?_ _ | refine blk_drew ?_ | refine blk_alloc ?_ _)); exact BK175.out) hb); have n1_ := Aside0.mk (below_step (by repeat (first | (with_reducible first | exact HB.out | apply below_alloc | apply pw_below_drewN | apply below_drew1 | refine below_set ?_ GE175.out) | exact HB.out)) hb); clear BK175; clear HB; have BK175 := n0_; have HB := n1_; clear n0_ n1_; (try clear hb); (try clear hb2); (try clear hk); (try clear hi); have hcz21_0 : w20.cell? ⟨gb175, 0, none⟩ = some (.int .i64 a1_0) := (blk_cell BK175.out 0).trans rfl; have hcz21_1 : w20.cell? ⟨gb175, 1, none⟩ = some (.string a1_1) := (blk_cell BK175.out 1).trans rfl; have hcz21_2 : w20.cell? ⟨gb175, 2, none⟩ = some (.int .i64 a1_2) := (blk_cell BK175.out 2).trans rfl; have hcz21_3 : w20.cell? ⟨gb175, 3, none⟩ = some (.slice A1_3 l1_3.length c1_3) := (blk_cell BK175.out 3).trans rfl; have hcz21_4 : w20.cell? ⟨gb175, 4, none⟩ = some (.slice A1_4 l1_4.length c1_4) := (blk_cell BK175.out 4).trans rfl; have hfz21_0 := blk_frozen BK175.out 0; have hfz21_1 := blk_frozen BK175.out 1; have hfz21_2 := blk_frozen BK175.out 2; have hfz21_3 := blk_frozen BK175.out 3; have hfz21_4 := blk_frozen BK175.out 4) | ((with_reducible refine gate_callee (f := 60) rfl ?_); refine goesL_ (some 44) rfl rfl Tryd.func60 (by kernel_rfl) rfl #[.slice A1_3 l1_3.length c1_3, .string (⟨#[67, 111, 110, 116, 101, 110, 116, 45, 76, 101, 110, 103, 116, 104]⟩ : ByteArray)] rfl (by (try simp only [List.map_toArray, List.map_cons, List.map_nil]); first | done | rfl | (simp only [List.length_drop, List.length_take]; rfl)) ?_; (with_reducible refine (frame_there.calls kj2 _ _ l1_3 (⟨#[67, 111, 110, 116, 101, 110, 116, 45, 76, 101, 110, 103, 116, 104]⟩ : ByteArray) true _ ?side1 ?side2 A17.out).mono ?_); (case side1 => repeat (first | exact (Kd.C_below HR1_3.out HB.out) | (with_reducible refine Kd.C_alloc ?_ _) | (with_reducible refine Kd.C_drewN ?_ _) | (with_reducible refine Kd.C_drew ?_))); (case side2 => exact HC1_3.out); rintro e w22 ⟨rfl, hb⟩; refine ⟨_, rfl, ?_⟩; have n0_ := Aside0.mk (blk_below (g := gb175) (o := .cells #[.int .i64 a1_0, .string a1_1, .int .i64 a1_2, .slice A1_3 l1_3.length c1_3, .slice A1_4 l1_4.length c1_4] 53 (0, 0)) (by (with_reducible repeat (first | refine blk_drewN ?_ _ | refine blk_drew ?_ | refine blk_alloc ?_ _)); exact BK175.out) hb); have n1_ := Aside0.mk (below_step (by repeat (first | (with_reducible first | exact HB.out | apply below_alloc | apply pw_below_drewN | apply below_drew1 | refine below_set ?_ GE175.out) | exact HB.out)) hb); clear BK175; clear HB; have BK175 := n0_; have HB := n1_; clear n0_ n1_; (try clear hb); (try clear hb2); (try clear hk); (try clear hi)))
              go_ret3
              exact ⟨by first | rfl | (simp [errW_none, errW_some] <;> rfl) | (simp [*, errW_none, errW_some] <;> rfl), by repeat (first | (with_reducible first | exact HB.out | apply below_alloc | apply pw_below_drewN | apply below_drew1 | refine below_set ?_ GE175.out) | exact HB.out)⟩
            · replace c18 := Bool.eq_false_iff.mpr c18
              subst c18
              have H1 : (some (3, 0, true)) = some (r1, r2, r3) := by rw [if_neg (show ¬ (false = true) by decide)] at H; exact H
              clear H
              have H := H1
              clear H1
              simp only [Option.some.injEq, Prod.mk.injEq] at H
              obtain ⟨rfl, rfl, rfl⟩ := H
              have hcz23_0 : wc.cell? ⟨gb175, 0, none⟩ = some (.int .i64 a1_0) := (blk_cell BK175.out 0).trans rfl
              have hcz23_1 : wc.cell? ⟨gb175, 1, none⟩ = some (.string a1_1) := (blk_cell BK175.out 1).trans rfl
              have hcz23_2 : wc.cell? ⟨gb175, 2, none⟩ = some (.int .i64 a1_2) := (blk_cell BK175.out 2).trans rfl
              have hcz23_3 : wc.cell? ⟨gb175, 3, none⟩ = some (.slice A1_3 l1_3.length c1_3) := (blk_cell BK175.out 3).trans rfl
              have hcz23_4 : wc.cell? ⟨gb175, 4, none⟩ = some (.slice A1_4 l1_4.length c1_4) := (blk_cell BK175.out 4).trans rfl
              have hfz23_0 := blk_frozen BK175.out 0
              have hfz23_1 := blk_frozen BK175.out 1
              have hfz23_2 := blk_frozen BK175.out 2
              have hfz23_3 := blk_frozen BK175.out 3
              have hfz23_4 := blk_frozen BK175.out 4
              go_wp2_with (first | ((with_reducible refine gate_callee (f := 35) rfl ?_); refine goesL_ (some 32) rfl rfl Tryd.func35 (by kernel_rfl) rfl #[.slice A1_3 l1_3.length c1_3, .int .i64 a1_2] rfl (by (try simp only [List.map_toArray, List.map_cons, List.map_nil]); first | done | rfl | (simp only [List.length_drop, List.length_take]; rfl)) ?_; (with_reducible refine (frame_Request.calls kj2 _ _ l1_3 a1_2 t176 false t178 _ ?side1 ?side2 A12.out).mono ?_); (case side1 => repeat (first | exact (Kd.C_below HR1_3.out HB.out) | (with_reducible refine Kd.C_alloc ?_ _) | (with_reducible refine Kd.C_drewN ?_ _) | (with_reducible refine Kd.C_drew ?_))); (case side2 => exact HC1_3.out); rintro e w24 ⟨rfl, hb⟩; refine ⟨_, rfl, ?_⟩; have n0_ := Aside0.mk (blk_below (g := gb175) (o := .cells #[.int .i64 a1_0, .string a1_1, .int .i64 a1_2, .slice A1_3 l1_3.length c1_3, .slice A1_4 l1_4.length c1_4] 53 (0, 0)) (by (with_reducible repeat (first | refine blk_drewN ?_ _ | refine blk_drew ?_ | refine blk_alloc ?_ _)); exact BK175.out) hb); have n1_ := Aside0.mk (below_step (by repeat (first | (with_reducible first | exact HB.out | apply below_alloc | apply pw_below_drewN | apply below_drew1 | refine below_set ?_ GE175.out) | exact HB.out)) hb); clear BK175; clear HB; have BK175 := n0_; have HB := n1_; clear n0_ n1_; (try clear hb); (try clear hb2); (try clear hk); (try clear hi); have hcz25_0 : w24.cell? ⟨gb175, 0, none⟩ = some (.int .i64 a1_0) := (blk_cell BK175.out 0).trans rfl; have hcz25_1 : w24.cell? ⟨gb175, 1, none⟩ = some (.string a1_1) := (blk_cell BK175.out 1).trans rfl; have hcz25_2 : w24.cell? ⟨gb175, 2, none⟩ = some (.int .i64 a1_2) := (blk_cell BK175.out 2).trans rfl; have hcz25_3 : w24.cell? ⟨gb175, 3, none⟩ = some (.slice A1_3 l1_3.length c1_3) := (blk_cell BK175.out 3).trans rfl; have hcz25_4 : w24.cell? ⟨gb175, 4, none⟩ = some (.slice A1_4 l1_4.length c1_4) := (blk_cell BK175.out 4).trans rfl; have hfz25_0 := blk_frozen BK175.out 0; have hfz25_1 := blk_frozen BK175.out 1; have hfz25_2 := blk_frozen BK175.out 2; have hfz25_3 := blk_frozen BK175.out 3; have hfz25_4 := blk_frozen BK175.out 4) | ((with_reducible refine gate_callee (f := 60) rfl ?_); refine goesL_ (some 44) rfl rfl Tryd.func60 (by kernel_rfl) rfl #[.slice A1_3 l1_3.length c1_3, .string (⟨#[67, 111, 110, 116, 101, 110, 116, 45, 76, 101, 110, 103, 116, 104]⟩ : ByteArray)] rfl (by (try simp only [List.map_toArray, List.map_cons, List.map_nil]); first | done | rfl | (simp only [List.length_drop, List.length_take]; rfl)) ?_; (with_reducible refine (frame_there.calls kj2 _ _ l1_3 (⟨#[67, 111, 110, 116, 101, 110, 116, 45, 76, 101, 110, 103, 116, 104]⟩ : ByteArray) false _ ?side1 ?side2 A17.out).mono ?_); (case side1 => repeat (first | exact (Kd.C_below HR1_3.out HB.out) | (with_reducible refine Kd.C_alloc ?_ _) | (with_reducible refine Kd.C_drewN ?_ _) | (with_reducible refine Kd.C_drew ?_))); (case side2 => exact HC1_3.out); rintro e w26 ⟨rfl, hb⟩; refine ⟨_, rfl, ?_⟩; have n0_ := Aside0.mk (blk_below (g := gb175) (o := .cells #[.int .i64 a1_0, .string a1_1, .int .i64 a1_2, .slice A1_3 l1_3.length c1_3, .slice A1_4 l1_4.length c1_4] 53 (0, 0)) (by (with_reducible repeat (first | refine blk_drewN ?_ _ | refine blk_drew ?_ | refine blk_alloc ?_ _)); exact BK175.out) hb); have n1_ := Aside0.mk (below_step (by repeat (first | (with_reducible first | exact HB.out | apply below_alloc | apply pw_below_drewN | apply below_drew1 | refine below_set ?_ GE175.out) | exact HB.out)) hb); clear BK175; clear HB; have BK175 := n0_; have HB := n1_; clear n0_ n1_; (try clear hb); (try clear hb2); (try clear hk); (try clear hi)))
              go_ret3
              exact ⟨by first | rfl | (simp [errW_none, errW_some] <;> rfl) | (simp [*, errW_none, errW_some] <;> rfl), by repeat (first | (with_reducible first | exact HB.out | apply below_alloc | apply pw_below_drewN | apply below_drew1 | refine below_set ?_ GE175.out) | exact HB.out)⟩
        · rw [if_neg c13] at H
          have c13b0 : (t178 == 0) = false := beq_eq_false_iff_ne.mpr c13
          have c13b1 : (t178 != 0) = true := bne_iff_ne.mpr c13
          simp only [Option.some.injEq, Prod.mk.injEq] at H
          obtain ⟨rfl, rfl, rfl⟩ := H
          have hcz27_0 : wc.cell? ⟨gb175, 0, none⟩ = some (.int .i64 a1_0) := (blk_cell BK175.out 0).trans rfl
          have hcz27_1 : wc.cell? ⟨gb175, 1, none⟩ = some (.string a1_1) := (blk_cell BK175.out 1).trans rfl
          have hcz27_2 : wc.cell? ⟨gb175, 2, none⟩ = some (.int .i64 a1_2) := (blk_cell BK175.out 2).trans rfl
          have hcz27_3 : wc.cell? ⟨gb175, 3, none⟩ = some (.slice A1_3 l1_3.length c1_3) := (blk_cell BK175.out 3).trans rfl
          have hcz27_4 : wc.cell? ⟨gb175, 4, none⟩ = some (.slice A1_4 l1_4.length c1_4) := (blk_cell BK175.out 4).trans rfl
          have hfz27_0 := blk_frozen BK175.out 0
          have hfz27_1 := blk_frozen BK175.out 1
          have hfz27_2 := blk_frozen BK175.out 2
          have hfz27_3 := blk_frozen BK175.out 3
          have hfz27_4 := blk_frozen BK175.out 4
          go_wp2_with (first | ((with_reducible refine gate_callee (f := 35) rfl ?_); refine goesL_ (some 32) rfl rfl Tryd.func35 (by kernel_rfl) rfl #[.slice A1_3 l1_3.length c1_3, .int .i64 a1_2] rfl (by (try simp only [List.map_toArray, List.map_cons, List.map_nil]); first | done | rfl | (simp only [List.length_drop, List.length_take]; rfl)) ?_; (with_reducible refine (frame_Request.calls kj2 _ _ l1_3 a1_2 t176 t177 t178 _ ?side1 ?side2 A12.out).mono ?_); (case side1 => repeat (first | exact (Kd.C_below HR1_3.out HB.out) | (with_reducible refine Kd.C_alloc ?_ _) | (with_reducible refine Kd.C_drewN ?_ _) | (with_reducible refine Kd.C_drew ?_))); (case side2 => exact HC1_3.out); rintro e w28 ⟨rfl, hb⟩; refine ⟨_, rfl, ?_⟩; have n0_ := Aside0.mk (blk_below (g := gb175) (o := .cells #[.int .i64 a1_0, .string a1_1, .int .i64 a1_2, .slice A1_3 l1_3.length c1_3, .slice A1_4 l1_4.length c1_4] 53 (0, 0)) (by (with_reducible repeat (first | refine blk_drewN ?_ _ | refine blk_drew ?_ | refine blk_alloc ?_ _)); exact BK175.out) hb); have n1_ := Aside0.mk (below_step (by repeat (first | (with_reducible first | exact HB.out | apply below_alloc | apply pw_below_drewN | apply below_drew1 | refine below_set ?_ GE175.out) | exact HB.out)) hb); clear BK175; clear HB; have BK175 := n0_; have HB := n1_; clear n0_ n1_; (try clear hb); (try clear hb2); (try clear hk); (try clear hi)))
          go_ret3
          exact ⟨by first | rfl | (simp [errW_none, errW_some] <;> rfl) | (simp [*, errW_none, errW_some] <;> rfl), by repeat (first | (with_reducible first | exact HB.out | apply below_alloc | apply pw_below_drewN | apply below_drew1 | refine below_set ?_ GE175.out) | exact HB.out)⟩

/-! ### tollbarlaw07_of: function 42 -/
def tollbarlaw07_of.f (a0 : ByteArray) (a1 : ByteArray) : Option ((List (S24))) := some (([(⟨a0, a1⟩ : S24)] : List (S24)))
set_option maxHeartbeats 8000000 in
set_option maxRecDepth 100000 in
theorem tollbarlaw07_of.calls (a0 : ByteArray) (a1 : ByteArray) (r : List (S24)) (w : World) (h : tollbarlaw07_of.f a0 a1 = some r) :
    Calls Tryd.prog 42 #[.string a0, .string a1] w fun e w' => ∃ v0_ : Value, e = .returned (v0_) ∧ Kd.R k24 24 w' w.heap.size (fun _ => True) v0_ r ∧ Below w.heap.size w w' := by
  have hu24 := Tryd.underlying24
  have HB := Aside0.mk (Below.refl w.heap.size w)
  have H : (some (([(⟨a0, a1⟩ : S24)] : List (S24)))) = some r := h
  clear h
  obtain ⟨y180, hy180⟩ : ∃ y_ : List (S24), y_ = (([(⟨a0, a1⟩ : S24)] : List (S24))) := ⟨_, rfl⟩
  replace H : (some y180) = some r := by first | (rw [hy180]; with_reducible exact H) | (have H2_ := (Option.bind_some _ _).symm.trans H; rw [hy180]; with_reducible exact H2_) | (have H2_ := (Option.bind_some _ _).symm.trans H; with_reducible exact H2_) | with_reducible exact H | (rw [hy180]; exact H) | exact H
  have Ny180 := Aside0.mk hy180
  clear hy180
  obtain rfl := Option.some.inj H
  go_enter Tryd.func42, Tryd.ntmps42
  go_wp2_with (first | ((with_reducible refine gate_dst (N := 8) rfl ?_); refine Kd.R_lit k24 _ 24 ?hg (N := 8) ?hd (xs := ([(⟨a0, a1⟩ : S24)] : List (S24))) (inner := [.string a0, .string a1]) (ok := fun _ => True) (okp := fun _ => True) ?hr ?hp (fun _ hk => hk) trivial (Below.refl _ _) (Nat.le_refl _) (by simp) ?_; (case hd => rfl); (case hg => rfl); (case hr => first | (go_simp; done) | (go_simp; rfl)); (case hp => exact (Reps.c2 (show Kd.M k24 _ _ _ (⟨a0, a1⟩ : S24) [.string a0, .string a1] from (k24_mkM _ _ _ (⟨a0, a1⟩ : S24) )) (Reps.none _ _))); intro v181 w3 ho4 hb hg_ hnew_; clear hg_ hnew_; (first | rw [← Ny180.out] at ho4 | (simp only [Int.reduceToNat] at ho4; rw [← Ny180.out] at ho4)); have n0_ := Aside0.mk (Kd.R_lower ho4 (below_size (by repeat (first | (with_reducible first | exact HB.out | apply below_alloc | apply pw_below_drewN | apply below_drew1) | exact HB.out)))); have n1_ := Aside0.mk (below_step (by repeat (first | (with_reducible first | exact HB.out | apply below_alloc | apply pw_below_drewN | apply below_drew1) | exact HB.out)) hb); clear HB; have HO182 := n0_; have HB := n1_; clear n0_ n1_; clear hb ho4))
  go_ret
  exact ⟨_, by first | rfl | (simp [errW_none, errW_some] <;> rfl) | (simp [*, errW_none, errW_some] <;> rfl), by (with_reducible repeat (first | apply Kd.R_alloc | apply Kd.R_drewN | apply Kd.R_drew)); exact HO182.out, by repeat (first | (with_reducible first | exact HB.out | apply below_alloc | apply pw_below_drewN | apply below_drew1) | exact HB.out)⟩

/-! ### tollbarlaw07_alive: function 34 -/

def tollbarlaw07_alive.f (k : Nat) : Option Bool := if frame_Request.f k [(⟨(⟨#[99, 111, 110, 116, 101, 110, 116, 45, 108, 101, 110, 103, 116, 104]⟩ : ByteArray), (⟨#[53, 44, 32, 53]⟩ : ByteArray)⟩ : S24)] 1 = some ((5, false, 0) : Int × Bool × Int) ∧ frame_Request.f k [(⟨(⟨#[67, 111, 110, 116, 101, 110, 116, 45, 76, 101, 110, 103, 116, 104]⟩ : ByteArray), (⟨#[53, 44, 32, 54]⟩ : ByteArray)⟩ : S24)] 1 = some ((0, false, 400) : Int × Bool × Int) ∧ frame_Request.f k [(⟨(⟨#[67, 111, 110, 116, 101, 110, 116, 45, 76, 101, 110, 103, 116, 104]⟩ : ByteArray), (⟨#[52, 48, 57, 55]⟩ : ByteArray)⟩ : S24)] 1 = some ((0, false, 413) : Int × Bool × Int) ∧ frame_Request.f k [(⟨(⟨#[84, 114, 97, 110, 115, 102, 101, 114, 45, 69, 110, 99, 111, 100, 105, 110, 103]⟩ : ByteArray), (⟨#[103, 122, 105, 112, 44, 32, 99, 104, 117, 110, 107, 101, 100]⟩ : ByteArray)⟩ : S24)] 1 = some ((0, false, 501) : Int × Bool × Int) ∧ frame_Request.f k [(⟨(⟨#[84, 114, 97, 110, 115, 102, 101, 114, 45, 69, 110, 99, 111, 100, 105, 110, 103]⟩ : ByteArray), (⟨#[67, 104, 117, 110, 107, 101, 100]⟩ : ByteArray)⟩ : S24)] 1 = some ((0, true, 0) : Int × Bool × Int) ∧ frame_Response.f k (⟨#[71, 69, 84]⟩ : ByteArray) 200 (⟨#[]⟩ : ByteArray) 1 [(⟨(⟨#[67, 111, 110, 116, 101, 110, 116, 45, 76, 101, 110, 103, 116, 104]⟩ : ByteArray), (⟨#[51]⟩ : ByteArray)⟩ : S24)] ([] : List Int) = some ((1, 3, true) : Int × Int × Bool) ∧ frame_Closes.f k ([] : List S24) 0 = some true ∧ frame_Closes.f k ([] : List S24) 1 = some false ∧ frame_Closes.f k [(⟨(⟨#[99, 111, 110, 110, 101, 99, 116, 105, 111, 110]⟩ : ByteArray), (⟨#[120, 44, 32, 67, 108, 111, 115, 101]⟩ : ByteArray)⟩ : S24)] 1 = some true then some true else none
theorem tollbarlaw07_alive.mono : ∀ k, LeO (tollbarlaw07_alive.f k) (tollbarlaw07_alive.f (k + 1)) := by
  intro k r h
  unfold tollbarlaw07_alive.f at h ⊢
  split at h
  · rename_i hh
    obtain ⟨h0, h1, h2, h3, h4, h5, h6, h7, h8⟩ := hh
    rw [if_pos ⟨frame_Request.mono _ _ k _ h0, frame_Request.mono _ _ k _ h1, frame_Request.mono _ _ k _ h2, frame_Request.mono _ _ k _ h3, frame_Request.mono _ _ k _ h4, frame_Response.mono _ _ _ _ _ _ k _ h5, frame_Closes.mono _ _ k _ h6, frame_Closes.mono _ _ k _ h7, frame_Closes.mono _ _ k _ h8⟩]; exact h
  · cases h
theorem tollbarlaw07_alive.of1 (a b : ByteArray) (w : World) : Calls Tryd.prog 42 #[.string a, .string b] w fun e w' => ∃ A c, e = .returned (.slice A ([(⟨a, b⟩ : S24)] : List S24).length c) ∧ ([(⟨a, b⟩ : S24)] : List S24).length ≤ c ∧ Kd.C k24 w' A ([(⟨a, b⟩ : S24)] : List S24).length [⟨a, b⟩] ∧ Below w.heap.size w w' := by
  refine (tollbarlaw07_of.calls a b [⟨a, b⟩] w rfl).mono ?_
  rintro e w' ⟨v, rfl, ho, hb⟩
  obtain ⟨A, c, rfl, hc, hC⟩ := Kd.R_reads ho
  exact ⟨A, c, rfl, hc, hC, hb⟩
theorem tollbarlaw07_alive.rq {k : Nat} {A : Option Addr} {c : Nat} {x : S24} {m r1 r3 : Int} {r2 : Bool} {w : World} (hC : Kd.C k24 w A [x].length [x]) (hc : [x].length ≤ c) (h : frame_Request.f k [x] m = some (r1, r2, r3)) :
    Calls Tryd.prog 35 #[.slice A 1 c, .int .i64 m] w fun e w' => e = .returned (.tuple #[.int .i64 r1, .bool r2, .int .i64 r3]) ∧ Below w.heap.size w w' := frame_Request.calls k A c [x] m r1 r2 r3 w hC hc h
theorem tollbarlaw07_alive.cl1 {k : Nat} {A : Option Addr} {c : Nat} {x : S24} {m : Int} {r : Bool} {w : World} (hC : Kd.C k24 w A [x].length [x]) (hc : [x].length ≤ c) (h : frame_Closes.f k [x] m = some r) :
    Calls Tryd.prog 37 #[.slice A 1 c, .int .i64 m] w fun e w' => e = .returned (.bool r) ∧ Below w.heap.size w w' := frame_Closes.calls k A c [x] m r w hC hc h
theorem tollbarlaw07_alive.cl0 {k : Nat} {m : Int} {r : Bool} {w : World} (h : frame_Closes.f k ([] : List S24) m = some r) :
    Calls Tryd.prog 37 #[.slice none 0 0, .int .i64 m] w fun e w' => e = .returned (.bool r) ∧ Below w.heap.size w w' := frame_Closes.calls k none 0 [] m r w (Kd.C_nil _ _) (Nat.le_refl _) h
theorem tollbarlaw07_alive.rs {k : Nat} {A : Option Addr} {c : Nat} {x : S24} {a b : ByteArray} {code minor r1 r2 : Int} {r3 : Bool} {w : World} (hC : Kd.C k24 w A [x].length [x]) (hc : [x].length ≤ c) (h : frame_Response.f k a code b minor [x] [] = some (r1, r2, r3)) :
    Calls Tryd.prog 39 #[.string a, .agg #[.int .i64 code, .string b, .int .i64 minor, .slice A 1 c, .slice none 0 0]] w fun e w' => e = .returned (.tuple #[.int .i64 r1, .int .i64 r2, .bool r3]) ∧ Below w.heap.size w w' := frame_Response.calls k a code b minor A c [x] none 0 [] r1 r2 r3 w hC hc (Kd.C_nil _ _) (Nat.le_refl _) h
set_option maxHeartbeats 8000000 in
set_option maxRecDepth 100000 in
theorem tollbarlaw07_alive.calls (k : Nat) (r : Bool) (w : World) (h : tollbarlaw07_alive.f k = some r) :
    Calls Tryd.prog 34 #[] w fun e w' => e = .returned (.bool r) ∧ Below w.heap.size w w' := by
  unfold tollbarlaw07_alive.f at h
  split at h
  · rename_i hh
    obtain ⟨h0, h1, h2, h3, h4, h5, h6, h7, h8⟩ := hh
    cases h
    have H0 := Aside0.mk h0
    have H1 := Aside0.mk h1
    have H2 := Aside0.mk h2
    have H3 := Aside0.mk h3
    have H4 := Aside0.mk h4
    have H5 := Aside0.mk h5
    have H6 := Aside0.mk h6
    have H7 := Aside0.mk h7
    have H8 := Aside0.mk h8
    clear h0 h1 h2 h3 h4 h5 h6 h7 h8
    have HB := Aside0.mk (Below.refl w.heap.size w)
    go_enter Tryd.func34, Tryd.ntmps34
    go_wp2_with (first | (go_at_call 42; (with_reducible refine (tollbarlaw07_alive.of1 _ _ _).mono ?_); rintro e w1 ⟨A1, c1, rfl, hc, hC, hb⟩; have HO := Aside0.mk hC; have HQ := Aside0.mk hc; replace HB := Aside0.mk (below_step HB.out hb); clear hC hc hb) | (go_at_call 35; (with_reducible refine (tollbarlaw07_alive.rq HO.out HQ.out H0.out).mono ?_); rintro e w1 ⟨rfl, hb⟩; replace HB := Aside0.mk (below_step HB.out hb); clear hb) | (go_at_call 35; (with_reducible refine (tollbarlaw07_alive.rq HO.out HQ.out H1.out).mono ?_); rintro e w1 ⟨rfl, hb⟩; replace HB := Aside0.mk (below_step HB.out hb); clear hb) | (go_at_call 35; (with_reducible refine (tollbarlaw07_alive.rq HO.out HQ.out H2.out).mono ?_); rintro e w1 ⟨rfl, hb⟩; replace HB := Aside0.mk (below_step HB.out hb); clear hb) | (go_at_call 35; (with_reducible refine (tollbarlaw07_alive.rq HO.out HQ.out H3.out).mono ?_); rintro e w1 ⟨rfl, hb⟩; replace HB := Aside0.mk (below_step HB.out hb); clear hb) | (go_at_call 35; (with_reducible refine (tollbarlaw07_alive.rq HO.out HQ.out H4.out).mono ?_); rintro e w1 ⟨rfl, hb⟩; replace HB := Aside0.mk (below_step HB.out hb); clear hb) | (go_at_call 39; (with_reducible refine (tollbarlaw07_alive.rs HO.out HQ.out H5.out).mono ?_); rintro e w1 ⟨rfl, hb⟩; replace HB := Aside0.mk (below_step HB.out hb); clear hb) | (go_at_call 37; (with_reducible refine (tollbarlaw07_alive.cl0 H6.out).mono ?_); rintro e w1 ⟨rfl, hb⟩; replace HB := Aside0.mk (below_step HB.out hb); clear hb) | (go_at_call 37; (with_reducible refine (tollbarlaw07_alive.cl0 H7.out).mono ?_); rintro e w1 ⟨rfl, hb⟩; replace HB := Aside0.mk (below_step HB.out hb); clear hb) | (go_at_call 37; (with_reducible refine (tollbarlaw07_alive.cl1 HO.out HQ.out H8.out).mono ?_); rintro e w1 ⟨rfl, hb⟩; replace HB := Aside0.mk (below_step HB.out hb); clear hb))
    go_ret
    exact ⟨rfl, HB.out⟩
  · cases h


end Go.Proofs.YtijindelbagpiaaDoor.PFrameNone
