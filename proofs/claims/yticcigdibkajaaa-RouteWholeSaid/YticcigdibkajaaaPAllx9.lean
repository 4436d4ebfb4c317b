-- Written by this session's program xprint.py over the kit's print, with contracts given by hand. Not trusted: Lean checks it.
import Derived.Test.YticcigdibkajaaaPAllx0
import Derived.Test.YticcigdibkajaaaPAllx1
import Derived.Test.YticcigdibkajaaaPAllx2
import Derived.Test.YticcigdibkajaaaPAllx7
namespace Go.Proofs.Yticcigdibkajaaa.PAll
open Go.RowKit Go.Proofs.YticcigdibkajaaaW.PrintWords Go.Proofs.YticcigdibkajaaaW.PrintLast Go.Proofs.YticcigdibkajaaaW.PrintMore
attribute [local go_sem] max2_int min2_int max_two min_two max_three min_three max_four min_four   -- for this text's walks alone
set_option linter.unusedVariables false
set_option linter.unusedSimpArgs false

/-! ### tollbarlaw11_RouteWhole: function 6 -/
mutual
def tollbarlaw11_RouteWhole.j0 : Nat → ByteArray → ByteArray → Int → Bool → Option (Bool)
  | 0, _, _, _, _ => none
  | k + 1, x0, x1, x2, x30 => if x30 = true then (some true) else (tollbarlaw11_RouteWhole.l0 k x0 x1 x2 0)
def tollbarlaw11_RouteWhole.l0 : Nat → ByteArray → ByteArray → Int → Int → Option (Bool)
  | 0, _, _, _, _ => none
  | k + 1, x0, x1, x2, x7 => if x7 < (x0.size : Int) then (if 0 ≤ x7 then (if (bt x0 x7) = 63 then (some true) else (tollbarlaw11_RouteWhole.l0 k x0 x1 x2 (wrap64 (x7 + 1)))) else (none)) else (if 0 ≤ (wrap64 ((x0.size : Int) - 1)) then (if (wrap64 ((x0.size : Int) - 1)) < (x0.size : Int) then ((route_Fits.f x0 x0).bind fun t196 => (if t196 = true then (if x0.size + 1 ≤ 9223372036854775807 then (if (x0 ++ (⟨#[63]⟩ : ByteArray)).size + x1.size ≤ 9223372036854775807 then ((route_Fits.f x0 ((x0 ++ (⟨#[63]⟩ : ByteArray)) ++ x1)).bind fun t197 => (if t197 = true then (if (x0 ++ (⟨#[47]⟩ : ByteArray)).size + x1.size ≤ 9223372036854775807 then ((route_Fits.f x0 ((x0 ++ (⟨#[47]⟩ : ByteArray)) ++ x1)).bind fun t198 => (if t198 = true then (if (wrap64 ((x0.size : Int) - 1)) ≤ (x0.size : Int) then ((route_Fits.f x0 (x0.extract 0 ((wrap64 ((x0.size : Int) - 1)) : Int).toNat)).bind fun t199 => (tollbarlaw11_RouteWhole.j2 k x0 x1 x2 ((bt x0 (wrap64 ((x0.size : Int) - 1))) == 47) t199)) else (none)) else (tollbarlaw11_RouteWhole.j2 k x0 x1 x2 ((bt x0 (wrap64 ((x0.size : Int) - 1))) == 47) true))) else (none)) else (tollbarlaw11_RouteWhole.j2 k x0 x1 x2 ((bt x0 (wrap64 ((x0.size : Int) - 1))) == 47) true))) else (none)) else (none)) else (tollbarlaw11_RouteWhole.j2 k x0 x1 x2 ((bt x0 (wrap64 ((x0.size : Int) - 1))) == 47) true))) else (none)) else (none))
def tollbarlaw11_RouteWhole.j2 : Nat → ByteArray → ByteArray → Int → Bool → Bool → Option (Bool)
  | 0, _, _, _, _, _ => none
  | k + 1, x0, x1, x2, x8, x77 => if x77 = true then (some false) else (if x2 = 47 then (tollbarlaw11_RouteWhole.j3 k x0 x1 x2 x8 true) else (tollbarlaw11_RouteWhole.j3 k x0 x1 x2 x8 (x2 == 63)))
def tollbarlaw11_RouteWhole.j3 : Nat → ByteArray → ByteArray → Int → Bool → Bool → Option (Bool)
  | 0, _, _, _, _, _ => none
  | k + 1, x0, x1, x2, x8, x83 => if x83 = true then (some true) else ((route_Rewrite.f k x0 (⟨#[]⟩ : ByteArray) (⟨#[47, 110]⟩ : ByteArray) x0).bind fun bt200 => ((some (([x2] : List Int) : List Int)).bind fun y202 => (if x0.size + (strOfNums y202).size ≤ 9223372036854775807 then (if (x0 ++ (strOfNums y202)).size + x1.size ≤ 9223372036854775807 then ((route_Fits.f x0 ((x0 ++ (strOfNums y202)) ++ x1)).bind fun t205 => (if (t205 == x8) = true then (if bt200.2 = true then (some (bt200.1.toList == ([47, 110] : List UInt8))) else (some false)) else (some false))) else (none)) else (none))))
end
def tollbarlaw11_RouteWhole.f (k : Nat) (a0 : ByteArray) (a1 : ByteArray) (a2 : Int) : Option (Bool) := (tollbarlaw11_alive.f k).bind fun t194 => (if t194 = true then ((tollbarref02_Target.f k a0).bind fun t195 => (if t195 = true then (if 0 < (a0.size : Int) then (if (bt a0 0) = 47 then (if (a0.size : Int) > 100 then (tollbarlaw11_RouteWhole.j0 k a0 a1 a2 true) else (tollbarlaw11_RouteWhole.j0 k a0 a1 a2 (decide ((a1.size : Int) > 200)))) else (tollbarlaw11_RouteWhole.j0 k a0 a1 a2 true)) else (none)) else (tollbarlaw11_RouteWhole.j0 k a0 a1 a2 true))) else (some false))
theorem tollbarlaw11_RouteWhole.mono_l : ∀ k, (∀ y0 y1 y2 y3, LeO (tollbarlaw11_RouteWhole.j0 k y0 y1 y2 y3) (tollbarlaw11_RouteWhole.j0 (k + 1) y0 y1 y2 y3)) ∧ (∀ y0 y1 y2 y3, LeO (tollbarlaw11_RouteWhole.l0 k y0 y1 y2 y3) (tollbarlaw11_RouteWhole.l0 (k + 1) y0 y1 y2 y3)) ∧ (∀ y0 y1 y2 y3 y4, LeO (tollbarlaw11_RouteWhole.j2 k y0 y1 y2 y3 y4) (tollbarlaw11_RouteWhole.j2 (k + 1) y0 y1 y2 y3 y4)) ∧ (∀ y0 y1 y2 y3 y4, LeO (tollbarlaw11_RouteWhole.j3 k y0 y1 y2 y3 y4) (tollbarlaw11_RouteWhole.j3 (k + 1) y0 y1 y2 y3 y4))
  | 0 => ⟨fun _ _ _ _ r h => by simp [tollbarlaw11_RouteWhole.j0] at h, fun _ _ _ _ r h => by simp [tollbarlaw11_RouteWhole.l0] at h, fun _ _ _ _ _ r h => by simp [tollbarlaw11_RouteWhole.j2] at h, fun _ _ _ _ _ r h => by simp [tollbarlaw11_RouteWhole.j3] at h⟩
  | k + 1 => by
    obtain ⟨ih0, ih1, ih2, ih3⟩ := tollbarlaw11_RouteWhole.mono_l k
    refine ⟨?_, ?_, ?_, ?_⟩
    · intro y0 y1 y2 y3
      unfold tollbarlaw11_RouteWhole.j0
      repeat' first
      | (with_reducible exact ih0 _ _ _ _)
      | (with_reducible exact ih1 _ _ _ _)
      | (with_reducible exact ih2 _ _ _ _ _)
      | (with_reducible exact ih3 _ _ _ _ _)
      | (with_reducible exact route_Rewrite.mono _ _ _ _ _)
      | (with_reducible exact tollbarlaw11_alive.mono _)
      | (with_reducible exact tollbarref02_Target.mono _ _)
      | (with_reducible exact LeO.refl _)
      | (with_reducible exact LeO.none _)
      | (with_reducible refine LeO.ite ?_ ?_)
      | (with_reducible refine LeO.bind ?_ (fun _ => ?_))
      | exact ih0 _ _ _ _
      | exact ih1 _ _ _ _
      | exact ih2 _ _ _ _ _
      | exact ih3 _ _ _ _ _
      | exact route_Rewrite.mono _ _ _ _ _
      | exact tollbarlaw11_alive.mono _
      | exact tollbarref02_Target.mono _ _
      | exact LeO.none _
      | refine LeO.ite ?_ ?_
      | refine LeO.bind ?_ (fun _ => ?_)
    · intro y0 y1 y2 y3
      unfold tollbarlaw11_RouteWhole.l0
      repeat' first
      | (with_reducible exact ih0 _ _ _ _)
      | (with_reducible exact ih1 _ _ _ _)
      | (with_reducible exact ih2 _ _ _ _ _)
      | (with_reducible exact ih3 _ _ _ _ _)
      | (with_reducible exact route_Rewrite.mono _ _ _ _ _)
      | (with_reducible exact tollbarlaw11_alive.mono _)
      | (with_reducible exact tollbarref02_Target.mono _ _)
      | (with_reducible exact LeO.refl _)
      | (with_reducible exact LeO.none _)
      | (with_reducible refine LeO.ite ?_ ?_)
      | (with_reducible refine LeO.bind ?_ (fun _ => ?_))
      | exact ih0 _ _ _ _
      | exact ih1 _ _ _ _
      | exact ih2 _ _ _ _ _
      | exact ih3 _ _ _ _ _
      | exact route_Rewrite.mono _ _ _ _ _
      | exact tollbarlaw11_alive.mono _
      | exact tollbarref02_Target.mono _ _
      | exact LeO.none _
      | refine LeO.ite ?_ ?_
      | refine LeO.bind ?_ (fun _ => ?_)
    · intro y0 y1 y2 y3 y4
      unfold tollbarlaw11_RouteWhole.j2
      repeat' first
      | (with_reducible exact ih0 _ _ _ _)
      | (with_reducible exact ih1 _ _ _ _)
      | (with_reducible exact ih2 _ _ _ _ _)
      | (with_reducible exact ih3 _ _ _ _ _)
      | (with_reducible exact route_Rewrite.mono _ _ _ _ _)
      | (with_reducible exact tollbarlaw11_alive.mono _)
      | (with_reducible exact tollbarref02_Target.mono _ _)
      | (with_reducible exact LeO.refl _)
      | (with_reducible exact LeO.none _)
      | (with_reducible refine LeO.ite ?_ ?_)
      | (with_reducible refine LeO.bind ?_ (fun _ => ?_))
      | exact ih0 _ _ _ _
      | exact ih1 _ _ _ _
      | exact ih2 _ _ _ _ _
      | exact ih3 _ _ _ _ _
      | exact route_Rewrite.mono _ _ _ _ _
      | exact tollbarlaw11_alive.mono _
      | exact tollbarref02_Target.mono _ _
      | exact LeO.none _
      | refine LeO.ite ?_ ?_
      | refine LeO.bind ?_ (fun _ => ?_)
    · intro y0 y1 y2 y3 y4
      unfold tollbarlaw11_RouteWhole.j3
      repeat' first
      | (with_reducible exact ih0 _ _ _ _)
      | (with_reducible exact ih1 _ _ _ _)
      | (with_reducible exact ih2 _ _ _ _ _)
      | (with_reducible exact ih3 _ _ _ _ _)
      | (with_reducible exact route_Rewrite.mono _ _ _ _ _)
      | (with_reducible exact tollbarlaw11_alive.mono _)
      | (with_reducible exact tollbarref02_Target.mono _ _)
      | (with_reducible exact LeO.refl _)
      | (with_reducible exact LeO.none _)
      | (with_reducible refine LeO.ite ?_ ?_)
      | (with_reducible refine LeO.bind ?_ (fun _ => ?_))
      | exact ih0 _ _ _ _
      | exact ih1 _ _ _ _
      | exact ih2 _ _ _ _ _
      | exact ih3 _ _ _ _ _
      | exact route_Rewrite.mono _ _ _ _ _
      | exact tollbarlaw11_alive.mono _
      | exact tollbarref02_Target.mono _ _
      | exact LeO.none _
      | refine LeO.ite ?_ ?_
      | refine LeO.bind ?_ (fun _ => ?_)
theorem tollbarlaw11_RouteWhole.mono : ∀ a0 a1 a2 k, LeO (tollbarlaw11_RouteWhole.f k a0 a1 a2) (tollbarlaw11_RouteWhole.f (k + 1) a0 a1 a2) := by
  intro a0 a1 a2 k
  obtain ⟨ih0, ih1, ih2, ih3⟩ := tollbarlaw11_RouteWhole.mono_l k
  unfold tollbarlaw11_RouteWhole.f
  repeat' first
      | (with_reducible exact ih0 _ _ _ _)
      | (with_reducible exact ih1 _ _ _ _)
      | (with_reducible exact ih2 _ _ _ _ _)
      | (with_reducible exact ih3 _ _ _ _ _)
      | (with_reducible exact route_Rewrite.mono _ _ _ _ _)
      | (with_reducible exact tollbarlaw11_alive.mono _)
      | (with_reducible exact tollbarref02_Target.mono _ _)
      | (with_reducible exact LeO.refl _)
      | (with_reducible exact LeO.none _)
      | (with_reducible refine LeO.ite ?_ ?_)
      | (with_reducible refine LeO.bind ?_ (fun _ => ?_))
      | exact ih0 _ _ _ _
      | exact ih1 _ _ _ _
      | exact ih2 _ _ _ _ _
      | exact ih3 _ _ _ _ _
      | exact route_Rewrite.mono _ _ _ _ _
      | exact tollbarlaw11_alive.mono _
      | exact tollbarref02_Target.mono _ _
      | exact LeO.none _
      | refine LeO.ite ?_ ?_
      | refine LeO.bind ?_ (fun _ => ?_)
set_option maxHeartbeats 8000000 in
set_option maxRecDepth 100000 in
theorem tollbarlaw11_RouteWhole.calls (k : Nat) (a0 : ByteArray) (a1 : ByteArray) (a2 : Int) (r : Bool) (w : World) (h : tollbarlaw11_RouteWhole.f k a0 a1 a2 = some r) :
    Calls Try.prog 6 #[.string a0, .string a1, .int .u8 a2] w fun e w' => e = .returned (.bool r) ∧ Below w.heap.size w w' := by
  have hu26 := Try.underlying26
  have HB := Aside0.mk (Below.refl w.heap.size w)
  have H : ((tollbarlaw11_alive.f k).bind fun t194 => (if t194 = true then ((tollbarref02_Target.f k a0).bind fun t195 => (if t195 = true then (if 0 < (a0.size : Int) then (if (bt a0 0) = 47 then (if (a0.size : Int) > 100 then (tollbarlaw11_RouteWhole.j0 k a0 a1 a2 true) else (tollbarlaw11_RouteWhole.j0 k a0 a1 a2 (decide ((a1.size : Int) > 200)))) else (tollbarlaw11_RouteWhole.j0 k a0 a1 a2 true)) else (none)) else (tollbarlaw11_RouteWhole.j0 k a0 a1 a2 true))) else (some false))) = some r := h
  clear h
  replace H := Option.bind_eq_some_iff.mp H
  obtain ⟨t194, A40, H⟩ := H
  replace H : (if t194 = true then ((tollbarref02_Target.f k a0).bind fun t195 => (if t195 = true then (if 0 < (a0.size : Int) then (if (bt a0 0) = 47 then (if (a0.size : Int) > 100 then (tollbarlaw11_RouteWhole.j0 k a0 a1 a2 true) else (tollbarlaw11_RouteWhole.j0 k a0 a1 a2 (decide ((a1.size : Int) > 200)))) else (tollbarlaw11_RouteWhole.j0 k a0 a1 a2 true)) else (none)) else (tollbarlaw11_RouteWhole.j0 k a0 a1 a2 true))) else (some false)) = some r := H
  have A4 := Aside0.mk A40
  clear A40
  by_cases c5 : t194 = true
  · subst c5
    have H1 : ((tollbarref02_Target.f k a0).bind fun t195 => (if t195 = true then (if 0 < (a0.size : Int) then (if (bt a0 0) = 47 then (if (a0.size : Int) > 100 then (tollbarlaw11_RouteWhole.j0 k a0 a1 a2 true) else (tollbarlaw11_RouteWhole.j0 k a0 a1 a2 (decide ((a1.size : Int) > 200)))) else (tollbarlaw11_RouteWhole.j0 k a0 a1 a2 true)) else (none)) else (tollbarlaw11_RouteWhole.j0 k a0 a1 a2 true))) = some r := by rw [if_pos rfl] at H; exact H
    clear H
    have H := H1
    clear H1
    have HC6 := Aside0.mk H
    clear H
    go_enter Try.func6, Try.ntmps6
    go_upto_region 3 with (first | ((with_reducible refine gate_callee (f := 7) rfl ?_); refine goesL_ (some 11) rfl rfl Try.func7 (by kernel_rfl) rfl #[] rfl (by (try simp only [List.map_toArray, List.map_cons, List.map_nil]); first | done | rfl | (simp only [List.length_drop, List.length_take]; rfl)) ?_; (with_reducible refine (tollbarlaw11_alive.calls k  true _ A4.out).mono ?_); rintro e w7 ⟨rfl, hb⟩; refine ⟨_, rfl, ?_⟩; have n0_ := Aside0.mk (below_step (by repeat (first | (with_reducible first | exact HB.out | apply below_alloc | apply pw_below_drewN | apply below_drew1) | exact HB.out)) hb); clear HB; have HB := n0_; clear n0_; (try clear hb); (try clear hb2); (try clear hk); (try clear hi)))
    (try simp only [Act.put, List.setIfInBounds_toArray, List.set_cons_zero, List.set_cons_succ])
    go_cut [30] (fun v30 wc => ∃ (kq : Nat) (x30_5 : Bool), v30 = .bool x30_5 ∧ Aside0 (tollbarlaw11_RouteWhole.j0 kq a0 a1 a2 x30_5 = some r) ∧ Aside0 (kq ≤ k) ∧ Aside0 (Below w.heap.size w wc))
    case first =>
      have H := HC6.out
      clear HC6
      replace H := Option.bind_eq_some_iff.mp H
      obtain ⟨t195, A80, H⟩ := H
      replace H : (if t195 = true then (if 0 < (a0.size : Int) then (if (bt a0 0) = 47 then (if (a0.size : Int) > 100 then (tollbarlaw11_RouteWhole.j0 k a0 a1 a2 true) else (tollbarlaw11_RouteWhole.j0 k a0 a1 a2 (decide ((a1.size : Int) > 200)))) else (tollbarlaw11_RouteWhole.j0 k a0 a1 a2 true)) else (none)) else (tollbarlaw11_RouteWhole.j0 k a0 a1 a2 true)) = some r := H
      have A8 := Aside0.mk A80
      clear A80
      by_cases c9 : t195 = true
      · subst c9
        have H1 : (if 0 < (a0.size : Int) then (if (bt a0 0) = 47 then (if (a0.size : Int) > 100 then (tollbarlaw11_RouteWhole.j0 k a0 a1 a2 true) else (tollbarlaw11_RouteWhole.j0 k a0 a1 a2 (decide ((a1.size : Int) > 200)))) else (tollbarlaw11_RouteWhole.j0 k a0 a1 a2 true)) else (none)) = some r := by rw [if_pos rfl] at H; exact H
        clear H
        have H := H1
        clear H1
        by_cases c10 : 0 < (a0.size : Int)
        · rw [if_pos c10] at H
          have c10b0 : decide (0 < (a0.size : Int)) = true := decide_eq_true c10
          try (have c10z_ := c10; simp only [xsz_app, xsz_rest, xsz_mk, List.length_cons, List.length_nil, Nat.zero_add, Int.natCast_add] at c10z_)
          have c10b1 : decide (0 < a0.size) = true := decide_eq_true (by omega)
          clear c10
          (first | rw [c10b0] | (simp only [i64_w, i32_w]; rw [c10b0]) | skip)
          by_cases c12 : (bt a0 0) = 47
          · rw [if_pos c12] at H
            have c12b0 : ((bt a0 0) == 47) = true := beq_iff_eq.mpr c12
            have c12b1 : ((bt a0 0) != 47) = false := bne_eq_false_iff_eq.mpr c12
            clear c12
            by_cases c13 : (a0.size : Int) > 100
            · rw [if_pos c13] at H
              have c13b0 : decide (100 < (a0.size : Int)) = true := decide_eq_true c13
              try (have c13z_ := c13; simp only [xsz_app, xsz_rest, xsz_mk, List.length_cons, List.length_nil, Nat.zero_add, Int.natCast_add] at c13z_)
              have c13b1 : decide (100 < a0.size) = true := decide_eq_true (by omega)
              clear c13
              have H' := Aside0.mk H
              clear H
              go_wp2_with (first | ((with_reducible refine gate_callee (f := 15) rfl ?_); refine goesL_ (some 14) rfl rfl Try.func15 (by kernel_rfl) rfl #[.string a0] rfl (by (try simp only [List.map_toArray, List.map_cons, List.map_nil]); first | done | rfl | (simp only [List.length_drop, List.length_take]; rfl)) ?_; (with_reducible refine (tollbarref02_Target.calls k a0 true _ A8.out).mono ?_); rintro e w' ⟨rfl, ⟨nd, rfl⟩⟩; refine ⟨_, rfl, ?_⟩; have p11 : 0 ≤ (0 : Int) := (by omega); have q11 : 0 < a0.size := (by have : (0 : Int) < (a0.size : Int) := of_decide_eq_true (by first | (with_reducible assumption) | assumption); omega); have hx11 : ∀ h : 0 < a0.size, ((a0[0]'h).toNat : Int) = bt a0 0 := bt_at a0 0; clear p11; have qi11 : (0 < (a0.size : Int)) = True := eq_true (of_decide_eq_true (by first | (with_reducible assumption) | assumption)); replace q11 := eq_true q11))
              go_meet
              case rel => exact ⟨_, (true), (by first | rfl | (simp; done) | (simp [*]; done)), H', ⟨by first | omega | exact Nat.le_refl _⟩, ⟨by repeat (first | (with_reducible first | exact HB.out | apply below_alloc | apply pw_below_drewN | apply below_drew1) | exact HB.out)⟩⟩
            · rw [if_neg c13] at H
              have c13b0 : decide (100 < (a0.size : Int)) = false := decide_eq_false c13
              try (have c13z_ := c13; simp only [xsz_app, xsz_rest, xsz_mk, List.length_cons, List.length_nil, Nat.zero_add, Int.natCast_add] at c13z_)
              have c13b1 : decide (100 < a0.size) = false := decide_eq_false (by omega)
              clear c13
              have H' := Aside0.mk H
              clear H
              go_wp2_with (first | ((with_reducible refine gate_callee (f := 15) rfl ?_); refine goesL_ (some 14) rfl rfl Try.func15 (by kernel_rfl) rfl #[.string a0] rfl (by (try simp only [List.map_toArray, List.map_cons, List.map_nil]); first | done | rfl | (simp only [List.length_drop, List.length_take]; rfl)) ?_; (with_reducible refine (tollbarref02_Target.calls k a0 true _ A8.out).mono ?_); rintro e w' ⟨rfl, ⟨nd, rfl⟩⟩; refine ⟨_, rfl, ?_⟩; have p11 : 0 ≤ (0 : Int) := (by omega); have q11 : 0 < a0.size := (by have : (0 : Int) < (a0.size : Int) := of_decide_eq_true (by first | (with_reducible assumption) | assumption); omega); have hx11 : ∀ h : 0 < a0.size, ((a0[0]'h).toNat : Int) = bt a0 0 := bt_at a0 0; clear p11; have qi11 : (0 < (a0.size : Int)) = True := eq_true (of_decide_eq_true (by first | (with_reducible assumption) | assumption)); replace q11 := eq_true q11))
              go_meet
              case rel => exact ⟨_, (decide ((a1.size : Int) > 200)), (by first | rfl | (simp; done) | (simp [*]; done)), H', ⟨by first | omega | exact Nat.le_refl _⟩, ⟨by repeat (first | (with_reducible first | exact HB.out | apply below_alloc | apply pw_below_drewN | apply below_drew1) | exact HB.out)⟩⟩
          · rw [if_neg c12] at H
            have c12b0 : ((bt a0 0) == 47) = false := beq_eq_false_iff_ne.mpr c12
            have c12b1 : ((bt a0 0) != 47) = true := bne_iff_ne.mpr c12
            have H' := Aside0.mk H
            clear H
            go_wp2_with (first | ((with_reducible refine gate_callee (f := 15) rfl ?_); refine goesL_ (some 14) rfl rfl Try.func15 (by kernel_rfl) rfl #[.string a0] rfl (by (try simp only [List.map_toArray, List.map_cons, List.map_nil]); first | done | rfl | (simp only [List.length_drop, List.length_take]; rfl)) ?_; (with_reducible refine (tollbarref02_Target.calls k a0 true _ A8.out).mono ?_); rintro e w' ⟨rfl, ⟨nd, rfl⟩⟩; refine ⟨_, rfl, ?_⟩; have p11 : 0 ≤ (0 : Int) := (by omega); have q11 : 0 < a0.size := (by have : (0 : Int) < (a0.size : Int) := of_decide_eq_true (by first | (with_reducible assumption) | assumption); omega); have hx11 : ∀ h : 0 < a0.size, ((a0[0]'h).toNat : Int) = bt a0 0 := bt_at a0 0; clear p11; have qi11 : (0 < (a0.size : Int)) = True := eq_true (of_decide_eq_true (by first | (with_reducible assumption) | assumption)); replace q11 := eq_true q11))
            go_meet
            case rel => exact ⟨_, (true), (by first | rfl | (simp; done) | (simp [*]; done)), H', ⟨by first | omega | exact Nat.le_refl _⟩, ⟨by repeat (first | (with_reducible first | exact HB.out | apply below_alloc | apply pw_below_drewN | apply below_drew1) | exact HB.out)⟩⟩
        · rw [if_neg c10] at H
          exact absurd H (by simp)
      · replace c9 := Bool.eq_false_iff.mpr c9
        subst c9
        have H1 : (tollbarlaw11_RouteWhole.j0 k a0 a1 a2 true) = some r := by rw [if_neg (show ¬ (false = true) by decide)] at H; exact H
        clear H
        have H := H1
        clear H1
        have H' := Aside0.mk H
        clear H
        go_wp2_with (first | ((with_reducible refine gate_callee (f := 15) rfl ?_); refine goesL_ (some 14) rfl rfl Try.func15 (by kernel_rfl) rfl #[.string a0] rfl (by (try simp only [List.map_toArray, List.map_cons, List.map_nil]); first | done | rfl | (simp only [List.length_drop, List.length_take]; rfl)) ?_; (with_reducible refine (tollbarref02_Target.calls k a0 false _ A8.out).mono ?_); rintro e w' ⟨rfl, ⟨nd, rfl⟩⟩; refine ⟨_, rfl, ?_⟩))
        go_meet
        case rel => exact ⟨_, (true), (by first | rfl | (simp; done) | (simp [*]; done)), H', ⟨by first | omega | exact Nat.le_refl _⟩, ⟨by repeat (first | (with_reducible first | exact HB.out | apply below_alloc | apply pw_below_drewN | apply below_drew1) | exact HB.out)⟩⟩
    case rest =>
      clear HC6
      try clear c1
      try clear p1
      try clear q1
      try clear hx1
      try clear qi1
      try clear p2
      try clear c5
      try clear c6
      try clear c7
      try clear c9
      try clear c10
      try clear c10b0
      try clear c10b1
      try clear p11
      try clear q11
      try clear hx11
      try clear qi11
      try clear c12
      try clear c12b0
      try clear c12b1
      try clear c13
      try clear c13b0
      try clear c13b1
      try clear p11
      try clear q11
      obtain ⟨kq, x30_5, rfl, HA, HJ5, HB⟩ := hcut
      cases kq with
      | zero => exact absurd HA.out (by simp [tollbarlaw11_RouteWhole.j0])
      | succ kj5 =>
        have H := HA.out
        clear HA
        simp only [tollbarlaw11_RouteWhole.j0] at H
        by_cases c14 : x30_5 = true
        · subst c14
          have H1 : (some true) = some r := by rw [if_pos rfl] at H; exact H
          clear H
          have H := H1
          clear H1
          obtain rfl := Option.some.inj H
          go_wp2
          go_ret
          exact ⟨by first | rfl | (simp [errW_none, errW_some] <;> rfl) | (simp [*, errW_none, errW_some] <;> rfl), by repeat (first | (with_reducible first | exact HB.out | apply below_alloc | apply pw_below_drewN | apply below_drew1) | exact HB.out)⟩
        · replace c14 := Bool.eq_false_iff.mpr c14
          subst c14
          have H1 : (tollbarlaw11_RouteWhole.l0 kj5 a0 a1 a2 0) = some r := by rw [if_neg (show ¬ (false = true) by decide)] at H; exact H
          clear H
          have H := H1
          clear H1
          have H' := Aside0.mk H
          clear H
          go_wp2
          go_loopg [7] kj5 (fun kq v7 w' => ∃ (x7_2 : Int), v7 = .int .i64 x7_2 ∧ Aside0 (tollbarlaw11_RouteWhole.l0 kq a0 a1 a2 x7_2 = some r) ∧ Aside0 (kq ≤ kj5) ∧ Aside0 (Below w.heap.size w w'))
          case atStart => exact ⟨(0), (by first | rfl | (simp; done) | (simp [*]; done)), H', ⟨Nat.le_refl _⟩, ⟨by repeat (first | (with_reducible first | exact HB.out | apply below_alloc | apply pw_below_drewN | apply below_drew1) | exact HB.out)⟩⟩
          case round =>
            clear H'
            try clear c1
            try clear p1
            try clear q1
            try clear hx1
            try clear qi1
            try clear p2
            try clear c5
            try clear c6
            try clear c7
            try clear c9
            try clear c10
            try clear c10b0
            try clear c10b1
            try clear p11
            try clear q11
            try clear hx11
            try clear qi11
            try clear c12
            try clear c12b0
            try clear c12b1
            try clear c13
            try clear c13b0
            try clear c13b1
            try clear c14
            try clear p1
            try clear p11
            try clear p2
            try clear q1
            try clear q11
            obtain ⟨x7_2, rfl, HA, HK2, HB⟩ := hrel
            cases gk with
            | zero => exact absurd HA.out (by simp [tollbarlaw11_RouteWhole.l0])
            | succ k2 =>
              have H := HA.out
              clear HA
              simp only [tollbarlaw11_RouteWhole.l0] at H
              by_cases c15 : x7_2 < (a0.size : Int)
              · rw [if_pos c15] at H
                have c15b0 : decide (x7_2 < (a0.size : Int)) = true := decide_eq_true c15
                try (have c15z_ := c15; simp only [xsz_app, xsz_rest, xsz_mk, List.length_cons, List.length_nil, Nat.zero_add, Int.natCast_add] at c15z_)
                clear c15
                by_cases c16 : 0 ≤ x7_2
                · rw [if_pos c16] at H
                  have c16b0 : decide (0 ≤ x7_2) = true := decide_eq_true c16
                  clear c16
                  by_cases c18 : (bt a0 x7_2) = 63
                  · rw [if_pos c18] at H
                    have c18b0 : ((bt a0 x7_2) == 63) = true := beq_iff_eq.mpr c18
                    have c18b1 : ((bt a0 x7_2) != 63) = false := bne_eq_false_iff_eq.mpr c18
                    clear c18
                    obtain rfl := Option.some.inj H
                    have p17 : 0 ≤ (x7_2 : Int) := of_decide_eq_true (by first | (with_reducible assumption) | assumption)
                    have q17 : x7_2 < (a0.size : Int) := of_decide_eq_true (by first | (with_reducible assumption) | assumption)
                    have hx17 := bt_at a0 x7_2
                    replace p17 := eq_true p17
                    replace q17 := eq_true q17
                    go_wp2
                    go_ret
                    exact ⟨by first | rfl | (simp [errW_none, errW_some] <;> rfl) | (simp [*, errW_none, errW_some] <;> rfl), by repeat (first | (with_reducible first | exact HB.out | apply below_alloc | apply pw_below_drewN | apply below_drew1) | exact HB.out)⟩
                  · rw [if_neg c18] at H
                    have c18b0 : ((bt a0 x7_2) == 63) = false := beq_eq_false_iff_ne.mpr c18
                    have c18b1 : ((bt a0 x7_2) != 63) = true := bne_iff_ne.mpr c18
                    have H' := Aside0.mk H
                    clear H
                    have p17 : 0 ≤ (x7_2 : Int) := of_decide_eq_true (by first | (with_reducible assumption) | assumption)
                    have q17 : x7_2 < (a0.size : Int) := of_decide_eq_true (by first | (with_reducible assumption) | assumption)
                    have hx17 := bt_at a0 x7_2
                    replace p17 := eq_true p17
                    replace q17 := eq_true q17
                    go_wp2
                    go_roundg k2
                    case measure => have := HJ5.out; have := HK2.out; omega
                    case rel => exact ⟨(wrap64 (x7_2 + 1)), (by first | rfl | (simp; done) | (simp [*]; done)), H', ⟨by have := HJ5.out; have := HK2.out; omega⟩, ⟨by repeat (first | (with_reducible first | exact HB.out | apply below_alloc | apply pw_below_drewN | apply below_drew1) | exact HB.out)⟩⟩
                · rw [if_neg c16] at H
                  exact absurd H (by simp)
              · rw [if_neg c15] at H
                have c15b0 : decide (x7_2 < (a0.size : Int)) = false := decide_eq_false c15
                try (have c15z_ := c15; simp only [xsz_app, xsz_rest, xsz_mk, List.length_cons, List.length_nil, Nat.zero_add, Int.natCast_add] at c15z_)
                clear c15
                obtain ⟨ji19, hji19⟩ : ∃ j_ : Int, (wrap64 ((a0.size : Int) - 1)) = j_ := ⟨_, rfl⟩
                replace H : (if 0 ≤ (ji19) then (if (ji19) < (a0.size : Int) then ((route_Fits.f a0 a0).bind fun t196 => (if t196 = true then (if a0.size + 1 ≤ 9223372036854775807 then (if (a0 ++ (⟨#[63]⟩ : ByteArray)).size + a1.size ≤ 9223372036854775807 then ((route_Fits.f a0 ((a0 ++ (⟨#[63]⟩ : ByteArray)) ++ a1)).bind fun t197 => (if t197 = true then (if (a0 ++ (⟨#[47]⟩ : ByteArray)).size + a1.size ≤ 9223372036854775807 then ((route_Fits.f a0 ((a0 ++ (⟨#[47]⟩ : ByteArray)) ++ a1)).bind fun t198 => (if t198 = true then (if (ji19) ≤ (a0.size : Int) then ((route_Fits.f a0 (a0.extract 0 ((ji19) : Int).toNat)).bind fun t199 => (tollbarlaw11_RouteWhole.j2 k2 a0 a1 a2 ((bt a0 (ji19)) == 47) t199)) else (none)) else (tollbarlaw11_RouteWhole.j2 k2 a0 a1 a2 ((bt a0 (ji19)) == 47) true))) else (none)) else (tollbarlaw11_RouteWhole.j2 k2 a0 a1 a2 ((bt a0 (ji19)) == 47) true))) else (none)) else (none)) else (tollbarlaw11_RouteWhole.j2 k2 a0 a1 a2 ((bt a0 (ji19)) == 47) true))) else (none)) else (none)) = some r := by first | (rw [hji19] at H; exact H) | (simp only [hji19] at H ⊢; exact H)
                have hji19w : (IntKind.i64.wrap ((a0.size : Int) - 1)) = ji19 := (i64_w _).trans hji19
                by_cases c20 : 0 ≤ (ji19)
                · rw [if_pos c20] at H
                  have c20b0 : decide (0 ≤ (ji19)) = true := decide_eq_true c20
                  clear c20
                  by_cases c21 : (ji19) < (a0.size : Int)
                  · rw [if_pos c21] at H
                    have c21b0 : decide ((ji19) < (a0.size : Int)) = true := decide_eq_true c21
                    try (have c21z_ := c21; simp only [xsz_app, xsz_rest, xsz_mk, List.length_cons, List.length_nil, Nat.zero_add, Int.natCast_add] at c21z_)
                    clear c21
                    have HC23 := Aside0.mk H
                    clear H
                    have p22 : 0 ≤ ((ji19) : Int) := of_decide_eq_true (by first | (with_reducible assumption) | assumption)
                    have q22 : (ji19) < (a0.size : Int) := of_decide_eq_true (by first | (with_reducible assumption) | assumption)
                    have hx22 := bt_at a0 (ji19)
                    replace p22 := eq_true p22
                    replace q22 := eq_true q22
                    go_upto_region 11 with (fail)
                    go_cut [77] (fun v77 wc => ∃ (kq : Nat) (x77_22 : Bool), v77 = .bool x77_22 ∧ Aside0 (tollbarlaw11_RouteWhole.j2 kq a0 a1 a2 ((bt a0 (ji19)) == 47) x77_22 = some r) ∧ Aside0 (kq ≤ k2) ∧ Aside0 (Below w.heap.size w wc))
                    case first =>
                      have H := HC23.out
                      clear HC23
                      replace H := Option.bind_eq_some_iff.mp H
                      obtain ⟨t196, A240, H⟩ := H
                      replace H : (if t196 = true then (if a0.size + 1 ≤ 9223372036854775807 then (if (a0 ++ (⟨#[63]⟩ : ByteArray)).size + a1.size ≤ 9223372036854775807 then ((route_Fits.f a0 ((a0 ++ (⟨#[63]⟩ : ByteArray)) ++ a1)).bind fun t197 => (if t197 = true then (if (a0 ++ (⟨#[47]⟩ : ByteArray)).size + a1.size ≤ 9223372036854775807 then ((route_Fits.f a0 ((a0 ++ (⟨#[47]⟩ : ByteArray)) ++ a1)).bind fun t198 => (if t198 = true then (if (ji19) ≤ (a0.size : Int) then ((route_Fits.f a0 (a0.extract 0 ((ji19) : Int).toNat)).bind fun t199 => (tollbarlaw11_RouteWhole.j2 k2 a0 a1 a2 ((bt a0 (ji19)) == 47) t199)) else (none)) else (tollbarlaw11_RouteWhole.j2 k2 a0 a1 a2 ((bt a0 (ji19)) == 47) true))) else (none)) else (tollbarlaw11_RouteWhole.j2 k2 a0 a1 a2 ((bt a0 (ji19)) == 47) true))) else (none)) else (none)) else (tollbarlaw11_RouteWhole.j2 k2 a0 a1 a2 ((bt a0 (ji19)) == 47) true)) = some r := H
                      have A24 := Aside0.mk A240
                      clear A240
                      by_cases c25 : t196 = true
                      · subst c25
                        have H1 : (if a0.size + 1 ≤ 9223372036854775807 then (if (a0 ++ (⟨#[63]⟩ : ByteArray)).size + a1.size ≤ 9223372036854775807 then ((route_Fits.f a0 ((a0 ++ (⟨#[63]⟩ : ByteArray)) ++ a1)).bind fun t197 => (if t197 = true then (if (a0 ++ (⟨#[47]⟩ : ByteArray)).size + a1.size ≤ 9223372036854775807 then ((route_Fits.f a0 ((a0 ++ (⟨#[47]⟩ : ByteArray)) ++ a1)).bind fun t198 => (if t198 = true then (if (ji19) ≤ (a0.size : Int) then ((route_Fits.f a0 (a0.extract 0 ((ji19) : Int).toNat)).bind fun t199 => (tollbarlaw11_RouteWhole.j2 k2 a0 a1 a2 ((bt a0 (ji19)) == 47) t199)) else (none)) else (tollbarlaw11_RouteWhole.j2 k2 a0 a1 a2 ((bt a0 (ji19)) == 47) true))) else (none)) else (tollbarlaw11_RouteWhole.j2 k2 a0 a1 a2 ((bt a0 (ji19)) == 47) true))) else (none)) else (none)) = some r := by rw [if_pos rfl] at H; exact H
                        clear H
                        have H := H1
                        clear H1
                        by_cases c26 : a0.size + 1 ≤ 9223372036854775807
                        · rw [if_pos c26] at H
                          have c26b0 := eq_true c26
                          try (have c26z_ := c26; simp only [xsz_app, xsz_rest, xsz_mk, List.length_cons, List.length_nil, Nat.zero_add, Int.natCast_add] at c26z_)
                          have c26b1 : decide (a0.size + 1 ≤ 9223372036854775807) = true := decide_eq_true c26
                          try have c26b2 : (9223372036854775807 < a0.size + 1) = False := eq_false (Nat.not_lt.2 c26)
                          by_cases c27 : (a0 ++ (⟨#[63]⟩ : ByteArray)).size + a1.size ≤ 9223372036854775807
                          · rw [if_pos c27] at H
                            have c27b0 := eq_true c27
                            have c27b1 : decide ((a0 ++ (⟨#[63]⟩ : ByteArray)).size + a1.size ≤ 9223372036854775807) = true := decide_eq_true c27
                            try have c27b2 : (9223372036854775807 < (a0 ++ (⟨#[63]⟩ : ByteArray)).size + a1.size) = False := eq_false (Nat.not_lt.2 c27)
                            replace H := Option.bind_eq_some_iff.mp H
                            obtain ⟨t197, A280, H⟩ := H
                            replace H : (if t197 = true then (if (a0 ++ (⟨#[47]⟩ : ByteArray)).size + a1.size ≤ 9223372036854775807 then ((route_Fits.f a0 ((a0 ++ (⟨#[47]⟩ : ByteArray)) ++ a1)).bind fun t198 => (if t198 = true then (if (ji19) ≤ (a0.size : Int) then ((route_Fits.f a0 (a0.extract 0 ((ji19) : Int).toNat)).bind fun t199 => (tollbarlaw11_RouteWhole.j2 k2 a0 a1 a2 ((bt a0 (ji19)) == 47) t199)) else (none)) else (tollbarlaw11_RouteWhole.j2 k2 a0 a1 a2 ((bt a0 (ji19)) == 47) true))) else (none)) else (tollbarlaw11_RouteWhole.j2 k2 a0 a1 a2 ((bt a0 (ji19)) == 47) true)) = some r := H
                            have A28 := Aside0.mk A280
                            clear A280
                            by_cases c29 : t197 = true
                            · subst c29
                              have H1 : (if (a0 ++ (⟨#[47]⟩ : ByteArray)).size + a1.size ≤ 9223372036854775807 then ((route_Fits.f a0 ((a0 ++ (⟨#[47]⟩ : ByteArray)) ++ a1)).bind fun t198 => (if t198 = true then (if (ji19) ≤ (a0.size : Int) then ((route_Fits.f a0 (a0.extract 0 ((ji19) : Int).toNat)).bind fun t199 => (tollbarlaw11_RouteWhole.j2 k2 a0 a1 a2 ((bt a0 (ji19)) == 47) t199)) else (none)) else (tollbarlaw11_RouteWhole.j2 k2 a0 a1 a2 ((bt a0 (ji19)) == 47) true))) else (none)) = some r := by rw [if_pos rfl] at H; exact H
                              clear H
                              have H := H1
                              clear H1
                              by_cases c30 : (a0 ++ (⟨#[47]⟩ : ByteArray)).size + a1.size ≤ 9223372036854775807
                              · rw [if_pos c30] at H
                                have c30b0 := eq_true c30
                                have c30b1 : decide ((a0 ++ (⟨#[47]⟩ : ByteArray)).size + a1.size ≤ 9223372036854775807) = true := decide_eq_true c30
                                try have c30b2 : (9223372036854775807 < (a0 ++ (⟨#[47]⟩ : ByteArray)).size + a1.size) = False := eq_false (Nat.not_lt.2 c30)
                                replace H := Option.bind_eq_some_iff.mp H
                                obtain ⟨t198, A310, H⟩ := H
                                replace H : (if t198 = true then (if (ji19) ≤ (a0.size : Int) then ((route_Fits.f a0 (a0.extract 0 ((ji19) : Int).toNat)).bind fun t199 => (tollbarlaw11_RouteWhole.j2 k2 a0 a1 a2 ((bt a0 (ji19)) == 47) t199)) else (none)) else (tollbarlaw11_RouteWhole.j2 k2 a0 a1 a2 ((bt a0 (ji19)) == 47) true)) = some r := H
                                have A31 := Aside0.mk A310
                                clear A310
                                by_cases c32 : t198 = true
                                · subst c32
                                  have H1 : (if (ji19) ≤ (a0.size : Int) then ((route_Fits.f a0 (a0.extract 0 ((ji19) : Int).toNat)).bind fun t199 => (tollbarlaw11_RouteWhole.j2 k2 a0 a1 a2 ((bt a0 (ji19)) == 47) t199)) else (none)) = some r := by rw [if_pos rfl] at H; exact H
                                  clear H
                                  have H := H1
                                  clear H1
                                  have c33b0 := eq_true (of_decide_eq_true (by first | (with_reducible assumption) | assumption) : 0 ≤ (ji19))
                                  by_cases c34 : (ji19) ≤ (a0.size : Int)
                                  · rw [if_pos c34] at H
                                    have c34b0 := eq_true c34
                                    have c34b1 : decide ((ji19) ≤ (a0.size : Int)) = true := decide_eq_true c34
                                    clear c34
                                    replace H := Option.bind_eq_some_iff.mp H
                                    obtain ⟨t199, A350, H⟩ := H
                                    replace H : (tollbarlaw11_RouteWhole.j2 k2 a0 a1 a2 ((bt a0 (ji19)) == 47) t199) = some r := H
                                    have A35 := Aside0.mk A350
                                    clear A350
                                    have H' := Aside0.mk H
                                    clear H
                                    go_wp2_with (first | ((with_reducible refine gate_callee (f := 12) rfl ?_); refine goesL_ (some 49) rfl rfl Try.func12 (by kernel_rfl) rfl #[.string a0, .string a0] rfl (by (try simp only [List.map_toArray, List.map_cons, List.map_nil]); first | done | rfl | (simp only [List.length_drop, List.length_take]; rfl)) ?_; (with_reducible refine (route_Fits.calls a0 a0 true _ A24.out).mono ?_); rintro e w' ⟨rfl, ⟨nd, rfl⟩⟩; refine ⟨_, rfl, ?_⟩) | (go_at_call 12; (with_reducible refine (route_Fits.calls a0 ((a0 ++ (⟨#[63]⟩ : ByteArray)) ++ a1) true _ A28.out).mono ?_); rintro e w' ⟨rfl, ⟨nd, rfl⟩⟩) | (go_at_call 12; (with_reducible refine (route_Fits.calls a0 ((a0 ++ (⟨#[47]⟩ : ByteArray)) ++ a1) true _ A31.out).mono ?_); rintro e w' ⟨rfl, ⟨nd, rfl⟩⟩) | (go_at_call 12; (with_reducible refine (route_Fits.calls a0 (a0.extract 0 ((ji19) : Int).toNat) t199 _ A35.out).mono ?_); rintro e w' ⟨rfl, ⟨nd, rfl⟩⟩))
                                    go_meet
                                    case rel => exact ⟨_, (t199), (by first | rfl | (simp; done) | (simp [*]; done)), H', ⟨by have := HJ5.out; have := HK2.out; first | omega | exact Nat.le_refl _⟩, ⟨by repeat (first | (with_reducible first | exact HB.out | apply below_alloc | apply pw_below_drewN | apply below_drew1) | exact HB.out)⟩⟩
                                  · rw [if_neg c34] at H
                                    exact absurd H (by simp)
                                · replace c32 := Bool.eq_false_iff.mpr c32
                                  subst c32
                                  have H1 : (tollbarlaw11_RouteWhole.j2 k2 a0 a1 a2 ((bt a0 (ji19)) == 47) true) = some r := by rw [if_neg (show ¬ (false = true) by decide)] at H; exact H
                                  clear H
                                  have H := H1
                                  clear H1
                                  have H' := Aside0.mk H
                                  clear H
                                  go_wp2_with (first | ((with_reducible refine gate_callee (f := 12) rfl ?_); refine goesL_ (some 49) rfl rfl Try.func12 (by kernel_rfl) rfl #[.string a0, .string a0] rfl (by (try simp only [List.map_toArray, List.map_cons, List.map_nil]); first | done | rfl | (simp only [List.length_drop, List.length_take]; rfl)) ?_; (with_reducible refine (route_Fits.calls a0 a0 true _ A24.out).mono ?_); rintro e w' ⟨rfl, ⟨nd, rfl⟩⟩; refine ⟨_, rfl, ?_⟩) | (go_at_call 12; (with_reducible refine (route_Fits.calls a0 ((a0 ++ (⟨#[63]⟩ : ByteArray)) ++ a1) true _ A28.out).mono ?_); rintro e w' ⟨rfl, ⟨nd, rfl⟩⟩) | (go_at_call 12; (with_reducible refine (route_Fits.calls a0 ((a0 ++ (⟨#[47]⟩ : ByteArray)) ++ a1) false _ A31.out).mono ?_); rintro e w' ⟨rfl, ⟨nd, rfl⟩⟩))
                                  go_meet
                                  case rel => exact ⟨_, (true), (by first | rfl | (simp; done) | (simp [*]; done)), H', ⟨by have := HJ5.out; have := HK2.out; first | omega | exact Nat.le_refl _⟩, ⟨by repeat (first | (with_reducible first | exact HB.out | apply below_alloc | apply pw_below_drewN | apply below_drew1) | exact HB.out)⟩⟩
                              · rw [if_neg c30] at H
                                exact absurd H (by simp)
                            · replace c29 := Bool.eq_false_iff.mpr c29
                              subst c29
                              have H1 : (tollbarlaw11_RouteWhole.j2 k2 a0 a1 a2 ((bt a0 (ji19)) == 47) true) = some r := by rw [if_neg (show ¬ (false = true) by decide)] at H; exact H
                              clear H
                              have H := H1
                              clear H1
                              have H' := Aside0.mk H
                              clear H
                              go_wp2_with (first | ((with_reducible refine gate_callee (f := 12) rfl ?_); refine goesL_ (some 49) rfl rfl Try.func12 (by kernel_rfl) rfl #[.string a0, .string a0] rfl (by (try simp only [List.map_toArray, List.map_cons, List.map_nil]); first | done | rfl | (simp only [List.length_drop, List.length_take]; rfl)) ?_; (with_reducible refine (route_Fits.calls a0 a0 true _ A24.out).mono ?_); rintro e w' ⟨rfl, ⟨nd, rfl⟩⟩; refine ⟨_, rfl, ?_⟩) | (go_at_call 12; (with_reducible refine (route_Fits.calls a0 ((a0 ++ (⟨#[63]⟩ : ByteArray)) ++ a1) false _ A28.out).mono ?_); rintro e w' ⟨rfl, ⟨nd, rfl⟩⟩))
                              go_meet
                              case rel => exact ⟨_, (true), (by first | rfl | (simp; done) | (simp [*]; done)), H', ⟨by have := HJ5.out; have := HK2.out; first | omega | exact Nat.le_refl _⟩, ⟨by repeat (first | (with_reducible first | exact HB.out | apply below_alloc | apply pw_below_drewN | apply below_drew1) | exact HB.out)⟩⟩
                          · rw [if_neg c27] at H
                            exact absurd H (by simp)
                        · rw [if_neg c26] at H
                          exact absurd H (by simp)
                      · replace c25 := Bool.eq_false_iff.mpr c25
                        subst c25
                        have H1 : (tollbarlaw11_RouteWhole.j2 k2 a0 a1 a2 ((bt a0 (ji19)) == 47) true) = some r := by rw [if_neg (show ¬ (false = true) by decide)] at H; exact H
                        clear H
                        have H := H1
                        clear H1
                        have H' := Aside0.mk H
                        clear H
                        go_wp2_with (first | ((with_reducible refine gate_callee (f := 12) rfl ?_); refine goesL_ (some 49) rfl rfl Try.func12 (by kernel_rfl) rfl #[.string a0, .string a0] rfl (by (try simp only [List.map_toArray, List.map_cons, List.map_nil]); first | done | rfl | (simp only [List.length_drop, List.length_take]; rfl)) ?_; (with_reducible refine (route_Fits.calls a0 a0 false _ A24.out).mono ?_); rintro e w' ⟨rfl, ⟨nd, rfl⟩⟩; refine ⟨_, rfl, ?_⟩))
                        go_meet
                        case rel => exact ⟨_, (true), (by first | rfl | (simp; done) | (simp [*]; done)), H', ⟨by have := HJ5.out; have := HK2.out; first | omega | exact Nat.le_refl _⟩, ⟨by repeat (first | (with_reducible first | exact HB.out | apply below_alloc | apply pw_below_drewN | apply below_drew1) | exact HB.out)⟩⟩
                    case rest =>
                      clear HC23
                      try clear c1
                      try clear p1
                      try clear q1
                      try clear hx1
                      try clear qi1
                      try clear c2
                      try clear p2
                      try clear q2
                      try clear hx2
                      try clear c3
                      try clear c5
                      try clear c6
                      try clear p6
                      try clear c7
                      try clear c9
                      try clear c10
                      try clear c10b0
                      try clear c10b1
                      try clear p11
                      try clear q11
                      try clear hx11
                      try clear qi11
                      try clear c12
                      try clear c12b0
                      try clear c12b1
                      try clear c13
                      try clear c13b0
                      try clear c13b1
                      try clear c14
                      try clear c15
                      try clear c15b0
                      try clear c16
                      try clear c16b0
                      try clear p17
                      try clear q17
                      try clear hx17
                      try clear c18
                      try clear c18b0
                      try clear c18b1
                      try clear c20
                      try clear c20b0
                      try clear c21
                      try clear c21b0
                      try clear p22
                      try clear q22
                      try clear hx22
                      try clear c25
                      try clear c26
                      try clear c26b0
                      try clear c26b1
                      try clear c26b2
                      try clear c27
                      try clear c27b0
                      try clear c27b1
                      try clear c27b2
                      try clear c29
                      try clear c30
                      try clear c30b0
                      try clear c30b1
                      try clear c30b2
                      try clear c32
                      try clear c33
                      try clear c33b0
                      try clear c34
                      try clear c34b0
                      try clear c34b1
                      try clear p1
                      try clear p11
                      try clear p17
                      try clear p2
                      try clear p22
                      try clear q1
                      try clear q11
                      try clear q17
                      try clear q22
                      obtain ⟨kq, x77_22, rfl, HA, HJ22, HB⟩ := hcut
                      cases kq with
                      | zero => exact absurd HA.out (by simp [tollbarlaw11_RouteWhole.j2])
                      | succ kj22 =>
                        have H := HA.out
                        clear HA
                        simp only [tollbarlaw11_RouteWhole.j2] at H
                        by_cases c36 : x77_22 = true
                        · subst c36
                          have H1 : (some false) = some r := by rw [if_pos rfl] at H; exact H
                          clear H
                          have H := H1
                          clear H1
                          obtain rfl := Option.some.inj H
                          go_wp2
                          go_ret
                          exact ⟨by first | rfl | (simp [errW_none, errW_some] <;> rfl) | (simp only [← hji19]; first | rfl | (simp [errW_none, errW_some] <;> rfl)) | (simp [*, errW_none, errW_some] <;> rfl), by repeat (first | (with_reducible first | exact HB.out | apply below_alloc | apply pw_below_drewN | apply below_drew1) | exact HB.out)⟩
                        · replace c36 := Bool.eq_false_iff.mpr c36
                          subst c36
                          have H1 : (if a2 = 47 then (tollbarlaw11_RouteWhole.j3 kj22 a0 a1 a2 ((bt a0 (ji19)) == 47) true) else (tollbarlaw11_RouteWhole.j3 kj22 a0 a1 a2 ((bt a0 (ji19)) == 47) (a2 == 63))) = some r := by rw [if_neg (show ¬ (false = true) by decide)] at H; exact H
                          clear H
                          have H := H1
                          clear H1
                          have HC37 := Aside0.mk H
                          clear H
                          go_upto_region 13 with (fail)
                          go_cut [83] (fun v83 wc => ∃ (kq : Nat) (x83_36 : Bool), v83 = .bool x83_36 ∧ Aside0 (tollbarlaw11_RouteWhole.j3 kq a0 a1 a2 ((bt a0 (ji19)) == 47) x83_36 = some r) ∧ Aside0 (kq ≤ kj22) ∧ Aside0 (Below w.heap.size w wc))
                          case first =>
                            have H := HC37.out
                            clear HC37
                            by_cases c38 : a2 = 47
                            · rw [if_pos c38] at H
                              have c38b0 : (a2 == 47) = true := beq_iff_eq.mpr c38
                              have c38b1 : (a2 != 47) = false := bne_eq_false_iff_eq.mpr c38
                              clear c38
                              (first | rw [c38b0] | (simp only [i64_w, i32_w]; rw [c38b0]) | skip)
                              have H' := Aside0.mk H
                              clear H
                              go_wp2
                              go_meet
                              case rel => exact ⟨_, (true), (by first | rfl | (simp; done) | (simp [*]; done)), H', ⟨by have := HJ5.out; have := HK2.out; have := HJ22.out; first | omega | exact Nat.le_refl _⟩, ⟨by repeat (first | (with_reducible first | exact HB.out | apply below_alloc | apply pw_below_drewN | apply below_drew1) | exact HB.out)⟩⟩
                            · rw [if_neg c38] at H
                              have c38b0 : (a2 == 47) = false := beq_eq_false_iff_ne.mpr c38
                              have c38b1 : (a2 != 47) = true := bne_iff_ne.mpr c38
                              (first | rw [c38b0] | (simp only [i64_w, i32_w]; rw [c38b0]) | skip)
                              have H' := Aside0.mk H
                              clear H
                              go_wp2
                              go_meet
                              case rel => exact ⟨_, ((a2 == 63)), (by first | rfl | (simp; done) | (simp [*]; done)), H', ⟨by have := HJ5.out; have := HK2.out; have := HJ22.out; first | omega | exact Nat.le_refl _⟩, ⟨by repeat (first | (with_reducible first | exact HB.out | apply below_alloc | apply pw_below_drewN | apply below_drew1) | exact HB.out)⟩⟩
                          case rest =>
                            clear HC37
                            try clear c1
                            try clear p1
                            try clear q1
                            try clear hx1
                            try clear qi1
                            try clear c2
                            try clear p2
                            try clear q2
                            try clear hx2
                            try clear c3
                            try clear c5
                            try clear c6
                            try clear p6
                            try clear c7
                            try clear c9
                            try clear c10
                            try clear c10b0
                            try clear c10b1
                            try clear p11
                            try clear q11
                            try clear hx11
                            try clear qi11
                            try clear c12
                            try clear c12b0
                            try clear c12b1
                            try clear c13
                            try clear c13b0
                            try clear c13b1
                            try clear c14
                            try clear c15
                            try clear c15b0
                            try clear c16
                            try clear c16b0
                            try clear p17
                            try clear q17
                            try clear hx17
                            try clear c18
                            try clear c18b0
                            try clear c18b1
                            try clear c20
                            try clear c20b0
                            try clear c21
                            try clear c21b0
                            try clear p22
                            try clear q22
                            try clear hx22
                            try clear c25
                            try clear c26
                            try clear c26b0
                            try clear c26b1
                            try clear c26b2
                            try clear c27
                            try clear c27b0
                            try clear c27b1
                            try clear c27b2
                            try clear c29
                            try clear c30
                            try clear c30b0
                            try clear c30b1
                            try clear c30b2
                            try clear c32
                            try clear c33
                            try clear c33b0
                            try clear c34
                            try clear c34b0
                            try clear c34b1
                            try clear c36
                            try clear c38
                            try clear c38b0
                            try clear c38b1
                            try clear p1
                            try clear p11
                            try clear p17
                            try clear p2
                            try clear p22
                            try clear p6
                            try clear q1
                            try clear q11
                            try clear q17
                            try clear q2
                            try clear q22
                            obtain ⟨kq, x83_36, rfl, HA, HJ36, HB⟩ := hcut
                            cases kq with
                            | zero => exact absurd HA.out (by simp [tollbarlaw11_RouteWhole.j3])
                            | succ kj36 =>
                              have H := HA.out
                              clear HA
                              simp only [tollbarlaw11_RouteWhole.j3] at H
                              by_cases c39 : x83_36 = true
                              · subst c39
                                have H1 : (some true) = some r := by rw [if_pos rfl] at H; exact H
                                clear H
                                have H := H1
                                clear H1
                                obtain rfl := Option.some.inj H
                                go_wp2
                                go_ret
                                exact ⟨by first | rfl | (simp [errW_none, errW_some] <;> rfl) | (simp only [← hji19]; first | rfl | (simp [errW_none, errW_some] <;> rfl)) | (simp [*, errW_none, errW_some] <;> rfl), by repeat (first | (with_reducible first | exact HB.out | apply below_alloc | apply pw_below_drewN | apply below_drew1) | exact HB.out)⟩
                              · replace c39 := Bool.eq_false_iff.mpr c39
                                subst c39
                                have H1 : ((route_Rewrite.f kj36 a0 (⟨#[]⟩ : ByteArray) (⟨#[47, 110]⟩ : ByteArray) a0).bind fun bt200 => ((some (([a2] : List Int) : List Int)).bind fun y202 => (if a0.size + (strOfNums y202).size ≤ 9223372036854775807 then (if (a0 ++ (strOfNums y202)).size + a1.size ≤ 9223372036854775807 then ((route_Fits.f a0 ((a0 ++ (strOfNums y202)) ++ a1)).bind fun t205 => (if (t205 == ((bt a0 (ji19)) == 47)) = true then (if bt200.2 = true then (some (bt200.1.toList == ([47, 110] : List UInt8))) else (some false)) else (some false))) else (none)) else (none)))) = some r := by rw [if_neg (show ¬ (false = true) by decide)] at H; exact H
                                clear H
                                have H := H1
                                clear H1
                                replace H := Option.bind_eq_some_iff.mp H
                                obtain ⟨⟨t200, t201⟩, A400, H⟩ := H
                                replace H : ((some (([a2] : List Int) : List Int)).bind fun y202 => (if a0.size + (strOfNums y202).size ≤ 9223372036854775807 then (if (a0 ++ (strOfNums y202)).size + a1.size ≤ 9223372036854775807 then ((route_Fits.f a0 ((a0 ++ (strOfNums y202)) ++ a1)).bind fun t205 => (if (t205 == ((bt a0 (ji19)) == 47)) = true then (if t201 = true then (some (t200.toList == ([47, 110] : List UInt8))) else (some false)) else (some false))) else (none)) else (none))) = some r := H
                                have A40 := Aside0.mk A400
                                clear A400
                                obtain ⟨y202, hy202⟩ : ∃ y_ : List Int, y_ = (([a2] : List Int)) := ⟨_, rfl⟩
                                replace H : (if a0.size + (strOfNums y202).size ≤ 9223372036854775807 then (if (a0 ++ (strOfNums y202)).size + a1.size ≤ 9223372036854775807 then ((route_Fits.f a0 ((a0 ++ (strOfNums y202)) ++ a1)).bind fun t205 => (if (t205 == ((bt a0 (ji19)) == 47)) = true then (if t201 = true then (some (t200.toList == ([47, 110] : List UInt8))) else (some false)) else (some false))) else (none)) else (none)) = some r := by first | (rw [hy202]; with_reducible exact H) | (have H2_ := (Option.bind_some _ _).symm.trans H; rw [hy202]; with_reducible exact H2_) | (have H2_ := (Option.bind_some _ _).symm.trans H; with_reducible exact H2_) | with_reducible exact H | (rw [hy202]; exact H) | exact H
                                have Ny202 := Aside0.mk hy202
                                clear hy202
                                by_cases c41 : a0.size + (strOfNums y202).size ≤ 9223372036854775807
                                · rw [if_pos c41] at H
                                  have c41b0 := eq_true c41
                                  have c41b1 : decide (a0.size + (strOfNums y202).size ≤ 9223372036854775807) = true := decide_eq_true c41
                                  try have c41b2 : (9223372036854775807 < a0.size + (strOfNums y202).size) = False := eq_false (Nat.not_lt.2 c41)
                                  by_cases c42 : (a0 ++ (strOfNums y202)).size + a1.size ≤ 9223372036854775807
                                  · rw [if_pos c42] at H
                                    have c42b0 := eq_true c42
                                    have c42b1 : decide ((a0 ++ (strOfNums y202)).size + a1.size ≤ 9223372036854775807) = true := decide_eq_true c42
                                    try have c42b2 : (9223372036854775807 < (a0 ++ (strOfNums y202)).size + a1.size) = False := eq_false (Nat.not_lt.2 c42)
                                    replace H := Option.bind_eq_some_iff.mp H
                                    obtain ⟨t205, A430, H⟩ := H
                                    replace H : (if (t205 == ((bt a0 (ji19)) == 47)) = true then (if t201 = true then (some (t200.toList == ([47, 110] : List UInt8))) else (some false)) else (some false)) = some r := H
                                    have A43 := Aside0.mk A430
                                    clear A430
                                    by_cases c44 : (t205 == ((bt a0 (ji19)) == 47)) = true
                                    · rw [if_pos c44] at H
                                      have c44b0 : (t205 == ((bt a0 (ji19)) == 47)) = true := c44
                                      (try (have c44b1 : decide (t205 = ((bt a0 (ji19)) == 47)) = true := by simpa using c44))
                                      (try (have c44b2 : (t205 == ((bt a0 (ji19)) == 47)) = true := by simpa using c44))
                                      clear c44
                                      by_cases c45 : t201 = true
                                      · subst c45
                                        have H1 : (some (t200.toList == ([47, 110] : List UInt8))) = some r := by rw [if_pos rfl] at H; exact H
                                        clear H
                                        have H := H1
                                        clear H1
                                        obtain rfl := Option.some.inj H
                                        go_wp2_with (first | ((with_reducible refine gate_callee (f := 10) rfl ?_); refine goesL_ (some 88) rfl rfl Try.func10 (by kernel_rfl) rfl #[.agg #[.string a0, .string (⟨#[]⟩ : ByteArray), .string (⟨#[47, 110]⟩ : ByteArray)], .string a0] rfl (by (try simp only [List.map_toArray, List.map_cons, List.map_nil]); first | done | rfl | (simp only [List.length_drop, List.length_take]; rfl)) ?_; (with_reducible refine (route_Rewrite.calls kj36 a0 (⟨#[]⟩ : ByteArray) (⟨#[47, 110]⟩ : ByteArray) a0 t200 true _ A40.out).mono ?_); rintro e w46 ⟨rfl, hb⟩; refine ⟨_, rfl, ?_⟩; have n0_ := Aside0.mk (below_step (by repeat (first | (with_reducible first | exact HB.out | apply below_alloc | apply pw_below_drewN | apply below_drew1) | exact HB.out)) hb); clear HB; have HB := n0_; clear n0_; (try clear hb); (try clear hb2); (try clear hk); (try clear hi)) | ((with_reducible refine gate_dst (N := 94) rfl ?_); (try (refine gate_guard (by rfl) ?_; dsimp only)); refine Kd.R_lit (Kd.int .u8) _ 5 ?hg (N := 94) ?hd (xs := ([a2] : List Int)) (inner := [.int .u8 a2]) (ok := fun _ => True) (okp := fun _ => True) ?hr ?hp (fun _ hk => hk) trivial (Below.refl _ _) (Nat.le_refl _) (by simp) ?_; (case hd => rfl); (case hg => rfl); (case hr => first | (go_simp; done) | (go_simp; rfl)); (case hp => exact (Reps.one (show Kd.M (Kd.int .u8) _ _ _ a2 [.int .u8 a2] from rfl) (Reps.none _ _))); intro v203 w47 ho48 hb hg_ hnew_; clear hg_ hnew_; (first | rw [← Ny202.out] at ho48 | (simp only [Int.reduceToNat] at ho48; rw [← Ny202.out] at ho48)); have n0_ := Aside0.mk (Kd.R_lower ho48 (below_size (by repeat (first | (with_reducible first | exact HB.out | apply below_alloc | apply pw_below_drewN | apply below_drew1) | exact HB.out)))); have n1_ := Aside0.mk (below_step (by repeat (first | (with_reducible first | exact HB.out | apply below_alloc | apply pw_below_drewN | apply below_drew1) | exact HB.out)) hb); clear HB; have HO204 := n0_; have HB := n1_; clear n0_ n1_; clear hb ho48; have hcv49 := own_string (P := Try.prog) Try.underlying33 Try.underlying5 Try.underlying9 (Kd.own_of_R HO204.out)) | ((with_reducible refine gate_callee (f := 12) rfl ?_); refine goesL_ (some 99) rfl rfl Try.func12 (by kernel_rfl) rfl #[.string a0, .string ((a0 ++ (strOfNums y202)) ++ a1)] rfl (by (try simp only [List.map_toArray, List.map_cons, List.map_nil]); first | done | rfl | (simp only [List.length_drop, List.length_take]; rfl)) ?_; (with_reducible refine (route_Fits.calls a0 ((a0 ++ (strOfNums y202)) ++ a1) t205 _ A43.out).mono ?_); rintro e w' ⟨rfl, ⟨nd, rfl⟩⟩; refine ⟨_, rfl, ?_⟩))
                                        go_ret
                                        exact ⟨by first | rfl | (simp [errW_none, errW_some] <;> rfl) | (simp only [← hji19]; first | rfl | (simp [errW_none, errW_some] <;> rfl)) | (simp [*, errW_none, errW_some] <;> rfl), by repeat (first | (with_reducible first | exact HB.out | apply below_alloc | apply pw_below_drewN | apply below_drew1) | exact HB.out)⟩
                                      · replace c45 := Bool.eq_false_iff.mpr c45
                                        subst c45
                                        have H1 : (some false) = some r := by rw [if_neg (show ¬ (false = true) by decide)] at H; exact H
                                        clear H
                                        have H := H1
                                        clear H1
                                        obtain rfl := Option.some.inj H
                                        go_wp2_with (first | ((with_reducible refine gate_callee (f := 10) rfl ?_); refine goesL_ (some 88) rfl rfl Try.func10 (by kernel_rfl) rfl #[.agg #[.string a0, .string (⟨#[]⟩ : ByteArray), .string (⟨#[47, 110]⟩ : ByteArray)], .string a0] rfl (by (try simp only [List.map_toArray, List.map_cons, List.map_nil]); first | done | rfl | (simp only [List.length_drop, List.length_take]; rfl)) ?_; (with_reducible refine (route_Rewrite.calls kj36 a0 (⟨#[]⟩ : ByteArray) (⟨#[47, 110]⟩ : ByteArray) a0 t200 false _ A40.out).mono ?_); rintro e w50 ⟨rfl, hb⟩; refine ⟨_, rfl, ?_⟩; have n0_ := Aside0.mk (below_step (by repeat (first | (with_reducible first | exact HB.out | apply below_alloc | apply pw_below_drewN | apply below_drew1) | exact HB.out)) hb); clear HB; have HB := n0_; clear n0_; (try clear hb); (try clear hb2); (try clear hk); (try clear hi)) | ((with_reducible refine gate_dst (N := 94) rfl ?_); (try (refine gate_guard (by rfl) ?_; dsimp only)); refine Kd.R_lit (Kd.int .u8) _ 5 ?hg (N := 94) ?hd (xs := ([a2] : List Int)) (inner := [.int .u8 a2]) (ok := fun _ => True) (okp := fun _ => True) ?hr ?hp (fun _ hk => hk) trivial (Below.refl _ _) (Nat.le_refl _) (by simp) ?_; (case hd => rfl); (case hg => rfl); (case hr => first | (go_simp; done) | (go_simp; rfl)); (case hp => exact (Reps.one (show Kd.M (Kd.int .u8) _ _ _ a2 [.int .u8 a2] from rfl) (Reps.none _ _))); intro v203 w51 ho52 hb hg_ hnew_; clear hg_ hnew_; (first | rw [← Ny202.out] at ho52 | (simp only [Int.reduceToNat] at ho52; rw [← Ny202.out] at ho52)); have n0_ := Aside0.mk (Kd.R_lower ho52 (below_size (by repeat (first | (with_reducible first | exact HB.out | apply below_alloc | apply pw_below_drewN | apply below_drew1) | exact HB.out)))); have n1_ := Aside0.mk (below_step (by repeat (first | (with_reducible first | exact HB.out | apply below_alloc | apply pw_below_drewN | apply below_drew1) | exact HB.out)) hb); clear HB; have HO204 := n0_; have HB := n1_; clear n0_ n1_; clear hb ho52; have hcv53 := own_string (P := Try.prog) Try.underlying33 Try.underlying5 Try.underlying9 (Kd.own_of_R HO204.out)) | ((with_reducible refine gate_callee (f := 12) rfl ?_); refine goesL_ (some 99) rfl rfl Try.func12 (by kernel_rfl) rfl #[.string a0, .string ((a0 ++ (strOfNums y202)) ++ a1)] rfl (by (try simp only [List.map_toArray, List.map_cons, List.map_nil]); first | done | rfl | (simp only [List.length_drop, List.length_take]; rfl)) ?_; (with_reducible refine (route_Fits.calls a0 ((a0 ++ (strOfNums y202)) ++ a1) t205 _ A43.out).mono ?_); rintro e w' ⟨rfl, ⟨nd, rfl⟩⟩; refine ⟨_, rfl, ?_⟩))
                                        go_ret
                                        exact ⟨by first | rfl | (simp [errW_none, errW_some] <;> rfl) | (simp only [← hji19]; first | rfl | (simp [errW_none, errW_some] <;> rfl)) | (simp [*, errW_none, errW_some] <;> rfl), by repeat (first | (with_reducible first | exact HB.out | apply below_alloc | apply pw_below_drewN | apply below_drew1) | exact HB.out)⟩
                                    · rw [if_neg c44] at H
                                      have c44b0 : (t205 == ((bt a0 (ji19)) == 47)) = false := by simpa using c44
                                      (try (have c44b1 : decide (t205 = ((bt a0 (ji19)) == 47)) = false := by simpa using c44))
                                      (try (have c44b2 : (t205 == ((bt a0 (ji19)) == 47)) = false := by simpa using c44))
                                      (try (have c44b3 : ¬ (t205 = ((bt a0 (ji19)) == 47)) := by simpa using c44))
                                      clear c44
                                      obtain rfl := Option.some.inj H
                                      go_wp2_with (first | ((with_reducible refine gate_callee (f := 10) rfl ?_); refine goesL_ (some 88) rfl rfl Try.func10 (by kernel_rfl) rfl #[.agg #[.string a0, .string (⟨#[]⟩ : ByteArray), .string (⟨#[47, 110]⟩ : ByteArray)], .string a0] rfl (by (try simp only [List.map_toArray, List.map_cons, List.map_nil]); first | done | rfl | (simp only [List.length_drop, List.length_take]; rfl)) ?_; (with_reducible refine (route_Rewrite.calls kj36 a0 (⟨#[]⟩ : ByteArray) (⟨#[47, 110]⟩ : ByteArray) a0 t200 t201 _ A40.out).mono ?_); rintro e w54 ⟨rfl, hb⟩; refine ⟨_, rfl, ?_⟩; have n0_ := Aside0.mk (below_step (by repeat (first | (with_reducible first | exact HB.out | apply below_alloc | apply pw_below_drewN | apply below_drew1) | exact HB.out)) hb); clear HB; have HB := n0_; clear n0_; (try clear hb); (try clear hb2); (try clear hk); (try clear hi)) | ((with_reducible refine gate_dst (N := 94) rfl ?_); (try (refine gate_guard (by rfl) ?_; dsimp only)); refine Kd.R_lit (Kd.int .u8) _ 5 ?hg (N := 94) ?hd (xs := ([a2] : List Int)) (inner := [.int .u8 a2]) (ok := fun _ => True) (okp := fun _ => True) ?hr ?hp (fun _ hk => hk) trivial (Below.refl _ _) (Nat.le_refl _) (by simp) ?_; (case hd => rfl); (case hg => rfl); (case hr => first | (go_simp; done) | (go_simp; rfl)); (case hp => exact (Reps.one (show Kd.M (Kd.int .u8) _ _ _ a2 [.int .u8 a2] from rfl) (Reps.none _ _))); intro v203 w55 ho56 hb hg_ hnew_; clear hg_ hnew_; (first | rw [← Ny202.out] at ho56 | (simp only [Int.reduceToNat] at ho56; rw [← Ny202.out] at ho56)); have n0_ := Aside0.mk (Kd.R_lower ho56 (below_size (by repeat (first | (with_reducible first | exact HB.out | apply below_alloc | apply pw_below_drewN | apply below_drew1) | exact HB.out)))); have n1_ := Aside0.mk (below_step (by repeat (first | (with_reducible first | exact HB.out | apply below_alloc | apply pw_below_drewN | apply below_drew1) | exact HB.out)) hb); clear HB; have HO204 := n0_; have HB := n1_; clear n0_ n1_; clear hb ho56; have hcv57 := own_string (P := Try.prog) Try.underlying33 Try.underlying5 Try.underlying9 (Kd.own_of_R HO204.out)) | ((with_reducible refine gate_callee (f := 12) rfl ?_); refine goesL_ (some 99) rfl rfl Try.func12 (by kernel_rfl) rfl #[.string a0, .string ((a0 ++ (strOfNums y202)) ++ a1)] rfl (by (try simp only [List.map_toArray, List.map_cons, List.map_nil]); first | done | rfl | (simp only [List.length_drop, List.length_take]; rfl)) ?_; (with_reducible refine (route_Fits.calls a0 ((a0 ++ (strOfNums y202)) ++ a1) t205 _ A43.out).mono ?_); rintro e w' ⟨rfl, ⟨nd, rfl⟩⟩; refine ⟨_, rfl, ?_⟩))
                                      go_ret
                                      exact ⟨by first | rfl | (simp [errW_none, errW_some] <;> rfl) | (simp only [← hji19]; first | rfl | (simp [errW_none, errW_some] <;> rfl)) | (simp [*, errW_none, errW_some] <;> rfl), by repeat (first | (with_reducible first | exact HB.out | apply below_alloc | apply pw_below_drewN | apply below_drew1) | exact HB.out)⟩
                                  · rw [if_neg c42] at H
                                    exact absurd H (by simp)
                                · rw [if_neg c41] at H
                                  exact absurd H (by simp)
                  · rw [if_neg c21] at H
                    exact absurd H (by simp)
                · rw [if_neg c20] at H
                  exact absurd H (by simp)
  · replace c5 := Bool.eq_false_iff.mpr c5
    subst c5
    have H1 : (some false) = some r := by rw [if_neg (show ¬ (false = true) by decide)] at H; exact H
    clear H
    have H := H1
    clear H1
    obtain rfl := Option.some.inj H
    go_enter Try.func6, Try.ntmps6
    go_wp2_with (first | ((with_reducible refine gate_callee (f := 7) rfl ?_); refine goesL_ (some 11) rfl rfl Try.func7 (by kernel_rfl) rfl #[] rfl (by (try simp only [List.map_toArray, List.map_cons, List.map_nil]); first | done | rfl | (simp only [List.length_drop, List.length_take]; rfl)) ?_; (with_reducible refine (tollbarlaw11_alive.calls k  false _ A4.out).mono ?_); rintro e w58 ⟨rfl, hb⟩; refine ⟨_, rfl, ?_⟩; have n0_ := Aside0.mk (below_step (by repeat (first | (with_reducible first | exact HB.out | apply below_alloc | apply pw_below_drewN | apply below_drew1) | exact HB.out)) hb); clear HB; have HB := n0_; clear n0_; (try clear hb); (try clear hb2); (try clear hk); (try clear hi)))
    go_ret
    exact ⟨by first | rfl | (simp [errW_none, errW_some] <;> rfl) | (simp [*, errW_none, errW_some] <;> rfl), by repeat (first | (with_reducible first | exact HB.out | apply below_alloc | apply pw_below_drewN | apply below_drew1) | exact HB.out)⟩

/-- THE ONE PURE STATEMENT of tollbarlaw11_RouteWhole. -/
def tollbarlaw11_RouteWhole.Pure : Prop := ∀ (a0 : ByteArray) (a1 : ByteArray) (a2 : Int), (a0.size ≤ 140737488351232) → (a1.size ≤ 140737488351232) → ((Lit.int .u8 a2).wf = true) → ∃ k, tollbarlaw11_RouteWhole.f k a0 a1 a2 = some true

end Go.Proofs.Yticcigdibkajaaa.PAll
