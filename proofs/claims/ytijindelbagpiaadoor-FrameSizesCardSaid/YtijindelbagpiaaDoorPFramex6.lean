-- Written by this session's program xprint.py over the kit's print, with contracts given by hand. Not trusted: Lean checks it.
import Derived.Test.YtijindelbagpiaaDoorPFramex0
import Derived.Test.YtijindelbagpiaaDoorPFramex3
import Derived.Test.YtijindelbagpiaaDoorPFramex4
import Derived.Test.YtijindelbagpiaaDoorPFramex5
namespace Go.Proofs.YtijindelbagpiaaDoor.PFrame
open Go.RowKit Go.Proofs.YtijindelbagpiaaDoorW.PrintWords Go.Proofs.YtijindelbagpiaaDoorW.PrintLast Go.Proofs.YtijindelbagpiaaDoorW.PrintMore
attribute [local go_sem] max2_int min2_int max_two min_two max_three min_three max_four min_four   -- for this text's walks alone
set_option linter.unusedVariables false
set_option linter.unusedSimpArgs false

/-! ### tollbarref07_Length: function 65 -/
def tollbarref07_Length.l0 : Nat → List ByteArray → Int → Bool → Int → Option (Int × Bool)
  | 0, _, _, _, _ => none
  | k + 1, x4, x5, x6, x7 => if x7 < (x4.length : Int) then (if 0 ≤ x7 then ((tollbarref02_Decimal.f k (rdOf ByteArray.empty x4 x7)).bind fun bt245 => (if bt245.2 = true then (if bt245.1 = x5 then (tollbarref07_Length.l0 k x4 x5 x6 (wrap64 (x7 + 1))) else (some (0, false))) else (some (0, false)))) else (none)) else (some (x5, x6))
def tollbarref07_Length.f (k : Nat) (l0 : List (S24)) : Option (Int × Bool) := (tollbarref04_List.f k l0 (⟨#[99, 111, 110, 116, 101, 110, 116, 45, 108, 101, 110, 103, 116, 104]⟩ : ByteArray)).bind fun t238 => (if (t238.length : Int) = 0 then (some (0, false)) else (if 0 < (t238.length : Int) then ((tollbarref02_Decimal.f k (rdOf ByteArray.empty t238 0)).bind fun bt242 => (tollbarref07_Length.l0 k t238 bt242.1 bt242.2 0)) else (none)))
theorem tollbarref07_Length.mono_l : ∀ k, (∀ y0 y1 y2 y3, LeO (tollbarref07_Length.l0 k y0 y1 y2 y3) (tollbarref07_Length.l0 (k + 1) y0 y1 y2 y3))
  | 0 => fun _ _ _ _ r h => by simp [tollbarref07_Length.l0] at h
  | k + 1 => by
    have ih0 := tollbarref07_Length.mono_l k
    · intro y0 y1 y2 y3
      unfold tollbarref07_Length.l0
      repeat' first
      | (with_reducible exact ih0 _ _ _ _)
      | (with_reducible exact tollbarref02_Decimal.mono _ _)
      | (with_reducible exact tollbarref04_List.mono _ _ _)
      | (with_reducible exact LeO.refl _)
      | (with_reducible exact LeO.none _)
      | (with_reducible refine LeO.ite ?_ ?_)
      | (with_reducible refine LeO.bind ?_ (fun _ => ?_))
      | exact ih0 _ _ _ _
      | exact tollbarref02_Decimal.mono _ _
      | exact tollbarref04_List.mono _ _ _
      | exact LeO.none _
      | refine LeO.ite ?_ ?_
      | refine LeO.bind ?_ (fun _ => ?_)
theorem tollbarref07_Length.mono : ∀ a0 k, LeO (tollbarref07_Length.f k a0) (tollbarref07_Length.f (k + 1) a0) := by
  intro a0 k
  have ih0 := tollbarref07_Length.mono_l k
  unfold tollbarref07_Length.f
  repeat' first
      | (with_reducible exact ih0 _ _ _ _)
      | (with_reducible exact tollbarref02_Decimal.mono _ _)
      | (with_reducible exact tollbarref04_List.mono _ _ _)
      | (with_reducible exact LeO.refl _)
      | (with_reducible exact LeO.none _)
      | (with_reducible refine LeO.ite ?_ ?_)
      | (with_reducible refine LeO.bind ?_ (fun _ => ?_))
      | exact ih0 _ _ _ _
      | exact tollbarref02_Decimal.mono _ _
      | exact tollbarref04_List.mono _ _ _
      | exact LeO.none _
      | refine LeO.ite ?_ ?_
      | refine LeO.bind ?_ (fun _ => ?_)
set_option maxHeartbeats 8000000 in
set_option maxRecDepth 100000 in
theorem tollbarref07_Length.calls (k : Nat) (A0 : Option Addr) (c0 : Nat) (l0 : List (S24)) (r1 : Int) (r2 : Bool) (w : World) (hr0 : Kd.C k24 w A0 l0.length l0) (hc0 : l0.length ≤ c0) (h : tollbarref07_Length.f k l0 = some (r1, r2)) :
    Calls Tryd.prog 65 #[.slice A0 l0.length c0] w fun e w' => e = .returned (.tuple #[.int .i64 r1, .bool r2]) ∧ Below w.heap.size w w' := by
  have HR0 := Aside0.mk hr0
  have HC0 := Aside0.mk hc0
  clear hr0 hc0
  have HB := Aside0.mk (Below.refl w.heap.size w)
  have H : ((tollbarref04_List.f k l0 (⟨#[99, 111, 110, 116, 101, 110, 116, 45, 108, 101, 110, 103, 116, 104]⟩ : ByteArray)).bind fun t238 => (if (t238.length : Int) = 0 then (some (0, false)) else (if 0 < (t238.length : Int) then ((tollbarref02_Decimal.f k (rdOf ByteArray.empty t238 0)).bind fun bt242 => (tollbarref07_Length.l0 k t238 bt242.1 bt242.2 0)) else (none)))) = some (r1, r2) := h
  clear h
  replace H := Option.bind_eq_some_iff.mp H
  obtain ⟨t238, A20, H⟩ := H
  replace H : (if (t238.length : Int) = 0 then (some (0, false)) else (if 0 < (t238.length : Int) then ((tollbarref02_Decimal.f k (rdOf ByteArray.empty t238 0)).bind fun bt242 => (tollbarref07_Length.l0 k t238 bt242.1 bt242.2 0)) else (none))) = some (r1, r2) := H
  have A2 := Aside0.mk A20
  clear A20
  by_cases c3 : (t238.length : Int) = 0
  · rw [if_pos c3] at H
    have c3b0 : ((t238.length : Int) == 0) = true := beq_iff_eq.mpr c3
    have c3b1 : ((t238.length : Int) != 0) = false := bne_eq_false_iff_eq.mpr c3
    clear c3
    simp only [Option.some.injEq, Prod.mk.injEq] at H
    obtain ⟨rfl, rfl⟩ := H
    go_enter Tryd.func65, Tryd.ntmps65
    go_wp2_with (first | ((with_reducible refine gate_callee (f := 23) rfl ?_); refine goesL_ (some 11) rfl rfl Tryd.func23 (by kernel_rfl) rfl #[.slice A0 l0.length c0, .string (⟨#[99, 111, 110, 116, 101, 110, 116, 45, 108, 101, 110, 103, 116, 104]⟩ : ByteArray)] rfl (by (try simp only [List.map_toArray, List.map_cons, List.map_nil]); first | done | rfl | (simp only [List.length_drop, List.length_take]; rfl)) ?_; (with_reducible refine (tollbarref04_List.calls k _ _ l0 (⟨#[99, 111, 110, 116, 101, 110, 116, 45, 108, 101, 110, 103, 116, 104]⟩ : ByteArray) t238 _ ?side1 ?side2 A2.out).mono ?_); (case side1 => repeat (first | exact HR0.out | (with_reducible refine Kd.C_alloc ?_ _) | (with_reducible refine Kd.C_drewN ?_ _) | (with_reducible refine Kd.C_drew ?_))); (case side2 => exact HC0.out); rintro e w4 ⟨v239, rfl, ho0, hb⟩; refine ⟨_, rfl, ?_⟩; have n0_ := Aside0.mk (Kd.R_lower ho0 (below_size (by repeat (first | (with_reducible first | exact HB.out | apply below_alloc | apply pw_below_drewN | apply below_drew1) | exact HB.out)))); have n1_ := Aside0.mk (below_step (by repeat (first | (with_reducible first | exact HB.out | apply below_alloc | apply pw_below_drewN | apply below_drew1) | exact HB.out)) hb); clear HB; have HO240 := n0_; have HB := n1_; clear n0_ n1_; (try clear hb); (try clear hb2); (try clear hk); (try clear hi); (try clear ho0); obtain ⟨Ao5, co5, eo5⟩ := Kd.R_slice HO240.out; subst eo5))
    go_ret2
    exact ⟨by first | rfl | (simp [errW_none, errW_some] <;> rfl) | (simp [*, errW_none, errW_some] <;> rfl), by repeat (first | (with_reducible first | exact HB.out | apply below_alloc | apply pw_below_drewN | apply below_drew1) | exact HB.out)⟩
  · rw [if_neg c3] at H
    have c3b0 : ((t238.length : Int) == 0) = false := beq_eq_false_iff_ne.mpr c3
    have c3b1 : ((t238.length : Int) != 0) = true := bne_iff_ne.mpr c3
    have c3b2 : ¬ (t238 = []) := fun h_ => c3 (by rw [h_]; rfl)
    by_cases c6 : 0 < (t238.length : Int)
    · rw [if_pos c6] at H
      have c6b0 : decide (0 < (t238.length : Int)) = true := decide_eq_true c6
      have c6b1 : decide (0 < t238.length) = true := decide_eq_true (by omega)
      clear c6
      replace H := Option.bind_eq_some_iff.mp H
      obtain ⟨⟨t242, t243⟩, A70, H⟩ := H
      replace H : (tollbarref07_Length.l0 k t238 t242 t243 0) = some (r1, r2) := H
      have A7 := Aside0.mk A70
      clear A70
      have H' := Aside0.mk H
      clear H
      go_enter Tryd.func65, Tryd.ntmps65
      go_wp2_with (first | ((with_reducible refine gate_callee (f := 23) rfl ?_); refine goesL_ (some 11) rfl rfl Tryd.func23 (by kernel_rfl) rfl #[.slice A0 l0.length c0, .string (⟨#[99, 111, 110, 116, 101, 110, 116, 45, 108, 101, 110, 103, 116, 104]⟩ : ByteArray)] rfl (by (try simp only [List.map_toArray, List.map_cons, List.map_nil]); first | done | rfl | (simp only [List.length_drop, List.length_take]; rfl)) ?_; (with_reducible refine (tollbarref04_List.calls k _ _ l0 (⟨#[99, 111, 110, 116, 101, 110, 116, 45, 108, 101, 110, 103, 116, 104]⟩ : ByteArray) t238 _ ?side1 ?side2 A2.out).mono ?_); (case side1 => repeat (first | exact HR0.out | (with_reducible refine Kd.C_alloc ?_ _) | (with_reducible refine Kd.C_drewN ?_ _) | (with_reducible refine Kd.C_drew ?_))); (case side2 => exact HC0.out); rintro e w8 ⟨v239, rfl, ho0, hb⟩; refine ⟨_, rfl, ?_⟩; have n0_ := Aside0.mk (Kd.R_lower ho0 (below_size (by repeat (first | (with_reducible first | exact HB.out | apply below_alloc | apply pw_below_drewN | apply below_drew1) | exact HB.out)))); have n1_ := Aside0.mk (below_step (by repeat (first | (with_reducible first | exact HB.out | apply below_alloc | apply pw_below_drewN | apply below_drew1) | exact HB.out)) hb); clear HB; have HO240 := n0_; have HB := n1_; clear n0_ n1_; (try clear hb); (try clear hb2); (try clear hk); (try clear hi); (try clear ho0); obtain ⟨Ao9, co9, eo9⟩ := Kd.R_slice HO240.out; subst eo9; have p241 : 0 ≤ (0 : Int) := (by omega); have q241 : 0 < (t238.length : Int) := of_decide_eq_true (by first | (with_reducible assumption) | assumption); obtain ⟨ad241, e241, hx241_0⟩ := Kd.at_string (Kd.R_reads' HO240.out).2.2 0 p241 q241; cases e241; have qi241 : (0 < t238.length) = True := eq_true (by omega); (try rw [show ((0 : Int)).toNat = 0 from rfl] at hx241_0); (try rw [Addr.add_zero'] at hx241_0); replace p241 := eq_true p241; replace q241 := eq_true q241) | ((with_reducible refine gate_callee (f := 78) rfl ?_); refine goesL_ (some 19) rfl rfl Tryd.func78 (by kernel_rfl) rfl #[.string (rdOf ByteArray.empty t238 0)] rfl (by (try simp only [List.map_toArray, List.map_cons, List.map_nil]); first | done | rfl | (simp only [List.length_drop, List.length_take]; rfl)) ?_; (with_reducible refine (tollbarref02_Decimal.calls k (rdOf ByteArray.empty t238 0) t242 t243 _ A7.out).mono ?_); rintro e w' ⟨rfl, ⟨nd, rfl⟩⟩; refine ⟨_, rfl, ?_⟩))
      go_loopg [7] k (fun kq v7 w' => ∃ (x7_1 : Int), v7 = .int .i64 x7_1 ∧ Aside0 (tollbarref07_Length.l0 kq t238 t242 t243 x7_1 = some (r1, r2)) ∧ Aside0 (kq ≤ k) ∧ Aside0 (Kd.R Kd.string 9 w' w.heap.size (fun _ => True) (.slice (some ad241) t238.length co9) t238) ∧ Aside0 (Below w.heap.size w w'))
      case atStart => exact ⟨(0), (by first | rfl | (simp; done) | (simp [*]; done)), H', ⟨Nat.le_refl _⟩, ⟨by (with_reducible repeat (first | apply Kd.R_alloc | apply Kd.R_drewN | apply Kd.R_drew)); exact HO240.out⟩, ⟨by repeat (first | (with_reducible first | exact HB.out | apply below_alloc | apply pw_below_drewN | apply below_drew1) | exact HB.out)⟩⟩
      case round =>
        clear H'
        try clear c2
        try clear p2
        try clear q2
        try clear hx2
        try clear qi2
        try clear c3
        try clear c3b0
        try clear c3b1
        try clear c3b2
        try clear c6
        try clear c6b0
        try clear c6b1
        try clear c7
        try clear hx241_0
        try clear p241
        try clear q241
        obtain ⟨x7_1, rfl, HA, HK1, HO_4, HB⟩ := hrel
        cases gk with
        | zero => exact absurd HA.out (by simp [tollbarref07_Length.l0])
        | succ k1 =>
          have H := HA.out
          clear HA
          simp only [tollbarref07_Length.l0] at H
          by_cases c10 : x7_1 < (t238.length : Int)
          · rw [if_pos c10] at H
            have c10b0 : decide (x7_1 < (t238.length : Int)) = true := decide_eq_true c10
            clear c10
            by_cases c11 : 0 ≤ x7_1
            · rw [if_pos c11] at H
              have c11b0 : decide (0 ≤ x7_1) = true := decide_eq_true c11
              clear c11
              replace H := Option.bind_eq_some_iff.mp H
              obtain ⟨⟨t245, t246⟩, A120, H⟩ := H
              replace H : (if t246 = true then (if t245 = t242 then (tollbarref07_Length.l0 k1 t238 t242 t243 (wrap64 (x7_1 + 1))) else (some (0, false))) else (some (0, false))) = some (r1, r2) := H
              have A12 := Aside0.mk A120
              clear A120
              by_cases c13 : t246 = true
              · subst c13
                have H1 : (if t245 = t242 then (tollbarref07_Length.l0 k1 t238 t242 t243 (wrap64 (x7_1 + 1))) else (some (0, false))) = some (r1, r2) := by rw [if_pos rfl] at H; exact H
                clear H
                have H := H1
                clear H1
                by_cases c14 : t245 = t242
                · rw [if_pos c14] at H
                  have c14b0 : (t245 == t242) = true := beq_iff_eq.mpr c14
                  have c14b1 : (t245 != t242) = false := bne_eq_false_iff_eq.mpr c14
                  clear c14
                  have H' := Aside0.mk H
                  clear H
                  have p244 : 0 ≤ (x7_1 : Int) := of_decide_eq_true (by first | (with_reducible assumption) | assumption)
                  have q244 : x7_1 < (t238.length : Int) := of_decide_eq_true (by first | (with_reducible assumption) | assumption)
                  obtain ⟨ad244, e244, hx244_0⟩ := Kd.at_string (Kd.R_reads' HO_4.out).2.2 x7_1 p244 q244
                  obtain rfl : ad241 = ad244 := (by injection e244)
                  replace p244 := eq_true p244
                  replace q244 := eq_true q244
                  go_wp2_with (first | ((with_reducible refine gate_callee (f := 78) rfl ?_); refine goesL_ (some 33) rfl rfl Tryd.func78 (by kernel_rfl) rfl #[.string (rdOf ByteArray.empty t238 x7_1)] rfl (by (try simp only [List.map_toArray, List.map_cons, List.map_nil]); first | done | rfl | (simp only [List.length_drop, List.length_take]; rfl)) ?_; (with_reducible refine (tollbarref02_Decimal.calls k1 (rdOf ByteArray.empty t238 x7_1) t245 true _ A12.out).mono ?_); rintro e w' ⟨rfl, ⟨nd, rfl⟩⟩; refine ⟨_, rfl, ?_⟩))
                  go_roundg k1
                  case measure => have := HK1.out; omega
                  case rel => exact ⟨(wrap64 (x7_1 + 1)), (by first | rfl | (simp; done) | (simp [*]; done)), H', ⟨by have := HK1.out; omega⟩, ⟨by (with_reducible repeat (first | apply Kd.R_alloc | apply Kd.R_drewN | apply Kd.R_drew)); exact HO_4.out⟩, ⟨by repeat (first | (with_reducible first | exact HB.out | apply below_alloc | apply pw_below_drewN | apply below_drew1) | exact HB.out)⟩⟩
                · rw [if_neg c14] at H
                  have c14b0 : (t245 == t242) = false := beq_eq_false_iff_ne.mpr c14
                  have c14b1 : (t245 != t242) = true := bne_iff_ne.mpr c14
                  simp only [Option.some.injEq, Prod.mk.injEq] at H
                  obtain ⟨rfl, rfl⟩ := H
                  have p244 : 0 ≤ (x7_1 : Int) := of_decide_eq_true (by first | (with_reducible assumption) | assumption)
                  have q244 : x7_1 < (t238.length : Int) := of_decide_eq_true (by first | (with_reducible assumption) | assumption)
                  obtain ⟨ad244, e244, hx244_0⟩ := Kd.at_string (Kd.R_reads' HO_4.out).2.2 x7_1 p244 q244
                  obtain rfl : ad241 = ad244 := (by injection e244)
                  replace p244 := eq_true p244
                  replace q244 := eq_true q244
                  go_wp2_with (first | ((with_reducible refine gate_callee (f := 78) rfl ?_); refine goesL_ (some 33) rfl rfl Tryd.func78 (by kernel_rfl) rfl #[.string (rdOf ByteArray.empty t238 x7_1)] rfl (by (try simp only [List.map_toArray, List.map_cons, List.map_nil]); first | done | rfl | (simp only [List.length_drop, List.length_take]; rfl)) ?_; (with_reducible refine (tollbarref02_Decimal.calls k1 (rdOf ByteArray.empty t238 x7_1) t245 true _ A12.out).mono ?_); rintro e w' ⟨rfl, ⟨nd, rfl⟩⟩; refine ⟨_, rfl, ?_⟩))
                  go_ret2
                  exact ⟨by first | rfl | (simp [errW_none, errW_some] <;> rfl) | (simp [*, errW_none, errW_some] <;> rfl), by repeat (first | (with_reducible first | exact HB.out | apply below_alloc | apply pw_below_drewN | apply below_drew1) | exact HB.out)⟩
              · replace c13 := Bool.eq_false_iff.mpr c13
                subst c13
                have H1 : (some (0, false)) = some (r1, r2) := by rw [if_neg (show ¬ (false = true) by decide)] at H; exact H
                clear H
                have H := H1
                clear H1
                simp only [Option.some.injEq, Prod.mk.injEq] at H
                obtain ⟨rfl, rfl⟩ := H
                have p244 : 0 ≤ (x7_1 : Int) := of_decide_eq_true (by first | (with_reducible assumption) | assumption)
                have q244 : x7_1 < (t238.length : Int) := of_decide_eq_true (by first | (with_reducible assumption) | assumption)
                obtain ⟨ad244, e244, hx244_0⟩ := Kd.at_string (Kd.R_reads' HO_4.out).2.2 x7_1 p244 q244
                obtain rfl : ad241 = ad244 := (by injection e244)
                replace p244 := eq_true p244
                replace q244 := eq_true q244
                go_wp2_with (first | ((with_reducible refine gate_callee (f := 78) rfl ?_); refine goesL_ (some 33) rfl rfl Tryd.func78 (by kernel_rfl) rfl #[.string (rdOf ByteArray.empty t238 x7_1)] rfl (by (try simp only [List.map_toArray, List.map_cons, List.map_nil]); first | done | rfl | (simp only [List.length_drop, List.length_take]; rfl)) ?_; (with_reducible refine (tollbarref02_Decimal.calls k1 (rdOf ByteArray.empty t238 x7_1) t245 false _ A12.out).mono ?_); rintro e w' ⟨rfl, ⟨nd, rfl⟩⟩; refine ⟨_, rfl, ?_⟩))
                go_ret2
                exact ⟨by first | rfl | (simp [errW_none, errW_some] <;> rfl) | (simp [*, errW_none, errW_some] <;> rfl), by repeat (first | (with_reducible first | exact HB.out | apply below_alloc | apply pw_below_drewN | apply below_drew1) | exact HB.out)⟩
            · rw [if_neg c11] at H
              exact absurd H (by simp)
          · rw [if_neg c10] at H
            have c10b0 : decide (x7_1 < (t238.length : Int)) = false := decide_eq_false c10
            clear c10
            simp only [Option.some.injEq, Prod.mk.injEq] at H
            obtain ⟨rfl, rfl⟩ := H
            go_wp2
            go_ret2
            exact ⟨by first | rfl | (simp [errW_none, errW_some] <;> rfl) | (simp [*, errW_none, errW_some] <;> rfl), by repeat (first | (with_reducible first | exact HB.out | apply below_alloc | apply pw_below_drewN | apply below_drew1) | exact HB.out)⟩
    · rw [if_neg c6] at H
      exact absurd H (by simp)

/-! ### tollbarref07_Request: function 36 -/
def tollbarref07_Request.j0 : Nat → List (S24) → Bool → Bool → Bool → Option (Int × Bool × Int)
  | 0, _, _, _, _ => none
  | k + 1, x0, x7, x8, x25 => if x25 = true then (some (0, false, 400)) else (if x8 = true then ((tollbarref07_Coded.f k x0).bind fun t249 => (if t249 = true then (some (0, true, 0)) else (some (0, false, 501)))) else (if x7 = true then ((tollbarref07_Length.f k x0).bind fun bt250 => (if bt250.2 = true then (if bt250.1 > 4096 then (some (0, false, 413)) else (some (bt250.1, false, 0))) else (some (0, false, 400)))) else (some (0, false, 0))))
def tollbarref07_Request.f (k : Nat) (l0 : List (S24)) (a1 : Int) : Option (Int × Bool × Int) := (tollbarref07_There.f k l0 (⟨#[99, 111, 110, 116, 101, 110, 116, 45, 108, 101, 110, 103, 116, 104]⟩ : ByteArray)).bind fun t247 => ((tollbarref07_There.f k l0 (⟨#[116, 114, 97, 110, 115, 102, 101, 114, 45, 101, 110, 99, 111, 100, 105, 110, 103]⟩ : ByteArray)).bind fun t248 => (if t247 = true then (if t248 = true then (tollbarref07_Request.j0 k l0 t247 t248 true) else (tollbarref07_Request.j0 k l0 t247 t248 false)) else (if t248 = true then (tollbarref07_Request.j0 k l0 t247 t248 (a1 == 0)) else (tollbarref07_Request.j0 k l0 t247 t248 false))))
theorem tollbarref07_Request.mono_l : ∀ k, (∀ y0 y1 y2 y3, LeO (tollbarref07_Request.j0 k y0 y1 y2 y3) (tollbarref07_Request.j0 (k + 1) y0 y1 y2 y3))
  | 0 => fun _ _ _ _ r h => by simp [tollbarref07_Request.j0] at h
  | k + 1 => by
    have ih0 := tollbarref07_Request.mono_l k
    · intro y0 y1 y2 y3
      unfold tollbarref07_Request.j0
      repeat' first
      | (with_reducible exact ih0 _ _ _ _)
      | (with_reducible exact tollbarref07_Coded.mono _ _)
      | (with_reducible exact tollbarref07_Length.mono _ _)
      | (with_reducible exact tollbarref07_There.mono _ _ _)
      | (with_reducible exact LeO.refl _)
      | (with_reducible exact LeO.none _)
      | (with_reducible refine LeO.ite ?_ ?_)
      | (with_reducible refine LeO.bind ?_ (fun _ => ?_))
      | exact ih0 _ _ _ _
      | exact tollbarref07_Coded.mono _ _
      | exact tollbarref07_Length.mono _ _
      | exact tollbarref07_There.mono _ _ _
      | exact LeO.none _
      | refine LeO.ite ?_ ?_
      | refine LeO.bind ?_ (fun _ => ?_)
theorem tollbarref07_Request.mono : ∀ a0 a1 k, LeO (tollbarref07_Request.f k a0 a1) (tollbarref07_Request.f (k + 1) a0 a1) := by
  intro a0 a1 k
  have ih0 := tollbarref07_Request.mono_l k
  unfold tollbarref07_Request.f
  repeat' first
      | (with_reducible exact ih0 _ _ _ _)
      | (with_reducible exact tollbarref07_Coded.mono _ _)
      | (with_reducible exact tollbarref07_Length.mono _ _)
      | (with_reducible exact tollbarref07_There.mono _ _ _)
      | (with_reducible exact LeO.refl _)
      | (with_reducible exact LeO.none _)
      | (with_reducible refine LeO.ite ?_ ?_)
      | (with_reducible refine LeO.bind ?_ (fun _ => ?_))
      | exact ih0 _ _ _ _
      | exact tollbarref07_Coded.mono _ _
      | exact tollbarref07_Length.mono _ _
      | exact tollbarref07_There.mono _ _ _
      | exact LeO.none _
      | refine LeO.ite ?_ ?_
      | refine LeO.bind ?_ (fun _ => ?_)
set_option maxHeartbeats 8000000 in
set_option maxRecDepth 100000 in
theorem tollbarref07_Request.calls (k : Nat) (A0 : Option Addr) (c0 : Nat) (l0 : List (S24)) (a1 : Int) (r1 : Int) (r2 : Bool) (r3 : Int) (w : World) (hr0 : Kd.C k24 w A0 l0.length l0) (hc0 : l0.length ≤ c0) (h : tollbarref07_Request.f k l0 a1 = some (r1, r2, r3)) :
    Calls Tryd.prog 36 #[.slice A0 l0.length c0, .int .i64 a1] w fun e w' => e = .returned (.tuple #[.int .i64 r1, .bool r2, .int .i64 r3]) ∧ Below w.heap.size w w' := by
  have HR0 := Aside0.mk hr0
  have HC0 := Aside0.mk hc0
  clear hr0 hc0
  have HB := Aside0.mk (Below.refl w.heap.size w)
  have H : ((tollbarref07_There.f k l0 (⟨#[99, 111, 110, 116, 101, 110, 116, 45, 108, 101, 110, 103, 116, 104]⟩ : ByteArray)).bind fun t247 => ((tollbarref07_There.f k l0 (⟨#[116, 114, 97, 110, 115, 102, 101, 114, 45, 101, 110, 99, 111, 100, 105, 110, 103]⟩ : ByteArray)).bind fun t248 => (if t247 = true then (if t248 = true then (tollbarref07_Request.j0 k l0 t247 t248 true) else (tollbarref07_Request.j0 k l0 t247 t248 false)) else (if t248 = true then (tollbarref07_Request.j0 k l0 t247 t248 (a1 == 0)) else (tollbarref07_Request.j0 k l0 t247 t248 false))))) = some (r1, r2, r3) := h
  clear h
  replace H := Option.bind_eq_some_iff.mp H
  obtain ⟨t247, A30, H⟩ := H
  replace H : ((tollbarref07_There.f k l0 (⟨#[116, 114, 97, 110, 115, 102, 101, 114, 45, 101, 110, 99, 111, 100, 105, 110, 103]⟩ : ByteArray)).bind fun t248 => (if t247 = true then (if t248 = true then (tollbarref07_Request.j0 k l0 t247 t248 true) else (tollbarref07_Request.j0 k l0 t247 t248 false)) else (if t248 = true then (tollbarref07_Request.j0 k l0 t247 t248 (a1 == 0)) else (tollbarref07_Request.j0 k l0 t247 t248 false)))) = some (r1, r2, r3) := H
  have A3 := Aside0.mk A30
  clear A30
  replace H := Option.bind_eq_some_iff.mp H
  obtain ⟨t248, A40, H⟩ := H
  replace H : (if t247 = true then (if t248 = true then (tollbarref07_Request.j0 k l0 t247 t248 true) else (tollbarref07_Request.j0 k l0 t247 t248 false)) else (if t248 = true then (tollbarref07_Request.j0 k l0 t247 t248 (a1 == 0)) else (tollbarref07_Request.j0 k l0 t247 t248 false))) = some (r1, r2, r3) := H
  have A4 := Aside0.mk A40
  clear A40
  have HC5 := Aside0.mk H
  clear H
  go_enter Tryd.func36, Tryd.ntmps36
  go_upto_region 2 with (first | ((with_reducible refine gate_callee (f := 63) rfl ?_); refine goesL_ (some 12) rfl rfl Tryd.func63 (by kernel_rfl) rfl #[.slice A0 l0.length c0, .string (⟨#[99, 111, 110, 116, 101, 110, 116, 45, 108, 101, 110, 103, 116, 104]⟩ : ByteArray)] rfl (by (try simp only [List.map_toArray, List.map_cons, List.map_nil]); first | done | rfl | (simp only [List.length_drop, List.length_take]; rfl)) ?_; (with_reducible refine (tollbarref07_There.calls k _ _ l0 (⟨#[99, 111, 110, 116, 101, 110, 116, 45, 108, 101, 110, 103, 116, 104]⟩ : ByteArray) t247 _ ?side1 ?side2 A3.out).mono ?_); (case side1 => repeat (first | exact HR0.out | (with_reducible refine Kd.C_alloc ?_ _) | (with_reducible refine Kd.C_drewN ?_ _) | (with_reducible refine Kd.C_drew ?_))); (case side2 => exact HC0.out); rintro e w6 ⟨rfl, hb⟩; refine ⟨_, rfl, ?_⟩; have n0_ := Aside0.mk (below_step (by repeat (first | (with_reducible first | exact HB.out | apply below_alloc | apply pw_below_drewN | apply below_drew1) | exact HB.out)) hb); clear HB; have HB := n0_; clear n0_; (try clear hb); (try clear hb2); (try clear hk); (try clear hi)) | ((with_reducible refine gate_callee (f := 63) rfl ?_); refine goesL_ (some 14) rfl rfl Tryd.func63 (by kernel_rfl) rfl #[.slice A0 l0.length c0, .string (⟨#[116, 114, 97, 110, 115, 102, 101, 114, 45, 101, 110, 99, 111, 100, 105, 110, 103]⟩ : ByteArray)] rfl (by (try simp only [List.map_toArray, List.map_cons, List.map_nil]); first | done | rfl | (simp only [List.length_drop, List.length_take]; rfl)) ?_; (with_reducible refine (tollbarref07_There.calls k _ _ l0 (⟨#[116, 114, 97, 110, 115, 102, 101, 114, 45, 101, 110, 99, 111, 100, 105, 110, 103]⟩ : ByteArray) t248 _ ?side1 ?side2 A4.out).mono ?_); (case side1 => repeat (first | exact (Kd.C_below HR0.out HB.out) | (with_reducible refine Kd.C_alloc ?_ _) | (with_reducible refine Kd.C_drewN ?_ _) | (with_reducible refine Kd.C_drew ?_))); (case side2 => exact HC0.out); rintro e w7 ⟨rfl, hb⟩; refine ⟨_, rfl, ?_⟩; have n0_ := Aside0.mk (below_step (by repeat (first | (with_reducible first | exact HB.out | apply below_alloc | apply pw_below_drewN | apply below_drew1) | exact HB.out)) hb); clear HB; have HB := n0_; clear n0_; (try clear hb); (try clear hb2); (try clear hk); (try clear hi)))
  (try simp only [Act.put, List.setIfInBounds_toArray, List.set_cons_zero, List.set_cons_succ])
  go_cut [25] (fun v25 wc => ∃ (kq : Nat) (x25_4 : Bool), v25 = .bool x25_4 ∧ Aside0 (tollbarref07_Request.j0 kq l0 t247 t248 x25_4 = some (r1, r2, r3)) ∧ Aside0 (kq ≤ k) ∧ Aside0 (Below w.heap.size w wc))
  case first =>
    have H := HC5.out
    clear HC5
    by_cases c8 : t247 = true
    · subst c8
      have H1 : (if t248 = true then (tollbarref07_Request.j0 k l0 true t248 true) else (tollbarref07_Request.j0 k l0 true t248 false)) = some (r1, r2, r3) := by rw [if_pos rfl] at H; exact H
      clear H
      have H := H1
      clear H1
      by_cases c9 : t248 = true
      · subst c9
        have H1 : (tollbarref07_Request.j0 k l0 true true true) = some (r1, r2, r3) := by rw [if_pos rfl] at H; exact H
        clear H
        have H := H1
        clear H1
        have H' := Aside0.mk H
        clear H
        go_wp2
        go_meet
        case rel => exact ⟨_, (true), (by first | rfl | (simp; done) | (simp [*]; done)), H', ⟨by first | omega | exact Nat.le_refl _⟩, ⟨by repeat (first | (with_reducible first | exact HB.out | apply below_alloc | apply pw_below_drewN | apply below_drew1) | exact HB.out)⟩⟩
      · replace c9 := Bool.eq_false_iff.mpr c9
        subst c9
        have H1 : (tollbarref07_Request.j0 k l0 true false false) = some (r1, r2, r3) := by rw [if_neg (show ¬ (false = true) by decide)] at H; exact H
        clear H
        have H := H1
        clear H1
        have H' := Aside0.mk H
        clear H
        go_wp2
        go_meet
        case rel => exact ⟨_, (false), (by first | rfl | (simp; done) | (simp [*]; done)), H', ⟨by first | omega | exact Nat.le_refl _⟩, ⟨by repeat (first | (with_reducible first | exact HB.out | apply below_alloc | apply pw_below_drewN | apply below_drew1) | exact HB.out)⟩⟩
    · replace c8 := Bool.eq_false_iff.mpr c8
      subst c8
      have H1 : (if t248 = true then (tollbarref07_Request.j0 k l0 false t248 (a1 == 0)) else (tollbarref07_Request.j0 k l0 false t248 false)) = some (r1, r2, r3) := by rw [if_neg (show ¬ (false = true) by decide)] at H; exact H
      clear H
      have H := H1
      clear H1
      by_cases c10 : t248 = true
      · subst c10
        have H1 : (tollbarref07_Request.j0 k l0 false true (a1 == 0)) = some (r1, r2, r3) := by rw [if_pos rfl] at H; exact H
        clear H
        have H := H1
        clear H1
        have H' := Aside0.mk H
        clear H
        go_wp2
        go_meet
        case rel => exact ⟨_, ((a1 == 0)), (by first | rfl | (simp; done) | (simp [*]; done)), H', ⟨by first | omega | exact Nat.le_refl _⟩, ⟨by repeat (first | (with_reducible first | exact HB.out | apply below_alloc | apply pw_below_drewN | apply below_drew1) | exact HB.out)⟩⟩
      · replace c10 := Bool.eq_false_iff.mpr c10
        subst c10
        have H1 : (tollbarref07_Request.j0 k l0 false false false) = some (r1, r2, r3) := by rw [if_neg (show ¬ (false = true) by decide)] at H; exact H
        clear H
        have H := H1
        clear H1
        have H' := Aside0.mk H
        clear H
        go_wp2
        go_meet
        case rel => exact ⟨_, (false), (by first | rfl | (simp; done) | (simp [*]; done)), H', ⟨by first | omega | exact Nat.le_refl _⟩, ⟨by repeat (first | (with_reducible first | exact HB.out | apply below_alloc | apply pw_below_drewN | apply below_drew1) | exact HB.out)⟩⟩
  case rest =>
    clear HC5
    try clear c1
    try clear p2
    try clear c3
    try clear c6
    try clear c8
    try clear c9
    try clear c10
    obtain ⟨kq, x25_4, rfl, HA, HJ4, HB⟩ := hcut
    cases kq with
    | zero => exact absurd HA.out (by simp [tollbarref07_Request.j0])
    | succ kj4 =>
      have H := HA.out
      clear HA
      simp only [tollbarref07_Request.j0] at H
      by_cases c11 : x25_4 = true
      · subst c11
        have H1 : (some (0, false, 400)) = some (r1, r2, r3) := by rw [if_pos rfl] at H; exact H
        clear H
        have H := H1
        clear H1
        simp only [Option.some.injEq, Prod.mk.injEq] at H
        obtain ⟨rfl, rfl, rfl⟩ := H
        go_wp2
        go_ret3
        exact ⟨by first | rfl | (simp [errW_none, errW_some] <;> rfl) | (simp [*, errW_none, errW_some] <;> rfl), by repeat (first | (with_reducible first | exact HB.out | apply below_alloc | apply pw_below_drewN | apply below_drew1) | exact HB.out)⟩
      · replace c11 := Bool.eq_false_iff.mpr c11
        subst c11
        have H1 : (if t248 = true then ((tollbarref07_Coded.f kj4 l0).bind fun t249 => (if t249 = true then (some (0, true, 0)) else (some (0, false, 501)))) else (if t247 = true then ((tollbarref07_Length.f kj4 l0).bind fun bt250 => (if bt250.2 = true then (if bt250.1 > 4096 then (some (0, false, 413)) else (some (bt250.1, false, 0))) else (some (0, false, 400)))) else (some (0, false, 0)))) = some (r1, r2, r3) := by rw [if_neg (show ¬ (false = true) by decide)] at H; exact H
        clear H
        have H := H1
        clear H1
        by_cases c12 : t248 = true
        · subst c12
          have H1 : ((tollbarref07_Coded.f kj4 l0).bind fun t249 => (if t249 = true then (some (0, true, 0)) else (some (0, false, 501)))) = some (r1, r2, r3) := by rw [if_pos rfl] at H; exact H
          clear H
          have H := H1
          clear H1
          replace H := Option.bind_eq_some_iff.mp H
          obtain ⟨t249, A130, H⟩ := H
          replace H : (if t249 = true then (some (0, true, 0)) else (some (0, false, 501))) = some (r1, r2, r3) := H
          have A13 := Aside0.mk A130
          clear A130
          by_cases c14 : t249 = true
          · subst c14
            have H1 : (some (0, true, 0)) = some (r1, r2, r3) := by rw [if_pos rfl] at H; exact H
            clear H
            have H := H1
            clear H1
            simp only [Option.some.injEq, Prod.mk.injEq] at H
            obtain ⟨rfl, rfl, rfl⟩ := H
            go_wp2_with (first | ((with_reducible refine gate_callee (f := 64) rfl ?_); refine goesL_ (some 28) rfl rfl Tryd.func64 (by kernel_rfl) rfl #[.slice A0 l0.length c0] rfl (by (try simp only [List.map_toArray, List.map_cons, List.map_nil]); first | done | rfl | (simp only [List.length_drop, List.length_take]; rfl)) ?_; (with_reducible refine (tollbarref07_Coded.calls kj4 _ _ l0 true _ ?side1 ?side2 A13.out).mono ?_); (case side1 => repeat (first | exact (Kd.C_below HR0.out HB.out) | (with_reducible refine Kd.C_alloc ?_ _) | (with_reducible refine Kd.C_drewN ?_ _) | (with_reducible refine Kd.C_drew ?_))); (case side2 => exact HC0.out); rintro e w15 ⟨rfl, hb⟩; refine ⟨_, rfl, ?_⟩; have n0_ := Aside0.mk (below_step (by repeat (first | (with_reducible first | exact HB.out | apply below_alloc | apply pw_below_drewN | apply below_drew1) | exact HB.out)) hb); clear HB; have HB := n0_; clear n0_; (try clear hb); (try clear hb2); (try clear hk); (try clear hi)))
            go_ret3
            exact ⟨by first | rfl | (simp [errW_none, errW_some] <;> rfl) | (simp [*, errW_none, errW_some] <;> rfl), by repeat (first | (with_reducible first | exact HB.out | apply below_alloc | apply pw_below_drewN | apply below_drew1) | exact HB.out)⟩
          · replace c14 := Bool.eq_false_iff.mpr c14
            subst c14
            have H1 : (some (0, false, 501)) = some (r1, r2, r3) := by rw [if_neg (show ¬ (false = true) by decide)] at H; exact H
            clear H
            have H := H1
            clear H1
            simp only [Option.some.injEq, Prod.mk.injEq] at H
            obtain ⟨rfl, rfl, rfl⟩ := H
            go_wp2_with (first | ((with_reducible refine gate_callee (f := 64) rfl ?_); refine goesL_ (some 28) rfl rfl Tryd.func64 (by kernel_rfl) rfl #[.slice A0 l0.length c0] rfl (by (try simp only [List.map_toArray, List.map_cons, List.map_nil]); first | done | rfl | (simp only [List.length_drop, List.length_take]; rfl)) ?_; (with_reducible refine (tollbarref07_Coded.calls kj4 _ _ l0 false _ ?side1 ?side2 A13.out).mono ?_); (case side1 => repeat (first | exact (Kd.C_below HR0.out HB.out) | (with_reducible refine Kd.C_alloc ?_ _) | (with_reducible refine Kd.C_drewN ?_ _) | (with_reducible refine Kd.C_drew ?_))); (case side2 => exact HC0.out); rintro e w16 ⟨rfl, hb⟩; refine ⟨_, rfl, ?_⟩; have n0_ := Aside0.mk (below_step (by repeat (first | (with_reducible first | exact HB.out | apply below_alloc | apply pw_below_drewN | apply below_drew1) | exact HB.out)) hb); clear HB; have HB := n0_; clear n0_; (try clear hb); (try clear hb2); (try clear hk); (try clear hi)))
            go_ret3
            exact ⟨by first | rfl | (simp [errW_none, errW_some] <;> rfl) | (simp [*, errW_none, errW_some] <;> rfl), by repeat (first | (with_reducible first | exact HB.out | apply below_alloc | apply pw_below_drewN | apply below_drew1) | exact HB.out)⟩
        · replace c12 := Bool.eq_false_iff.mpr c12
          subst c12
          have H1 : (if t247 = true then ((tollbarref07_Length.f kj4 l0).bind fun bt250 => (if bt250.2 = true then (if bt250.1 > 4096 then (some (0, false, 413)) else (some (bt250.1, false, 0))) else (some (0, false, 400)))) else (some (0, false, 0))) = some (r1, r2, r3) := by rw [if_neg (show ¬ (false = true) by decide)] at H; exact H
          clear H
          have H := H1
          clear H1
          by_cases c17 : t247 = true
          · subst c17
            have H1 : ((tollbarref07_Length.f kj4 l0).bind fun bt250 => (if bt250.2 = true then (if bt250.1 > 4096 then (some (0, false, 413)) else (some (bt250.1, false, 0))) else (some (0, false, 400)))) = some (r1, r2, r3) := by rw [if_pos rfl] at H; exact H
            clear H
            have H := H1
            clear H1
            replace H := Option.bind_eq_some_iff.mp H
            obtain ⟨⟨t250, t251⟩, A180, H⟩ := H
            replace H : (if t251 = true then (if t250 > 4096 then (some (0, false, 413)) else (some (t250, false, 0))) else (some (0, false, 400))) = some (r1, r2, r3) := H
            have A18 := Aside0.mk A180
            clear A180
            by_cases c19 : t251 = true
            · subst c19
              have H1 : (if t250 > 4096 then (some (0, false, 413)) else (some (t250, false, 0))) = some (r1, r2, r3) := by rw [if_pos rfl] at H; exact H
              clear H
              have H := H1
              clear H1
              by_cases c20 : t250 > 4096
              · rw [if_pos c20] at H
                have c20b0 : decide (4096 < t250) = true := decide_eq_true c20
                clear c20
                simp only [Option.some.injEq, Prod.mk.injEq] at H
                obtain ⟨rfl, rfl, rfl⟩ := H
                go_wp2_with (first | ((with_reducible refine gate_callee (f := 65) rfl ?_); refine goesL_ (some 33) rfl rfl Tryd.func65 (by kernel_rfl) rfl #[.slice A0 l0.length c0] rfl (by (try simp only [List.map_toArray, List.map_cons, List.map_nil]); first | done | rfl | (simp only [List.length_drop, List.length_take]; rfl)) ?_; (with_reducible refine (tollbarref07_Length.calls kj4 _ _ l0 t250 true _ ?side1 ?side2 A18.out).mono ?_); (case side1 => repeat (first | exact (Kd.C_below HR0.out HB.out) | (with_reducible refine Kd.C_alloc ?_ _) | (with_reducible refine Kd.C_drewN ?_ _) | (with_reducible refine Kd.C_drew ?_))); (case side2 => exact HC0.out); rintro e w21 ⟨rfl, hb⟩; refine ⟨_, rfl, ?_⟩; have n0_ := Aside0.mk (below_step (by repeat (first | (with_reducible first | exact HB.out | apply below_alloc | apply pw_below_drewN | apply below_drew1) | exact HB.out)) hb); clear HB; have HB := n0_; clear n0_; (try clear hb); (try clear hb2); (try clear hk); (try clear hi)))
                go_ret3
                exact ⟨by first | rfl | (simp [errW_none, errW_some] <;> rfl) | (simp [*, errW_none, errW_some] <;> rfl), by repeat (first | (with_reducible first | exact HB.out | apply below_alloc | apply pw_below_drewN | apply below_drew1) | exact HB.out)⟩
              · rw [if_neg c20] at H
                have c20b0 : decide (4096 < t250) = false := decide_eq_false c20
                clear c20
                simp only [Option.some.injEq, Prod.mk.injEq] at H
                obtain ⟨rfl, rfl, rfl⟩ := H
                go_wp2_with (first | ((with_reducible refine gate_callee (f := 65) rfl ?_); refine goesL_ (some 33) rfl rfl Tryd.func65 (by kernel_rfl) rfl #[.slice A0 l0.length c0] rfl (by (try simp only [List.map_toArray, List.map_cons, List.map_nil]); first | done | rfl | (simp only [List.length_drop, List.length_take]; rfl)) ?_; (with_reducible refine (tollbarref07_Length.calls kj4 _ _ l0 t250 true _ ?side1 ?side2 A18.out).mono ?_); (case side1 => repeat (first | exact (Kd.C_below HR0.out HB.out) | (with_reducible refine Kd.C_alloc ?_ _) | (with_reducible refine Kd.C_drewN ?_ _) | (with_reducible refine Kd.C_drew ?_))); (case side2 => exact HC0.out); rintro e w22 ⟨rfl, hb⟩; refine ⟨_, rfl, ?_⟩; have n0_ := Aside0.mk (below_step (by repeat (first | (with_reducible first | exact HB.out | apply below_alloc | apply pw_below_drewN | apply below_drew1) | exact HB.out)) hb); clear HB; have HB := n0_; clear n0_; (try clear hb); (try clear hb2); (try clear hk); (try clear hi)))
                go_ret3
                exact ⟨by first | rfl | (simp [errW_none, errW_some] <;> rfl) | (simp [*, errW_none, errW_some] <;> rfl), by repeat (first | (with_reducible first | exact HB.out | apply below_alloc | apply pw_below_drewN | apply below_drew1) | exact HB.out)⟩
            · replace c19 := Bool.eq_false_iff.mpr c19
              subst c19
              have H1 : (some (0, false, 400)) = some (r1, r2, r3) := by rw [if_neg (show ¬ (false = true) by decide)] at H; exact H
              clear H
              have H := H1
              clear H1
              simp only [Option.some.injEq, Prod.mk.injEq] at H
              obtain ⟨rfl, rfl, rfl⟩ := H
              go_wp2_with (first | ((with_reducible refine gate_callee (f := 65) rfl ?_); refine goesL_ (some 33) rfl rfl Tryd.func65 (by kernel_rfl) rfl #[.slice A0 l0.length c0] rfl (by (try simp only [List.map_toArray, List.map_cons, List.map_nil]); first | done | rfl | (simp only [List.length_drop, List.length_take]; rfl)) ?_; (with_reducible refine (tollbarref07_Length.calls kj4 _ _ l0 t250 false _ ?side1 ?side2 A18.out).mono ?_); (case side1 => repeat (first | exact (Kd.C_below HR0.out HB.out) | (with_reducible refine Kd.C_alloc ?_ _) | (with_reducible refine Kd.C_drewN ?_ _) | (with_reducible refine Kd.C_drew ?_))); (case side2 => exact HC0.out); rintro e w23 ⟨rfl, hb⟩; refine ⟨_, rfl, ?_⟩; have n0_ := Aside0.mk (below_step (by repeat (first | (with_reducible first | exact HB.out | apply below_alloc | apply pw_below_drewN | apply below_drew1) | exact HB.out)) hb); clear HB; have HB := n0_; clear n0_; (try clear hb); (try clear hb2); (try clear hk); (try clear hi)))
              go_ret3
              exact ⟨by first | rfl | (simp [errW_none, errW_some] <;> rfl) | (simp [*, errW_none, errW_some] <;> rfl), by repeat (first | (with_reducible first | exact HB.out | apply below_alloc | apply pw_below_drewN | apply below_drew1) | exact HB.out)⟩
          · replace c17 := Bool.eq_false_iff.mpr c17
            subst c17
            have H1 : (some (0, false, 0)) = some (r1, r2, r3) := by rw [if_neg (show ¬ (false = true) by decide)] at H; exact H
            clear H
            have H := H1
            clear H1
            simp only [Option.some.injEq, Prod.mk.injEq] at H
            obtain ⟨rfl, rfl, rfl⟩ := H
            go_wp2
            go_ret3
            exact ⟨by first | rfl | (simp [errW_none, errW_some] <;> rfl) | (simp [*, errW_none, errW_some] <;> rfl), by repeat (first | (with_reducible first | exact HB.out | apply below_alloc | apply pw_below_drewN | apply below_drew1) | exact HB.out)⟩

/-! ### tollbarref04_Has: function 25 -/
def tollbarref04_Has.l0 : Nat → ByteArray → List ByteArray → Int → Option (Bool)
  | 0, _, _, _ => none
  | k + 1, x2, x7, x8 => if x8 < (x7.length : Int) then (if 0 ≤ x8 then ((tollbarref04_same.f k (rdOf ByteArray.empty x7 x8) x2).bind fun t256 => (if t256 = true then (some true) else (tollbarref04_Has.l0 k x2 x7 (wrap64 (x8 + 1))))) else (none)) else (some false)
def tollbarref04_Has.f (k : Nat) (l0 : List (S24)) (a1 : ByteArray) (a2 : ByteArray) : Option (Bool) := (tollbarref04_List.f k l0 a1).bind fun t252 => (tollbarref04_Has.l0 k a2 t252 0)
theorem tollbarref04_Has.mono_l : ∀ k, (∀ y0 y1 y2, LeO (tollbarref04_Has.l0 k y0 y1 y2) (tollbarref04_Has.l0 (k + 1) y0 y1 y2))
  | 0 => fun _ _ _ r h => by simp [tollbarref04_Has.l0] at h
  | k + 1 => by
    have ih0 := tollbarref04_Has.mono_l k
    · intro y0 y1 y2
      unfold tollbarref04_Has.l0
      repeat' first
      | (with_reducible exact ih0 _ _ _)
      | (with_reducible exact tollbarref04_List.mono _ _ _)
      | (with_reducible exact tollbarref04_same.mono _ _ _)
      | (with_reducible exact LeO.refl _)
      | (with_reducible exact LeO.none _)
      | (with_reducible refine LeO.ite ?_ ?_)
      | (with_reducible refine LeO.bind ?_ (fun _ => ?_))
      | exact ih0 _ _ _
      | exact tollbarref04_List.mono _ _ _
      | exact tollbarref04_same.mono _ _ _
      | exact LeO.none _
      | refine LeO.ite ?_ ?_
      | refine LeO.bind ?_ (fun _ => ?_)
theorem tollbarref04_Has.mono : ∀ a0 a1 a2 k, LeO (tollbarref04_Has.f k a0 a1 a2) (tollbarref04_Has.f (k + 1) a0 a1 a2) := by
  intro a0 a1 a2 k
  have ih0 := tollbarref04_Has.mono_l k
  unfold tollbarref04_Has.f
  repeat' first
      | (with_reducible exact ih0 _ _ _)
      | (with_reducible exact tollbarref04_List.mono _ _ _)
      | (with_reducible exact tollbarref04_same.mono _ _ _)
      | (with_reducible exact LeO.refl _)
      | (with_reducible exact LeO.none _)
      | (with_reducible refine LeO.ite ?_ ?_)
      | (with_reducible refine LeO.bind ?_ (fun _ => ?_))
      | exact ih0 _ _ _
      | exact tollbarref04_List.mono _ _ _
      | exact tollbarref04_same.mono _ _ _
      | exact LeO.none _
      | refine LeO.ite ?_ ?_
      | refine LeO.bind ?_ (fun _ => ?_)
set_option maxHeartbeats 8000000 in
set_option maxRecDepth 100000 in
theorem tollbarref04_Has.calls (k : Nat) (A0 : Option Addr) (c0 : Nat) (l0 : List (S24)) (a1 : ByteArray) (a2 : ByteArray) (r : Bool) (w : World) (hr0 : Kd.C k24 w A0 l0.length l0) (hc0 : l0.length ≤ c0) (h : tollbarref04_Has.f k l0 a1 a2 = some r) :
    Calls Tryd.prog 25 #[.slice A0 l0.length c0, .string a1, .string a2] w fun e w' => e = .returned (.bool r) ∧ Below w.heap.size w w' := by
  have HR0 := Aside0.mk hr0
  have HC0 := Aside0.mk hc0
  clear hr0 hc0
  have HB := Aside0.mk (Below.refl w.heap.size w)
  have H : ((tollbarref04_List.f k l0 a1).bind fun t252 => (tollbarref04_Has.l0 k a2 t252 0)) = some r := h
  clear h
  replace H := Option.bind_eq_some_iff.mp H
  obtain ⟨t252, A40, H⟩ := H
  replace H : (tollbarref04_Has.l0 k a2 t252 0) = some r := H
  have A4 := Aside0.mk A40
  clear A40
  have H' := Aside0.mk H
  clear H
  go_enter Tryd.func25, Tryd.ntmps25
  go_wp2_with (first | ((with_reducible refine gate_callee (f := 23) rfl ?_); refine goesL_ (some 11) rfl rfl Tryd.func23 (by kernel_rfl) rfl #[.slice A0 l0.length c0, .string a1] rfl (by (try simp only [List.map_toArray, List.map_cons, List.map_nil]); first | done | rfl | (simp only [List.length_drop, List.length_take]; rfl)) ?_; (with_reducible refine (tollbarref04_List.calls k _ _ l0 a1 t252 _ ?side1 ?side2 A4.out).mono ?_); (case side1 => repeat (first | exact HR0.out | (with_reducible refine Kd.C_alloc ?_ _) | (with_reducible refine Kd.C_drewN ?_ _) | (with_reducible refine Kd.C_drew ?_))); (case side2 => exact HC0.out); rintro e w5 ⟨v253, rfl, ho0, hb⟩; refine ⟨_, rfl, ?_⟩; have n0_ := Aside0.mk (Kd.R_lower ho0 (below_size (by repeat (first | (with_reducible first | exact HB.out | apply below_alloc | apply pw_below_drewN | apply below_drew1) | exact HB.out)))); have n1_ := Aside0.mk (below_step (by repeat (first | (with_reducible first | exact HB.out | apply below_alloc | apply pw_below_drewN | apply below_drew1) | exact HB.out)) hb); clear HB; have HO254 := n0_; have HB := n1_; clear n0_ n1_; (try clear hb); (try clear hb2); (try clear hk); (try clear hi); (try clear ho0)))
  go_loopg [8] k (fun kq v8 w' => ∃ (x8_1 : Int), v8 = .int .i64 x8_1 ∧ Aside0 (tollbarref04_Has.l0 kq a2 t252 x8_1 = some r) ∧ Aside0 (kq ≤ k) ∧ Aside0 (Kd.R Kd.string 9 w' w.heap.size (fun _ => True) v253 t252) ∧ Aside0 (Below w.heap.size w w'))
  case atStart => exact ⟨(0), (by first | rfl | (simp; done) | (simp [*]; done)), H', ⟨Nat.le_refl _⟩, ⟨by (with_reducible repeat (first | apply Kd.R_alloc | apply Kd.R_drewN | apply Kd.R_drew)); exact HO254.out⟩, ⟨by repeat (first | (with_reducible first | exact HB.out | apply below_alloc | apply pw_below_drewN | apply below_drew1) | exact HB.out)⟩⟩
  case round =>
    clear H'
    try clear c2
    try clear p2
    obtain ⟨x8_1, rfl, HA, HK1, HO_7, HB⟩ := hrel
    cases gk with
    | zero => exact absurd HA.out (by simp [tollbarref04_Has.l0])
    | succ k1 =>
      have H := HA.out
      clear HA
      simp only [tollbarref04_Has.l0] at H
      by_cases c6 : x8_1 < (t252.length : Int)
      · rw [if_pos c6] at H
        have c6b0 : decide (x8_1 < (t252.length : Int)) = true := decide_eq_true c6
        clear c6
        by_cases c7 : 0 ≤ x8_1
        · rw [if_pos c7] at H
          have c7b0 : decide (0 ≤ x8_1) = true := decide_eq_true c7
          clear c7
          replace H := Option.bind_eq_some_iff.mp H
          obtain ⟨t256, A80, H⟩ := H
          replace H : (if t256 = true then (some true) else (tollbarref04_Has.l0 k1 a2 t252 (wrap64 (x8_1 + 1)))) = some r := H
          have A8 := Aside0.mk A80
          clear A80
          by_cases c9 : t256 = true
          · subst c9
            have H1 : (some true) = some r := by rw [if_pos rfl] at H; exact H
            clear H
            have H := H1
            clear H1
            obtain rfl := Option.some.inj H
            obtain ⟨Ao10, co10, eo10⟩ := Kd.R_slice HO_7.out
            subst eo10
            have p255 : 0 ≤ (x8_1 : Int) := of_decide_eq_true (by first | (with_reducible assumption) | assumption)
            have q255 : x8_1 < (t252.length : Int) := of_decide_eq_true (by first | (with_reducible assumption) | assumption)
            obtain ⟨ad255, e255, hx255_0⟩ := Kd.at_string (Kd.R_reads' HO_7.out).2.2 x8_1 p255 q255
            cases e255
            replace p255 := eq_true p255
            replace q255 := eq_true q255
            go_wp2_with (first | ((with_reducible refine gate_callee (f := 49) rfl ?_); refine goesL_ (some 23) rfl rfl Tryd.func49 (by kernel_rfl) rfl #[.string (rdOf ByteArray.empty t252 x8_1), .string a2] rfl (by (try simp only [List.map_toArray, List.map_cons, List.map_nil]); first | done | rfl | (simp only [List.length_drop, List.length_take]; rfl)) ?_; (with_reducible refine (tollbarref04_same.calls k1 (rdOf ByteArray.empty t252 x8_1) a2 true _ A8.out).mono ?_); rintro e w11 ⟨rfl, hb⟩; refine ⟨_, rfl, ?_⟩; have n0_ := Aside0.mk (Kd.R_below (by (with_reducible repeat (first | apply Kd.R_alloc | apply Kd.R_drewN | apply Kd.R_drew)); exact HO_7.out) hb); have n1_ := Aside0.mk (below_step (by repeat (first | (with_reducible first | exact HB.out | apply below_alloc | apply pw_below_drewN | apply below_drew1) | exact HB.out)) hb); clear HO_7; clear HB; have HO_7 := n0_; have HB := n1_; clear n0_ n1_; (try clear hb); (try clear hb2); (try clear hk); (try clear hi)))
            go_ret
            exact ⟨by first | rfl | (simp [errW_none, errW_some] <;> rfl) | (simp [*, errW_none, errW_some] <;> rfl), by repeat (first | (with_reducible first | exact HB.out | apply below_alloc | apply pw_below_drewN | apply below_drew1) | exact HB.out)⟩
          · replace c9 := Bool.eq_false_iff.mpr c9
            subst c9
            have H1 : (tollbarref04_Has.l0 k1 a2 t252 (wrap64 (x8_1 + 1))) = some r := by rw [if_neg (show ¬ (false = true) by decide)] at H; exact H
            clear H
            have H := H1
            clear H1
            have H' := Aside0.mk H
            clear H
            obtain ⟨Ao12, co12, eo12⟩ := Kd.R_slice HO_7.out
            subst eo12
            have p255 : 0 ≤ (x8_1 : Int) := of_decide_eq_true (by first | (with_reducible assumption) | assumption)
            have q255 : x8_1 < (t252.length : Int) := of_decide_eq_true (by first | (with_reducible assumption) | assumption)
            obtain ⟨ad255, e255, hx255_0⟩ := Kd.at_string (Kd.R_reads' HO_7.out).2.2 x8_1 p255 q255
            cases e255
            replace p255 := eq_true p255
            replace q255 := eq_true q255
            go_wp2_with (first | ((with_reducible refine gate_callee (f := 49) rfl ?_); refine goesL_ (some 23) rfl rfl Tryd.func49 (by kernel_rfl) rfl #[.string (rdOf ByteArray.empty t252 x8_1), .string a2] rfl (by (try simp only [List.map_toArray, List.map_cons, List.map_nil]); first | done | rfl | (simp only [List.length_drop, List.length_take]; rfl)) ?_; (with_reducible refine (tollbarref04_same.calls k1 (rdOf ByteArray.empty t252 x8_1) a2 false _ A8.out).mono ?_); rintro e w13 ⟨rfl, hb⟩; refine ⟨_, rfl, ?_⟩; have n0_ := Aside0.mk (Kd.R_below (by (with_reducible repeat (first | apply Kd.R_alloc | apply Kd.R_drewN | apply Kd.R_drew)); exact HO_7.out) hb); have n1_ := Aside0.mk (below_step (by repeat (first | (with_reducible first | exact HB.out | apply below_alloc | apply pw_below_drewN | apply below_drew1) | exact HB.out)) hb); clear HO_7; clear HB; have HO_7 := n0_; have HB := n1_; clear n0_ n1_; (try clear hb); (try clear hb2); (try clear hk); (try clear hi)))
            go_roundg k1
            case measure => have := HK1.out; omega
            case rel => exact ⟨(wrap64 (x8_1 + 1)), (by first | rfl | (simp; done) | (simp [*]; done)), H', ⟨by have := HK1.out; omega⟩, ⟨by (with_reducible repeat (first | apply Kd.R_alloc | apply Kd.R_drewN | apply Kd.R_drew)); exact HO_7.out⟩, ⟨by repeat (first | (with_reducible first | exact HB.out | apply below_alloc | apply pw_below_drewN | apply below_drew1) | exact HB.out)⟩⟩
        · rw [if_neg c7] at H
          exact absurd H (by simp)
      · rw [if_neg c6] at H
        have c6b0 : decide (x8_1 < (t252.length : Int)) = false := decide_eq_false c6
        clear c6
        obtain rfl := Option.some.inj H
        obtain ⟨Ao14, co14, eo14⟩ := Kd.R_slice HO_7.out
        subst eo14
        go_wp2
        go_ret
        exact ⟨by first | rfl | (simp [errW_none, errW_some] <;> rfl) | (simp [*, errW_none, errW_some] <;> rfl), by repeat (first | (with_reducible first | exact HB.out | apply below_alloc | apply pw_below_drewN | apply below_drew1) | exact HB.out)⟩

/-! ### tollbarref07_Closes: function 38 -/
def tollbarref07_Closes.f (k : Nat) (l0 : List (S24)) (a1 : Int) : Option (Bool) := (tollbarref04_Has.f k l0 (⟨#[99, 111, 110, 110, 101, 99, 116, 105, 111, 110]⟩ : ByteArray) (⟨#[99, 108, 111, 115, 101]⟩ : ByteArray)).bind fun t257 => (if t257 = true then (some true) else (if a1 = 0 then ((tollbarref04_Has.f k l0 (⟨#[99, 111, 110, 110, 101, 99, 116, 105, 111, 110]⟩ : ByteArray) (⟨#[107, 101, 101, 112, 45, 97, 108, 105, 118, 101]⟩ : ByteArray)).bind fun t258 => (some (!t258))) else (some false)))
theorem tollbarref07_Closes.mono : ∀ a0 a1 k, LeO (tollbarref07_Closes.f k a0 a1) (tollbarref07_Closes.f (k + 1) a0 a1) := by
  intro a0 a1 k
  unfold tollbarref07_Closes.f
  repeat' first
      | (with_reducible exact tollbarref04_Has.mono _ _ _ _)
      | (with_reducible exact LeO.refl _)
      | (with_reducible exact LeO.none _)
      | (with_reducible refine LeO.ite ?_ ?_)
      | (with_reducible refine LeO.bind ?_ (fun _ => ?_))
      | exact tollbarref04_Has.mono _ _ _ _
      | exact LeO.none _
      | refine LeO.ite ?_ ?_
      | refine LeO.bind ?_ (fun _ => ?_)
set_option maxHeartbeats 8000000 in
set_option maxRecDepth 100000 in
theorem tollbarref07_Closes.calls (k : Nat) (A0 : Option Addr) (c0 : Nat) (l0 : List (S24)) (a1 : Int) (r : Bool) (w : World) (hr0 : Kd.C k24 w A0 l0.length l0) (hc0 : l0.length ≤ c0) (h : tollbarref07_Closes.f k l0 a1 = some r) :
    Calls Tryd.prog 38 #[.slice A0 l0.length c0, .int .i64 a1] w fun e w' => e = .returned (.bool r) ∧ Below w.heap.size w w' := by
  have HR0 := Aside0.mk hr0
  have HC0 := Aside0.mk hc0
  clear hr0 hc0
  have HB := Aside0.mk (Below.refl w.heap.size w)
  have H : ((tollbarref04_Has.f k l0 (⟨#[99, 111, 110, 110, 101, 99, 116, 105, 111, 110]⟩ : ByteArray) (⟨#[99, 108, 111, 115, 101]⟩ : ByteArray)).bind fun t257 => (if t257 = true then (some true) else (if a1 = 0 then ((tollbarref04_Has.f k l0 (⟨#[99, 111, 110, 110, 101, 99, 116, 105, 111, 110]⟩ : ByteArray) (⟨#[107, 101, 101, 112, 45, 97, 108, 105, 118, 101]⟩ : ByteArray)).bind fun t258 => (some (!t258))) else (some false)))) = some r := h
  clear h
  replace H := Option.bind_eq_some_iff.mp H
  obtain ⟨t257, A30, H⟩ := H
  replace H : (if t257 = true then (some true) else (if a1 = 0 then ((tollbarref04_Has.f k l0 (⟨#[99, 111, 110, 110, 101, 99, 116, 105, 111, 110]⟩ : ByteArray) (⟨#[107, 101, 101, 112, 45, 97, 108, 105, 118, 101]⟩ : ByteArray)).bind fun t258 => (some (!t258))) else (some false))) = some r := H
  have A3 := Aside0.mk A30
  clear A30
  by_cases c4 : t257 = true
  · subst c4
    have H1 : (some true) = some r := by rw [if_pos rfl] at H; exact H
    clear H
    have H := H1
    clear H1
    obtain rfl := Option.some.inj H
    go_enter Tryd.func38, Tryd.ntmps38
    go_wp2_with (first | ((with_reducible refine gate_callee (f := 25) rfl ?_); refine goesL_ (some 6) rfl rfl Tryd.func25 (by kernel_rfl) rfl #[.slice A0 l0.length c0, .string (⟨#[99, 111, 110, 110, 101, 99, 116, 105, 111, 110]⟩ : ByteArray), .string (⟨#[99, 108, 111, 115, 101]⟩ : ByteArray)] rfl (by (try simp only [List.map_toArray, List.map_cons, List.map_nil]); first | done | rfl | (simp only [List.length_drop, List.length_take]; rfl)) ?_; (with_reducible refine (tollbarref04_Has.calls k _ _ l0 (⟨#[99, 111, 110, 110, 101, 99, 116, 105, 111, 110]⟩ : ByteArray) (⟨#[99, 108, 111, 115, 101]⟩ : ByteArray) true _ ?side1 ?side2 A3.out).mono ?_); (case side1 => repeat (first | exact HR0.out | (with_reducible refine Kd.C_alloc ?_ _) | (with_reducible refine Kd.C_drewN ?_ _) | (with_reducible refine Kd.C_drew ?_))); (case side2 => exact HC0.out); rintro e w5 ⟨rfl, hb⟩; refine ⟨_, rfl, ?_⟩; have n0_ := Aside0.mk (below_step (by repeat (first | (with_reducible first | exact HB.out | apply below_alloc | apply pw_below_drewN | apply below_drew1) | exact HB.out)) hb); clear HB; have HB := n0_; clear n0_; (try clear hb); (try clear hb2); (try clear hk); (try clear hi)))
    go_ret
    exact ⟨by first | rfl | (simp [errW_none, errW_some] <;> rfl) | (simp [*, errW_none, errW_some] <;> rfl), by repeat (first | (with_reducible first | exact HB.out | apply below_alloc | apply pw_below_drewN | apply below_drew1) | exact HB.out)⟩
  · replace c4 := Bool.eq_false_iff.mpr c4
    subst c4
    have H1 : (if a1 = 0 then ((tollbarref04_Has.f k l0 (⟨#[99, 111, 110, 110, 101, 99, 116, 105, 111, 110]⟩ : ByteArray) (⟨#[107, 101, 101, 112, 45, 97, 108, 105, 118, 101]⟩ : ByteArray)).bind fun t258 => (some (!t258))) else (some false)) = some r := by rw [if_neg (show ¬ (false = true) by decide)] at H; exact H
    clear H
    have H := H1
    clear H1
    by_cases c6 : a1 = 0
    · rw [if_pos c6] at H
      have c6b0 : (a1 == 0) = true := beq_iff_eq.mpr c6
      try (have c6z_ := c6; simp only [xsz_app, xsz_rest, xsz_mk, List.length_cons, List.length_nil, Nat.zero_add, Int.natCast_add] at c6z_)
      have c6b1 : (a1 != 0) = false := bne_eq_false_iff_eq.mpr c6
      clear c6
      replace H := Option.bind_eq_some_iff.mp H
      obtain ⟨t258, A70, H⟩ := H
      replace H : (some (!t258)) = some r := H
      have A7 := Aside0.mk A70
      clear A70
      obtain rfl := Option.some.inj H
      go_enter Tryd.func38, Tryd.ntmps38
      go_wp2_with (first | ((with_reducible refine gate_callee (f := 25) rfl ?_); refine goesL_ (some 6) rfl rfl Tryd.func25 (by kernel_rfl) rfl #[.slice A0 l0.length c0, .string (⟨#[99, 111, 110, 110, 101, 99, 116, 105, 111, 110]⟩ : ByteArray), .string (⟨#[99, 108, 111, 115, 101]⟩ : ByteArray)] rfl (by (try simp only [List.map_toArray, List.map_cons, List.map_nil]); first | done | rfl | (simp only [List.length_drop, List.length_take]; rfl)) ?_; (with_reducible refine (tollbarref04_Has.calls k _ _ l0 (⟨#[99, 111, 110, 110, 101, 99, 116, 105, 111, 110]⟩ : ByteArray) (⟨#[99, 108, 111, 115, 101]⟩ : ByteArray) false _ ?side1 ?side2 A3.out).mono ?_); (case side1 => repeat (first | exact HR0.out | (with_reducible refine Kd.C_alloc ?_ _) | (with_reducible refine Kd.C_drewN ?_ _) | (with_reducible refine Kd.C_drew ?_))); (case side2 => exact HC0.out); rintro e w8 ⟨rfl, hb⟩; refine ⟨_, rfl, ?_⟩; have n0_ := Aside0.mk (below_step (by repeat (first | (with_reducible first | exact HB.out | apply below_alloc | apply pw_below_drewN | apply below_drew1) | exact HB.out)) hb); clear HB; have HB := n0_; clear n0_; (try clear hb); (try clear hb2); (try clear hk); (try clear hi)) | (go_at_call 25; (with_reducible refine (tollbarref04_Has.calls k _ _ l0 (⟨#[99, 111, 110, 110, 101, 99, 116, 105, 111, 110]⟩ : ByteArray) (⟨#[107, 101, 101, 112, 45, 97, 108, 105, 118, 101]⟩ : ByteArray) t258 _ ?side1 ?side2 A7.out).mono ?_); (case side1 => repeat (first | exact (Kd.C_below HR0.out HB.out) | (with_reducible refine Kd.C_alloc ?_ _) | (with_reducible refine Kd.C_drewN ?_ _) | (with_reducible refine Kd.C_drew ?_))); (case side2 => exact HC0.out); rintro e w9 ⟨rfl, hb⟩; have n0_ := Aside0.mk (below_step (by repeat (first | (with_reducible first | exact HB.out | apply below_alloc | apply pw_below_drewN | apply below_drew1) | exact HB.out)) hb); clear HB; have HB := n0_; clear n0_; (try clear hb); (try clear hb2); (try clear hk); (try clear hi)))
      go_ret
      exact ⟨by first | rfl | (simp [errW_none, errW_some] <;> rfl) | (simp [*, errW_none, errW_some] <;> rfl), by repeat (first | (with_reducible first | exact HB.out | apply below_alloc | apply pw_below_drewN | apply below_drew1) | exact HB.out)⟩
    · rw [if_neg c6] at H
      have c6b0 : (a1 == 0) = false := beq_eq_false_iff_ne.mpr c6
      try (have c6z_ := c6; simp only [xsz_app, xsz_rest, xsz_mk, List.length_cons, List.length_nil, Nat.zero_add, Int.natCast_add] at c6z_)
      have c6b1 : (a1 != 0) = true := bne_iff_ne.mpr c6
      obtain rfl := Option.some.inj H
      go_enter Tryd.func38, Tryd.ntmps38
      go_wp2_with (first | ((with_reducible refine gate_callee (f := 25) rfl ?_); refine goesL_ (some 6) rfl rfl Tryd.func25 (by kernel_rfl) rfl #[.slice A0 l0.length c0, .string (⟨#[99, 111, 110, 110, 101, 99, 116, 105, 111, 110]⟩ : ByteArray), .string (⟨#[99, 108, 111, 115, 101]⟩ : ByteArray)] rfl (by (try simp only [List.map_toArray, List.map_cons, List.map_nil]); first | done | rfl | (simp only [List.length_drop, List.length_take]; rfl)) ?_; (with_reducible refine (tollbarref04_Has.calls k _ _ l0 (⟨#[99, 111, 110, 110, 101, 99, 116, 105, 111, 110]⟩ : ByteArray) (⟨#[99, 108, 111, 115, 101]⟩ : ByteArray) false _ ?side1 ?side2 A3.out).mono ?_); (case side1 => repeat (first | exact HR0.out | (with_reducible refine Kd.C_alloc ?_ _) | (with_reducible refine Kd.C_drewN ?_ _) | (with_reducible refine Kd.C_drew ?_))); (case side2 => exact HC0.out); rintro e w10 ⟨rfl, hb⟩; refine ⟨_, rfl, ?_⟩; have n0_ := Aside0.mk (below_step (by repeat (first | (with_reducible first | exact HB.out | apply below_alloc | apply pw_below_drewN | apply below_drew1) | exact HB.out)) hb); clear HB; have HB := n0_; clear n0_; (try clear hb); (try clear hb2); (try clear hk); (try clear hi)))
      go_ret
      exact ⟨by first | rfl | (simp [errW_none, errW_some] <;> rfl) | (simp [*, errW_none, errW_some] <;> rfl), by repeat (first | (with_reducible first | exact HB.out | apply below_alloc | apply pw_below_drewN | apply below_drew1) | exact HB.out)⟩

/-! ### tollbarlaw07_FrameRequests: function 10 -/
def tollbarlaw07_FrameRequests.f (k : Nat) (l0 : List (S24)) (a1 : Int) : Option (Bool) := (tollbarlaw07_alive.f k).bind fun t259 => (if t259 = true then (if (l0.length : Int) > 200 then (some true) else ((frame_Request.f k l0 a1).bind fun bt260 => ((tollbarref07_Request.f k l0 a1).bind fun bt263 => (if bt260.1 = bt263.1 then (if (bt260.2.1 == bt263.2.1) = true then (if bt260.2.2 = bt263.2.2 then ((frame_Closes.f k l0 a1).bind fun t266 => ((tollbarref07_Closes.f k l0 a1).bind fun t267 => (some (t266 == t267)))) else (none)) else (none)) else (none))))) else (none))
theorem tollbarlaw07_FrameRequests.mono : ∀ a0 a1 k, LeO (tollbarlaw07_FrameRequests.f k a0 a1) (tollbarlaw07_FrameRequests.f (k + 1) a0 a1) := by
  intro a0 a1 k
  unfold tollbarlaw07_FrameRequests.f
  repeat' first
      | (with_reducible exact frame_Closes.mono _ _ _)
      | (with_reducible exact frame_Request.mono _ _ _)
      | (with_reducible exact tollbarlaw07_alive.mono _)
      | (with_reducible exact tollbarref07_Closes.mono _ _ _)
      | (with_reducible exact tollbarref07_Request.mono _ _ _)
      | (with_reducible exact LeO.refl _)
      | (with_reducible exact LeO.none _)
      | (with_reducible refine LeO.ite ?_ ?_)
      | (with_reducible refine LeO.bind ?_ (fun _ => ?_))
      | exact frame_Closes.mono _ _ _
      | exact frame_Request.mono _ _ _
      | exact tollbarlaw07_alive.mono _
      | exact tollbarref07_Closes.mono _ _ _
      | exact tollbarref07_Request.mono _ _ _
      | exact LeO.none _
      | refine LeO.ite ?_ ?_
      | refine LeO.bind ?_ (fun _ => ?_)
set_option maxHeartbeats 8000000 in
set_option maxRecDepth 100000 in
theorem tollbarlaw07_FrameRequests.calls (k : Nat) (A0 : Option Addr) (c0 : Nat) (l0 : List (S24)) (a1 : Int) (r : Bool) (w : World) (hr0 : Kd.C k24 w A0 l0.length l0) (hc0 : l0.length ≤ c0) (h : tollbarlaw07_FrameRequests.f k l0 a1 = some r) :
    Calls Tryd.prog 10 #[.slice A0 l0.length c0, .int .i64 a1] w fun e w' => e = .returned (.bool r) ∧ Below w.heap.size w w' := by
  have HR0 := Aside0.mk hr0
  have HC0 := Aside0.mk hc0
  clear hr0 hc0
  have HB := Aside0.mk (Below.refl w.heap.size w)
  have H : ((tollbarlaw07_alive.f k).bind fun t259 => (if t259 = true then (if (l0.length : Int) > 200 then (some true) else ((frame_Request.f k l0 a1).bind fun bt260 => ((tollbarref07_Request.f k l0 a1).bind fun bt263 => (if bt260.1 = bt263.1 then (if (bt260.2.1 == bt263.2.1) = true then (if bt260.2.2 = bt263.2.2 then ((frame_Closes.f k l0 a1).bind fun t266 => ((tollbarref07_Closes.f k l0 a1).bind fun t267 => (some (t266 == t267)))) else (none)) else (none)) else (none))))) else (none))) = some r := h
  clear h
  replace H := Option.bind_eq_some_iff.mp H
  obtain ⟨t259, A30, H⟩ := H
  replace H : (if t259 = true then (if (l0.length : Int) > 200 then (some true) else ((frame_Request.f k l0 a1).bind fun bt260 => ((tollbarref07_Request.f k l0 a1).bind fun bt263 => (if bt260.1 = bt263.1 then (if (bt260.2.1 == bt263.2.1) = true then (if bt260.2.2 = bt263.2.2 then ((frame_Closes.f k l0 a1).bind fun t266 => ((tollbarref07_Closes.f k l0 a1).bind fun t267 => (some (t266 == t267)))) else (none)) else (none)) else (none))))) else (none)) = some r := H
  have A3 := Aside0.mk A30
  clear A30
  by_cases c4 : t259 = true
  · subst c4
    have H1 : (if (l0.length : Int) > 200 then (some true) else ((frame_Request.f k l0 a1).bind fun bt260 => ((tollbarref07_Request.f k l0 a1).bind fun bt263 => (if bt260.1 = bt263.1 then (if (bt260.2.1 == bt263.2.1) = true then (if bt260.2.2 = bt263.2.2 then ((frame_Closes.f k l0 a1).bind fun t266 => ((tollbarref07_Closes.f k l0 a1).bind fun t267 => (some (t266 == t267)))) else (none)) else (none)) else (none))))) = some r := by rw [if_pos rfl] at H; exact H
    clear H
    have H := H1
    clear H1
    by_cases c5 : (l0.length : Int) > 200
    · rw [if_pos c5] at H
      have c5b0 : decide (200 < (l0.length : Int)) = true := decide_eq_true c5
      have c5b1 : decide (200 < l0.length) = true := decide_eq_true (by omega)
      clear c5
      obtain rfl := Option.some.inj H
      go_enter Tryd.func10, Tryd.ntmps10
      go_wp2_with (first | ((with_reducible refine gate_callee (f := 34) rfl ?_); refine goesL_ (some 11) rfl rfl Tryd.func34 (by kernel_rfl) rfl #[] rfl (by (try simp only [List.map_toArray, List.map_cons, List.map_nil]); first | done | rfl | (simp only [List.length_drop, List.length_take]; rfl)) ?_; (with_reducible refine (tollbarlaw07_alive.calls k  true _ A3.out).mono ?_); rintro e w6 ⟨rfl, hb⟩; refine ⟨_, rfl, ?_⟩; have n0_ := Aside0.mk (below_step (by repeat (first | (with_reducible first | exact HB.out | apply below_alloc | apply pw_below_drewN | apply below_drew1) | exact HB.out)) hb); clear HB; have HB := n0_; clear n0_; (try clear hb); (try clear hb2); (try clear hk); (try clear hi)))
      go_ret
      exact ⟨by first | rfl | (simp [errW_none, errW_some] <;> rfl) | (simp [*, errW_none, errW_some] <;> rfl), by repeat (first | (with_reducible first | exact HB.out | apply below_alloc | apply pw_below_drewN | apply below_drew1) | exact HB.out)⟩
    · rw [if_neg c5] at H
      have c5b0 : decide (200 < (l0.length : Int)) = false := decide_eq_false c5
      have c5b1 : decide (200 < l0.length) = false := decide_eq_false (by omega)
      clear c5
      replace H := Option.bind_eq_some_iff.mp H
      obtain ⟨⟨t260, t261, t262⟩, A70, H⟩ := H
      replace H : ((tollbarref07_Request.f k l0 a1).bind fun bt263 => (if t260 = bt263.1 then (if (t261 == bt263.2.1) = true then (if t262 = bt263.2.2 then ((frame_Closes.f k l0 a1).bind fun t266 => ((tollbarref07_Closes.f k l0 a1).bind fun t267 => (some (t266 == t267)))) else (none)) else (none)) else (none))) = some r := H
      have A7 := Aside0.mk A70
      clear A70
      replace H := Option.bind_eq_some_iff.mp H
      obtain ⟨⟨t263, t264, t265⟩, A80, H⟩ := H
      replace H : (if t260 = t263 then (if (t261 == t264) = true then (if t262 = t265 then ((frame_Closes.f k l0 a1).bind fun t266 => ((tollbarref07_Closes.f k l0 a1).bind fun t267 => (some (t266 == t267)))) else (none)) else (none)) else (none)) = some r := H
      have A8 := Aside0.mk A80
      clear A80
      by_cases c9 : t260 = t263
      · rw [if_pos c9] at H
        have c9b0 : (t260 == t263) = true := beq_iff_eq.mpr c9
        have c9b1 : (t260 != t263) = false := bne_eq_false_iff_eq.mpr c9
        clear c9
        by_cases c10 : (t261 == t264) = true
        · rw [if_pos c10] at H
          have c10b0 : (t261 == t264) = true := c10
          (try (have c10b1 : decide (t261 = t264) = true := by simpa using c10))
          (try (have c10b2 : (t261 == t264) = true := by simpa using c10))
          clear c10
          by_cases c11 : t262 = t265
          · rw [if_pos c11] at H
            have c11b0 : (t262 == t265) = true := beq_iff_eq.mpr c11
            have c11b1 : (t262 != t265) = false := bne_eq_false_iff_eq.mpr c11
            clear c11
            replace H := Option.bind_eq_some_iff.mp H
            obtain ⟨t266, A120, H⟩ := H
            replace H : ((tollbarref07_Closes.f k l0 a1).bind fun t267 => (some (t266 == t267))) = some r := H
            have A12 := Aside0.mk A120
            clear A120
            replace H := Option.bind_eq_some_iff.mp H
            obtain ⟨t267, A130, H⟩ := H
            replace H : (some (t266 == t267)) = some r := H
            have A13 := Aside0.mk A130
            clear A130
            obtain rfl := Option.some.inj H
            go_enter Tryd.func10, Tryd.ntmps10
            go_wp2_with (first | ((with_reducible refine gate_callee (f := 34) rfl ?_); refine goesL_ (some 11) rfl rfl Tryd.func34 (by kernel_rfl) rfl #[] rfl (by (try simp only [List.map_toArray, List.map_cons, List.map_nil]); first | done | rfl | (simp only [List.length_drop, List.length_take]; rfl)) ?_; (with_reducible refine (tollbarlaw07_alive.calls k  true _ A3.out).mono ?_); rintro e w14 ⟨rfl, hb⟩; refine ⟨_, rfl, ?_⟩; have n0_ := Aside0.mk (below_step (by repeat (first | (with_reducible first | exact HB.out | apply below_alloc | apply pw_below_drewN | apply below_drew1) | exact HB.out)) hb); clear HB; have HB := n0_; clear n0_; (try clear hb); (try clear hb2); (try clear hk); (try clear hi)) | ((with_reducible refine gate_callee (f := 35) rfl ?_); refine goesL_ (some 19) rfl rfl Tryd.func35 (by kernel_rfl) rfl #[.slice A0 l0.length c0, .int .i64 a1] rfl (by (try simp only [List.map_toArray, List.map_cons, List.map_nil]); first | done | rfl | (simp only [List.length_drop, List.length_take]; rfl)) ?_; (with_reducible refine (frame_Request.calls k _ _ l0 a1 t260 t261 t262 _ ?side1 ?side2 A7.out).mono ?_); (case side1 => repeat (first | exact (Kd.C_below HR0.out HB.out) | (with_reducible refine Kd.C_alloc ?_ _) | (with_reducible refine Kd.C_drewN ?_ _) | (with_reducible refine Kd.C_drew ?_))); (case side2 => exact HC0.out); rintro e w15 ⟨rfl, hb⟩; refine ⟨_, rfl, ?_⟩; have n0_ := Aside0.mk (below_step (by repeat (first | (with_reducible first | exact HB.out | apply below_alloc | apply pw_below_drewN | apply below_drew1) | exact HB.out)) hb); clear HB; have HB := n0_; clear n0_; (try clear hb); (try clear hb2); (try clear hk); (try clear hi)) | ((with_reducible refine gate_callee (f := 36) rfl ?_); refine goesL_ (some 26) rfl rfl Tryd.func36 (by kernel_rfl) rfl #[.slice A0 l0.length c0, .int .i64 a1] rfl (by (try simp only [List.map_toArray, List.map_cons, List.map_nil]); first | done | rfl | (simp only [List.length_drop, List.length_take]; rfl)) ?_; (with_reducible refine (tollbarref07_Request.calls k _ _ l0 a1 t263 t264 t265 _ ?side1 ?side2 A8.out).mono ?_); (case side1 => repeat (first | exact (Kd.C_below HR0.out HB.out) | (with_reducible refine Kd.C_alloc ?_ _) | (with_reducible refine Kd.C_drewN ?_ _) | (with_reducible refine Kd.C_drew ?_))); (case side2 => exact HC0.out); rintro e w16 ⟨rfl, hb⟩; refine ⟨_, rfl, ?_⟩; have n0_ := Aside0.mk (below_step (by repeat (first | (with_reducible first | exact HB.out | apply below_alloc | apply pw_below_drewN | apply below_drew1) | exact HB.out)) hb); clear HB; have HB := n0_; clear n0_; (try clear hb); (try clear hb2); (try clear hk); (try clear hi)) | (go_at_call 37; (with_reducible refine (frame_Closes.calls k _ _ l0 a1 t266 _ ?side1 ?side2 A12.out).mono ?_); (case side1 => repeat (first | exact (Kd.C_below HR0.out HB.out) | (with_reducible refine Kd.C_alloc ?_ _) | (with_reducible refine Kd.C_drewN ?_ _) | (with_reducible refine Kd.C_drew ?_))); (case side2 => exact HC0.out); rintro e w17 ⟨rfl, hb⟩; have n0_ := Aside0.mk (below_step (by repeat (first | (with_reducible first | exact HB.out | apply below_alloc | apply pw_below_drewN | apply below_drew1) | exact HB.out)) hb); clear HB; have HB := n0_; clear n0_; (try clear hb); (try clear hb2); (try clear hk); (try clear hi)) | (go_at_call 38; (with_reducible refine (tollbarref07_Closes.calls k _ _ l0 a1 t267 _ ?side1 ?side2 A13.out).mono ?_); (case side1 => repeat (first | exact (Kd.C_below HR0.out HB.out) | (with_reducible refine Kd.C_alloc ?_ _) | (with_reducible refine Kd.C_drewN ?_ _) | (with_reducible refine Kd.C_drew ?_))); (case side2 => exact HC0.out); rintro e w18 ⟨rfl, hb⟩; have n0_ := Aside0.mk (below_step (by repeat (first | (with_reducible first | exact HB.out | apply below_alloc | apply pw_below_drewN | apply below_drew1) | exact HB.out)) hb); clear HB; have HB := n0_; clear n0_; (try clear hb); (try clear hb2); (try clear hk); (try clear hi)))
            go_ret
            exact ⟨by first | rfl | (simp [errW_none, errW_some] <;> rfl) | (simp [*, errW_none, errW_some] <;> rfl), by repeat (first | (with_reducible first | exact HB.out | apply below_alloc | apply pw_below_drewN | apply below_drew1) | exact HB.out)⟩
          · rw [if_neg c11] at H
            exact absurd H (by simp)
        · rw [if_neg c10] at H
          exact absurd H (by simp)
      · rw [if_neg c9] at H
        exact absurd H (by simp)
  · replace c4 := Bool.eq_false_iff.mpr c4
    subst c4
    have H1 : (none) = some r := by rw [if_neg (show ¬ (false = true) by decide)] at H; exact H
    clear H
    have H := H1
    clear H1
    exact absurd H (by simp)

/-- THE ONE PURE STATEMENT of tollbarlaw07_FrameRequests. -/
def tollbarlaw07_FrameRequests.Pure : Prop := ∀ (l0 : List (S24)) (a1 : Int), (l0.length * 32 ≤ 140737488351232 ∧ ∀ x_ ∈ l0, (x_.f0.size ≤ 140737488351232) ∧ (x_.f1.size ≤ 140737488351232)) → ((Lit.int .i64 a1).wf = true) → (((l0.map (fun x_ => ((x_.f0.size + 1) + (x_.f1.size + 1)))).sum + 1) + 1 ≤ 1048576) → ∃ k, tollbarlaw07_FrameRequests.f k l0 a1 = some true

end Go.Proofs.YtijindelbagpiaaDoor.PFrame
