-- Written by this session's program xprint.py over the kit's print, with contracts given by hand. Not trusted: Lean checks it.
import Derived.Test.YticcigdibkajaaaPAllx0
namespace Go.Proofs.Yticcigdibkajaaa.PAll
open Go.RowKit Go.Proofs.YticcigdibkajaaaW.PrintWords Go.Proofs.YticcigdibkajaaaW.PrintLast Go.Proofs.YticcigdibkajaaaW.PrintMore
attribute [local go_sem] max2_int min2_int max_two min_two max_three min_three max_four min_four   -- for this text's walks alone
set_option linter.unusedVariables false
set_option linter.unusedSimpArgs false

/-! ### tollbarref11_Fits: function 13 -/
def tollbarref11_Fits.l0 : Nat → ByteArray → ByteArray → Int → Int → Option (Bool)
  | 0, _, _, _, _ => none
  | k + 1, x0, x1, x5, x6 => if x6 ≥ 0 then (if 0 ≤ x6 then (if x6 < (x1.size : Int) then (if (bt x1 x6) = 63 then (tollbarref11_Fits.l0 k x0 x1 x6 (wrap64 (x6 - 1))) else (tollbarref11_Fits.l0 k x0 x1 x5 (wrap64 (x6 - 1)))) else (none)) else (none)) else (if (x0.size : Int) > x5 then (some false) else (if 0 ≤ (x0.size : Int) then (if (x0.size : Int) ≤ (x1.size : Int) then (if (x1.extract 0 x0.size).toList = x0.toList then (if (x0.size : Int) = x5 then (some true) else (if (x0.size : Int) > 0 then (if 0 ≤ (wrap64 ((x0.size : Int) - 1)) then (if (wrap64 ((x0.size : Int) - 1)) < (x0.size : Int) then (if (bt x0 (wrap64 ((x0.size : Int) - 1))) = 47 then (some true) else (if (x0.size : Int) < (x1.size : Int) then (some ((bt x1 (x0.size : Int)) == 47)) else (none))) else (none)) else (none)) else (if (x0.size : Int) < (x1.size : Int) then (some ((bt x1 (x0.size : Int)) == 47)) else (none)))) else (some false)) else (none)) else (none)))
def tollbarref11_Fits.f (k : Nat) (a0 : ByteArray) (a1 : ByteArray) : Option (Bool) := tollbarref11_Fits.l0 k a0 a1 (a1.size : Int) (wrap64 ((a1.size : Int) - 1))
theorem tollbarref11_Fits.mono_l : ∀ k, (∀ y0 y1 y2 y3, LeO (tollbarref11_Fits.l0 k y0 y1 y2 y3) (tollbarref11_Fits.l0 (k + 1) y0 y1 y2 y3))
  | 0 => fun _ _ _ _ r h => by simp [tollbarref11_Fits.l0] at h
  | k + 1 => by
    have ih0 := tollbarref11_Fits.mono_l k
    · intro y0 y1 y2 y3
      unfold tollbarref11_Fits.l0
      repeat' first
      | (with_reducible exact ih0 _ _ _ _)
      | (with_reducible exact LeO.refl _)
      | (with_reducible exact LeO.none _)
      | (with_reducible refine LeO.ite ?_ ?_)
      | (with_reducible refine LeO.bind ?_ (fun _ => ?_))
      | exact ih0 _ _ _ _
      | exact LeO.none _
      | refine LeO.ite ?_ ?_
      | refine LeO.bind ?_ (fun _ => ?_)
theorem tollbarref11_Fits.mono : ∀ a0 a1 k, LeO (tollbarref11_Fits.f k a0 a1) (tollbarref11_Fits.f (k + 1) a0 a1) := by
  intro a0 a1 k
  have ih0 := tollbarref11_Fits.mono_l k
  unfold tollbarref11_Fits.f
  repeat' first
      | (with_reducible exact ih0 _ _ _ _)
      | (with_reducible exact LeO.refl _)
      | (with_reducible exact LeO.none _)
      | (with_reducible refine LeO.ite ?_ ?_)
      | (with_reducible refine LeO.bind ?_ (fun _ => ?_))
      | exact ih0 _ _ _ _
      | exact LeO.none _
      | refine LeO.ite ?_ ?_
      | refine LeO.bind ?_ (fun _ => ?_)
set_option maxHeartbeats 8000000 in
set_option maxRecDepth 100000 in
theorem tollbarref11_Fits.calls (k : Nat) (a0 : ByteArray) (a1 : ByteArray) (r : Bool) (w : World) (h : tollbarref11_Fits.f k a0 a1 = some r) :
    Calls Try.prog 13 #[.string a0, .string a1] w fun e w' => e = .returned (.bool r) ∧ Drawn0 w w' := by
  have H : (tollbarref11_Fits.l0 k a0 a1 (a1.size : Int) (wrap64 ((a1.size : Int) - 1))) = some r := h
  clear h
  have H' := Aside0.mk H
  clear H
  go_enter Try.func13, Try.ntmps13
  go_wp2
  go_loopg [5, 6] k (fun kq v5 v6 w' => ∃ (x5_1 : Int) (x6_1 : Int), v5 = .int .i64 x5_1 ∧ v6 = .int .i64 x6_1 ∧ Aside0 (tollbarref11_Fits.l0 kq a0 a1 x5_1 x6_1 = some r) ∧ Aside0 (kq ≤ k) ∧ Drawn0 w w')
  case atStart => exact ⟨((a1.size : Int)), (wrap64 ((a1.size : Int) - 1)), (by first | rfl | (simp; done) | (simp [*]; done)), (by first | rfl | (simp; done) | (simp [*]; done)), H', ⟨Nat.le_refl _⟩, by repeat (first | exact Drawn0.refl _ | apply Drawn0.step)⟩
  case round =>
    clear H'
    try clear c1
    try clear p2
    obtain ⟨x5_1, x6_1, rfl, rfl, HA, HK1, ⟨m1, rfl⟩⟩ := hrel
    cases gk with
    | zero => exact absurd HA.out (by simp [tollbarref11_Fits.l0])
    | succ k1 =>
      have H := HA.out
      clear HA
      simp only [tollbarref11_Fits.l0] at H
      by_cases c3 : x6_1 ≥ 0
      · rw [if_pos c3] at H
        have c3b0 : decide (0 ≤ x6_1) = true := decide_eq_true c3
        clear c3
        by_cases c4 : 0 ≤ x6_1
        · rw [if_pos c4] at H
          have c4b0 : decide (0 ≤ x6_1) = true := decide_eq_true c4
          clear c4
          by_cases c5 : x6_1 < (a1.size : Int)
          · rw [if_pos c5] at H
            have c5b0 : decide (x6_1 < (a1.size : Int)) = true := decide_eq_true c5
            try (have c5z_ := c5; simp only [xsz_app, xsz_rest, xsz_mk, List.length_cons, List.length_nil, Nat.zero_add, Int.natCast_add] at c5z_)
            clear c5
            by_cases c7 : (bt a1 x6_1) = 63
            · rw [if_pos c7] at H
              have c7b0 : ((bt a1 x6_1) == 63) = true := beq_iff_eq.mpr c7
              have c7b1 : ((bt a1 x6_1) != 63) = false := bne_eq_false_iff_eq.mpr c7
              clear c7
              have H' := Aside0.mk H
              clear H
              have p6 : 0 ≤ (x6_1 : Int) := of_decide_eq_true (by first | (with_reducible assumption) | assumption)
              have q6 : x6_1 < (a1.size : Int) := of_decide_eq_true (by first | (with_reducible assumption) | assumption)
              have hx6 := bt_at a1 x6_1
              replace p6 := eq_true p6
              replace q6 := eq_true q6
              go_wp2
              go_roundg k1
              case measure => have := HK1.out; omega
              case rel => exact ⟨(x6_1), (wrap64 (x6_1 - 1)), (by first | rfl | (simp; done) | (simp [*]; done)), (by first | rfl | (simp; done) | (simp [*]; done)), H', ⟨by have := HK1.out; omega⟩, by repeat (first | exact Drawn0.refl _ | apply Drawn0.step)⟩
            · rw [if_neg c7] at H
              have c7b0 : ((bt a1 x6_1) == 63) = false := beq_eq_false_iff_ne.mpr c7
              have c7b1 : ((bt a1 x6_1) != 63) = true := bne_iff_ne.mpr c7
              have H' := Aside0.mk H
              clear H
              have p6 : 0 ≤ (x6_1 : Int) := of_decide_eq_true (by first | (with_reducible assumption) | assumption)
              have q6 : x6_1 < (a1.size : Int) := of_decide_eq_true (by first | (with_reducible assumption) | assumption)
              have hx6 := bt_at a1 x6_1
              replace p6 := eq_true p6
              replace q6 := eq_true q6
              go_wp2
              go_roundg k1
              case measure => have := HK1.out; omega
              case rel => exact ⟨(x5_1), (wrap64 (x6_1 - 1)), (by first | rfl | (simp; done) | (simp [*]; done)), (by first | rfl | (simp; done) | (simp [*]; done)), H', ⟨by have := HK1.out; omega⟩, by repeat (first | exact Drawn0.refl _ | apply Drawn0.step)⟩
          · rw [if_neg c5] at H
            exact absurd H (by simp)
        · rw [if_neg c4] at H
          exact absurd H (by simp)
      · rw [if_neg c3] at H
        have c3b0 : decide (0 ≤ x6_1) = false := decide_eq_false c3
        clear c3
        by_cases c8 : (a0.size : Int) > x5_1
        · rw [if_pos c8] at H
          have c8b0 : decide (x5_1 < (a0.size : Int)) = true := decide_eq_true c8
          try (have c8z_ := c8; simp only [xsz_app, xsz_rest, xsz_mk, List.length_cons, List.length_nil, Nat.zero_add, Int.natCast_add] at c8z_)
          clear c8
          obtain rfl := Option.some.inj H
          go_wp2
          go_ret
          exact ⟨by first | rfl | (simp; done) | (simp [*]; done), by repeat (first | exact Drawn0.refl _ | apply Drawn0.step)⟩
        · rw [if_neg c8] at H
          have c8b0 : decide (x5_1 < (a0.size : Int)) = false := decide_eq_false c8
          try (have c8z_ := c8; simp only [xsz_app, xsz_rest, xsz_mk, List.length_cons, List.length_nil, Nat.zero_add, Int.natCast_add] at c8z_)
          clear c8
          by_cases c9 : 0 ≤ (a0.size : Int)
          · rw [if_pos c9] at H
            have c9b0 := eq_true c9
            try (have c9z_ := c9; simp only [xsz_app, xsz_rest, xsz_mk, List.length_cons, List.length_nil, Nat.zero_add, Int.natCast_add] at c9z_)
            have c9b1 : decide (0 ≤ (a0.size : Int)) = true := decide_eq_true c9
            clear c9
            by_cases c10 : (a0.size : Int) ≤ (a1.size : Int)
            · rw [if_pos c10] at H
              have c10b0 := eq_true c10
              try (have c10z_ := c10; simp only [xsz_app, xsz_rest, xsz_mk, List.length_cons, List.length_nil, Nat.zero_add, Int.natCast_add] at c10z_)
              have c10b1 : decide ((a0.size : Int) ≤ (a1.size : Int)) = true := decide_eq_true c10
              clear c10
              by_cases c11 : (a1.extract 0 a0.size).toList = a0.toList
              · rw [if_pos c11] at H
                have c11b0 : ((a1.extract 0 a0.size).toList == a0.toList) = true := beq_iff_eq.mpr c11
                try (have c11z_ := c11; simp only [xsz_app, xsz_rest, xsz_mk, List.length_cons, List.length_nil, Nat.zero_add, Int.natCast_add] at c11z_)
                have c11b1 : ((a1.extract 0 a0.size).toList != a0.toList) = false := bne_eq_false_iff_eq.mpr c11
                clear c11
                by_cases c12 : (a0.size : Int) = x5_1
                · rw [if_pos c12] at H
                  have c12b0 : ((a0.size : Int) == x5_1) = true := beq_iff_eq.mpr c12
                  try (have c12z_ := c12; simp only [xsz_app, xsz_rest, xsz_mk, List.length_cons, List.length_nil, Nat.zero_add, Int.natCast_add] at c12z_)
                  have c12b1 : ((a0.size : Int) != x5_1) = false := bne_eq_false_iff_eq.mpr c12
                  clear c12
                  obtain rfl := Option.some.inj H
                  go_wp2
                  go_ret
                  exact ⟨by first | rfl | (simp; done) | (simp [*]; done), by repeat (first | exact Drawn0.refl _ | apply Drawn0.step)⟩
                · rw [if_neg c12] at H
                  have c12b0 : ((a0.size : Int) == x5_1) = false := beq_eq_false_iff_ne.mpr c12
                  try (have c12z_ := c12; simp only [xsz_app, xsz_rest, xsz_mk, List.length_cons, List.length_nil, Nat.zero_add, Int.natCast_add] at c12z_)
                  have c12b1 : ((a0.size : Int) != x5_1) = true := bne_iff_ne.mpr c12
                  by_cases c13 : (a0.size : Int) > 0
                  · rw [if_pos c13] at H
                    have c13b0 : decide (0 < (a0.size : Int)) = true := decide_eq_true c13
                    try (have c13z_ := c13; simp only [xsz_app, xsz_rest, xsz_mk, List.length_cons, List.length_nil, Nat.zero_add, Int.natCast_add] at c13z_)
                    have c13b1 : decide (0 < a0.size) = true := decide_eq_true (by omega)
                    clear c13
                    obtain ⟨ji14, hji14⟩ : ∃ j_ : Int, (wrap64 ((a0.size : Int) - 1)) = j_ := ⟨_, rfl⟩
                    replace H : (if 0 ≤ (ji14) then (if (ji14) < (a0.size : Int) then (if (bt a0 (ji14)) = 47 then (some true) else (if (a0.size : Int) < (a1.size : Int) then (some ((bt a1 (a0.size : Int)) == 47)) else (none))) else (none)) else (none)) = some r := by first | (rw [hji14] at H; exact H) | (simp only [hji14] at H ⊢; exact H)
                    have hji14w : (IntKind.i64.wrap ((a0.size : Int) - 1)) = ji14 := (i64_w _).trans hji14
                    by_cases c15 : 0 ≤ (ji14)
                    · rw [if_pos c15] at H
                      have c15b0 : decide (0 ≤ (ji14)) = true := decide_eq_true c15
                      clear c15
                      by_cases c16 : (ji14) < (a0.size : Int)
                      · rw [if_pos c16] at H
                        have c16b0 : decide ((ji14) < (a0.size : Int)) = true := decide_eq_true c16
                        try (have c16z_ := c16; simp only [xsz_app, xsz_rest, xsz_mk, List.length_cons, List.length_nil, Nat.zero_add, Int.natCast_add] at c16z_)
                        clear c16
                        by_cases c18 : (bt a0 (ji14)) = 47
                        · rw [if_pos c18] at H
                          have c18b0 : ((bt a0 (ji14)) == 47) = true := beq_iff_eq.mpr c18
                          have c18b1 : ((bt a0 (ji14)) != 47) = false := bne_eq_false_iff_eq.mpr c18
                          clear c18
                          obtain rfl := Option.some.inj H
                          have p17 : 0 ≤ ((ji14) : Int) := of_decide_eq_true (by first | (with_reducible assumption) | assumption)
                          have q17 : (ji14) < (a0.size : Int) := of_decide_eq_true (by first | (with_reducible assumption) | assumption)
                          have hx17 := bt_at a0 (ji14)
                          replace p17 := eq_true p17
                          replace q17 := eq_true q17
                          go_wp2
                          go_ret
                          exact ⟨by first | rfl | (simp; done) | (simp only [← hji14] <;> (first | rfl | simp)) | (simp [*]; done), by repeat (first | exact Drawn0.refl _ | apply Drawn0.step)⟩
                        · rw [if_neg c18] at H
                          have c18b0 : ((bt a0 (ji14)) == 47) = false := beq_eq_false_iff_ne.mpr c18
                          have c18b1 : ((bt a0 (ji14)) != 47) = true := bne_iff_ne.mpr c18
                          by_cases c19 : (a0.size : Int) < (a1.size : Int)
                          · rw [if_pos c19] at H
                            have c19b0 : decide ((a0.size : Int) < (a1.size : Int)) = true := decide_eq_true c19
                            try (have c19z_ := c19; simp only [xsz_app, xsz_rest, xsz_mk, List.length_cons, List.length_nil, Nat.zero_add, Int.natCast_add] at c19z_)
                            have c19b1 : decide (a0.size < a1.size) = true := decide_eq_true (Int.ofNat_lt.mp c19)
                            clear c19
                            obtain rfl := Option.some.inj H
                            have p17 : 0 ≤ ((ji14) : Int) := of_decide_eq_true (by first | (with_reducible assumption) | assumption)
                            have q17 : (ji14) < (a0.size : Int) := of_decide_eq_true (by first | (with_reducible assumption) | assumption)
                            have hx17 := bt_at a0 (ji14)
                            replace p17 := eq_true p17
                            replace q17 := eq_true q17
                            have p20 : 0 ≤ ((a0.size : Int) : Int) := of_decide_eq_true (by first | (with_reducible assumption) | assumption)
                            have q20 : (a0.size : Int) < (a1.size : Int) := of_decide_eq_true (by first | (with_reducible assumption) | assumption)
                            have hx20 : ∀ h : a0.size < a1.size, ((a1[a0.size]'h).toNat : Int) = bt a1 (a0.size : Int) := bt_at a1 (a0.size : Int)
                            replace p20 := eq_true p20
                            replace q20 := eq_true q20
                            go_wp2
                            go_ret
                            exact ⟨by first | rfl | (simp; done) | (simp only [← hji14] <;> (first | rfl | simp)) | (simp [*]; done), by repeat (first | exact Drawn0.refl _ | apply Drawn0.step)⟩
                          · rw [if_neg c19] at H
                            exact absurd H (by simp)
                      · rw [if_neg c16] at H
                        exact absurd H (by simp)
                    · rw [if_neg c15] at H
                      exact absurd H (by simp)
                  · rw [if_neg c13] at H
                    have c13b0 : decide (0 < (a0.size : Int)) = false := decide_eq_false c13
                    try (have c13z_ := c13; simp only [xsz_app, xsz_rest, xsz_mk, List.length_cons, List.length_nil, Nat.zero_add, Int.natCast_add] at c13z_)
                    have c13b1 : decide (0 < a0.size) = false := decide_eq_false (by omega)
                    clear c13
                    by_cases c21 : (a0.size : Int) < (a1.size : Int)
                    · rw [if_pos c21] at H
                      have c21b0 : decide ((a0.size : Int) < (a1.size : Int)) = true := decide_eq_true c21
                      try (have c21z_ := c21; simp only [xsz_app, xsz_rest, xsz_mk, List.length_cons, List.length_nil, Nat.zero_add, Int.natCast_add] at c21z_)
                      have c21b1 : decide (a0.size < a1.size) = true := decide_eq_true (Int.ofNat_lt.mp c21)
                      clear c21
                      obtain rfl := Option.some.inj H
                      have p22 : 0 ≤ ((a0.size : Int) : Int) := of_decide_eq_true (by first | (with_reducible assumption) | assumption)
                      have q22 : (a0.size : Int) < (a1.size : Int) := of_decide_eq_true (by first | (with_reducible assumption) | assumption)
                      have hx22 : ∀ h : a0.size < a1.size, ((a1[a0.size]'h).toNat : Int) = bt a1 (a0.size : Int) := bt_at a1 (a0.size : Int)
                      replace p22 := eq_true p22
                      replace q22 := eq_true q22
                      go_wp2
                      go_ret
                      exact ⟨by first | rfl | (simp; done) | (simp [*]; done), by repeat (first | exact Drawn0.refl _ | apply Drawn0.step)⟩
                    · rw [if_neg c21] at H
                      exact absurd H (by simp)
              · rw [if_neg c11] at H
                have c11b0 : ((a1.extract 0 a0.size).toList == a0.toList) = false := beq_eq_false_iff_ne.mpr c11
                try (have c11z_ := c11; simp only [xsz_app, xsz_rest, xsz_mk, List.length_cons, List.length_nil, Nat.zero_add, Int.natCast_add] at c11z_)
                have c11b1 : ((a1.extract 0 a0.size).toList != a0.toList) = true := bne_iff_ne.mpr c11
                obtain rfl := Option.some.inj H
                go_wp2
                go_ret
                exact ⟨by first | rfl | (simp; done) | (simp [*]; done), by repeat (first | exact Drawn0.refl _ | apply Drawn0.step)⟩
            · rw [if_neg c10] at H
              exact absurd H (by simp)
          · rw [if_neg c9] at H
            exact absurd H (by simp)

/-! ### tollbarref11_Match: function 9 -/
mutual
def tollbarref11_Match.l0 : Nat → List (S26) → ByteArray → Int → Option (Int)
  | 0, _, _, _ => none
  | k + 1, x0, x1, x5 => if x5 ≥ 0 then (tollbarref11_Match.l1 k x0 x1 x5 0) else (some (-1))
def tollbarref11_Match.l1 : Nat → List (S26) → ByteArray → Int → Int → Option (Int)
  | 0, _, _, _, _ => none
  | k + 1, x0, x1, x5, x6 => if x6 < (x0.length : Int) then (if 0 ≤ x6 then (if (((rd_T26 x0 x6).f0).size : Int) = x5 then ((tollbarref11_Fits.f k ((rd_T26 x0 x6).f0) x1).bind fun t142 => (if t142 = true then (some x6) else (tollbarref11_Match.l1 k x0 x1 x5 (wrap64 (x6 + 1))))) else (tollbarref11_Match.l1 k x0 x1 x5 (wrap64 (x6 + 1)))) else (none)) else (tollbarref11_Match.l0 k x0 x1 (wrap64 (x5 - 1)))
end
def tollbarref11_Match.f (k : Nat) (l0 : List (S26)) (a1 : ByteArray) : Option (Int) := tollbarref11_Match.l0 k l0 a1 (a1.size : Int)
theorem tollbarref11_Match.mono_l : ∀ k, (∀ y0 y1 y2, LeO (tollbarref11_Match.l0 k y0 y1 y2) (tollbarref11_Match.l0 (k + 1) y0 y1 y2)) ∧ (∀ y0 y1 y2 y3, LeO (tollbarref11_Match.l1 k y0 y1 y2 y3) (tollbarref11_Match.l1 (k + 1) y0 y1 y2 y3))
  | 0 => ⟨fun _ _ _ r h => by simp [tollbarref11_Match.l0] at h, fun _ _ _ _ r h => by simp [tollbarref11_Match.l1] at h⟩
  | k + 1 => by
    obtain ⟨ih0, ih1⟩ := tollbarref11_Match.mono_l k
    refine ⟨?_, ?_⟩
    · intro y0 y1 y2
      unfold tollbarref11_Match.l0
      repeat' first
      | (with_reducible exact ih0 _ _ _)
      | (with_reducible exact ih1 _ _ _ _)
      | (with_reducible exact tollbarref11_Fits.mono _ _ _)
      | (with_reducible exact LeO.refl _)
      | (with_reducible exact LeO.none _)
      | (with_reducible refine LeO.ite ?_ ?_)
      | (with_reducible refine LeO.bind ?_ (fun _ => ?_))
      | exact ih0 _ _ _
      | exact ih1 _ _ _ _
      | exact tollbarref11_Fits.mono _ _ _
      | exact LeO.none _
      | refine LeO.ite ?_ ?_
      | refine LeO.bind ?_ (fun _ => ?_)
    · intro y0 y1 y2 y3
      unfold tollbarref11_Match.l1
      repeat' first
      | (with_reducible exact ih0 _ _ _)
      | (with_reducible exact ih1 _ _ _ _)
      | (with_reducible exact tollbarref11_Fits.mono _ _ _)
      | (with_reducible exact LeO.refl _)
      | (with_reducible exact LeO.none _)
      | (with_reducible refine LeO.ite ?_ ?_)
      | (with_reducible refine LeO.bind ?_ (fun _ => ?_))
      | exact ih0 _ _ _
      | exact ih1 _ _ _ _
      | exact tollbarref11_Fits.mono _ _ _
      | exact LeO.none _
      | refine LeO.ite ?_ ?_
      | refine LeO.bind ?_ (fun _ => ?_)
theorem tollbarref11_Match.mono : ∀ a0 a1 k, LeO (tollbarref11_Match.f k a0 a1) (tollbarref11_Match.f (k + 1) a0 a1) := by
  intro a0 a1 k
  obtain ⟨ih0, ih1⟩ := tollbarref11_Match.mono_l k
  unfold tollbarref11_Match.f
  repeat' first
      | (with_reducible exact ih0 _ _ _)
      | (with_reducible exact ih1 _ _ _ _)
      | (with_reducible exact tollbarref11_Fits.mono _ _ _)
      | (with_reducible exact LeO.refl _)
      | (with_reducible exact LeO.none _)
      | (with_reducible refine LeO.ite ?_ ?_)
      | (with_reducible refine LeO.bind ?_ (fun _ => ?_))
      | exact ih0 _ _ _
      | exact ih1 _ _ _ _
      | exact tollbarref11_Fits.mono _ _ _
      | exact LeO.none _
      | refine LeO.ite ?_ ?_
      | refine LeO.bind ?_ (fun _ => ?_)
set_option maxHeartbeats 8000000 in
set_option maxRecDepth 100000 in
theorem tollbarref11_Match.calls (k : Nat) (A0 : Option Addr) (c0 : Nat) (l0 : List (S26)) (a1 : ByteArray) (r : Int) (w : World) (hr0 : Kd.C k26 w A0 l0.length l0) (hc0 : l0.length ≤ c0) (h : tollbarref11_Match.f k l0 a1 = some r) :
    Calls Try.prog 9 #[.slice A0 l0.length c0, .string a1] w fun e w' => e = .returned (.int .i64 r) ∧ Drawn0 w w' := by
  have HR0 := Aside0.mk hr0
  have HC0 := Aside0.mk hc0
  clear hr0 hc0
  have H : (tollbarref11_Match.l0 k l0 a1 (a1.size : Int)) = some r := h
  clear h
  have H' := Aside0.mk H
  clear H
  go_enter Try.func9, Try.ntmps9
  go_wp2
  go_loopg [5] k (fun kq v5 w' => ∃ (x5_1 : Int), v5 = .int .i64 x5_1 ∧ Aside0 (tollbarref11_Match.l0 kq l0 a1 x5_1 = some r) ∧ Aside0 (kq ≤ k) ∧ Drawn0 w w')
  case atStart => exact ⟨((a1.size : Int)), (by first | rfl | (simp; done) | (simp [*]; done)), H', ⟨Nat.le_refl _⟩, by repeat (first | exact Drawn0.refl _ | apply Drawn0.step)⟩
  case round =>
    clear H'
    try clear p2
    obtain ⟨x5_1, rfl, HA, HK1, ⟨m1, rfl⟩⟩ := hrel
    cases gk with
    | zero => exact absurd HA.out (by simp [tollbarref11_Match.l0])
    | succ k1 =>
      have H := HA.out
      clear HA
      simp only [tollbarref11_Match.l0] at H
      by_cases c3 : x5_1 ≥ 0
      · rw [if_pos c3] at H
        have c3b0 : decide (0 ≤ x5_1) = true := decide_eq_true c3
        clear c3
        have H' := Aside0.mk H
        clear H
        go_wp2
        go_loopg [6] k1 (fun kq v6 w' => ∃ (x6_2 : Int), v6 = .int .i64 x6_2 ∧ Aside0 (tollbarref11_Match.l1 kq l0 a1 x5_1 x6_2 = some r) ∧ Aside0 (kq ≤ k1) ∧ Drawn0 w w')
        case atStart => exact ⟨(0), (by first | rfl | (simp; done) | (simp [*]; done)), H', ⟨Nat.le_refl _⟩, by repeat (first | exact Drawn0.refl _ | apply Drawn0.step)⟩
        case round =>
          clear H'
          try clear p2
          try clear c3
          try clear c3b0
          try clear p2
          obtain ⟨x6_2, rfl, HA, HK2, ⟨m2, rfl⟩⟩ := hrel
          cases gk with
          | zero => exact absurd HA.out (by simp [tollbarref11_Match.l1])
          | succ k2 =>
            have H := HA.out
            clear HA
            simp only [tollbarref11_Match.l1] at H
            by_cases c4 : x6_2 < (l0.length : Int)
            · rw [if_pos c4] at H
              have c4b0 : decide (x6_2 < (l0.length : Int)) = true := decide_eq_true c4
              clear c4
              by_cases c5 : 0 ≤ x6_2
              · rw [if_pos c5] at H
                have c5b0 : decide (0 ≤ x6_2) = true := decide_eq_true c5
                clear c5
                by_cases c6 : (((rd_T26 l0 x6_2).f0).size : Int) = x5_1
                · rw [if_pos c6] at H
                  have c6b0 : ((((rd_T26 l0 x6_2).f0).size : Int) == x5_1) = true := beq_iff_eq.mpr c6
                  try (have c6z_ := c6; simp only [xsz_app, xsz_rest, xsz_mk, List.length_cons, List.length_nil, Nat.zero_add, Int.natCast_add] at c6z_)
                  have c6b1 : ((((rd_T26 l0 x6_2).f0).size : Int) != x5_1) = false := bne_eq_false_iff_eq.mpr c6
                  clear c6
                  replace H := Option.bind_eq_some_iff.mp H
                  obtain ⟨t142, A70, H⟩ := H
                  replace H : (if t142 = true then (some x6_2) else (tollbarref11_Match.l1 k2 l0 a1 x5_1 (wrap64 (x6_2 + 1)))) = some r := H
                  have A7 := Aside0.mk A70
                  clear A70
                  by_cases c8 : t142 = true
                  · subst c8
                    have H1 : (some x6_2) = some r := by rw [if_pos rfl] at H; exact H
                    clear H
                    have H := H1
                    clear H1
                    obtain rfl := Option.some.inj H
                    have p140 : 0 ≤ (x6_2 : Int) := of_decide_eq_true (by first | (with_reducible assumption) | assumption)
                    have q140 : x6_2 < (l0.length : Int) := of_decide_eq_true (by first | (with_reducible assumption) | assumption)
                    obtain ⟨ad140, e140, hx140_0, hx140_1, hx140_2⟩ := at_T26 HR0.out x6_2 p140 q140
                    cases e140
                    replace p140 := eq_true p140
                    replace q140 := eq_true q140
                    have p141 : 0 ≤ (x6_2 : Int) := of_decide_eq_true (by first | (with_reducible assumption) | assumption)
                    have q141 : x6_2 < (l0.length : Int) := of_decide_eq_true (by first | (with_reducible assumption) | assumption)
                    obtain ⟨ad141, e141, hx141_0, hx141_1, hx141_2⟩ := at_T26 HR0.out x6_2 p141 q141
                    obtain rfl : ad140 = ad141 := (by injection e141)
                    replace p141 := eq_true p141
                    replace q141 := eq_true q141
                    go_wp2_with (first | (go_at_call 13; (with_reducible refine (tollbarref11_Fits.calls k2 ((rd_T26 l0 x6_2).f0) a1 true _ A7.out).mono ?_); rintro e w' ⟨rfl, ⟨nd, rfl⟩⟩))
                    go_ret
                    exact ⟨by first | rfl | (simp; done) | (simp [*]; done), by repeat (first | exact Drawn0.refl _ | apply Drawn0.step)⟩
                  · replace c8 := Bool.eq_false_iff.mpr c8
                    subst c8
                    have H1 : (tollbarref11_Match.l1 k2 l0 a1 x5_1 (wrap64 (x6_2 + 1))) = some r := by rw [if_neg (show ¬ (false = true) by decide)] at H; exact H
                    clear H
                    have H := H1
                    clear H1
                    have H' := Aside0.mk H
                    clear H
                    have p140 : 0 ≤ (x6_2 : Int) := of_decide_eq_true (by first | (with_reducible assumption) | assumption)
                    have q140 : x6_2 < (l0.length : Int) := of_decide_eq_true (by first | (with_reducible assumption) | assumption)
                    obtain ⟨ad140, e140, hx140_0, hx140_1, hx140_2⟩ := at_T26 HR0.out x6_2 p140 q140
                    cases e140
                    replace p140 := eq_true p140
                    replace q140 := eq_true q140
                    have p141 : 0 ≤ (x6_2 : Int) := of_decide_eq_true (by first | (with_reducible assumption) | assumption)
                    have q141 : x6_2 < (l0.length : Int) := of_decide_eq_true (by first | (with_reducible assumption) | assumption)
                    obtain ⟨ad141, e141, hx141_0, hx141_1, hx141_2⟩ := at_T26 HR0.out x6_2 p141 q141
                    obtain rfl : ad140 = ad141 := (by injection e141)
                    replace p141 := eq_true p141
                    replace q141 := eq_true q141
                    go_wp2_with (first | (go_at_call 13; (with_reducible refine (tollbarref11_Fits.calls k2 ((rd_T26 l0 x6_2).f0) a1 false _ A7.out).mono ?_); rintro e w' ⟨rfl, ⟨nd, rfl⟩⟩))
                    go_roundg k2
                    case measure => have := HK1.out; have := HK2.out; omega
                    case rel => exact ⟨(wrap64 (x6_2 + 1)), (by first | rfl | (simp; done) | (simp [*]; done)), H', ⟨by have := HK1.out; have := HK2.out; omega⟩, by repeat (first | exact Drawn0.refl _ | apply Drawn0.step)⟩
                · rw [if_neg c6] at H
                  have c6b0 : ((((rd_T26 l0 x6_2).f0).size : Int) == x5_1) = false := beq_eq_false_iff_ne.mpr c6
                  try (have c6z_ := c6; simp only [xsz_app, xsz_rest, xsz_mk, List.length_cons, List.length_nil, Nat.zero_add, Int.natCast_add] at c6z_)
                  have c6b1 : ((((rd_T26 l0 x6_2).f0).size : Int) != x5_1) = true := bne_iff_ne.mpr c6
                  have H' := Aside0.mk H
                  clear H
                  have p140 : 0 ≤ (x6_2 : Int) := of_decide_eq_true (by first | (with_reducible assumption) | assumption)
                  have q140 : x6_2 < (l0.length : Int) := of_decide_eq_true (by first | (with_reducible assumption) | assumption)
                  obtain ⟨ad140, e140, hx140_0, hx140_1, hx140_2⟩ := at_T26 HR0.out x6_2 p140 q140
                  cases e140
                  replace p140 := eq_true p140
                  replace q140 := eq_true q140
                  go_wp2
                  go_roundg k2
                  case measure => have := HK1.out; have := HK2.out; omega
                  case rel => exact ⟨(wrap64 (x6_2 + 1)), (by first | rfl | (simp; done) | (simp [*]; done)), H', ⟨by have := HK1.out; have := HK2.out; omega⟩, by repeat (first | exact Drawn0.refl _ | apply Drawn0.step)⟩
              · rw [if_neg c5] at H
                exact absurd H (by simp)
            · rw [if_neg c4] at H
              have c4b0 : decide (x6_2 < (l0.length : Int)) = false := decide_eq_false c4
              clear c4
              have H' := Aside0.mk H
              clear H
              go_wp2
              go_roundg k2
              case measure => have := HK1.out; have := HK2.out; omega
              case rel => exact ⟨(wrap64 (x5_1 - 1)), (by first | rfl | (simp; done) | (simp [*]; done)), H', ⟨by have := HK1.out; have := HK2.out; omega⟩, by repeat (first | exact Drawn0.refl _ | apply Drawn0.step)⟩
      · rw [if_neg c3] at H
        have c3b0 : decide (0 ≤ x5_1) = false := decide_eq_false c3
        clear c3
        obtain rfl := Option.some.inj H
        go_wp2
        go_ret
        exact ⟨by first | rfl | (simp; done) | (simp [*]; done), by repeat (first | exact Drawn0.refl _ | apply Drawn0.step)⟩

end Go.Proofs.Yticcigdibkajaaa.PAll
