-- Written by this session's program xprint.py over the kit's print, with contracts given by hand. Not trusted: Lean checks it.
import Derived.Test.YticcigdibkajaaaPAllx0
import Derived.Test.YticcigdibkajaaaPAllx3
namespace Go.Proofs.Yticcigdibkajaaa.PAll
open Go.RowKit Go.Proofs.YticcigdibkajaaaW.PrintWords Go.Proofs.YticcigdibkajaaaW.PrintLast Go.Proofs.YticcigdibkajaaaW.PrintMore
attribute [local go_sem] max2_int min2_int max_two min_two max_three min_three max_four min_four   -- for this text's walks alone
set_option linter.unusedVariables false
set_option linter.unusedSimpArgs false

/-! ### tollbarref11_Rewrite: function 11 -/
mutual
def tollbarref11_Rewrite.j0 : Nat → ByteArray → Bool → ByteArray → ByteArray → ByteArray → Option (ByteArray × Bool)
  | 0, _, _, _, _, _ => none
  | k + 1, x6, x7, x144000, x144001, x144002 => if (x6.size : Int) > 0 then (if x7 = true then (if 0 < (x6.size : Int) then (tollbarref11_Rewrite.j1 k x6 x7 ((bt x6 0) == 47) x144000 x144001 x144002) else (none)) else (tollbarref11_Rewrite.j1 k x6 x7 false x144000 x144001 x144002)) else (if x144002.size + x6.size ≤ 9223372036854775807 then (if ((x144002 ++ x6).size : Int) > 512 then (some ((⟨#[]⟩ : ByteArray), false)) else (some (x144002 ++ x6, true))) else (none))
def tollbarref11_Rewrite.j1 : Nat → ByteArray → Bool → Bool → ByteArray → ByteArray → ByteArray → Option (ByteArray × Bool)
  | 0, _, _, _, _, _, _ => none
  | k + 1, x6, x7, x41, x144000, x144001, x144002 => if x41 = true then (if 1 ≤ (x6.size : Int) then (if x144002.size + (x6.size - 1 : Nat) ≤ 9223372036854775807 then (if ((x144002 ++ (x6.extract 1 x6.size)).size : Int) > 512 then (some ((⟨#[]⟩ : ByteArray), false)) else (some (x144002 ++ (x6.extract 1 x6.size), true))) else (none)) else (none)) else (if x7 = true then (tollbarref11_Rewrite.j2 k x6 false x144000 x144001 x144002) else (if 0 < (x6.size : Int) then (if (bt x6 0) = 47 then (tollbarref11_Rewrite.j2 k x6 false x144000 x144001 x144002) else (tollbarref11_Rewrite.j2 k x6 ((bt x6 0) != 63) x144000 x144001 x144002)) else (none)))
def tollbarref11_Rewrite.j2 : Nat → ByteArray → Bool → ByteArray → ByteArray → ByteArray → Option (ByteArray × Bool)
  | 0, _, _, _, _, _ => none
  | k + 1, x6, x55, x144000, x144001, x144002 => if x55 = true then (if 1 + x6.size ≤ 9223372036854775807 then (if x144002.size + ((⟨#[47]⟩ : ByteArray) ++ x6).size ≤ 9223372036854775807 then (if ((x144002 ++ ((⟨#[47]⟩ : ByteArray) ++ x6)).size : Int) > 512 then (some ((⟨#[]⟩ : ByteArray), false)) else (some (x144002 ++ ((⟨#[47]⟩ : ByteArray) ++ x6), true))) else (none)) else (none)) else (if x144002.size + x6.size ≤ 9223372036854775807 then (if ((x144002 ++ x6).size : Int) > 512 then (some ((⟨#[]⟩ : ByteArray), false)) else (some (x144002 ++ x6, true))) else (none))
end
def tollbarref11_Rewrite.f (k : Nat) (a0_0 : ByteArray) (a0_1 : ByteArray) (a0_2 : ByteArray) (a1 : ByteArray) : Option (ByteArray × Bool) := (tollbarref11_Fits.f k a0_0 a1).bind fun t144 => (if t144 = true then (if 0 ≤ (a0_0.size : Int) then (if (a0_0.size : Int) ≤ (a1.size : Int) then (if (a0_2.size : Int) > 0 then (if 0 ≤ (wrap64 ((a0_2.size : Int) - 1)) then (if (wrap64 ((a0_2.size : Int) - 1)) < (a0_2.size : Int) then (tollbarref11_Rewrite.j0 k (a1.extract a0_0.size a1.size) ((bt a0_2 (wrap64 ((a0_2.size : Int) - 1))) == 47) a0_0 a0_1 a0_2) else (none)) else (none)) else (tollbarref11_Rewrite.j0 k (a1.extract a0_0.size a1.size) false a0_0 a0_1 a0_2)) else (none)) else (none)) else (some ((⟨#[]⟩ : ByteArray), false)))
theorem tollbarref11_Rewrite.mono_l : ∀ k, (∀ y0 y1 y2 y3 y4, LeO (tollbarref11_Rewrite.j0 k y0 y1 y2 y3 y4) (tollbarref11_Rewrite.j0 (k + 1) y0 y1 y2 y3 y4)) ∧ (∀ y0 y1 y2 y3 y4 y5, LeO (tollbarref11_Rewrite.j1 k y0 y1 y2 y3 y4 y5) (tollbarref11_Rewrite.j1 (k + 1) y0 y1 y2 y3 y4 y5)) ∧ (∀ y0 y1 y2 y3 y4, LeO (tollbarref11_Rewrite.j2 k y0 y1 y2 y3 y4) (tollbarref11_Rewrite.j2 (k + 1) y0 y1 y2 y3 y4))
  | 0 => ⟨fun _ _ _ _ _ r h => by simp [tollbarref11_Rewrite.j0] at h, fun _ _ _ _ _ _ r h => by simp [tollbarref11_Rewrite.j1] at h, fun _ _ _ _ _ r h => by simp [tollbarref11_Rewrite.j2] at h⟩
  | k + 1 => by
    obtain ⟨ih0, ih1, ih2⟩ := tollbarref11_Rewrite.mono_l k
    refine ⟨?_, ?_, ?_⟩
    · intro y0 y1 y2 y3 y4
      unfold tollbarref11_Rewrite.j0
      repeat' first
      | (with_reducible exact ih0 _ _ _ _ _)
      | (with_reducible exact ih1 _ _ _ _ _ _)
      | (with_reducible exact ih2 _ _ _ _ _)
      | (with_reducible exact tollbarref11_Fits.mono _ _ _)
      | (with_reducible exact LeO.refl _)
      | (with_reducible exact LeO.none _)
      | (with_reducible refine LeO.ite ?_ ?_)
      | (with_reducible refine LeO.bind ?_ (fun _ => ?_))
      | exact ih0 _ _ _ _ _
      | exact ih1 _ _ _ _ _ _
      | exact ih2 _ _ _ _ _
      | exact tollbarref11_Fits.mono _ _ _
      | exact LeO.none _
      | refine LeO.ite ?_ ?_
      | refine LeO.bind ?_ (fun _ => ?_)
    · intro y0 y1 y2 y3 y4 y5
      unfold tollbarref11_Rewrite.j1
      repeat' first
      | (with_reducible exact ih0 _ _ _ _ _)
      | (with_reducible exact ih1 _ _ _ _ _ _)
      | (with_reducible exact ih2 _ _ _ _ _)
      | (with_reducible exact tollbarref11_Fits.mono _ _ _)
      | (with_reducible exact LeO.refl _)
      | (with_reducible exact LeO.none _)
      | (with_reducible refine LeO.ite ?_ ?_)
      | (with_reducible refine LeO.bind ?_ (fun _ => ?_))
      | exact ih0 _ _ _ _ _
      | exact ih1 _ _ _ _ _ _
      | exact ih2 _ _ _ _ _
      | exact tollbarref11_Fits.mono _ _ _
      | exact LeO.none _
      | refine LeO.ite ?_ ?_
      | refine LeO.bind ?_ (fun _ => ?_)
    · intro y0 y1 y2 y3 y4
      unfold tollbarref11_Rewrite.j2
      repeat' first
      | (with_reducible exact ih0 _ _ _ _ _)
      | (with_reducible exact ih1 _ _ _ _ _ _)
      | (with_reducible exact ih2 _ _ _ _ _)
      | (with_reducible exact tollbarref11_Fits.mono _ _ _)
      | (with_reducible exact LeO.refl _)
      | (with_reducible exact LeO.none _)
      | (with_reducible refine LeO.ite ?_ ?_)
      | (with_reducible refine LeO.bind ?_ (fun _ => ?_))
      | exact ih0 _ _ _ _ _
      | exact ih1 _ _ _ _ _ _
      | exact ih2 _ _ _ _ _
      | exact tollbarref11_Fits.mono _ _ _
      | exact LeO.none _
      | refine LeO.ite ?_ ?_
      | refine LeO.bind ?_ (fun _ => ?_)
theorem tollbarref11_Rewrite.mono : ∀ a0 a1 a2 a3 k, LeO (tollbarref11_Rewrite.f k a0 a1 a2 a3) (tollbarref11_Rewrite.f (k + 1) a0 a1 a2 a3) := by
  intro a0 a1 a2 a3 k
  obtain ⟨ih0, ih1, ih2⟩ := tollbarref11_Rewrite.mono_l k
  unfold tollbarref11_Rewrite.f
  repeat' first
      | (with_reducible exact ih0 _ _ _ _ _)
      | (with_reducible exact ih1 _ _ _ _ _ _)
      | (with_reducible exact ih2 _ _ _ _ _)
      | (with_reducible exact tollbarref11_Fits.mono _ _ _)
      | (with_reducible exact LeO.refl _)
      | (with_reducible exact LeO.none _)
      | (with_reducible refine LeO.ite ?_ ?_)
      | (with_reducible refine LeO.bind ?_ (fun _ => ?_))
      | exact ih0 _ _ _ _ _
      | exact ih1 _ _ _ _ _ _
      | exact ih2 _ _ _ _ _
      | exact tollbarref11_Fits.mono _ _ _
      | exact LeO.none _
      | refine LeO.ite ?_ ?_
      | refine LeO.bind ?_ (fun _ => ?_)
set_option maxHeartbeats 8000000 in
set_option maxRecDepth 100000 in
theorem tollbarref11_Rewrite.calls (k : Nat) (a0_0 : ByteArray) (a0_1 : ByteArray) (a0_2 : ByteArray) (a1 : ByteArray) (r1 : ByteArray) (r2 : Bool) (w : World) (h : tollbarref11_Rewrite.f k a0_0 a0_1 a0_2 a1 = some (r1, r2)) :
    Calls Try.prog 11 #[.agg #[.string a0_0, .string a0_1, .string a0_2], .string a1] w fun e w' => e = .returned (.tuple #[.string r1, .bool r2]) ∧ Below w.heap.size w w' := by
  have hu26 := Try.underlying26
  have HB := Aside0.mk (Below.refl w.heap.size w)
  have H : ((tollbarref11_Fits.f k a0_0 a1).bind fun t144 => (if t144 = true then (if 0 ≤ (a0_0.size : Int) then (if (a0_0.size : Int) ≤ (a1.size : Int) then (if (a0_2.size : Int) > 0 then (if 0 ≤ (wrap64 ((a0_2.size : Int) - 1)) then (if (wrap64 ((a0_2.size : Int) - 1)) < (a0_2.size : Int) then (tollbarref11_Rewrite.j0 k (a1.extract a0_0.size a1.size) ((bt a0_2 (wrap64 ((a0_2.size : Int) - 1))) == 47) a0_0 a0_1 a0_2) else (none)) else (none)) else (tollbarref11_Rewrite.j0 k (a1.extract a0_0.size a1.size) false a0_0 a0_1 a0_2)) else (none)) else (none)) else (some ((⟨#[]⟩ : ByteArray), false)))) = some (r1, r2) := h
  clear h
  replace H := Option.bind_eq_some_iff.mp H
  obtain ⟨t144, A30, H⟩ := H
  replace H : (if t144 = true then (if 0 ≤ (a0_0.size : Int) then (if (a0_0.size : Int) ≤ (a1.size : Int) then (if (a0_2.size : Int) > 0 then (if 0 ≤ (wrap64 ((a0_2.size : Int) - 1)) then (if (wrap64 ((a0_2.size : Int) - 1)) < (a0_2.size : Int) then (tollbarref11_Rewrite.j0 k (a1.extract a0_0.size a1.size) ((bt a0_2 (wrap64 ((a0_2.size : Int) - 1))) == 47) a0_0 a0_1 a0_2) else (none)) else (none)) else (tollbarref11_Rewrite.j0 k (a1.extract a0_0.size a1.size) false a0_0 a0_1 a0_2)) else (none)) else (none)) else (some ((⟨#[]⟩ : ByteArray), false))) = some (r1, r2) := H
  have A3 := Aside0.mk A30
  clear A30
  by_cases c4 : t144 = true
  · subst c4
    have H1 : (if 0 ≤ (a0_0.size : Int) then (if (a0_0.size : Int) ≤ (a1.size : Int) then (if (a0_2.size : Int) > 0 then (if 0 ≤ (wrap64 ((a0_2.size : Int) - 1)) then (if (wrap64 ((a0_2.size : Int) - 1)) < (a0_2.size : Int) then (tollbarref11_Rewrite.j0 k (a1.extract a0_0.size a1.size) ((bt a0_2 (wrap64 ((a0_2.size : Int) - 1))) == 47) a0_0 a0_1 a0_2) else (none)) else (none)) else (tollbarref11_Rewrite.j0 k (a1.extract a0_0.size a1.size) false a0_0 a0_1 a0_2)) else (none)) else (none)) = some (r1, r2) := by rw [if_pos rfl] at H; exact H
    clear H
    have H := H1
    clear H1
    by_cases c5 : 0 ≤ (a0_0.size : Int)
    · rw [if_pos c5] at H
      have c5b0 := eq_true c5
      try (have c5z_ := c5; simp only [xsz_app, xsz_rest, xsz_mk, List.length_cons, List.length_nil, Nat.zero_add, Int.natCast_add] at c5z_)
      have c5b1 : decide (0 ≤ (a0_0.size : Int)) = true := decide_eq_true c5
      clear c5
      by_cases c6 : (a0_0.size : Int) ≤ (a1.size : Int)
      · rw [if_pos c6] at H
        have c6b0 := eq_true c6
        try (have c6z_ := c6; simp only [xsz_app, xsz_rest, xsz_mk, List.length_cons, List.length_nil, Nat.zero_add, Int.natCast_add] at c6z_)
        have c6b1 : decide ((a0_0.size : Int) ≤ (a1.size : Int)) = true := decide_eq_true c6
        clear c6
        have HC7 := Aside0.mk H
        clear H
        go_enter Try.func11, Try.ntmps11
        go_upto_region 4 with (first | ((with_reducible refine gate_dst (N := 2) rfl ?_); (try (refine gate_guard (by rfl) ?_; dsimp only)); refine box_event ?hg (N := 2) ?hd (cs := #[.string a0_0, .string a0_1, .string a0_2]) (t := 26) ?hr ?_; (case hd => rfl); (case hg => rfl); (case hr => first | (go_simp; done) | (go_simp; rfl)); intro gb143 hg w8 hbox hb; have n0_ := Aside0.mk (below_step (by repeat (first | (with_reducible first | exact HB.out | apply below_alloc | apply pw_below_drewN | apply below_drew1) | exact HB.out)) hb); have n1_ := Aside0.mk (hbox); have n2_ := Aside0.mk ((by rw [hg]; exact (below_size (by repeat (first | (with_reducible first | exact HB.out | apply below_alloc | apply pw_below_drewN | apply below_drew1) | exact HB.out))) : w.heap.size ≤ gb143)); have n3_ := Aside0.mk ((by rw [hg]; exact (below_size (by repeat (first | (with_reducible first | exact HB.out | apply below_alloc | apply pw_below_drewN | apply below_drew1) | exact HB.out))) : w.heap.size ≤ gb143)); clear HB; have HB := n0_; have BK143 := n1_; have GW143 := n2_; have GE143 := n3_; clear n0_ n1_ n2_ n3_; clear hb hbox hg; have hcz9_0 : w8.cell? ⟨gb143, 0, none⟩ = some (.string a0_0) := (blk_cell BK143.out 0).trans rfl; have hcz9_1 : w8.cell? ⟨gb143, 1, none⟩ = some (.string a0_1) := (blk_cell BK143.out 1).trans rfl; have hcz9_2 : w8.cell? ⟨gb143, 2, none⟩ = some (.string a0_2) := (blk_cell BK143.out 2).trans rfl; have hfz9_0 := blk_frozen BK143.out 0; have hfz9_1 := blk_frozen BK143.out 1; have hfz9_2 := blk_frozen BK143.out 2) | ((with_reducible refine gate_callee (f := 13) rfl ?_); refine goesL_ (some 12) rfl rfl Try.func13 (by kernel_rfl) rfl #[.string a0_0, .string a1] rfl (by (try simp only [List.map_toArray, List.map_cons, List.map_nil]); first | done | rfl | (simp only [List.length_drop, List.length_take]; rfl)) ?_; (with_reducible refine (tollbarref11_Fits.calls k a0_0 a1 true _ A3.out).mono ?_); rintro e w' ⟨rfl, ⟨nd, rfl⟩⟩; refine ⟨_, rfl, ?_⟩))
        (try simp only [Act.put, List.setIfInBounds_toArray, List.set_cons_zero, List.set_cons_succ])
        go_cut [6, 7] (fun v6 v7 wc => ∃ (kq : Nat) (x6_6 : ByteArray) (x7_6 : Bool), v6 = .string x6_6 ∧ v7 = .bool x7_6 ∧ Aside0 (tollbarref11_Rewrite.j0 kq x6_6 x7_6 a0_0 a0_1 a0_2 = some (r1, r2)) ∧ Aside0 (kq ≤ k) ∧ Aside0 (wc.heap[gb143]? = some (.cells #[.string a0_0, .string a0_1, .string a0_2] 26 (0, 0))) ∧ Aside0 (Below w.heap.size w wc))
        case first =>
          have H := HC7.out
          clear HC7
          by_cases c10 : (a0_2.size : Int) > 0
          · rw [if_pos c10] at H
            have c10b0 : decide (0 < (a0_2.size : Int)) = true := decide_eq_true c10
            try (have c10z_ := c10; simp only [xsz_app, xsz_rest, xsz_mk, List.length_cons, List.length_nil, Nat.zero_add, Int.natCast_add] at c10z_)
            have c10b1 : decide (0 < a0_2.size) = true := decide_eq_true (by omega)
            clear c10
            (first | rw [c10b0] | (simp only [i64_w, i32_w]; rw [c10b0]) | skip)
            obtain ⟨ji11, hji11⟩ : ∃ j_ : Int, (wrap64 ((a0_2.size : Int) - 1)) = j_ := ⟨_, rfl⟩
            replace H : (if 0 ≤ (ji11) then (if (ji11) < (a0_2.size : Int) then (tollbarref11_Rewrite.j0 k (a1.extract a0_0.size a1.size) ((bt a0_2 (ji11)) == 47) a0_0 a0_1 a0_2) else (none)) else (none)) = some (r1, r2) := by first | (rw [hji11] at H; exact H) | (simp only [hji11] at H ⊢; exact H)
            have hji11w : (IntKind.i64.wrap ((a0_2.size : Int) - 1)) = ji11 := (i64_w _).trans hji11
            by_cases c12 : 0 ≤ (ji11)
            · rw [if_pos c12] at H
              have c12b0 : decide (0 ≤ (ji11)) = true := decide_eq_true c12
              clear c12
              by_cases c13 : (ji11) < (a0_2.size : Int)
              · rw [if_pos c13] at H
                have c13b0 : decide ((ji11) < (a0_2.size : Int)) = true := decide_eq_true c13
                try (have c13z_ := c13; simp only [xsz_app, xsz_rest, xsz_mk, List.length_cons, List.length_nil, Nat.zero_add, Int.natCast_add] at c13z_)
                clear c13
                have H' := Aside0.mk H
                clear H
                have hcz15_0 : w8.cell? ⟨gb143, 0, none⟩ = some (.string a0_0) := (blk_cell BK143.out 0).trans rfl
                have hcz15_1 : w8.cell? ⟨gb143, 1, none⟩ = some (.string a0_1) := (blk_cell BK143.out 1).trans rfl
                have hcz15_2 : w8.cell? ⟨gb143, 2, none⟩ = some (.string a0_2) := (blk_cell BK143.out 2).trans rfl
                have hfz15_0 := blk_frozen BK143.out 0
                have hfz15_1 := blk_frozen BK143.out 1
                have hfz15_2 := blk_frozen BK143.out 2
                have p14 : 0 ≤ ((ji11) : Int) := of_decide_eq_true (by first | (with_reducible assumption) | assumption)
                have q14 : (ji11) < (a0_2.size : Int) := of_decide_eq_true (by first | (with_reducible assumption) | assumption)
                have hx14 := bt_at a0_2 (ji11)
                replace p14 := eq_true p14
                replace q14 := eq_true q14
                go_wp2
                go_meet
                case rel => exact ⟨_, (a1.extract a0_0.size a1.size), (((bt a0_2 (ji11)) == 47)), (by first | rfl | (simp; done) | (simp [*]; done)), (by first | rfl | (simp; done) | (simp only [← hji11] <;> (first | rfl | simp)) | (simp [*]; done)), H', ⟨by first | omega | exact Nat.le_refl _⟩, ⟨by (with_reducible repeat (first | refine blk_drewN ?_ _ | refine blk_drew ?_ | refine blk_alloc ?_ _)); exact BK143.out⟩, ⟨by repeat (first | (with_reducible first | exact HB.out | apply below_alloc | apply pw_below_drewN | apply below_drew1 | refine below_set ?_ GE143.out) | exact HB.out)⟩⟩
              · rw [if_neg c13] at H
                exact absurd H (by simp)
            · rw [if_neg c12] at H
              exact absurd H (by simp)
          · rw [if_neg c10] at H
            have c10b0 : decide (0 < (a0_2.size : Int)) = false := decide_eq_false c10
            try (have c10z_ := c10; simp only [xsz_app, xsz_rest, xsz_mk, List.length_cons, List.length_nil, Nat.zero_add, Int.natCast_add] at c10z_)
            have c10b1 : decide (0 < a0_2.size) = false := decide_eq_false (by omega)
            clear c10
            (first | rw [c10b0] | (simp only [i64_w, i32_w]; rw [c10b0]) | skip)
            have H' := Aside0.mk H
            clear H
            have hcz16_0 : w8.cell? ⟨gb143, 0, none⟩ = some (.string a0_0) := (blk_cell BK143.out 0).trans rfl
            have hcz16_1 : w8.cell? ⟨gb143, 1, none⟩ = some (.string a0_1) := (blk_cell BK143.out 1).trans rfl
            have hcz16_2 : w8.cell? ⟨gb143, 2, none⟩ = some (.string a0_2) := (blk_cell BK143.out 2).trans rfl
            have hfz16_0 := blk_frozen BK143.out 0
            have hfz16_1 := blk_frozen BK143.out 1
            have hfz16_2 := blk_frozen BK143.out 2
            go_wp2
            go_meet
            case rel => exact ⟨_, (a1.extract a0_0.size a1.size), (false), (by first | rfl | (simp; done) | (simp [*]; done)), (by first | rfl | (simp; done) | (simp [*]; done)), H', ⟨by first | omega | exact Nat.le_refl _⟩, ⟨by (with_reducible repeat (first | refine blk_drewN ?_ _ | refine blk_drew ?_ | refine blk_alloc ?_ _)); exact BK143.out⟩, ⟨by repeat (first | (with_reducible first | exact HB.out | apply below_alloc | apply pw_below_drewN | apply below_drew1 | refine below_set ?_ GE143.out) | exact HB.out)⟩⟩
        case rest =>
          clear HC7
          try clear c1
          try clear p1
          try clear q1
          try clear hx1
          try clear p2
          try clear c4
          try clear c5
          try clear c5b0
          try clear c5b1
          try clear c6
          try clear c6b0
          try clear c6b1
          try clear p6
          try clear c10
          try clear c10b0
          try clear c10b1
          try clear c11
          try clear c12
          try clear c12b0
          try clear c13
          try clear c13b0
          try clear p14
          try clear q14
          try clear hx14
          try clear hcz15_0
          try clear hcz15_1
          try clear hcz15_2
          try clear hcz16_0
          try clear hcz16_1
          try clear hcz16_2
          try clear hcz9_0
          try clear hcz9_1
          try clear hcz9_2
          try clear hfz15_0
          try clear hfz15_1
          try clear hfz15_2
          try clear hfz16_0
          try clear hfz16_1
          try clear hfz16_2
          try clear hfz9_0
          try clear hfz9_1
          try clear hfz9_2
          try clear p14
          try clear q14
          obtain ⟨kq, x6_6, x7_6, rfl, rfl, HA, HJ6, BK143, HB⟩ := hcut
          cases kq with
          | zero => exact absurd HA.out (by simp [tollbarref11_Rewrite.j0])
          | succ kj6 =>
            have H := HA.out
            clear HA
            simp only [tollbarref11_Rewrite.j0] at H
            by_cases c17 : (x6_6.size : Int) > 0
            · rw [if_pos c17] at H
              have c17b0 : decide (0 < (x6_6.size : Int)) = true := decide_eq_true c17
              try (have c17z_ := c17; simp only [xsz_app, xsz_rest, xsz_mk, List.length_cons, List.length_nil, Nat.zero_add, Int.natCast_add] at c17z_)
              have c17b1 : decide (0 < x6_6.size) = true := decide_eq_true (by omega)
              clear c17
              have HC18 := Aside0.mk H
              clear H
              go_upto_region 6 with (fail)
              go_cut [41] (fun v41 wc => ∃ (kq : Nat) (x41_17 : Bool), v41 = .bool x41_17 ∧ Aside0 (tollbarref11_Rewrite.j1 kq x6_6 x7_6 x41_17 a0_0 a0_1 a0_2 = some (r1, r2)) ∧ Aside0 (kq ≤ kj6) ∧ Aside0 (wc.heap[gb143]? = some (.cells #[.string a0_0, .string a0_1, .string a0_2] 26 (0, 0))) ∧ Aside0 (Below w.heap.size w wc))
              case first =>
                have H := HC18.out
                clear HC18
                by_cases c19 : x7_6 = true
                · subst c19
                  have H1 : (if 0 < (x6_6.size : Int) then (tollbarref11_Rewrite.j1 kj6 x6_6 true ((bt x6_6 0) == 47) a0_0 a0_1 a0_2) else (none)) = some (r1, r2) := by rw [if_pos rfl] at H; exact H
                  clear H
                  have H := H1
                  clear H1
                  by_cases c20 : 0 < (x6_6.size : Int)
                  · rw [if_pos c20] at H
                    have c20b0 : decide (0 < (x6_6.size : Int)) = true := decide_eq_true c20
                    try (have c20z_ := c20; simp only [xsz_app, xsz_rest, xsz_mk, List.length_cons, List.length_nil, Nat.zero_add, Int.natCast_add] at c20z_)
                    have c20b1 : decide (0 < x6_6.size) = true := decide_eq_true (by omega)
                    clear c20
                    (first | rw [c20b0] | (simp only [i64_w, i32_w]; rw [c20b0]) | skip)
                    have H' := Aside0.mk H
                    clear H
                    have p21 : 0 ≤ (0 : Int) := (by omega)
                    have q21 : 0 < x6_6.size := (by have : (0 : Int) < (x6_6.size : Int) := of_decide_eq_true (by first | (with_reducible assumption) | assumption); omega)
                    have hx21 : ∀ h : 0 < x6_6.size, ((x6_6[0]'h).toNat : Int) = bt x6_6 0 := bt_at x6_6 0
                    clear p21
                    have qi21 : (0 < (x6_6.size : Int)) = True := eq_true (of_decide_eq_true (by first | (with_reducible assumption) | assumption))
                    replace q21 := eq_true q21
                    go_wp2
                    go_meet
                    case rel => exact ⟨_, (((bt x6_6 0) == 47)), (by first | rfl | (simp; done) | (simp [*]; done)), H', ⟨by have := HJ6.out; first | omega | exact Nat.le_refl _⟩, ⟨by (with_reducible repeat (first | refine blk_drewN ?_ _ | refine blk_drew ?_ | refine blk_alloc ?_ _)); exact BK143.out⟩, ⟨by repeat (first | (with_reducible first | exact HB.out | apply below_alloc | apply pw_below_drewN | apply below_drew1 | refine below_set ?_ GE143.out) | exact HB.out)⟩⟩
                  · rw [if_neg c20] at H
                    exact absurd H (by simp)
                · replace c19 := Bool.eq_false_iff.mpr c19
                  subst c19
                  have H1 : (tollbarref11_Rewrite.j1 kj6 x6_6 false false a0_0 a0_1 a0_2) = some (r1, r2) := by rw [if_neg (show ¬ (false = true) by decide)] at H; exact H
                  clear H
                  have H := H1
                  clear H1
                  have H' := Aside0.mk H
                  clear H
                  go_wp2
                  go_meet
                  case rel => exact ⟨_, (false), (by first | rfl | (simp; done) | (simp [*]; done)), H', ⟨by have := HJ6.out; first | omega | exact Nat.le_refl _⟩, ⟨by (with_reducible repeat (first | refine blk_drewN ?_ _ | refine blk_drew ?_ | refine blk_alloc ?_ _)); exact BK143.out⟩, ⟨by repeat (first | (with_reducible first | exact HB.out | apply below_alloc | apply pw_below_drewN | apply below_drew1 | refine below_set ?_ GE143.out) | exact HB.out)⟩⟩
              case rest =>
                clear HC18
                try clear c1
                try clear p1
                try clear q1
                try clear hx1
                try clear c2
                try clear p2
                try clear q2
                try clear hx2
                try clear qi2
                try clear c4
                try clear c5
                try clear c5b0
                try clear c5b1
                try clear c6
                try clear c6b0
                try clear c6b1
                try clear p6
                try clear c10
                try clear c10b0
                try clear c10b1
                try clear c11
                try clear c12
                try clear c12b0
                try clear c13
                try clear c13b0
                try clear p14
                try clear q14
                try clear hx14
                try clear c17
                try clear c17b0
                try clear c17b1
                try clear c19
                try clear c20
                try clear c20b0
                try clear c20b1
                try clear p21
                try clear q21
                try clear hx21
                try clear qi21
                try clear hcz15_0
                try clear hcz15_1
                try clear hcz15_2
                try clear hcz16_0
                try clear hcz16_1
                try clear hcz16_2
                try clear hcz9_0
                try clear hcz9_1
                try clear hcz9_2
                try clear hfz15_0
                try clear hfz15_1
                try clear hfz15_2
                try clear hfz16_0
                try clear hfz16_1
                try clear hfz16_2
                try clear hfz9_0
                try clear hfz9_1
                try clear hfz9_2
                try clear p1
                try clear p14
                try clear p2
                try clear p21
                try clear p6
                try clear q1
                try clear q14
                try clear q21
                obtain ⟨kq, x41_17, rfl, HA, HJ17, BK143, HB⟩ := hcut
                cases kq with
                | zero => exact absurd HA.out (by simp [tollbarref11_Rewrite.j1])
                | succ kj17 =>
                  have H := HA.out
                  clear HA
                  simp only [tollbarref11_Rewrite.j1] at H
                  by_cases c22 : x41_17 = true
                  · subst c22
                    have H1 : (if 1 ≤ (x6_6.size : Int) then (if a0_2.size + (x6_6.size - 1 : Nat) ≤ 9223372036854775807 then (if ((a0_2 ++ (x6_6.extract 1 x6_6.size)).size : Int) > 512 then (some ((⟨#[]⟩ : ByteArray), false)) else (some (a0_2 ++ (x6_6.extract 1 x6_6.size), true))) else (none)) else (none)) = some (r1, r2) := by rw [if_pos rfl] at H; exact H
                    clear H
                    have H := H1
                    clear H1
                    by_cases c23 : 1 ≤ (x6_6.size : Int)
                    · rw [if_pos c23] at H
                      have c23b0 := eq_true c23
                      try (have c23z_ := c23; simp only [xsz_app, xsz_rest, xsz_mk, List.length_cons, List.length_nil, Nat.zero_add, Int.natCast_add] at c23z_)
                      have c23b1 : decide (1 ≤ (x6_6.size : Int)) = true := decide_eq_true c23
                      clear c23
                      by_cases c24 : a0_2.size + (x6_6.size - 1 : Nat) ≤ 9223372036854775807
                      · rw [if_pos c24] at H
                        have c24b0 := eq_true c24
                        try (have c24z_ := c24; simp only [xsz_app, xsz_rest, xsz_mk, List.length_cons, List.length_nil, Nat.zero_add, Int.natCast_add] at c24z_)
                        have c24b1 : decide (a0_2.size + (x6_6.size - 1 : Nat) ≤ 9223372036854775807) = true := decide_eq_true c24
                        try have c24b2 : (9223372036854775807 < a0_2.size + (x6_6.size - 1 : Nat)) = False := eq_false (Nat.not_lt.2 c24)
                        by_cases c25 : ((a0_2 ++ (x6_6.extract 1 x6_6.size)).size : Int) > 512
                        · rw [if_pos c25] at H
                          have c25b0 : decide (512 < ((a0_2 ++ (x6_6.extract 1 x6_6.size)).size : Int)) = true := decide_eq_true c25
                          try (have c25z_ := c25; simp only [xsz_app, xsz_rest, xsz_mk, List.length_cons, List.length_nil, Nat.zero_add, Int.natCast_add] at c25z_)
                          have c25b1 : decide (512 < (a0_2 ++ (x6_6.extract 1 x6_6.size)).size) = true := decide_eq_true (by omega)
                          clear c25
                          simp only [Option.some.injEq, Prod.mk.injEq] at H
                          obtain ⟨rfl, rfl⟩ := H
                          have hcz26_0 : wc.cell? ⟨gb143, 0, none⟩ = some (.string a0_0) := (blk_cell BK143.out 0).trans rfl
                          have hcz26_1 : wc.cell? ⟨gb143, 1, none⟩ = some (.string a0_1) := (blk_cell BK143.out 1).trans rfl
                          have hcz26_2 : wc.cell? ⟨gb143, 2, none⟩ = some (.string a0_2) := (blk_cell BK143.out 2).trans rfl
                          have hfz26_0 := blk_frozen BK143.out 0
                          have hfz26_1 := blk_frozen BK143.out 1
                          have hfz26_2 := blk_frozen BK143.out 2
                          go_wp2
                          go_ret2
                          exact ⟨by first | rfl | (simp [errW_none, errW_some] <;> rfl) | (simp [*, errW_none, errW_some] <;> rfl), by repeat (first | (with_reducible first | exact HB.out | apply below_alloc | apply pw_below_drewN | apply below_drew1 | refine below_set ?_ GE143.out) | exact HB.out)⟩
                        · rw [if_neg c25] at H
                          have c25b0 : decide (512 < ((a0_2 ++ (x6_6.extract 1 x6_6.size)).size : Int)) = false := decide_eq_false c25
                          try (have c25z_ := c25; simp only [xsz_app, xsz_rest, xsz_mk, List.length_cons, List.length_nil, Nat.zero_add, Int.natCast_add] at c25z_)
                          have c25b1 : decide (512 < (a0_2 ++ (x6_6.extract 1 x6_6.size)).size) = false := decide_eq_false (by omega)
                          clear c25
                          simp only [Option.some.injEq, Prod.mk.injEq] at H
                          obtain ⟨rfl, rfl⟩ := H
                          have hcz27_0 : wc.cell? ⟨gb143, 0, none⟩ = some (.string a0_0) := (blk_cell BK143.out 0).trans rfl
                          have hcz27_1 : wc.cell? ⟨gb143, 1, none⟩ = some (.string a0_1) := (blk_cell BK143.out 1).trans rfl
                          have hcz27_2 : wc.cell? ⟨gb143, 2, none⟩ = some (.string a0_2) := (blk_cell BK143.out 2).trans rfl
                          have hfz27_0 := blk_frozen BK143.out 0
                          have hfz27_1 := blk_frozen BK143.out 1
                          have hfz27_2 := blk_frozen BK143.out 2
                          go_wp2
                          go_ret2
                          exact ⟨by first | rfl | (simp [errW_none, errW_some] <;> rfl) | (simp [*, errW_none, errW_some] <;> rfl), by repeat (first | (with_reducible first | exact HB.out | apply below_alloc | apply pw_below_drewN | apply below_drew1 | refine below_set ?_ GE143.out) | exact HB.out)⟩
                      · rw [if_neg c24] at H
                        exact absurd H (by simp)
                    · rw [if_neg c23] at H
                      exact absurd H (by simp)
                  · replace c22 := Bool.eq_false_iff.mpr c22
                    subst c22
                    have H1 : (if x7_6 = true then (tollbarref11_Rewrite.j2 kj17 x6_6 false a0_0 a0_1 a0_2) else (if 0 < (x6_6.size : Int) then (if (bt x6_6 0) = 47 then (tollbarref11_Rewrite.j2 kj17 x6_6 false a0_0 a0_1 a0_2) else (tollbarref11_Rewrite.j2 kj17 x6_6 ((bt x6_6 0) != 63) a0_0 a0_1 a0_2)) else (none))) = some (r1, r2) := by rw [if_neg (show ¬ (false = true) by decide)] at H; exact H
                    clear H
                    have H := H1
                    clear H1
                    have HC28 := Aside0.mk H
                    clear H
                    go_upto_region 8 with (fail)
                    go_cut [55] (fun v55 wc => ∃ (kq : Nat) (x55_27 : Bool), v55 = .bool x55_27 ∧ Aside0 (tollbarref11_Rewrite.j2 kq x6_6 x55_27 a0_0 a0_1 a0_2 = some (r1, r2)) ∧ Aside0 (kq ≤ kj17) ∧ Aside0 (wc.heap[gb143]? = some (.cells #[.string a0_0, .string a0_1, .string a0_2] 26 (0, 0))) ∧ Aside0 (Below w.heap.size w wc))
                    case first =>
                      have H := HC28.out
                      clear HC28
                      by_cases c29 : x7_6 = true
                      · subst c29
                        have H1 : (tollbarref11_Rewrite.j2 kj17 x6_6 false a0_0 a0_1 a0_2) = some (r1, r2) := by rw [if_pos rfl] at H; exact H
                        clear H
                        have H := H1
                        clear H1
                        have H' := Aside0.mk H
                        clear H
                        go_wp2
                        go_meet
                        case rel => exact ⟨_, (false), (by first | rfl | (simp; done) | (simp [*]; done)), H', ⟨by have := HJ6.out; have := HJ17.out; first | omega | exact Nat.le_refl _⟩, ⟨by (with_reducible repeat (first | refine blk_drewN ?_ _ | refine blk_drew ?_ | refine blk_alloc ?_ _)); exact BK143.out⟩, ⟨by repeat (first | (with_reducible first | exact HB.out | apply below_alloc | apply pw_below_drewN | apply below_drew1 | refine below_set ?_ GE143.out) | exact HB.out)⟩⟩
                      · replace c29 := Bool.eq_false_iff.mpr c29
                        subst c29
                        have H1 : (if 0 < (x6_6.size : Int) then (if (bt x6_6 0) = 47 then (tollbarref11_Rewrite.j2 kj17 x6_6 false a0_0 a0_1 a0_2) else (tollbarref11_Rewrite.j2 kj17 x6_6 ((bt x6_6 0) != 63) a0_0 a0_1 a0_2)) else (none)) = some (r1, r2) := by rw [if_neg (show ¬ (false = true) by decide)] at H; exact H
                        clear H
                        have H := H1
                        clear H1
                        by_cases c30 : 0 < (x6_6.size : Int)
                        · rw [if_pos c30] at H
                          have c30b0 : decide (0 < (x6_6.size : Int)) = true := decide_eq_true c30
                          try (have c30z_ := c30; simp only [xsz_app, xsz_rest, xsz_mk, List.length_cons, List.length_nil, Nat.zero_add, Int.natCast_add] at c30z_)
                          have c30b1 : decide (0 < x6_6.size) = true := decide_eq_true (by omega)
                          clear c30
                          (first | rw [c30b0] | (simp only [i64_w, i32_w]; rw [c30b0]) | skip)
                          by_cases c32 : (bt x6_6 0) = 47
                          · rw [if_pos c32] at H
                            have c32b0 : ((bt x6_6 0) == 47) = true := beq_iff_eq.mpr c32
                            have c32b1 : ((bt x6_6 0) != 47) = false := bne_eq_false_iff_eq.mpr c32
                            clear c32
                            have H' := Aside0.mk H
                            clear H
                            have p31 : 0 ≤ (0 : Int) := (by omega)
                            have q31 : 0 < x6_6.size := (by have : (0 : Int) < (x6_6.size : Int) := of_decide_eq_true (by first | (with_reducible assumption) | assumption); omega)
                            have hx31 : ∀ h : 0 < x6_6.size, ((x6_6[0]'h).toNat : Int) = bt x6_6 0 := bt_at x6_6 0
                            clear p31
                            have qi31 : (0 < (x6_6.size : Int)) = True := eq_true (of_decide_eq_true (by first | (with_reducible assumption) | assumption))
                            replace q31 := eq_true q31
                            go_wp2
                            go_meet
                            case rel => exact ⟨_, (false), (by first | rfl | (simp; done) | (simp [*]; done)), H', ⟨by have := HJ6.out; have := HJ17.out; first | omega | exact Nat.le_refl _⟩, ⟨by (with_reducible repeat (first | refine blk_drewN ?_ _ | refine blk_drew ?_ | refine blk_alloc ?_ _)); exact BK143.out⟩, ⟨by repeat (first | (with_reducible first | exact HB.out | apply below_alloc | apply pw_below_drewN | apply below_drew1 | refine below_set ?_ GE143.out) | exact HB.out)⟩⟩
                          · rw [if_neg c32] at H
                            have c32b0 : ((bt x6_6 0) == 47) = false := beq_eq_false_iff_ne.mpr c32
                            have c32b1 : ((bt x6_6 0) != 47) = true := bne_iff_ne.mpr c32
                            have H' := Aside0.mk H
                            clear H
                            have p31 : 0 ≤ (0 : Int) := (by omega)
                            have q31 : 0 < x6_6.size := (by have : (0 : Int) < (x6_6.size : Int) := of_decide_eq_true (by first | (with_reducible assumption) | assumption); omega)
                            have hx31 : ∀ h : 0 < x6_6.size, ((x6_6[0]'h).toNat : Int) = bt x6_6 0 := bt_at x6_6 0
                            clear p31
                            have qi31 : (0 < (x6_6.size : Int)) = True := eq_true (of_decide_eq_true (by first | (with_reducible assumption) | assumption))
                            replace q31 := eq_true q31
                            have p33 : 0 ≤ (0 : Int) := (by omega)
                            have q33 : 0 < x6_6.size := (by have : (0 : Int) < (x6_6.size : Int) := of_decide_eq_true (by first | (with_reducible assumption) | assumption); omega)
                            have hx33 : ∀ h : 0 < x6_6.size, ((x6_6[0]'h).toNat : Int) = bt x6_6 0 := bt_at x6_6 0
                            clear p33
                            have qi33 : (0 < (x6_6.size : Int)) = True := eq_true (of_decide_eq_true (by first | (with_reducible assumption) | assumption))
                            replace q33 := eq_true q33
                            go_wp2
                            go_meet
                            case rel => exact ⟨_, (((bt x6_6 0) != 63)), (by first | rfl | (simp; done) | (simp [*]; done)), H', ⟨by have := HJ6.out; have := HJ17.out; first | omega | exact Nat.le_refl _⟩, ⟨by (with_reducible repeat (first | refine blk_drewN ?_ _ | refine blk_drew ?_ | refine blk_alloc ?_ _)); exact BK143.out⟩, ⟨by repeat (first | (with_reducible first | exact HB.out | apply below_alloc | apply pw_below_drewN | apply below_drew1 | refine below_set ?_ GE143.out) | exact HB.out)⟩⟩
                        · rw [if_neg c30] at H
                          exact absurd H (by simp)
                    case rest =>
                      clear HC28
                      try clear c1
                      try clear p1
                      try clear q1
                      try clear hx1
                      try clear c2
                      try clear p2
                      try clear q2
                      try clear hx2
                      try clear qi2
                      try clear c3
                      try clear p3
                      try clear q3
                      try clear hx3
                      try clear qi3
                      try clear c4
                      try clear c5
                      try clear c5b0
                      try clear c5b1
                      try clear c6
                      try clear c6b0
                      try clear c6b1
                      try clear p6
                      try clear c10
                      try clear c10b0
                      try clear c10b1
                      try clear c11
                      try clear c12
                      try clear c12b0
                      try clear c13
                      try clear c13b0
                      try clear p14
                      try clear q14
                      try clear hx14
                      try clear c17
                      try clear c17b0
                      try clear c17b1
                      try clear c19
                      try clear c20
                      try clear c20b0
                      try clear c20b1
                      try clear p21
                      try clear q21
                      try clear hx21
                      try clear qi21
                      try clear c22
                      try clear c23
                      try clear c23b0
                      try clear c23b1
                      try clear c24
                      try clear c24b0
                      try clear c24b1
                      try clear c24b2
                      try clear c25
                      try clear c25b0
                      try clear c25b1
                      try clear c29
                      try clear c30
                      try clear c30b0
                      try clear c30b1
                      try clear p31
                      try clear q31
                      try clear hx31
                      try clear qi31
                      try clear c32
                      try clear c32b0
                      try clear c32b1
                      try clear p33
                      try clear q33
                      try clear hx33
                      try clear qi33
                      try clear hcz15_0
                      try clear hcz15_1
                      try clear hcz15_2
                      try clear hcz16_0
                      try clear hcz16_1
                      try clear hcz16_2
                      try clear hcz26_0
                      try clear hcz26_1
                      try clear hcz26_2
                      try clear hcz27_0
                      try clear hcz27_1
                      try clear hcz27_2
                      try clear hcz9_0
                      try clear hcz9_1
                      try clear hcz9_2
                      try clear hfz15_0
                      try clear hfz15_1
                      try clear hfz15_2
                      try clear hfz16_0
                      try clear hfz16_1
                      try clear hfz16_2
                      try clear hfz26_0
                      try clear hfz26_1
                      try clear hfz26_2
                      try clear hfz27_0
                      try clear hfz27_1
                      try clear hfz27_2
                      try clear hfz9_0
                      try clear hfz9_1
                      try clear hfz9_2
                      try clear p1
                      try clear p14
                      try clear p2
                      try clear p21
                      try clear p31
                      try clear p33
                      try clear p6
                      try clear q1
                      try clear q14
                      try clear q2
                      try clear q21
                      try clear q31
                      try clear q33
                      obtain ⟨kq, x55_27, rfl, HA, HJ27, BK143, HB⟩ := hcut
                      cases kq with
                      | zero => exact absurd HA.out (by simp [tollbarref11_Rewrite.j2])
                      | succ kj27 =>
                        have H := HA.out
                        clear HA
                        simp only [tollbarref11_Rewrite.j2] at H
                        by_cases c34 : x55_27 = true
                        · subst c34
                          have H1 : (if 1 + x6_6.size ≤ 9223372036854775807 then (if a0_2.size + ((⟨#[47]⟩ : ByteArray) ++ x6_6).size ≤ 9223372036854775807 then (if ((a0_2 ++ ((⟨#[47]⟩ : ByteArray) ++ x6_6)).size : Int) > 512 then (some ((⟨#[]⟩ : ByteArray), false)) else (some (a0_2 ++ ((⟨#[47]⟩ : ByteArray) ++ x6_6), true))) else (none)) else (none)) = some (r1, r2) := by rw [if_pos rfl] at H; exact H
                          clear H
                          have H := H1
                          clear H1
                          by_cases c35 : 1 + x6_6.size ≤ 9223372036854775807
                          · rw [if_pos c35] at H
                            have c35b0 := eq_true c35
                            have c35b1 : decide (1 + x6_6.size ≤ 9223372036854775807) = true := decide_eq_true c35
                            try have c35b2 : (9223372036854775807 < 1 + x6_6.size) = False := eq_false (Nat.not_lt.2 c35)
                            by_cases c36 : a0_2.size + ((⟨#[47]⟩ : ByteArray) ++ x6_6).size ≤ 9223372036854775807
                            · rw [if_pos c36] at H
                              have c36b0 := eq_true c36
                              have c36b1 : decide (a0_2.size + ((⟨#[47]⟩ : ByteArray) ++ x6_6).size ≤ 9223372036854775807) = true := decide_eq_true c36
                              try have c36b2 : (9223372036854775807 < a0_2.size + ((⟨#[47]⟩ : ByteArray) ++ x6_6).size) = False := eq_false (Nat.not_lt.2 c36)
                              by_cases c37 : ((a0_2 ++ ((⟨#[47]⟩ : ByteArray) ++ x6_6)).size : Int) > 512
                              · rw [if_pos c37] at H
                                have c37b0 : decide (512 < ((a0_2 ++ ((⟨#[47]⟩ : ByteArray) ++ x6_6)).size : Int)) = true := decide_eq_true c37
                                try (have c37z_ := c37; simp only [xsz_app, xsz_rest, xsz_mk, List.length_cons, List.length_nil, Nat.zero_add, Int.natCast_add] at c37z_)
                                have c37b1 : decide (512 < (a0_2 ++ ((⟨#[47]⟩ : ByteArray) ++ x6_6)).size) = true := decide_eq_true (by omega)
                                clear c37
                                simp only [Option.some.injEq, Prod.mk.injEq] at H
                                obtain ⟨rfl, rfl⟩ := H
                                have hcz38_0 : wc.cell? ⟨gb143, 0, none⟩ = some (.string a0_0) := (blk_cell BK143.out 0).trans rfl
                                have hcz38_1 : wc.cell? ⟨gb143, 1, none⟩ = some (.string a0_1) := (blk_cell BK143.out 1).trans rfl
                                have hcz38_2 : wc.cell? ⟨gb143, 2, none⟩ = some (.string a0_2) := (blk_cell BK143.out 2).trans rfl
                                have hfz38_0 := blk_frozen BK143.out 0
                                have hfz38_1 := blk_frozen BK143.out 1
                                have hfz38_2 := blk_frozen BK143.out 2
                                go_wp2
                                go_ret2
                                exact ⟨by first | rfl | (simp [errW_none, errW_some] <;> rfl) | (simp [*, errW_none, errW_some] <;> rfl), by repeat (first | (with_reducible first | exact HB.out | apply below_alloc | apply pw_below_drewN | apply below_drew1 | refine below_set ?_ GE143.out) | exact HB.out)⟩
                              · rw [if_neg c37] at H
                                have c37b0 : decide (512 < ((a0_2 ++ ((⟨#[47]⟩ : ByteArray) ++ x6_6)).size : Int)) = false := decide_eq_false c37
                                try (have c37z_ := c37; simp only [xsz_app, xsz_rest, xsz_mk, List.length_cons, List.length_nil, Nat.zero_add, Int.natCast_add] at c37z_)
                                have c37b1 : decide (512 < (a0_2 ++ ((⟨#[47]⟩ : ByteArray) ++ x6_6)).size) = false := decide_eq_false (by omega)
                                clear c37
                                simp only [Option.some.injEq, Prod.mk.injEq] at H
                                obtain ⟨rfl, rfl⟩ := H
                                have hcz39_0 : wc.cell? ⟨gb143, 0, none⟩ = some (.string a0_0) := (blk_cell BK143.out 0).trans rfl
                                have hcz39_1 : wc.cell? ⟨gb143, 1, none⟩ = some (.string a0_1) := (blk_cell BK143.out 1).trans rfl
                                have hcz39_2 : wc.cell? ⟨gb143, 2, none⟩ = some (.string a0_2) := (blk_cell BK143.out 2).trans rfl
                                have hfz39_0 := blk_frozen BK143.out 0
                                have hfz39_1 := blk_frozen BK143.out 1
                                have hfz39_2 := blk_frozen BK143.out 2
                                go_wp2
                                go_ret2
                                exact ⟨by first | rfl | (simp [errW_none, errW_some] <;> rfl) | (simp [*, errW_none, errW_some] <;> rfl), by repeat (first | (with_reducible first | exact HB.out | apply below_alloc | apply pw_below_drewN | apply below_drew1 | refine below_set ?_ GE143.out) | exact HB.out)⟩
                            · rw [if_neg c36] at H
                              exact absurd H (by simp)
                          · rw [if_neg c35] at H
                            exact absurd H (by simp)
                        · replace c34 := Bool.eq_false_iff.mpr c34
                          subst c34
                          have H1 : (if a0_2.size + x6_6.size ≤ 9223372036854775807 then (if ((a0_2 ++ x6_6).size : Int) > 512 then (some ((⟨#[]⟩ : ByteArray), false)) else (some (a0_2 ++ x6_6, true))) else (none)) = some (r1, r2) := by rw [if_neg (show ¬ (false = true) by decide)] at H; exact H
                          clear H
                          have H := H1
                          clear H1
                          by_cases c40 : a0_2.size + x6_6.size ≤ 9223372036854775807
                          · rw [if_pos c40] at H
                            have c40b0 := eq_true c40
                            have c40b1 : decide (a0_2.size + x6_6.size ≤ 9223372036854775807) = true := decide_eq_true c40
                            try have c40b2 : (9223372036854775807 < a0_2.size + x6_6.size) = False := eq_false (Nat.not_lt.2 c40)
                            by_cases c41 : ((a0_2 ++ x6_6).size : Int) > 512
                            · rw [if_pos c41] at H
                              have c41b0 : decide (512 < ((a0_2 ++ x6_6).size : Int)) = true := decide_eq_true c41
                              try (have c41z_ := c41; simp only [xsz_app, xsz_rest, xsz_mk, List.length_cons, List.length_nil, Nat.zero_add, Int.natCast_add] at c41z_)
                              have c41b1 : decide (512 < (a0_2 ++ x6_6).size) = true := decide_eq_true (by omega)
                              clear c41
                              simp only [Option.some.injEq, Prod.mk.injEq] at H
                              obtain ⟨rfl, rfl⟩ := H
                              have hcz42_0 : wc.cell? ⟨gb143, 0, none⟩ = some (.string a0_0) := (blk_cell BK143.out 0).trans rfl
                              have hcz42_1 : wc.cell? ⟨gb143, 1, none⟩ = some (.string a0_1) := (blk_cell BK143.out 1).trans rfl
                              have hcz42_2 : wc.cell? ⟨gb143, 2, none⟩ = some (.string a0_2) := (blk_cell BK143.out 2).trans rfl
                              have hfz42_0 := blk_frozen BK143.out 0
                              have hfz42_1 := blk_frozen BK143.out 1
                              have hfz42_2 := blk_frozen BK143.out 2
                              go_wp2
                              go_ret2
                              exact ⟨by first | rfl | (simp [errW_none, errW_some] <;> rfl) | (simp [*, errW_none, errW_some] <;> rfl), by repeat (first | (with_reducible first | exact HB.out | apply below_alloc | apply pw_below_drewN | apply below_drew1 | refine below_set ?_ GE143.out) | exact HB.out)⟩
                            · rw [if_neg c41] at H
                              have c41b0 : decide (512 < ((a0_2 ++ x6_6).size : Int)) = false := decide_eq_false c41
                              try (have c41z_ := c41; simp only [xsz_app, xsz_rest, xsz_mk, List.length_cons, List.length_nil, Nat.zero_add, Int.natCast_add] at c41z_)
                              have c41b1 : decide (512 < (a0_2 ++ x6_6).size) = false := decide_eq_false (by omega)
                              clear c41
                              simp only [Option.some.injEq, Prod.mk.injEq] at H
                              obtain ⟨rfl, rfl⟩ := H
                              have hcz43_0 : wc.cell? ⟨gb143, 0, none⟩ = some (.string a0_0) := (blk_cell BK143.out 0).trans rfl
                              have hcz43_1 : wc.cell? ⟨gb143, 1, none⟩ = some (.string a0_1) := (blk_cell BK143.out 1).trans rfl
                              have hcz43_2 : wc.cell? ⟨gb143, 2, none⟩ = some (.string a0_2) := (blk_cell BK143.out 2).trans rfl
                              have hfz43_0 := blk_frozen BK143.out 0
                              have hfz43_1 := blk_frozen BK143.out 1
                              have hfz43_2 := blk_frozen BK143.out 2
                              go_wp2
                              go_ret2
                              exact ⟨by first | rfl | (simp [errW_none, errW_some] <;> rfl) | (simp [*, errW_none, errW_some] <;> rfl), by repeat (first | (with_reducible first | exact HB.out | apply below_alloc | apply pw_below_drewN | apply below_drew1 | refine below_set ?_ GE143.out) | exact HB.out)⟩
                          · rw [if_neg c40] at H
                            exact absurd H (by simp)
            · rw [if_neg c17] at H
              have c17b0 : decide (0 < (x6_6.size : Int)) = false := decide_eq_false c17
              try (have c17z_ := c17; simp only [xsz_app, xsz_rest, xsz_mk, List.length_cons, List.length_nil, Nat.zero_add, Int.natCast_add] at c17z_)
              have c17b1 : decide (0 < x6_6.size) = false := decide_eq_false (by omega)
              clear c17
              by_cases c44 : a0_2.size + x6_6.size ≤ 9223372036854775807
              · rw [if_pos c44] at H
                have c44b0 := eq_true c44
                try (have c44z_ := c44; simp only [xsz_app, xsz_rest, xsz_mk, List.length_cons, List.length_nil, Nat.zero_add, Int.natCast_add] at c44z_)
                have c44b1 : decide (a0_2.size + x6_6.size ≤ 9223372036854775807) = true := decide_eq_true c44
                try have c44b2 : (9223372036854775807 < a0_2.size + x6_6.size) = False := eq_false (Nat.not_lt.2 c44)
                by_cases c45 : ((a0_2 ++ x6_6).size : Int) > 512
                · rw [if_pos c45] at H
                  have c45b0 : decide (512 < ((a0_2 ++ x6_6).size : Int)) = true := decide_eq_true c45
                  try (have c45z_ := c45; simp only [xsz_app, xsz_rest, xsz_mk, List.length_cons, List.length_nil, Nat.zero_add, Int.natCast_add] at c45z_)
                  have c45b1 : decide (512 < (a0_2 ++ x6_6).size) = true := decide_eq_true (by omega)
                  clear c45
                  simp only [Option.some.injEq, Prod.mk.injEq] at H
                  obtain ⟨rfl, rfl⟩ := H
                  have hcz46_0 : wc.cell? ⟨gb143, 0, none⟩ = some (.string a0_0) := (blk_cell BK143.out 0).trans rfl
                  have hcz46_1 : wc.cell? ⟨gb143, 1, none⟩ = some (.string a0_1) := (blk_cell BK143.out 1).trans rfl
                  have hcz46_2 : wc.cell? ⟨gb143, 2, none⟩ = some (.string a0_2) := (blk_cell BK143.out 2).trans rfl
                  have hfz46_0 := blk_frozen BK143.out 0
                  have hfz46_1 := blk_frozen BK143.out 1
                  have hfz46_2 := blk_frozen BK143.out 2
                  go_wp2
                  go_ret2
                  exact ⟨by first | rfl | (simp [errW_none, errW_some] <;> rfl) | (simp [*, errW_none, errW_some] <;> rfl), by repeat (first | (with_reducible first | exact HB.out | apply below_alloc | apply pw_below_drewN | apply below_drew1 | refine below_set ?_ GE143.out) | exact HB.out)⟩
                · rw [if_neg c45] at H
                  have c45b0 : decide (512 < ((a0_2 ++ x6_6).size : Int)) = false := decide_eq_false c45
                  try (have c45z_ := c45; simp only [xsz_app, xsz_rest, xsz_mk, List.length_cons, List.length_nil, Nat.zero_add, Int.natCast_add] at c45z_)
                  have c45b1 : decide (512 < (a0_2 ++ x6_6).size) = false := decide_eq_false (by omega)
                  clear c45
                  simp only [Option.some.injEq, Prod.mk.injEq] at H
                  obtain ⟨rfl, rfl⟩ := H
                  have hcz47_0 : wc.cell? ⟨gb143, 0, none⟩ = some (.string a0_0) := (blk_cell BK143.out 0).trans rfl
                  have hcz47_1 : wc.cell? ⟨gb143, 1, none⟩ = some (.string a0_1) := (blk_cell BK143.out 1).trans rfl
                  have hcz47_2 : wc.cell? ⟨gb143, 2, none⟩ = some (.string a0_2) := (blk_cell BK143.out 2).trans rfl
                  have hfz47_0 := blk_frozen BK143.out 0
                  have hfz47_1 := blk_frozen BK143.out 1
                  have hfz47_2 := blk_frozen BK143.out 2
                  go_wp2
                  go_ret2
                  exact ⟨by first | rfl | (simp [errW_none, errW_some] <;> rfl) | (simp [*, errW_none, errW_some] <;> rfl), by repeat (first | (with_reducible first | exact HB.out | apply below_alloc | apply pw_below_drewN | apply below_drew1 | refine below_set ?_ GE143.out) | exact HB.out)⟩
              · rw [if_neg c44] at H
                exact absurd H (by simp)
      · rw [if_neg c6] at H
        exact absurd H (by simp)
    · rw [if_neg c5] at H
      exact absurd H (by simp)
  · replace c4 := Bool.eq_false_iff.mpr c4
    subst c4
    have H1 : (some ((⟨#[]⟩ : ByteArray), false)) = some (r1, r2) := by rw [if_neg (show ¬ (false = true) by decide)] at H; exact H
    clear H
    have H := H1
    clear H1
    simp only [Option.some.injEq, Prod.mk.injEq] at H
    obtain ⟨rfl, rfl⟩ := H
    go_enter Try.func11, Try.ntmps11
    go_wp2_with (first | ((with_reducible refine gate_dst (N := 2) rfl ?_); (try (refine gate_guard (by rfl) ?_; dsimp only)); refine box_event ?hg (N := 2) ?hd (cs := #[.string a0_0, .string a0_1, .string a0_2]) (t := 26) ?hr ?_; (case hd => rfl); (case hg => rfl); (case hr => first | (go_simp; done) | (go_simp; rfl)); intro gb143 hg w48 hbox hb; have n0_ := Aside0.mk (below_step (by repeat (first | (with_reducible first | exact HB.out | apply below_alloc | apply pw_below_drewN | apply below_drew1) | exact HB.out)) hb); have n1_ := Aside0.mk (hbox); have n2_ := Aside0.mk ((by rw [hg]; exact (below_size (by repeat (first | (with_reducible first | exact HB.out | apply below_alloc | apply pw_below_drewN | apply below_drew1) | exact HB.out))) : w.heap.size ≤ gb143)); have n3_ := Aside0.mk ((by rw [hg]; exact (below_size (by repeat (first | (with_reducible first | exact HB.out | apply below_alloc | apply pw_below_drewN | apply below_drew1) | exact HB.out))) : w.heap.size ≤ gb143)); clear HB; have HB := n0_; have BK143 := n1_; have GW143 := n2_; have GE143 := n3_; clear n0_ n1_ n2_ n3_; clear hb hbox hg; have hcz49_0 : w48.cell? ⟨gb143, 0, none⟩ = some (.string a0_0) := (blk_cell BK143.out 0).trans rfl; have hcz49_1 : w48.cell? ⟨gb143, 1, none⟩ = some (.string a0_1) := (blk_cell BK143.out 1).trans rfl; have hcz49_2 : w48.cell? ⟨gb143, 2, none⟩ = some (.string a0_2) := (blk_cell BK143.out 2).trans rfl; have hfz49_0 := blk_frozen BK143.out 0; have hfz49_1 := blk_frozen BK143.out 1; have hfz49_2 := blk_frozen BK143.out 2) | ((with_reducible refine gate_callee (f := 13) rfl ?_); refine goesL_ (some 12) rfl rfl Try.func13 (by kernel_rfl) rfl #[.string a0_0, .string a1] rfl (by (try simp only [List.map_toArray, List.map_cons, List.map_nil]); first | done | rfl | (simp only [List.length_drop, List.length_take]; rfl)) ?_; (with_reducible refine (tollbarref11_Fits.calls k a0_0 a1 false _ A3.out).mono ?_); rintro e w' ⟨rfl, ⟨nd, rfl⟩⟩; refine ⟨_, rfl, ?_⟩))
    go_ret2
    exact ⟨by first | rfl | (simp [errW_none, errW_some] <;> rfl) | (simp [*, errW_none, errW_some] <;> rfl), by repeat (first | (with_reducible first | exact HB.out | apply below_alloc | apply pw_below_drewN | apply below_drew1 | refine below_set ?_ GE143.out) | exact HB.out)⟩

end Go.Proofs.Yticcigdibkajaaa.PAll
