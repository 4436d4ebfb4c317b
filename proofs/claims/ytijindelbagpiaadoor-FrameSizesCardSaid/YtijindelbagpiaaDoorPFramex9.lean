-- Written by this session's program xprint.py over the kit's print, with contracts given by hand. Not trusted: Lean checks it.
import Derived.Test.YtijindelbagpiaaDoorPFramex0
import Derived.Test.YtijindelbagpiaaDoorPFramex3
namespace Go.Proofs.YtijindelbagpiaaDoor.PFrame
open Go.RowKit Go.Proofs.YtijindelbagpiaaDoorW.PrintWords Go.Proofs.YtijindelbagpiaaDoorW.PrintLast Go.Proofs.YtijindelbagpiaaDoorW.PrintMore
attribute [local go_sem] max2_int min2_int max_two min_two max_three min_three max_four min_four   -- for this text's walks alone
set_option linter.unusedVariables false
set_option linter.unusedSimpArgs false

/-! ### tollbarlaw07_FrameSizes: function 14 -/
mutual
def tollbarlaw07_FrameSizes.l0 : Nat → Int → Int → Int → Bool → ByteArray → Int → Option (Bool)
  | 0, _, _, _, _, _, _ => none
  | k + 1, x0, x1, x2, x3, x9, x10 => if x9.toList = ([] : List UInt8) then ((some (([(wrap64 (48 + (Int.tmod x10 10))) % 256] : List Int) : List Int)).bind fun y320 => (if (strOfNums y320).size + x9.size ≤ 9223372036854775807 then (tollbarlaw07_FrameSizes.l0 k x0 x1 x2 x3 ((strOfNums y320) ++ x9) (wrap64 (Int.tdiv x10 10))) else (none))) else (if x10 > 0 then ((some (([(wrap64 (48 + (Int.tmod x10 10))) % 256] : List Int) : List Int)).bind fun y323 => (if (strOfNums y323).size + x9.size ≤ 9223372036854775807 then (tollbarlaw07_FrameSizes.l0 k x0 x1 x2 x3 ((strOfNums y323) ++ x9) (wrap64 (Int.tdiv x10 10))) else (none))) else (tollbarlaw07_FrameSizes.l1 k x0 x1 x2 x3 x9 0))
def tollbarlaw07_FrameSizes.l1 : Nat → Int → Int → Int → Bool → ByteArray → Int → Option (Bool)
  | 0, _, _, _, _, _, _ => none
  | k + 1, x0, x1, x2, x3, x9, x11 => if x11 < (Go.bits .and .i64 x2 7) then (if 1 + x9.size ≤ 9223372036854775807 then (tollbarlaw07_FrameSizes.l1 k x0 x1 x2 x3 ((⟨#[48]⟩ : ByteArray) ++ x9) (wrap64 (x11 + 1))) else (none)) else (tollbarlaw07_FrameSizes.l2 k x0 x1 x3 x9 (([] : List (S24))) (⟨#[]⟩ : ByteArray) 0)
def tollbarlaw07_FrameSizes.l2 : Nat → Int → Int → Bool → ByteArray → List (S24) → ByteArray → Int → Option (Bool)
  | 0, _, _, _, _, _, _, _ => none
  | k + 1, x0, x1, x3, x9, x12, x13, x14 => if x14 < x1 then (if x3 = true then (if x12.length < 4398046511104 then (tollbarlaw07_FrameSizes.l2 k x0 x1 x3 x9 (x12 ++ [(⟨(⟨#[99, 111, 110, 116, 101, 110, 116, 45, 76, 69, 78, 71, 84, 72]⟩ : ByteArray), x9⟩ : S24)]) x13 (wrap64 (x14 + 1))) else (none)) else (if x13.size + 3 ≤ 9223372036854775807 then (if (x13 ++ (⟨#[32, 44, 32]⟩ : ByteArray)).size + x9.size ≤ 9223372036854775807 then (tollbarlaw07_FrameSizes.l2 k x0 x1 x3 x9 x12 ((x13 ++ (⟨#[32, 44, 32]⟩ : ByteArray)) ++ x9) (wrap64 (x14 + 1))) else (none)) else (none))) else (if x3 = true then (tollbarlaw07_FrameSizes.j3 k x0 x12) else ((tollbarlaw07_of.f (⟨#[67, 111, 110, 116, 101, 110, 116, 45, 76, 101, 110, 103, 116, 104]⟩ : ByteArray) x13).bind fun t332 => (tollbarlaw07_FrameSizes.j3 k x0 t332)))
def tollbarlaw07_FrameSizes.j3 : Nat → Int → List (S24) → Option (Bool)
  | 0, _, _ => none
  | k + 1, x0, x12 => (frame_Request.f k x12 1).bind fun bt335 => ((frame_Response.f k (⟨#[71, 69, 84]⟩ : ByteArray) 200 (⟨#[]⟩ : ByteArray) 1 x12 ([] : List Int)).bind fun bt338 => (if x0 > 4096 then (if bt335.1 = 0 then (if bt335.2.1 = true then (none) else (if bt335.2.2 = 413 then (some (!bt338.2.2)) else (none))) else (none)) else (if bt335.1 = x0 then (if bt335.2.1 = true then (none) else (if bt335.2.2 = 0 then (if bt338.1 = 1 then (if bt338.2.1 = x0 then (some bt338.2.2) else (none)) else (none)) else (none))) else (none))))
end
def tollbarlaw07_FrameSizes.f (k : Nat) (a0 : Int) (a1 : Int) (a2 : Int) (a3 : Bool) : Option (Bool) := (tollbarlaw07_alive.f k).bind fun t319 => (if t319 = true then (tollbarlaw07_FrameSizes.l0 k (Go.bits .and .i64 a0 8191) (wrap64 (1 + (Go.bits .and .i64 a1 7))) a2 a3 (⟨#[]⟩ : ByteArray) (Go.bits .and .i64 a0 8191)) else (none))
theorem tollbarlaw07_FrameSizes.mono_l : ∀ k, (∀ y0 y1 y2 y3 y4 y5, LeO (tollbarlaw07_FrameSizes.l0 k y0 y1 y2 y3 y4 y5) (tollbarlaw07_FrameSizes.l0 (k + 1) y0 y1 y2 y3 y4 y5)) ∧ (∀ y0 y1 y2 y3 y4 y5, LeO (tollbarlaw07_FrameSizes.l1 k y0 y1 y2 y3 y4 y5) (tollbarlaw07_FrameSizes.l1 (k + 1) y0 y1 y2 y3 y4 y5)) ∧ (∀ y0 y1 y2 y3 y4 y5 y6, LeO (tollbarlaw07_FrameSizes.l2 k y0 y1 y2 y3 y4 y5 y6) (tollbarlaw07_FrameSizes.l2 (k + 1) y0 y1 y2 y3 y4 y5 y6)) ∧ (∀ y0 y1, LeO (tollbarlaw07_FrameSizes.j3 k y0 y1) (tollbarlaw07_FrameSizes.j3 (k + 1) y0 y1))
  | 0 => ⟨fun _ _ _ _ _ _ r h => by simp [tollbarlaw07_FrameSizes.l0] at h, fun _ _ _ _ _ _ r h => by simp [tollbarlaw07_FrameSizes.l1] at h, fun _ _ _ _ _ _ _ r h => by simp [tollbarlaw07_FrameSizes.l2] at h, fun _ _ r h => by simp [tollbarlaw07_FrameSizes.j3] at h⟩
  | k + 1 => by
    obtain ⟨ih0, ih1, ih2, ih3⟩ := tollbarlaw07_FrameSizes.mono_l k
    refine ⟨?_, ?_, ?_, ?_⟩
    · intro y0 y1 y2 y3 y4 y5
      unfold tollbarlaw07_FrameSizes.l0
      repeat' first
      | (with_reducible exact ih0 _ _ _ _ _ _)
      | (with_reducible exact ih1 _ _ _ _ _ _)
      | (with_reducible exact ih2 _ _ _ _ _ _ _)
      | (with_reducible exact ih3 _ _)
      | (with_reducible exact frame_Request.mono _ _ _)
      | (with_reducible exact frame_Response.mono _ _ _ _ _ _ _)
      | (with_reducible exact tollbarlaw07_alive.mono _)
      | (with_reducible exact LeO.refl _)
      | (with_reducible exact LeO.none _)
      | (with_reducible refine LeO.ite ?_ ?_)
      | (with_reducible refine LeO.bind ?_ (fun _ => ?_))
      | exact ih0 _ _ _ _ _ _
      | exact ih1 _ _ _ _ _ _
      | exact ih2 _ _ _ _ _ _ _
      | exact ih3 _ _
      | exact frame_Request.mono _ _ _
      | exact frame_Response.mono _ _ _ _ _ _ _
      | exact tollbarlaw07_alive.mono _
      | exact LeO.none _
      | refine LeO.ite ?_ ?_
      | refine LeO.bind ?_ (fun _ => ?_)
    · intro y0 y1 y2 y3 y4 y5
      unfold tollbarlaw07_FrameSizes.l1
      repeat' first
      | (with_reducible exact ih0 _ _ _ _ _ _)
      | (with_reducible exact ih1 _ _ _ _ _ _)
      | (with_reducible exact ih2 _ _ _ _ _ _ _)
      | (with_reducible exact ih3 _ _)
      | (with_reducible exact frame_Request.mono _ _ _)
      | (with_reducible exact frame_Response.mono _ _ _ _ _ _ _)
      | (with_reducible exact tollbarlaw07_alive.mono _)
      | (with_reducible exact LeO.refl _)
      | (with_reducible exact LeO.none _)
      | (with_reducible refine LeO.ite ?_ ?_)
      | (with_reducible refine LeO.bind ?_ (fun _ => ?_))
      | exact ih0 _ _ _ _ _ _
      | exact ih1 _ _ _ _ _ _
      | exact ih2 _ _ _ _ _ _ _
      | exact ih3 _ _
      | exact frame_Request.mono _ _ _
      | exact frame_Response.mono _ _ _ _ _ _ _
      | exact tollbarlaw07_alive.mono _
      | exact LeO.none _
      | refine LeO.ite ?_ ?_
      | refine LeO.bind ?_ (fun _ => ?_)
    · intro y0 y1 y2 y3 y4 y5 y6
      unfold tollbarlaw07_FrameSizes.l2
      repeat' first
      | (with_reducible exact ih0 _ _ _ _ _ _)
      | (with_reducible exact ih1 _ _ _ _ _ _)
      | (with_reducible exact ih2 _ _ _ _ _ _ _)
      | (with_reducible exact ih3 _ _)
      | (with_reducible exact frame_Request.mono _ _ _)
      | (with_reducible exact frame_Response.mono _ _ _ _ _ _ _)
      | (with_reducible exact tollbarlaw07_alive.mono _)
      | (with_reducible exact LeO.refl _)
      | (with_reducible exact LeO.none _)
      | (with_reducible refine LeO.ite ?_ ?_)
      | (with_reducible refine LeO.bind ?_ (fun _ => ?_))
      | exact ih0 _ _ _ _ _ _
      | exact ih1 _ _ _ _ _ _
      | exact ih2 _ _ _ _ _ _ _
      | exact ih3 _ _
      | exact frame_Request.mono _ _ _
      | exact frame_Response.mono _ _ _ _ _ _ _
      | exact tollbarlaw07_alive.mono _
      | exact LeO.none _
      | refine LeO.ite ?_ ?_
      | refine LeO.bind ?_ (fun _ => ?_)
    · intro y0 y1
      unfold tollbarlaw07_FrameSizes.j3
      repeat' first
      | (with_reducible exact ih0 _ _ _ _ _ _)
      | (with_reducible exact ih1 _ _ _ _ _ _)
      | (with_reducible exact ih2 _ _ _ _ _ _ _)
      | (with_reducible exact ih3 _ _)
      | (with_reducible exact frame_Request.mono _ _ _)
      | (with_reducible exact frame_Response.mono _ _ _ _ _ _ _)
      | (with_reducible exact tollbarlaw07_alive.mono _)
      | (with_reducible exact LeO.refl _)
      | (with_reducible exact LeO.none _)
      | (with_reducible refine LeO.ite ?_ ?_)
      | (with_reducible refine LeO.bind ?_ (fun _ => ?_))
      | exact ih0 _ _ _ _ _ _
      | exact ih1 _ _ _ _ _ _
      | exact ih2 _ _ _ _ _ _ _
      | exact ih3 _ _
      | exact frame_Request.mono _ _ _
      | exact frame_Response.mono _ _ _ _ _ _ _
      | exact tollbarlaw07_alive.mono _
      | exact LeO.none _
      | refine LeO.ite ?_ ?_
      | refine LeO.bind ?_ (fun _ => ?_)
theorem tollbarlaw07_FrameSizes.mono : ∀ a0 a1 a2 a3 k, LeO (tollbarlaw07_FrameSizes.f k a0 a1 a2 a3) (tollbarlaw07_FrameSizes.f (k + 1) a0 a1 a2 a3) := by
  intro a0 a1 a2 a3 k
  obtain ⟨ih0, ih1, ih2, ih3⟩ := tollbarlaw07_FrameSizes.mono_l k
  unfold tollbarlaw07_FrameSizes.f
  repeat' first
      | (with_reducible exact ih0 _ _ _ _ _ _)
      | (with_reducible exact ih1 _ _ _ _ _ _)
      | (with_reducible exact ih2 _ _ _ _ _ _ _)
      | (with_reducible exact ih3 _ _)
      | (with_reducible exact frame_Request.mono _ _ _)
      | (with_reducible exact frame_Response.mono _ _ _ _ _ _ _)
      | (with_reducible exact tollbarlaw07_alive.mono _)
      | (with_reducible exact LeO.refl _)
      | (with_reducible exact LeO.none _)
      | (with_reducible refine LeO.ite ?_ ?_)
      | (with_reducible refine LeO.bind ?_ (fun _ => ?_))
      | exact ih0 _ _ _ _ _ _
      | exact ih1 _ _ _ _ _ _
      | exact ih2 _ _ _ _ _ _ _
      | exact ih3 _ _
      | exact frame_Request.mono _ _ _
      | exact frame_Response.mono _ _ _ _ _ _ _
      | exact tollbarlaw07_alive.mono _
      | exact LeO.none _
      | refine LeO.ite ?_ ?_
      | refine LeO.bind ?_ (fun _ => ?_)
set_option maxHeartbeats 8000000 in
set_option maxRecDepth 100000 in
theorem tollbarlaw07_FrameSizes.calls (k : Nat) (a0 : Int) (a1 : Int) (a2 : Int) (a3 : Bool) (r : Bool) (w : World) (h : tollbarlaw07_FrameSizes.f k a0 a1 a2 a3 = some r) :
    Calls Tryd.prog 14 #[.int .i64 a0, .int .i64 a1, .int .i64 a2, .bool a3] w fun e w' => e = .returned (.bool r) ∧ Below w.heap.size w w' := by
  have hu24 := Tryd.underlying24
  have hu53 := Tryd.underlying53
  have HB := Aside0.mk (Below.refl w.heap.size w)
  have H : ((tollbarlaw07_alive.f k).bind fun t319 => (if t319 = true then (tollbarlaw07_FrameSizes.l0 k (Go.bits .and .i64 a0 8191) (wrap64 (1 + (Go.bits .and .i64 a1 7))) a2 a3 (⟨#[]⟩ : ByteArray) (Go.bits .and .i64 a0 8191)) else (none))) = some r := h
  clear h
  replace H := Option.bind_eq_some_iff.mp H
  obtain ⟨t319, A50, H⟩ := H
  replace H : (if t319 = true then (tollbarlaw07_FrameSizes.l0 k (Go.bits .and .i64 a0 8191) (wrap64 (1 + (Go.bits .and .i64 a1 7))) a2 a3 (⟨#[]⟩ : ByteArray) (Go.bits .and .i64 a0 8191)) else (none)) = some r := H
  have A5 := Aside0.mk A50
  clear A50
  by_cases c6 : t319 = true
  · subst c6
    have H1 : (tollbarlaw07_FrameSizes.l0 k (Go.bits .and .i64 a0 8191) (wrap64 (1 + (Go.bits .and .i64 a1 7))) a2 a3 (⟨#[]⟩ : ByteArray) (Go.bits .and .i64 a0 8191)) = some r := by rw [if_pos rfl] at H; exact H
    clear H
    have H := H1
    clear H1
    have H' := Aside0.mk H
    clear H
    go_enter Tryd.func14, Tryd.ntmps14
    go_wp2_with (first | ((with_reducible refine gate_callee (f := 34) rfl ?_); refine goesL_ (some 21) rfl rfl Tryd.func34 (by kernel_rfl) rfl #[] rfl (by (try simp only [List.map_toArray, List.map_cons, List.map_nil]); first | done | rfl | (simp only [List.length_drop, List.length_take]; rfl)) ?_; (with_reducible refine (tollbarlaw07_alive.calls k  true _ A5.out).mono ?_); rintro e w7 ⟨rfl, hb⟩; refine ⟨_, rfl, ?_⟩; have n0_ := Aside0.mk (below_step (by repeat (first | (with_reducible first | exact HB.out | apply below_alloc | apply pw_below_drewN | apply below_drew1) | exact HB.out)) hb); clear HB; have HB := n0_; clear n0_; (try clear hb); (try clear hb2); (try clear hk); (try clear hi)))
    go_loopg [9, 10] k (fun kq v9 v10 w' => ∃ (x9_1 : ByteArray) (x10_1 : Int), v9 = .string x9_1 ∧ v10 = .int .i64 x10_1 ∧ Aside0 (tollbarlaw07_FrameSizes.l0 kq (Go.bits .and .i64 a0 8191) (wrap64 (1 + (Go.bits .and .i64 a1 7))) a2 a3 x9_1 x10_1 = some r) ∧ Aside0 (kq ≤ k) ∧ Aside0 (Below w.heap.size w w'))
    case atStart => exact ⟨((⟨#[]⟩ : ByteArray)), (Go.bits .and .i64 a0 8191), (by first | rfl | (simp; done) | (simp [*]; done)), (by first | rfl | (simp; done) | (simp [*]; done)), H', ⟨Nat.le_refl _⟩, ⟨by repeat (first | (with_reducible first | exact HB.out | apply below_alloc | apply pw_below_drewN | apply below_drew1) | exact HB.out)⟩⟩
    case round =>
      clear H'
      try clear c1
      try clear p2
      try clear c3
      try clear c6
      try clear p6
      obtain ⟨x9_1, x10_1, rfl, rfl, HA, HK1, HB⟩ := hrel
      cases gk with
      | zero => exact absurd HA.out (by simp [tollbarlaw07_FrameSizes.l0])
      | succ k1 =>
        have H := HA.out
        clear HA
        simp only [tollbarlaw07_FrameSizes.l0] at H
        by_cases c8 : x9_1.toList = ([] : List UInt8)
        · rw [if_pos c8] at H
          have c8b0 : (x9_1.toList == ([] : List UInt8)) = true := beq_iff_eq.mpr c8
          have c8b1 : (x9_1.toList != ([] : List UInt8)) = false := bne_eq_false_iff_eq.mpr c8
          clear c8
          obtain ⟨y320, hy320⟩ : ∃ y_ : List Int, y_ = (([(wrap64 (48 + (Int.tmod x10_1 10))) % 256] : List Int)) := ⟨_, rfl⟩
          replace H : (if (strOfNums y320).size + x9_1.size ≤ 9223372036854775807 then (tollbarlaw07_FrameSizes.l0 k1 (Go.bits .and .i64 a0 8191) (wrap64 (1 + (Go.bits .and .i64 a1 7))) a2 a3 ((strOfNums y320) ++ x9_1) (wrap64 (Int.tdiv x10_1 10))) else (none)) = some r := by first | (rw [hy320]; with_reducible exact H) | (have H2_ := (Option.bind_some _ _).symm.trans H; rw [hy320]; with_reducible exact H2_) | (have H2_ := (Option.bind_some _ _).symm.trans H; with_reducible exact H2_) | with_reducible exact H | (rw [hy320]; exact H) | exact H
          have Ny320 := Aside0.mk hy320
          clear hy320
          by_cases c9 : (strOfNums y320).size + x9_1.size ≤ 9223372036854775807
          · rw [if_pos c9] at H
            have c9b0 := eq_true c9
            try (have c9z_ := c9; simp only [xsz_app, xsz_rest, xsz_mk, List.length_cons, List.length_nil, Nat.zero_add, Int.natCast_add] at c9z_)
            have c9b1 : decide ((strOfNums y320).size + x9_1.size ≤ 9223372036854775807) = true := decide_eq_true c9
            try have c9b2 : (9223372036854775807 < (strOfNums y320).size + x9_1.size) = False := eq_false (Nat.not_lt.2 c9)
            have H' := Aside0.mk H
            clear H
            go_wp2_with (first | ((with_reducible refine gate_dst (N := 41) rfl ?_); refine Kd.R_lit (Kd.int .u8) _ 5 ?hg (N := 41) ?hd (xs := ([(wrap64 (48 + (Int.tmod x10_1 10))) % 256] : List Int)) (inner := [.int .u8 ((wrap64 (48 + (Int.tmod x10_1 10))) % 256)]) (ok := fun _ => True) (okp := fun _ => True) ?hr ?hp (fun _ hk => hk) trivial (Below.refl _ _) (Nat.le_refl _) (by simp) ?_; (case hd => rfl); (case hg => rfl); (case hr => first | (go_simp; done) | (go_simp; rfl)); (case hp => exact (Reps.one (show Kd.M (Kd.int .u8) _ _ _ ((wrap64 (48 + (Int.tmod x10_1 10))) % 256) [.int .u8 ((wrap64 (48 + (Int.tmod x10_1 10))) % 256)] from rfl) (Reps.none _ _))); intro v321 w10 ho11 hb hg_ hnew_; clear hg_ hnew_; (first | rw [← Ny320.out] at ho11 | (simp only [Int.reduceToNat] at ho11; rw [← Ny320.out] at ho11)); have n0_ := Aside0.mk (Kd.R_lower ho11 (below_size (by repeat (first | (with_reducible first | exact HB.out | apply below_alloc | apply pw_below_drewN | apply below_drew1) | exact HB.out)))); have n1_ := Aside0.mk (below_step (by repeat (first | (with_reducible first | exact HB.out | apply below_alloc | apply pw_below_drewN | apply below_drew1) | exact HB.out)) hb); clear HB; have HO322 := n0_; have HB := n1_; clear n0_ n1_; clear hb ho11; have hcv12 := own_string (P := Tryd.prog) Tryd.underlying51 Tryd.underlying5 Tryd.underlying9 (Kd.own_of_R HO322.out)))
            go_roundg k1
            case measure => have := HK1.out; omega
            case rel => exact ⟨((strOfNums y320) ++ x9_1), (wrap64 (Int.tdiv x10_1 10)), (by first | rfl | (simp; done) | (simp [*]; done)), (by first | rfl | (simp; done) | (simp [*]; done)), H', ⟨by have := HK1.out; omega⟩, ⟨by repeat (first | (with_reducible first | exact HB.out | apply below_alloc | apply pw_below_drewN | apply below_drew1) | exact HB.out)⟩⟩
          · rw [if_neg c9] at H
            exact absurd H (by simp)
        · rw [if_neg c8] at H
          have c8b0 : (x9_1.toList == ([] : List UInt8)) = false := beq_eq_false_iff_ne.mpr c8
          have c8b1 : (x9_1.toList != ([] : List UInt8)) = true := bne_iff_ne.mpr c8
          by_cases c13 : x10_1 > 0
          · rw [if_pos c13] at H
            have c13b0 : decide (0 < x10_1) = true := decide_eq_true c13
            clear c13
            obtain ⟨y323, hy323⟩ : ∃ y_ : List Int, y_ = (([(wrap64 (48 + (Int.tmod x10_1 10))) % 256] : List Int)) := ⟨_, rfl⟩
            replace H : (if (strOfNums y323).size + x9_1.size ≤ 9223372036854775807 then (tollbarlaw07_FrameSizes.l0 k1 (Go.bits .and .i64 a0 8191) (wrap64 (1 + (Go.bits .and .i64 a1 7))) a2 a3 ((strOfNums y323) ++ x9_1) (wrap64 (Int.tdiv x10_1 10))) else (none)) = some r := by first | (rw [hy323]; with_reducible exact H) | (have H2_ := (Option.bind_some _ _).symm.trans H; rw [hy323]; with_reducible exact H2_) | (have H2_ := (Option.bind_some _ _).symm.trans H; with_reducible exact H2_) | with_reducible exact H | (rw [hy323]; exact H) | exact H
            have Ny323 := Aside0.mk hy323
            clear hy323
            by_cases c14 : (strOfNums y323).size + x9_1.size ≤ 9223372036854775807
            · rw [if_pos c14] at H
              have c14b0 := eq_true c14
              try (have c14z_ := c14; simp only [xsz_app, xsz_rest, xsz_mk, List.length_cons, List.length_nil, Nat.zero_add, Int.natCast_add] at c14z_)
              have c14b1 : decide ((strOfNums y323).size + x9_1.size ≤ 9223372036854775807) = true := decide_eq_true c14
              try have c14b2 : (9223372036854775807 < (strOfNums y323).size + x9_1.size) = False := eq_false (Nat.not_lt.2 c14)
              have H' := Aside0.mk H
              clear H
              go_wp2_with (first | ((with_reducible refine gate_dst (N := 41) rfl ?_); refine Kd.R_lit (Kd.int .u8) _ 5 ?hg (N := 41) ?hd (xs := ([(wrap64 (48 + (Int.tmod x10_1 10))) % 256] : List Int)) (inner := [.int .u8 ((wrap64 (48 + (Int.tmod x10_1 10))) % 256)]) (ok := fun _ => True) (okp := fun _ => True) ?hr ?hp (fun _ hk => hk) trivial (Below.refl _ _) (Nat.le_refl _) (by simp) ?_; (case hd => rfl); (case hg => rfl); (case hr => first | (go_simp; done) | (go_simp; rfl)); (case hp => exact (Reps.one (show Kd.M (Kd.int .u8) _ _ _ ((wrap64 (48 + (Int.tmod x10_1 10))) % 256) [.int .u8 ((wrap64 (48 + (Int.tmod x10_1 10))) % 256)] from rfl) (Reps.none _ _))); intro v324 w15 ho16 hb hg_ hnew_; clear hg_ hnew_; (first | rw [← Ny323.out] at ho16 | (simp only [Int.reduceToNat] at ho16; rw [← Ny323.out] at ho16)); have n0_ := Aside0.mk (Kd.R_lower ho16 (below_size (by repeat (first | (with_reducible first | exact HB.out | apply below_alloc | apply pw_below_drewN | apply below_drew1) | exact HB.out)))); have n1_ := Aside0.mk (below_step (by repeat (first | (with_reducible first | exact HB.out | apply below_alloc | apply pw_below_drewN | apply below_drew1) | exact HB.out)) hb); clear HB; have HO325 := n0_; have HB := n1_; clear n0_ n1_; clear hb ho16; have hcv17 := own_string (P := Tryd.prog) Tryd.underlying51 Tryd.underlying5 Tryd.underlying9 (Kd.own_of_R HO325.out)))
              go_roundg k1
              case measure => have := HK1.out; omega
              case rel => exact ⟨((strOfNums y323) ++ x9_1), (wrap64 (Int.tdiv x10_1 10)), (by first | rfl | (simp; done) | (simp [*]; done)), (by first | rfl | (simp; done) | (simp [*]; done)), H', ⟨by have := HK1.out; omega⟩, ⟨by repeat (first | (with_reducible first | exact HB.out | apply below_alloc | apply pw_below_drewN | apply below_drew1) | exact HB.out)⟩⟩
            · rw [if_neg c14] at H
              exact absurd H (by simp)
          · rw [if_neg c13] at H
            have c13b0 : decide (0 < x10_1) = false := decide_eq_false c13
            clear c13
            have H' := Aside0.mk H
            clear H
            go_wp2
            go_loopg [9, 11] k1 (fun kq v9 v11 w' => ∃ (x9_2 : ByteArray) (x11_2 : Int), v9 = .string x9_2 ∧ v11 = .int .i64 x11_2 ∧ Aside0 (tollbarlaw07_FrameSizes.l1 kq (Go.bits .and .i64 a0 8191) (wrap64 (1 + (Go.bits .and .i64 a1 7))) a2 a3 x9_2 x11_2 = some r) ∧ Aside0 (kq ≤ k1) ∧ Aside0 (Below w.heap.size w w'))
            case atStart => exact ⟨(x9_1), (0), (by first | rfl | (simp; done) | (simp [*]; done)), (by first | rfl | (simp; done) | (simp [*]; done)), H', ⟨Nat.le_refl _⟩, ⟨by repeat (first | (with_reducible first | exact HB.out | apply below_alloc | apply pw_below_drewN | apply below_drew1) | exact HB.out)⟩⟩
            case round =>
              clear H'
              try clear c1
              try clear hcv1
              try clear p2
              try clear c3
              try clear c6
              try clear p6
              try clear c8
              try clear c8b0
              try clear c8b1
              try clear c9
              try clear c9b0
              try clear c9b1
              try clear c9b2
              try clear hcv12
              try clear c13
              try clear c13b0
              try clear c14
              try clear c14b0
              try clear c14b1
              try clear c14b2
              try clear hcv17
              try clear p2
              try clear p6
              obtain ⟨x9_2, x11_2, rfl, rfl, HA, HK2, HB⟩ := hrel
              cases gk with
              | zero => exact absurd HA.out (by simp [tollbarlaw07_FrameSizes.l1])
              | succ k2 =>
                have H := HA.out
                clear HA
                simp only [tollbarlaw07_FrameSizes.l1] at H
                by_cases c18 : x11_2 < (Go.bits .and .i64 a2 7)
                · rw [if_pos c18] at H
                  have c18b0 : decide (x11_2 < (Go.bits .and .i64 a2 7)) = true := decide_eq_true c18
                  clear c18
                  by_cases c19 : 1 + x9_2.size ≤ 9223372036854775807
                  · rw [if_pos c19] at H
                    have c19b0 := eq_true c19
                    try (have c19z_ := c19; simp only [xsz_app, xsz_rest, xsz_mk, List.length_cons, List.length_nil, Nat.zero_add, Int.natCast_add] at c19z_)
                    have c19b1 : decide (1 + x9_2.size ≤ 9223372036854775807) = true := decide_eq_true c19
                    try have c19b2 : (9223372036854775807 < 1 + x9_2.size) = False := eq_false (Nat.not_lt.2 c19)
                    have H' := Aside0.mk H
                    clear H
                    go_wp2
                    go_roundg k2
                    case measure => have := HK1.out; have := HK2.out; omega
                    case rel => exact ⟨((⟨#[48]⟩ : ByteArray) ++ x9_2), (wrap64 (x11_2 + 1)), (by first | rfl | (simp; done) | (simp [*]; done)), (by first | rfl | (simp; done) | (simp [*]; done)), H', ⟨by have := HK1.out; have := HK2.out; omega⟩, ⟨by repeat (first | (with_reducible first | exact HB.out | apply below_alloc | apply pw_below_drewN | apply below_drew1) | exact HB.out)⟩⟩
                  · rw [if_neg c19] at H
                    exact absurd H (by simp)
                · rw [if_neg c18] at H
                  have c18b0 : decide (x11_2 < (Go.bits .and .i64 a2 7)) = false := decide_eq_false c18
                  clear c18
                  obtain ⟨y326, hy326⟩ : ∃ y_ : List (S24), y_ = (([] : List (S24))) := ⟨_, rfl⟩
                  replace H : (tollbarlaw07_FrameSizes.l2 k2 (Go.bits .and .i64 a0 8191) (wrap64 (1 + (Go.bits .and .i64 a1 7))) a3 x9_2 y326 (⟨#[]⟩ : ByteArray) 0) = some r := by first | (rw [hy326]; with_reducible exact H) | (have H2_ := (Option.bind_some _ _).symm.trans H; rw [hy326]; with_reducible exact H2_) | (have H2_ := (Option.bind_some _ _).symm.trans H; with_reducible exact H2_) | with_reducible exact H | (rw [hy326]; exact H) | exact H
                  have Ny326 := Aside0.mk hy326
                  clear hy326
                  have H' := Aside0.mk H
                  clear H
                  go_wp2_with (first | ((with_reducible refine gate_dst (N := 53) rfl ?_); refine Kd.R_lit k24 _ 24 ?hg (N := 53) ?hd (xs := ([] : List (S24))) (inner := []) (ok := fun _ => True) (okp := fun _ => True) ?hr ?hp (fun _ hk => hk) trivial (Below.refl _ _) (Nat.le_refl _) (by simp) ?_; (case hd => rfl); (case hg => rfl); (case hr => first | (go_simp; done) | (go_simp; rfl)); (case hp => exact (Reps.none _ _)); intro v327 w20 ho21 hb hg_ hnew_; clear hg_ hnew_; (first | rw [← Ny326.out] at ho21 | (simp only [Int.reduceToNat] at ho21; rw [← Ny326.out] at ho21)); have n0_ := Aside0.mk (Kd.R_lower ho21 (below_size (by repeat (first | (with_reducible first | exact HB.out | apply below_alloc | apply pw_below_drewN | apply below_drew1) | exact HB.out)))); have n1_ := Aside0.mk (below_step (by repeat (first | (with_reducible first | exact HB.out | apply below_alloc | apply pw_below_drewN | apply below_drew1) | exact HB.out)) hb); clear HB; have HO328 := n0_; have HB := n1_; clear n0_ n1_; clear hb ho21))
                  go_loopg [12, 13, 14] k2 (fun kq v12 v13 v14 w' => ∃ (x12_3 : List (S24)) (x13_3 : ByteArray) (x14_3 : Int), v13 = .string x13_3 ∧ v14 = .int .i64 x14_3 ∧ Aside0 (tollbarlaw07_FrameSizes.l2 kq (Go.bits .and .i64 a0 8191) (wrap64 (1 + (Go.bits .and .i64 a1 7))) a3 x9_2 x12_3 x13_3 x14_3 = some r) ∧ Aside0 (kq ≤ k2) ∧ Aside0 (Kd.R k24 24 w' w.heap.size (fun _ => True) v12 x12_3) ∧ Aside0 (Below w.heap.size w w'))
                  case atStart => exact ⟨(y326), ((⟨#[]⟩ : ByteArray)), (0), (by first | rfl | (simp; done) | (simp [*]; done)), (by first | rfl | (simp; done) | (simp [*]; done)), H', ⟨Nat.le_refl _⟩, ⟨by (with_reducible repeat (first | apply Kd.R_alloc | apply Kd.R_drewN | apply Kd.R_drew)); exact HO328.out⟩, ⟨by repeat (first | (with_reducible first | exact HB.out | apply below_alloc | apply pw_below_drewN | apply below_drew1) | exact HB.out)⟩⟩
                  case round =>
                    clear H'
                    try clear c1
                    try clear hcv1
                    try clear p2
                    try clear c3
                    try clear c6
                    try clear p6
                    try clear c8
                    try clear c8b0
                    try clear c8b1
                    try clear c9
                    try clear c9b0
                    try clear c9b1
                    try clear c9b2
                    try clear hcv12
                    try clear c13
                    try clear c13b0
                    try clear c14
                    try clear c14b0
                    try clear c14b1
                    try clear c14b2
                    try clear hcv17
                    try clear c18
                    try clear c18b0
                    try clear c19
                    try clear c19b0
                    try clear c19b1
                    try clear c19b2
                    try clear p2
                    try clear p6
                    obtain ⟨x12_3, x13_3, x14_3, rfl, rfl, HA, HK3, HO_12, HB⟩ := hrel
                    cases gk with
                    | zero => exact absurd HA.out (by simp [tollbarlaw07_FrameSizes.l2])
                    | succ k3 =>
                      have H := HA.out
                      clear HA
                      simp only [tollbarlaw07_FrameSizes.l2] at H
                      by_cases c22 : x14_3 < (wrap64 (1 + (Go.bits .and .i64 a1 7)))
                      · rw [if_pos c22] at H
                        have c22b0 : decide (x14_3 < (wrap64 (1 + (Go.bits .and .i64 a1 7)))) = true := decide_eq_true c22
                        clear c22
                        by_cases c23 : a3 = true
                        · subst c23
                          have H1 : (if x12_3.length < 4398046511104 then (tollbarlaw07_FrameSizes.l2 k3 (Go.bits .and .i64 a0 8191) (wrap64 (1 + (Go.bits .and .i64 a1 7))) true x9_2 (x12_3 ++ [(⟨(⟨#[99, 111, 110, 116, 101, 110, 116, 45, 76, 69, 78, 71, 84, 72]⟩ : ByteArray), x9_2⟩ : S24)]) x13_3 (wrap64 (x14_3 + 1))) else (none)) = some r := by rw [if_pos rfl] at H; exact H
                          clear H
                          have H := H1
                          clear H1
                          by_cases c24 : x12_3.length < 4398046511104
                          · rw [if_pos c24] at H
                            have LMc24 := Aside0.mk c24
                            clear c24
                            obtain ⟨y329, hy329⟩ : ∃ y_ : List (S24), y_ = (x12_3 ++ [(⟨(⟨#[99, 111, 110, 116, 101, 110, 116, 45, 76, 69, 78, 71, 84, 72]⟩ : ByteArray), x9_2⟩ : S24)]) := ⟨_, rfl⟩
                            replace H : (tollbarlaw07_FrameSizes.l2 k3 (Go.bits .and .i64 a0 8191) (wrap64 (1 + (Go.bits .and .i64 a1 7))) true x9_2 y329 x13_3 (wrap64 (x14_3 + 1))) = some r := by first | (rw [hy329]; with_reducible exact H) | (have H2_ := (Option.bind_some _ _).symm.trans H; rw [hy329]; with_reducible exact H2_) | (have H2_ := (Option.bind_some _ _).symm.trans H; with_reducible exact H2_) | with_reducible exact H | (rw [hy329]; exact H) | exact H
                            have Ny329 := Aside0.mk hy329
                            clear hy329
                            have H' := Aside0.mk H
                            clear H
                            go_wp2_with (first | ((with_reducible refine gate_builtin (b := .append) (xs := #[.tmp 60, .tmp 63]) rfl ?_); at_builtin; refine Kd.R_append k24 (w0 := w) w.heap.size rfl (.tmp 60) (.tmp 63) 31 24 (.agg #[(.string ⟨#[]⟩), (.string ⟨#[]⟩)]) 32 rfl Tryd.underlying31 info24 rfl (by decide) (by omega) u12 x12_3 (⟨(⟨#[99, 111, 110, 116, 101, 110, 116, 45, 76, 69, 78, 71, 84, 72]⟩ : ByteArray), x9_2⟩ : S24) [.string (⟨#[99, 111, 110, 116, 101, 110, 116, 45, 76, 69, 78, 71, 84, 72]⟩ : ByteArray), .string x9_2] (fun _ => True) (fun _ => False) rfl rfl ?aP (fun _ hk => hk.elim) ?aF ?aO ?aB ?aS ?aL ?_; (case aP => exact k24_mkM _ _ _ (⟨(⟨#[99, 111, 110, 116, 101, 110, 116, 45, 76, 69, 78, 71, 84, 72]⟩ : ByteArray), x9_2⟩ : S24)); (case aB => exact (by repeat (first | (with_reducible first | exact HB.out | apply below_alloc | apply pw_below_drewN | apply below_drew1) | exact HB.out))); (case aF => exact (fun _ _ => trivial)); (case aO => exact (by (with_reducible repeat (first | apply Kd.R_alloc | apply Kd.R_drewN | apply Kd.R_drew)); exact HO_12.out)); (case aS => exact (below_size (by repeat (first | (with_reducible first | exact HB.out | apply below_alloc | apply pw_below_drewN | apply below_drew1) | exact HB.out)))); (case aL => have := LMc24.out; omega); intro v330 w25 ho hb hg hat; rw [← Ny329.out] at ho; have n0_ := Aside0.mk (hb); have n1_ := Aside0.mk (ho); clear HB; clear HO_12; have HB := n0_; have HO331 := n1_; clear n0_ n1_; clear ho hb hg hat))
                            go_roundg k3
                            case measure => have := HK1.out; have := HK2.out; have := HK3.out; omega
                            case rel => exact ⟨(y329), (x13_3), (wrap64 (x14_3 + 1)), (by first | rfl | (simp; done) | (simp [*]; done)), (by first | rfl | (simp; done) | (simp [*]; done)), H', ⟨by have := HK1.out; have := HK2.out; have := HK3.out; omega⟩, ⟨by (with_reducible repeat (first | apply Kd.R_alloc | apply Kd.R_drewN | apply Kd.R_drew)); exact HO331.out⟩, ⟨by repeat (first | (with_reducible first | exact HB.out | apply below_alloc | apply pw_below_drewN | apply below_drew1) | exact HB.out)⟩⟩
                          · rw [if_neg c24] at H
                            exact absurd H (by simp)
                        · replace c23 := Bool.eq_false_iff.mpr c23
                          subst c23
                          have H1 : (if x13_3.size + 3 ≤ 9223372036854775807 then (if (x13_3 ++ (⟨#[32, 44, 32]⟩ : ByteArray)).size + x9_2.size ≤ 9223372036854775807 then (tollbarlaw07_FrameSizes.l2 k3 (Go.bits .and .i64 a0 8191) (wrap64 (1 + (Go.bits .and .i64 a1 7))) false x9_2 x12_3 ((x13_3 ++ (⟨#[32, 44, 32]⟩ : ByteArray)) ++ x9_2) (wrap64 (x14_3 + 1))) else (none)) else (none)) = some r := by rw [if_neg (show ¬ (false = true) by decide)] at H; exact H
                          clear H
                          have H := H1
                          clear H1
                          by_cases c26 : x13_3.size + 3 ≤ 9223372036854775807
                          · rw [if_pos c26] at H
                            have c26b0 := eq_true c26
                            have c26b1 : decide (x13_3.size + 3 ≤ 9223372036854775807) = true := decide_eq_true c26
                            try have c26b2 : (9223372036854775807 < x13_3.size + 3) = False := eq_false (Nat.not_lt.2 c26)
                            by_cases c27 : (x13_3 ++ (⟨#[32, 44, 32]⟩ : ByteArray)).size + x9_2.size ≤ 9223372036854775807
                            · rw [if_pos c27] at H
                              have c27b0 := eq_true c27
                              have c27b1 : decide ((x13_3 ++ (⟨#[32, 44, 32]⟩ : ByteArray)).size + x9_2.size ≤ 9223372036854775807) = true := decide_eq_true c27
                              try have c27b2 : (9223372036854775807 < (x13_3 ++ (⟨#[32, 44, 32]⟩ : ByteArray)).size + x9_2.size) = False := eq_false (Nat.not_lt.2 c27)
                              have H' := Aside0.mk H
                              clear H
                              go_wp2
                              go_roundg k3
                              case measure => have := HK1.out; have := HK2.out; have := HK3.out; omega
                              case rel => exact ⟨(x12_3), ((x13_3 ++ (⟨#[32, 44, 32]⟩ : ByteArray)) ++ x9_2), (wrap64 (x14_3 + 1)), (by first | rfl | (simp; done) | (simp [*]; done)), (by first | rfl | (simp; done) | (simp [*]; done)), H', ⟨by have := HK1.out; have := HK2.out; have := HK3.out; omega⟩, ⟨by (with_reducible repeat (first | apply Kd.R_alloc | apply Kd.R_drewN | apply Kd.R_drew)); exact HO_12.out⟩, ⟨by repeat (first | (with_reducible first | exact HB.out | apply below_alloc | apply pw_below_drewN | apply below_drew1) | exact HB.out)⟩⟩
                            · rw [if_neg c27] at H
                              exact absurd H (by simp)
                          · rw [if_neg c26] at H
                            exact absurd H (by simp)
                      · rw [if_neg c22] at H
                        have c22b0 : decide (x14_3 < (wrap64 (1 + (Go.bits .and .i64 a1 7)))) = false := decide_eq_false c22
                        clear c22
                        have HC28 := Aside0.mk H
                        clear H
                        go_upto_if 70 with (fail)
                        go_cut [12] (fun v12 wc => ∃ (kq : Nat) (x12_27 : List (S24)), Aside0 (tollbarlaw07_FrameSizes.j3 kq (Go.bits .and .i64 a0 8191) x12_27 = some r) ∧ Aside0 (kq ≤ k3) ∧ Aside0 (Kd.R k24 24 wc w.heap.size (fun _ => True) v12 x12_27) ∧ Aside0 (Below w.heap.size w wc))
                        case first =>
                          have H := HC28.out
                          clear HC28
                          by_cases c29 : a3 = true
                          · subst c29
                            have H1 : (tollbarlaw07_FrameSizes.j3 k3 (Go.bits .and .i64 a0 8191) x12_3) = some r := by rw [if_pos rfl] at H; exact H
                            clear H
                            have H := H1
                            clear H1
                            have H' := Aside0.mk H
                            clear H
                            go_wp2
                            go_meet
                            case rel => exact ⟨_, (x12_3), H', ⟨by have := HK1.out; have := HK2.out; have := HK3.out; first | omega | exact Nat.le_refl _⟩, ⟨by (with_reducible repeat (first | apply Kd.R_alloc | apply Kd.R_drewN | apply Kd.R_drew)); exact HO_12.out⟩, ⟨by repeat (first | (with_reducible first | exact HB.out | apply below_alloc | apply pw_below_drewN | apply below_drew1) | exact HB.out)⟩⟩
                          · replace c29 := Bool.eq_false_iff.mpr c29
                            subst c29
                            have H1 : ((tollbarlaw07_of.f (⟨#[67, 111, 110, 116, 101, 110, 116, 45, 76, 101, 110, 103, 116, 104]⟩ : ByteArray) x13_3).bind fun t332 => (tollbarlaw07_FrameSizes.j3 k3 (Go.bits .and .i64 a0 8191) t332)) = some r := by rw [if_neg (show ¬ (false = true) by decide)] at H; exact H
                            clear H
                            have H := H1
                            clear H1
                            replace H := Option.bind_eq_some_iff.mp H
                            obtain ⟨t332, A300, H⟩ := H
                            replace H : (tollbarlaw07_FrameSizes.j3 k3 (Go.bits .and .i64 a0 8191) t332) = some r := H
                            have A30 := Aside0.mk A300
                            clear A300
                            have H' := Aside0.mk H
                            clear H
                            go_wp2_with (first | ((with_reducible refine gate_callee (f := 42) rfl ?_); refine goesL_ (some 72) rfl rfl Tryd.func42 (by kernel_rfl) rfl #[.string (⟨#[67, 111, 110, 116, 101, 110, 116, 45, 76, 101, 110, 103, 116, 104]⟩ : ByteArray), .string x13_3] rfl (by (try simp only [List.map_toArray, List.map_cons, List.map_nil]); first | done | rfl | (simp only [List.length_drop, List.length_take]; rfl)) ?_; (with_reducible refine (tollbarlaw07_of.calls (⟨#[67, 111, 110, 116, 101, 110, 116, 45, 76, 101, 110, 103, 116, 104]⟩ : ByteArray) x13_3 t332 _ A30.out).mono ?_); rintro e w31 ⟨v333, rfl, ho0, hb⟩; refine ⟨_, rfl, ?_⟩; have n0_ := Aside0.mk (Kd.R_elder' (by (with_reducible repeat (first | apply Kd.R_alloc | apply Kd.R_drewN | apply Kd.R_drew)); exact HO_12.out) (Kd.R_base ho0) hb); have n1_ := Aside0.mk (Kd.R_lower (Kd.R_new' ho0 (Kd.R_lt (by (with_reducible repeat (first | apply Kd.R_alloc | apply Kd.R_drewN | apply Kd.R_drew)); exact HO_12.out))) (below_size (by repeat (first | (with_reducible first | exact HB.out | apply below_alloc | apply pw_below_drewN | apply below_drew1) | exact HB.out)))); have n2_ := Aside0.mk (below_step (by repeat (first | (with_reducible first | exact HB.out | apply below_alloc | apply pw_below_drewN | apply below_drew1) | exact HB.out)) hb); clear HO_12; clear HB; have HO_12 := n0_; have HO334 := n1_; have HB := n2_; clear n0_ n1_ n2_; (try clear hb); (try clear hb2); (try clear hk); (try clear hi); (try clear ho0)))
                            go_meet
                            case rel => exact ⟨_, (t332), H', ⟨by have := HK1.out; have := HK2.out; have := HK3.out; first | omega | exact Nat.le_refl _⟩, ⟨by (with_reducible repeat (first | apply Kd.R_alloc | apply Kd.R_drewN | apply Kd.R_drew)); exact Kd.R_mono HO334.out (fun _ hk => trivial)⟩, ⟨by repeat (first | (with_reducible first | exact HB.out | apply below_alloc | apply pw_below_drewN | apply below_drew1) | exact HB.out)⟩⟩
                        case rest =>
                          clear HC28
                          try clear c1
                          try clear hcv1
                          try clear c2
                          try clear p2
                          try clear c3
                          try clear c4
                          try clear c6
                          try clear p6
                          try clear c8
                          try clear c8b0
                          try clear c8b1
                          try clear c9
                          try clear c9b0
                          try clear c9b1
                          try clear c9b2
                          try clear hcv12
                          try clear c13
                          try clear c13b0
                          try clear c14
                          try clear c14b0
                          try clear c14b1
                          try clear c14b2
                          try clear hcv17
                          try clear c18
                          try clear c18b0
                          try clear c19
                          try clear c19b0
                          try clear c19b1
                          try clear c19b2
                          try clear c22
                          try clear c22b0
                          try clear c23
                          try clear c24
                          try clear c26
                          try clear c26b0
                          try clear c26b1
                          try clear c26b2
                          try clear c27
                          try clear c27b0
                          try clear c27b1
                          try clear c27b2
                          try clear c29
                          try clear p2
                          try clear p6
                          obtain ⟨kq, x12_27, HA, HJ27, HO_12, HB⟩ := hcut
                          cases kq with
                          | zero => exact absurd HA.out (by simp [tollbarlaw07_FrameSizes.j3])
                          | succ kj27 =>
                            have H := HA.out
                            clear HA
                            simp only [tollbarlaw07_FrameSizes.j3] at H
                            replace H := Option.bind_eq_some_iff.mp H
                            obtain ⟨⟨t335, t336, t337⟩, A320, H⟩ := H
                            replace H : ((frame_Response.f kj27 (⟨#[71, 69, 84]⟩ : ByteArray) 200 (⟨#[]⟩ : ByteArray) 1 x12_27 ([] : List Int)).bind fun bt338 => (if (Go.bits .and .i64 a0 8191) > 4096 then (if t335 = 0 then (if t336 = true then (none) else (if t337 = 413 then (some (!bt338.2.2)) else (none))) else (none)) else (if t335 = (Go.bits .and .i64 a0 8191) then (if t336 = true then (none) else (if t337 = 0 then (if bt338.1 = 1 then (if bt338.2.1 = (Go.bits .and .i64 a0 8191) then (some bt338.2.2) else (none)) else (none)) else (none))) else (none)))) = some r := H
                            have A32 := Aside0.mk A320
                            clear A320
                            replace H := Option.bind_eq_some_iff.mp H
                            obtain ⟨⟨t338, t339, t340⟩, A330, H⟩ := H
                            replace H : (if (Go.bits .and .i64 a0 8191) > 4096 then (if t335 = 0 then (if t336 = true then (none) else (if t337 = 413 then (some (!t340)) else (none))) else (none)) else (if t335 = (Go.bits .and .i64 a0 8191) then (if t336 = true then (none) else (if t337 = 0 then (if t338 = 1 then (if t339 = (Go.bits .and .i64 a0 8191) then (some t340) else (none)) else (none)) else (none))) else (none))) = some r := H
                            have A33 := Aside0.mk A330
                            clear A330
                            by_cases c34 : (Go.bits .and .i64 a0 8191) > 4096
                            · rw [if_pos c34] at H
                              have c34b0 : decide (4096 < (Go.bits .and .i64 a0 8191)) = true := decide_eq_true c34
                              clear c34
                              by_cases c35 : t335 = 0
                              · rw [if_pos c35] at H
                                have c35b0 : (t335 == 0) = true := beq_iff_eq.mpr c35
                                have c35b1 : (t335 != 0) = false := bne_eq_false_iff_eq.mpr c35
                                clear c35
                                by_cases c36 : t336 = true
                                · subst c36
                                  have H1 : (none) = some r := by rw [if_pos rfl] at H; exact H
                                  clear H
                                  have H := H1
                                  clear H1
                                  exact absurd H (by simp)
                                · replace c36 := Bool.eq_false_iff.mpr c36
                                  subst c36
                                  have H1 : (if t337 = 413 then (some (!t340)) else (none)) = some r := by rw [if_neg (show ¬ (false = true) by decide)] at H; exact H
                                  clear H
                                  have H := H1
                                  clear H1
                                  by_cases c37 : t337 = 413
                                  · rw [if_pos c37] at H
                                    have c37b0 : (t337 == 413) = true := beq_iff_eq.mpr c37
                                    have c37b1 : (t337 != 413) = false := bne_eq_false_iff_eq.mpr c37
                                    clear c37
                                    obtain rfl := Option.some.inj H
                                    obtain ⟨Ao38, co38, eo38⟩ := Kd.R_slice HO_12.out
                                    subst eo38
                                    go_wp2_with (first | ((with_reducible refine gate_callee (f := 35) rfl ?_); refine goesL_ (some 75) rfl rfl Tryd.func35 (by kernel_rfl) rfl #[.slice Ao38 x12_27.length co38, .int .i64 1] rfl (by (try simp only [List.map_toArray, List.map_cons, List.map_nil]); first | done | rfl | (simp only [List.length_drop, List.length_take]; rfl)) ?_; (with_reducible refine (frame_Request.calls kj27 _ _ x12_27 1 t335 false t337 _ ?side1 ?side2 A32.out).mono ?_); (case side1 => repeat (first | exact (Kd.R_reads' HO_12.out).2.2 | (with_reducible refine Kd.C_alloc ?_ _) | (with_reducible refine Kd.C_drewN ?_ _) | (with_reducible refine Kd.C_drew ?_))); (case side2 => exact (Kd.R_reads' HO_12.out).2.1); rintro e w39 ⟨rfl, hb⟩; refine ⟨_, rfl, ?_⟩; have n0_ := Aside0.mk (Kd.R_below (by (with_reducible repeat (first | apply Kd.R_alloc | apply Kd.R_drewN | apply Kd.R_drew)); exact HO_12.out) hb); have n1_ := Aside0.mk (below_step (by repeat (first | (with_reducible first | exact HB.out | apply below_alloc | apply pw_below_drewN | apply below_drew1) | exact HB.out)) hb); clear HO_12; clear HB; have HO_12 := n0_; have HB := n1_; clear n0_ n1_; (try clear hb); (try clear hb2); (try clear hk); (try clear hi)) | ((with_reducible refine gate_callee (f := 39) rfl ?_); refine goesL_ (some 82) rfl rfl Tryd.func39 (by kernel_rfl) rfl #[.string (⟨#[71, 69, 84]⟩ : ByteArray), .agg #[.int .i64 200, .string (⟨#[]⟩ : ByteArray), .int .i64 1, .slice Ao38 x12_27.length co38, .slice none 0 0]] rfl (by (try simp only [List.map_toArray, List.map_cons, List.map_nil]); first | done | rfl | (simp only [List.length_drop, List.length_take]; rfl)) ?_; (refine (frame_Response.calls kj27 (⟨#[71, 69, 84]⟩ : ByteArray) 200 (⟨#[]⟩ : ByteArray) 1 _ _ x12_27 _ _ ([] : List Int) t338 t339 t340 _ ?side1 ?side2 ?side3 ?side4 A33.out).mono ?_); (case side1 => repeat (first | exact (Kd.R_reads' HO_12.out).2.2 | (with_reducible refine Kd.C_alloc ?_ _) | (with_reducible refine Kd.C_drewN ?_ _) | (with_reducible refine Kd.C_drew ?_))); (case side2 => exact (Kd.R_reads' HO_12.out).2.1); (case side3 => exact Kd.C_nil _ _); (case side4 => exact Nat.le_refl _); rintro e w40 ⟨rfl, hb⟩; refine ⟨_, rfl, ?_⟩; have n0_ := Aside0.mk (Kd.R_below (by (with_reducible repeat (first | apply Kd.R_alloc | apply Kd.R_drewN | apply Kd.R_drew)); exact HO_12.out) hb); have n1_ := Aside0.mk (below_step (by repeat (first | (with_reducible first | exact HB.out | apply below_alloc | apply pw_below_drewN | apply below_drew1) | exact HB.out)) hb); clear HO_12; clear HB; have HO_12 := n0_; have HB := n1_; clear n0_ n1_; (try clear hb); (try clear hb2); (try clear hk); (try clear hi)))
                                    go_ret
                                    exact ⟨by first | rfl | (simp [errW_none, errW_some] <;> rfl) | (simp [*, errW_none, errW_some] <;> rfl), by repeat (first | (with_reducible first | exact HB.out | apply below_alloc | apply pw_below_drewN | apply below_drew1) | exact HB.out)⟩
                                  · rw [if_neg c37] at H
                                    exact absurd H (by simp)
                              · rw [if_neg c35] at H
                                exact absurd H (by simp)
                            · rw [if_neg c34] at H
                              have c34b0 : decide (4096 < (Go.bits .and .i64 a0 8191)) = false := decide_eq_false c34
                              clear c34
                              by_cases c41 : t335 = (Go.bits .and .i64 a0 8191)
                              · rw [if_pos c41] at H
                                have c41b0 : (t335 == (Go.bits .and .i64 a0 8191)) = true := beq_iff_eq.mpr c41
                                have c41b1 : (t335 != (Go.bits .and .i64 a0 8191)) = false := bne_eq_false_iff_eq.mpr c41
                                clear c41
                                by_cases c42 : t336 = true
                                · subst c42
                                  have H1 : (none) = some r := by rw [if_pos rfl] at H; exact H
                                  clear H
                                  have H := H1
                                  clear H1
                                  exact absurd H (by simp)
                                · replace c42 := Bool.eq_false_iff.mpr c42
                                  subst c42
                                  have H1 : (if t337 = 0 then (if t338 = 1 then (if t339 = (Go.bits .and .i64 a0 8191) then (some t340) else (none)) else (none)) else (none)) = some r := by rw [if_neg (show ¬ (false = true) by decide)] at H; exact H
                                  clear H
                                  have H := H1
                                  clear H1
                                  by_cases c43 : t337 = 0
                                  · rw [if_pos c43] at H
                                    have c43b0 : (t337 == 0) = true := beq_iff_eq.mpr c43
                                    have c43b1 : (t337 != 0) = false := bne_eq_false_iff_eq.mpr c43
                                    clear c43
                                    by_cases c44 : t338 = 1
                                    · rw [if_pos c44] at H
                                      have c44b0 : (t338 == 1) = true := beq_iff_eq.mpr c44
                                      have c44b1 : (t338 != 1) = false := bne_eq_false_iff_eq.mpr c44
                                      clear c44
                                      by_cases c45 : t339 = (Go.bits .and .i64 a0 8191)
                                      · rw [if_pos c45] at H
                                        have c45b0 : (t339 == (Go.bits .and .i64 a0 8191)) = true := beq_iff_eq.mpr c45
                                        have c45b1 : (t339 != (Go.bits .and .i64 a0 8191)) = false := bne_eq_false_iff_eq.mpr c45
                                        clear c45
                                        obtain rfl := Option.some.inj H
                                        obtain ⟨Ao46, co46, eo46⟩ := Kd.R_slice HO_12.out
                                        subst eo46
                                        go_wp2_with (first | ((with_reducible refine gate_callee (f := 35) rfl ?_); refine goesL_ (some 75) rfl rfl Tryd.func35 (by kernel_rfl) rfl #[.slice Ao46 x12_27.length co46, .int .i64 1] rfl (by (try simp only [List.map_toArray, List.map_cons, List.map_nil]); first | done | rfl | (simp only [List.length_drop, List.length_take]; rfl)) ?_; (with_reducible refine (frame_Request.calls kj27 _ _ x12_27 1 t335 false t337 _ ?side1 ?side2 A32.out).mono ?_); (case side1 => repeat (first | exact (Kd.R_reads' HO_12.out).2.2 | (with_reducible refine Kd.C_alloc ?_ _) | (with_reducible refine Kd.C_drewN ?_ _) | (with_reducible refine Kd.C_drew ?_))); (case side2 => exact (Kd.R_reads' HO_12.out).2.1); rintro e w47 ⟨rfl, hb⟩; refine ⟨_, rfl, ?_⟩; have n0_ := Aside0.mk (Kd.R_below (by (with_reducible repeat (first | apply Kd.R_alloc | apply Kd.R_drewN | apply Kd.R_drew)); exact HO_12.out) hb); have n1_ := Aside0.mk (below_step (by repeat (first | (with_reducible first | exact HB.out | apply below_alloc | apply pw_below_drewN | apply below_drew1) | exact HB.out)) hb); clear HO_12; clear HB; have HO_12 := n0_; have HB := n1_; clear n0_ n1_; (try clear hb); (try clear hb2); (try clear hk); (try clear hi)) | ((with_reducible refine gate_callee (f := 39) rfl ?_); refine goesL_ (some 82) rfl rfl Tryd.func39 (by kernel_rfl) rfl #[.string (⟨#[71, 69, 84]⟩ : ByteArray), .agg #[.int .i64 200, .string (⟨#[]⟩ : ByteArray), .int .i64 1, .slice Ao46 x12_27.length co46, .slice none 0 0]] rfl (by (try simp only [List.map_toArray, List.map_cons, List.map_nil]); first | done | rfl | (simp only [List.length_drop, List.length_take]; rfl)) ?_; (refine (frame_Response.calls kj27 (⟨#[71, 69, 84]⟩ : ByteArray) 200 (⟨#[]⟩ : ByteArray) 1 _ _ x12_27 _ _ ([] : List Int) t338 t339 t340 _ ?side1 ?side2 ?side3 ?side4 A33.out).mono ?_); (case side1 => repeat (first | exact (Kd.R_reads' HO_12.out).2.2 | (with_reducible refine Kd.C_alloc ?_ _) | (with_reducible refine Kd.C_drewN ?_ _) | (with_reducible refine Kd.C_drew ?_))); (case side2 => exact (Kd.R_reads' HO_12.out).2.1); (case side3 => exact Kd.C_nil _ _); (case side4 => exact Nat.le_refl _); rintro e w48 ⟨rfl, hb⟩; refine ⟨_, rfl, ?_⟩; have n0_ := Aside0.mk (Kd.R_below (by (with_reducible repeat (first | apply Kd.R_alloc | apply Kd.R_drewN | apply Kd.R_drew)); exact HO_12.out) hb); have n1_ := Aside0.mk (below_step (by repeat (first | (with_reducible first | exact HB.out | apply below_alloc | apply pw_below_drewN | apply below_drew1) | exact HB.out)) hb); clear HO_12; clear HB; have HO_12 := n0_; have HB := n1_; clear n0_ n1_; (try clear hb); (try clear hb2); (try clear hk); (try clear hi)))
                                        go_ret
                                        exact ⟨by first | rfl | (simp [errW_none, errW_some] <;> rfl) | (simp [*, errW_none, errW_some] <;> rfl), by repeat (first | (with_reducible first | exact HB.out | apply below_alloc | apply pw_below_drewN | apply below_drew1) | exact HB.out)⟩
                                      · rw [if_neg c45] at H
                                        exact absurd H (by simp)
                                    · rw [if_neg c44] at H
                                      exact absurd H (by simp)
                                  · rw [if_neg c43] at H
                                    exact absurd H (by simp)
                              · rw [if_neg c41] at H
                                exact absurd H (by simp)
  · replace c6 := Bool.eq_false_iff.mpr c6
    subst c6
    have H1 : (none) = some r := by rw [if_neg (show ¬ (false = true) by decide)] at H; exact H
    clear H
    have H := H1
    clear H1
    exact absurd H (by simp)

/-- THE ONE PURE STATEMENT of tollbarlaw07_FrameSizes. -/
def tollbarlaw07_FrameSizes.Pure : Prop := ∀ (a0 : Int) (a1 : Int) (a2 : Int) (a3 : Bool), ((Lit.int .i64 a0).wf = true) → ((Lit.int .i64 a1).wf = true) → ((Lit.int .i64 a2).wf = true) → ∃ k, tollbarlaw07_FrameSizes.f k a0 a1 a2 a3 = some true

end Go.Proofs.YtijindelbagpiaaDoor.PFrame
