-- Written by this session's program xprint.py over the kit's print, with contracts given by hand. Not trusted: Lean checks it.
import Derived.Test.YtijindelbagpiaaDoorPFramex0
import Derived.Test.YtijindelbagpiaaDoorPFramex4
import Derived.Test.YtijindelbagpiaaDoorPFramex5
import Derived.Test.YtijindelbagpiaaDoorPFramex6
namespace Go.Proofs.YtijindelbagpiaaDoor.PFrame
open Go.RowKit Go.Proofs.YtijindelbagpiaaDoorW.PrintWords Go.Proofs.YtijindelbagpiaaDoorW.PrintLast Go.Proofs.YtijindelbagpiaaDoorW.PrintMore
attribute [local go_sem] max2_int min2_int max_two min_two max_three min_three max_four min_four   -- for this text's walks alone
set_option linter.unusedVariables false
set_option linter.unusedSimpArgs false

/-! ### tollbarref07_Response: function 40 -/
mutual
def tollbarref07_Response.j0 : Nat → Bool → Int → ByteArray → Int → List (S24) → List Int → Option (Int × Int × Bool)
  | 0, _, _, _, _, _, _ => none
  | k + 1, x27, x269000, x269001, x269002, x269003, x269004 => if x27 = true then (some (0, 0, true)) else ((tollbarref07_There.f k x269003 (⟨#[99, 111, 110, 116, 101, 110, 116, 45, 108, 101, 110, 103, 116, 104]⟩ : ByteArray)).bind fun t269 => ((tollbarref07_There.f k x269003 (⟨#[116, 114, 97, 110, 115, 102, 101, 114, 45, 101, 110, 99, 111, 100, 105, 110, 103]⟩ : ByteArray)).bind fun t270 => ((tollbarref07_Length.f k x269003).bind fun bt271 => (if t269 = true then (tollbarref07_Response.j1 k t269 t270 bt271.1 bt271.2 t270 x269000 x269001 x269002 x269003 x269004) else (tollbarref07_Response.j1 k t269 t270 bt271.1 bt271.2 false x269000 x269001 x269002 x269003 x269004)))))
def tollbarref07_Response.j1 : Nat → Bool → Bool → Int → Bool → Bool → Int → ByteArray → Int → List (S24) → List Int → Option (Int × Int × Bool)
  | 0, _, _, _, _, _, _, _, _, _, _ => none
  | k + 1, x7, x8, x9, x10, x40, x269000, x269001, x269002, x269003, x269004 => if x40 = true then (tollbarref07_Response.j2 k x7 x8 x9 x40) else (if x8 = true then (if x269002 = 0 then (tollbarref07_Response.j2 k x7 x8 x9 true) else ((tollbarref07_Coded.f k x269003).bind fun t273 => (if t273 = true then (if x7 = true then (if x10 = true then (tollbarref07_Response.j2 k x7 x8 x9 (decide (x9 > 4096))) else (tollbarref07_Response.j2 k x7 x8 x9 true)) else (tollbarref07_Response.j2 k x7 x8 x9 false)) else (tollbarref07_Response.j2 k x7 x8 x9 (!t273))))) else (if x7 = true then (if x10 = true then (tollbarref07_Response.j2 k x7 x8 x9 (decide (x9 > 4096))) else (tollbarref07_Response.j2 k x7 x8 x9 true)) else (tollbarref07_Response.j2 k x7 x8 x9 false)))
def tollbarref07_Response.j2 : Nat → Bool → Bool → Int → Bool → Option (Int × Int × Bool)
  | 0, _, _, _, _ => none
  | k + 1, x7, x8, x9, x40 => if x40 = true then (some (0, 0, false)) else (if x8 = true then (some (2, 0, true)) else (if x7 = true then (some (1, x9, true)) else (some (3, 0, true))))
end
def tollbarref07_Response.f (k : Nat) (a0 : ByteArray) (a1_0 : Int) (a1_1 : ByteArray) (a1_2 : Int) (l1_3 : List (S24)) (l1_4 : List Int) : Option (Int × Int × Bool) := if a0.toList = ([72, 69, 65, 68] : List UInt8) then (tollbarref07_Response.j0 k true a1_0 a1_1 a1_2 l1_3 l1_4) else (if a1_0 < 200 then (tollbarref07_Response.j0 k true a1_0 a1_1 a1_2 l1_3 l1_4) else (if a1_0 = 204 then (tollbarref07_Response.j0 k true a1_0 a1_1 a1_2 l1_3 l1_4) else (tollbarref07_Response.j0 k (a1_0 == 304) a1_0 a1_1 a1_2 l1_3 l1_4)))
theorem tollbarref07_Response.mono_l : ∀ k, (∀ y0 y1 y2 y3 y4 y5, LeO (tollbarref07_Response.j0 k y0 y1 y2 y3 y4 y5) (tollbarref07_Response.j0 (k + 1) y0 y1 y2 y3 y4 y5)) ∧ (∀ y0 y1 y2 y3 y4 y5 y6 y7 y8 y9, LeO (tollbarref07_Response.j1 k y0 y1 y2 y3 y4 y5 y6 y7 y8 y9) (tollbarref07_Response.j1 (k + 1) y0 y1 y2 y3 y4 y5 y6 y7 y8 y9)) ∧ (∀ y0 y1 y2 y3, LeO (tollbarref07_Response.j2 k y0 y1 y2 y3) (tollbarref07_Response.j2 (k + 1) y0 y1 y2 y3))
  | 0 => ⟨fun _ _ _ _ _ _ r h => by simp [tollbarref07_Response.j0] at h, fun _ _ _ _ _ _ _ _ _ _ r h => by simp [tollbarref07_Response.j1] at h, fun _ _ _ _ r h => by simp [tollbarref07_Response.j2] at h⟩
  | k + 1 => by
    obtain ⟨ih0, ih1, ih2⟩ := tollbarref07_Response.mono_l k
    refine ⟨?_, ?_, ?_⟩
    · intro y0 y1 y2 y3 y4 y5
      unfold tollbarref07_Response.j0
      repeat' first
      | (with_reducible exact ih0 _ _ _ _ _ _)
      | (with_reducible exact ih1 _ _ _ _ _ _ _ _ _ _)
      | (with_reducible exact ih2 _ _ _ _)
      | (with_reducible exact tollbarref07_Coded.mono _ _)
      | (with_reducible exact tollbarref07_Length.mono _ _)
      | (with_reducible exact tollbarref07_There.mono _ _ _)
      | (with_reducible exact LeO.refl _)
      | (with_reducible exact LeO.none _)
      | (with_reducible refine LeO.ite ?_ ?_)
      | (with_reducible refine LeO.bind ?_ (fun _ => ?_))
      | exact ih0 _ _ _ _ _ _
      | exact ih1 _ _ _ _ _ _ _ _ _ _
      | exact ih2 _ _ _ _
      | exact tollbarref07_Coded.mono _ _
      | exact tollbarref07_Length.mono _ _
      | exact tollbarref07_There.mono _ _ _
      | exact LeO.none _
      | refine LeO.ite ?_ ?_
      | refine LeO.bind ?_ (fun _ => ?_)
    · intro y0 y1 y2 y3 y4 y5 y6 y7 y8 y9
      unfold tollbarref07_Response.j1
      repeat' first
      | (with_reducible exact ih0 _ _ _ _ _ _)
      | (with_reducible exact ih1 _ _ _ _ _ _ _ _ _ _)
      | (with_reducible exact ih2 _ _ _ _)
      | (with_reducible exact tollbarref07_Coded.mono _ _)
      | (with_reducible exact tollbarref07_Length.mono _ _)
      | (with_reducible exact tollbarref07_There.mono _ _ _)
      | (with_reducible exact LeO.refl _)
      | (with_reducible exact LeO.none _)
      | (with_reducible refine LeO.ite ?_ ?_)
      | (with_reducible refine LeO.bind ?_ (fun _ => ?_))
      | exact ih0 _ _ _ _ _ _
      | exact ih1 _ _ _ _ _ _ _ _ _ _
      | exact ih2 _ _ _ _
      | exact tollbarref07_Coded.mono _ _
      | exact tollbarref07_Length.mono _ _
      | exact tollbarref07_There.mono _ _ _
      | exact LeO.none _
      | refine LeO.ite ?_ ?_
      | refine LeO.bind ?_ (fun _ => ?_)
    · intro y0 y1 y2 y3
      unfold tollbarref07_Response.j2
      repeat' first
      | (with_reducible exact ih0 _ _ _ _ _ _)
      | (with_reducible exact ih1 _ _ _ _ _ _ _ _ _ _)
      | (with_reducible exact ih2 _ _ _ _)
      | (with_reducible exact tollbarref07_Coded.mono _ _)
      | (with_reducible exact tollbarref07_Length.mono _ _)
      | (with_reducible exact tollbarref07_There.mono _ _ _)
      | (with_reducible exact LeO.refl _)
      | (with_reducible exact LeO.none _)
      | (with_reducible refine LeO.ite ?_ ?_)
      | (with_reducible refine LeO.bind ?_ (fun _ => ?_))
      | exact ih0 _ _ _ _ _ _
      | exact ih1 _ _ _ _ _ _ _ _ _ _
      | exact ih2 _ _ _ _
      | exact tollbarref07_Coded.mono _ _
      | exact tollbarref07_Length.mono _ _
      | exact tollbarref07_There.mono _ _ _
      | exact LeO.none _
      | refine LeO.ite ?_ ?_
      | refine LeO.bind ?_ (fun _ => ?_)
theorem tollbarref07_Response.mono : ∀ a0 a1 a2 a3 a4 a5 k, LeO (tollbarref07_Response.f k a0 a1 a2 a3 a4 a5) (tollbarref07_Response.f (k + 1) a0 a1 a2 a3 a4 a5) := by
  intro a0 a1 a2 a3 a4 a5 k
  obtain ⟨ih0, ih1, ih2⟩ := tollbarref07_Response.mono_l k
  unfold tollbarref07_Response.f
  repeat' first
      | (with_reducible exact ih0 _ _ _ _ _ _)
      | (with_reducible exact ih1 _ _ _ _ _ _ _ _ _ _)
      | (with_reducible exact ih2 _ _ _ _)
      | (with_reducible exact tollbarref07_Coded.mono _ _)
      | (with_reducible exact tollbarref07_Length.mono _ _)
      | (with_reducible exact tollbarref07_There.mono _ _ _)
      | (with_reducible exact LeO.refl _)
      | (with_reducible exact LeO.none _)
      | (with_reducible refine LeO.ite ?_ ?_)
      | (with_reducible refine LeO.bind ?_ (fun _ => ?_))
      | exact ih0 _ _ _ _ _ _
      | exact ih1 _ _ _ _ _ _ _ _ _ _
      | exact ih2 _ _ _ _
      | exact tollbarref07_Coded.mono _ _
      | exact tollbarref07_Length.mono _ _
      | exact tollbarref07_There.mono _ _ _
      | exact LeO.none _
      | refine LeO.ite ?_ ?_
      | refine LeO.bind ?_ (fun _ => ?_)
def tollbarref07_Response.T3 : Bool × List (List Nat × List Nat) := (true, [([], []), ([0], [0]), ([1], [1]), ([], []), ([3], [3]), ([4, 2], [4]), ([2, 5, 0, 1, 2], [2]), ([5, 6, 0, 1, 2, 3, 4, 5, 6], [5])])
def tollbarref07_Response.B3 : List Nat := [0, 1, 3, 0, 8, 31, 63, 127]
theorem tollbarref07_Response.tab3 : rtab .any (opsOf Tryd.f40 3) = tollbarref07_Response.T3 := by kernel_rfl
theorem tollbarref07_Response.bits3 : waitsOk tollbarref07_Response.T3.2 tollbarref07_Response.B3 = true := by kernel_rfl
set_option maxHeartbeats 8000000 in
set_option maxRecDepth 100000 in
theorem tollbarref07_Response.calls (k : Nat) (a0 : ByteArray) (a1_0 : Int) (a1_1 : ByteArray) (a1_2 : Int) (A1_3 : Option Addr) (c1_3 : Nat) (l1_3 : List (S24)) (A1_4 : Option Addr) (c1_4 : Nat) (l1_4 : List Int) (r1 : Int) (r2 : Int) (r3 : Bool) (w : World) (hr1_3 : Kd.C k24 w A1_3 l1_3.length l1_3) (hc1_3 : l1_3.length ≤ c1_3) (hr1_4 : Kd.C (Kd.int .u8) w A1_4 l1_4.length l1_4) (hc1_4 : l1_4.length ≤ c1_4) (h : tollbarref07_Response.f k a0 a1_0 a1_1 a1_2 l1_3 l1_4 = some (r1, r2, r3)) :
    Calls Tryd.prog 40 #[.string a0, .agg #[.int .i64 a1_0, .string a1_1, .int .i64 a1_2, .slice A1_3 l1_3.length c1_3, .slice A1_4 l1_4.length c1_4]] w fun e w' => e = .returned (.tuple #[.int .i64 r1, .int .i64 r2, .bool r3]) ∧ Below w.heap.size w w' := by
  have hu53 := Tryd.underlying53
  have HR1_3 := Aside0.mk hr1_3
  have HC1_3 := Aside0.mk hc1_3
  clear hr1_3 hc1_3
  have HR1_4 := Aside0.mk hr1_4
  have HC1_4 := Aside0.mk hc1_4
  clear hr1_4 hc1_4
  have HB := Aside0.mk (Below.refl w.heap.size w)
  have H : (if a0.toList = ([72, 69, 65, 68] : List UInt8) then (tollbarref07_Response.j0 k true a1_0 a1_1 a1_2 l1_3 l1_4) else (if a1_0 < 200 then (tollbarref07_Response.j0 k true a1_0 a1_1 a1_2 l1_3 l1_4) else (if a1_0 = 204 then (tollbarref07_Response.j0 k true a1_0 a1_1 a1_2 l1_3 l1_4) else (tollbarref07_Response.j0 k (a1_0 == 304) a1_0 a1_1 a1_2 l1_3 l1_4)))) = some (r1, r2, r3) := h
  clear h
  have HC3 := Aside0.mk H
  clear H
  go_enter Tryd.func40, Tryd.ntmps40
  go_upto_region 1 with (first | ((with_reducible refine gate_dst (N := 3) rfl ?_); refine box_event ?hg (N := 3) ?hd (cs := #[.int .i64 a1_0, .string a1_1, .int .i64 a1_2, .slice A1_3 l1_3.length c1_3, .slice A1_4 l1_4.length c1_4]) (t := 53) ?hr ?_; (case hd => rfl); (case hg => rfl); (case hr => first | (go_simp; done) | (go_simp; rfl)); intro gb268 hg w4 hbox hb; have n0_ := Aside0.mk (below_step (by repeat (first | (with_reducible first | exact HB.out | apply below_alloc | apply pw_below_drewN | apply below_drew1) | exact HB.out)) hb); have n1_ := Aside0.mk (hbox); have n2_ := Aside0.mk ((by rw [hg]; exact (below_size (by repeat (first | (with_reducible first | exact HB.out | apply below_alloc | apply pw_below_drewN | apply below_drew1) | exact HB.out))) : w.heap.size ≤ gb268)); have n3_ := Aside0.mk ((by rw [hg]; exact (below_size (by repeat (first | (with_reducible first | exact HB.out | apply below_alloc | apply pw_below_drewN | apply below_drew1) | exact HB.out))) : w.heap.size ≤ gb268)); clear HB; have HB := n0_; have BK268 := n1_; have GW268 := n2_; have GE268 := n3_; clear n0_ n1_ n2_ n3_; clear hb hbox hg))
  (try simp only [Act.put, List.setIfInBounds_toArray, List.set_cons_zero, List.set_cons_succ])
  go_cut [27] (fun v27 wc => ∃ (kq : Nat) (x27_2 : Bool), v27 = .bool x27_2 ∧ Aside0 (tollbarref07_Response.j0 kq x27_2 a1_0 a1_1 a1_2 l1_3 l1_4 = some (r1, r2, r3)) ∧ Aside0 (kq ≤ k) ∧ Aside0 (wc.heap[gb268]? = some (.cells #[.int .i64 a1_0, .string a1_1, .int .i64 a1_2, (.slice A1_3 l1_3.length c1_3), (.slice A1_4 l1_4.length c1_4)] 53 (0, 0))) ∧ Aside0 (Below w.heap.size w wc))
  case first =>
    have H := HC3.out
    clear HC3
    by_cases c5 : a0.toList = ([72, 69, 65, 68] : List UInt8)
    · rw [if_pos c5] at H
      have c5b0 : (a0.toList == ([72, 69, 65, 68] : List UInt8)) = true := beq_iff_eq.mpr c5
      have c5b1 : (a0.toList != ([72, 69, 65, 68] : List UInt8)) = false := bne_eq_false_iff_eq.mpr c5
      clear c5
      (first | rw [c5b0] | (simp only [i64_w, i32_w]; rw [c5b0]) | skip)
      have H' := Aside0.mk H
      clear H
      go_wp2
      go_meet
      case rel => exact ⟨_, (true), (by first | rfl | (simp; done) | (simp [*]; done)), H', ⟨by first | omega | exact Nat.le_refl _⟩, ⟨by (with_reducible repeat (first | refine blk_drewN ?_ _ | refine blk_drew ?_ | refine blk_alloc ?_ _)); exact BK268.out⟩, ⟨by repeat (first | (with_reducible first | exact HB.out | apply below_alloc | apply pw_below_drewN | apply below_drew1 | refine below_set ?_ GE268.out) | exact HB.out)⟩⟩
    · rw [if_neg c5] at H
      have c5b0 : (a0.toList == ([72, 69, 65, 68] : List UInt8)) = false := beq_eq_false_iff_ne.mpr c5
      have c5b1 : (a0.toList != ([72, 69, 65, 68] : List UInt8)) = true := bne_iff_ne.mpr c5
      (first | rw [c5b0] | (simp only [i64_w, i32_w]; rw [c5b0]) | skip)
      by_cases c6 : a1_0 < 200
      · rw [if_pos c6] at H
        have c6b0 : decide (a1_0 < 200) = true := decide_eq_true c6
        clear c6
        have H' := Aside0.mk H
        clear H
        have hcz7_0 : w4.cell? ⟨gb268, 0, none⟩ = some (.int .i64 a1_0) := (blk_cell BK268.out 0).trans rfl
        have hcz7_1 : w4.cell? ⟨gb268, 1, none⟩ = some (.string a1_1) := (blk_cell BK268.out 1).trans rfl
        have hcz7_2 : w4.cell? ⟨gb268, 2, none⟩ = some (.int .i64 a1_2) := (blk_cell BK268.out 2).trans rfl
        have hcz7_3 : w4.cell? ⟨gb268, 3, none⟩ = some (.slice A1_3 l1_3.length c1_3) := (blk_cell BK268.out 3).trans rfl
        have hcz7_4 : w4.cell? ⟨gb268, 4, none⟩ = some (.slice A1_4 l1_4.length c1_4) := (blk_cell BK268.out 4).trans rfl
        have hfz7_0 := blk_frozen BK268.out 0
        have hfz7_1 := blk_frozen BK268.out 1
        have hfz7_2 := blk_frozen BK268.out 2
        have hfz7_3 := blk_frozen BK268.out 3
        have hfz7_4 := blk_frozen BK268.out 4
        go_wp2
        go_meet
        case rel => exact ⟨_, (true), (by first | rfl | (simp; done) | (simp [*]; done)), H', ⟨by first | omega | exact Nat.le_refl _⟩, ⟨by (with_reducible repeat (first | refine blk_drewN ?_ _ | refine blk_drew ?_ | refine blk_alloc ?_ _)); exact BK268.out⟩, ⟨by repeat (first | (with_reducible first | exact HB.out | apply below_alloc | apply pw_below_drewN | apply below_drew1 | refine below_set ?_ GE268.out) | exact HB.out)⟩⟩
      · rw [if_neg c6] at H
        have c6b0 : decide (a1_0 < 200) = false := decide_eq_false c6
        clear c6
        by_cases c8 : a1_0 = 204
        · rw [if_pos c8] at H
          have c8b0 : (a1_0 == 204) = true := beq_iff_eq.mpr c8
          have c8b1 : (a1_0 != 204) = false := bne_eq_false_iff_eq.mpr c8
          clear c8
          have H' := Aside0.mk H
          clear H
          have hcz9_0 : w4.cell? ⟨gb268, 0, none⟩ = some (.int .i64 a1_0) := (blk_cell BK268.out 0).trans rfl
          have hcz9_1 : w4.cell? ⟨gb268, 1, none⟩ = some (.string a1_1) := (blk_cell BK268.out 1).trans rfl
          have hcz9_2 : w4.cell? ⟨gb268, 2, none⟩ = some (.int .i64 a1_2) := (blk_cell BK268.out 2).trans rfl
          have hcz9_3 : w4.cell? ⟨gb268, 3, none⟩ = some (.slice A1_3 l1_3.length c1_3) := (blk_cell BK268.out 3).trans rfl
          have hcz9_4 : w4.cell? ⟨gb268, 4, none⟩ = some (.slice A1_4 l1_4.length c1_4) := (blk_cell BK268.out 4).trans rfl
          have hfz9_0 := blk_frozen BK268.out 0
          have hfz9_1 := blk_frozen BK268.out 1
          have hfz9_2 := blk_frozen BK268.out 2
          have hfz9_3 := blk_frozen BK268.out 3
          have hfz9_4 := blk_frozen BK268.out 4
          go_wp2
          go_meet
          case rel => exact ⟨_, (true), (by first | rfl | (simp; done) | (simp [*]; done)), H', ⟨by first | omega | exact Nat.le_refl _⟩, ⟨by (with_reducible repeat (first | refine blk_drewN ?_ _ | refine blk_drew ?_ | refine blk_alloc ?_ _)); exact BK268.out⟩, ⟨by repeat (first | (with_reducible first | exact HB.out | apply below_alloc | apply pw_below_drewN | apply below_drew1 | refine below_set ?_ GE268.out) | exact HB.out)⟩⟩
        · rw [if_neg c8] at H
          have c8b0 : (a1_0 == 204) = false := beq_eq_false_iff_ne.mpr c8
          have c8b1 : (a1_0 != 204) = true := bne_iff_ne.mpr c8
          have H' := Aside0.mk H
          clear H
          have hcz10_0 : w4.cell? ⟨gb268, 0, none⟩ = some (.int .i64 a1_0) := (blk_cell BK268.out 0).trans rfl
          have hcz10_1 : w4.cell? ⟨gb268, 1, none⟩ = some (.string a1_1) := (blk_cell BK268.out 1).trans rfl
          have hcz10_2 : w4.cell? ⟨gb268, 2, none⟩ = some (.int .i64 a1_2) := (blk_cell BK268.out 2).trans rfl
          have hcz10_3 : w4.cell? ⟨gb268, 3, none⟩ = some (.slice A1_3 l1_3.length c1_3) := (blk_cell BK268.out 3).trans rfl
          have hcz10_4 : w4.cell? ⟨gb268, 4, none⟩ = some (.slice A1_4 l1_4.length c1_4) := (blk_cell BK268.out 4).trans rfl
          have hfz10_0 := blk_frozen BK268.out 0
          have hfz10_1 := blk_frozen BK268.out 1
          have hfz10_2 := blk_frozen BK268.out 2
          have hfz10_3 := blk_frozen BK268.out 3
          have hfz10_4 := blk_frozen BK268.out 4
          go_wp2
          go_meet
          case rel => exact ⟨_, ((a1_0 == 304)), (by first | rfl | (simp; done) | (simp [*]; done)), H', ⟨by first | omega | exact Nat.le_refl _⟩, ⟨by (with_reducible repeat (first | refine blk_drewN ?_ _ | refine blk_drew ?_ | refine blk_alloc ?_ _)); exact BK268.out⟩, ⟨by repeat (first | (with_reducible first | exact HB.out | apply below_alloc | apply pw_below_drewN | apply below_drew1 | refine below_set ?_ GE268.out) | exact HB.out)⟩⟩
  case rest =>
    clear HC3
    try clear c1
    try clear p2
    try clear c4
    try clear c5
    try clear c5b0
    try clear c5b1
    try clear c6
    try clear c6b0
    try clear c8
    try clear c8b0
    try clear c8b1
    try clear hcz10_0
    try clear hcz10_1
    try clear hcz10_2
    try clear hcz10_3
    try clear hcz10_4
    try clear hcz7_0
    try clear hcz7_1
    try clear hcz7_2
    try clear hcz7_3
    try clear hcz7_4
    try clear hcz9_0
    try clear hcz9_1
    try clear hcz9_2
    try clear hcz9_3
    try clear hcz9_4
    try clear hfz10_0
    try clear hfz10_1
    try clear hfz10_2
    try clear hfz10_3
    try clear hfz10_4
    try clear hfz7_0
    try clear hfz7_1
    try clear hfz7_2
    try clear hfz7_3
    try clear hfz7_4
    try clear hfz9_0
    try clear hfz9_1
    try clear hfz9_2
    try clear hfz9_3
    try clear hfz9_4
    obtain ⟨kq, x27_2, rfl, HA, HJ2, BK268, HB⟩ := hcut
    cases kq with
    | zero => exact absurd HA.out (by simp [tollbarref07_Response.j0])
    | succ kj2 =>
      have H := HA.out
      clear HA
      simp only [tollbarref07_Response.j0] at H
      by_cases c11 : x27_2 = true
      · subst c11
        have H1 : (some (0, 0, true)) = some (r1, r2, r3) := by rw [if_pos rfl] at H; exact H
        clear H
        have H := H1
        clear H1
        simp only [Option.some.injEq, Prod.mk.injEq] at H
        obtain ⟨rfl, rfl, rfl⟩ := H
        go_wp2
        go_ret3
        exact ⟨by first | rfl | (simp [errW_none, errW_some] <;> rfl) | (simp [*, errW_none, errW_some] <;> rfl), by repeat (first | (with_reducible first | exact HB.out | apply below_alloc | apply pw_below_drewN | apply below_drew1 | refine below_set ?_ GE268.out) | exact HB.out)⟩
      · replace c11 := Bool.eq_false_iff.mpr c11
        subst c11
        have H1 : ((tollbarref07_There.f kj2 l1_3 (⟨#[99, 111, 110, 116, 101, 110, 116, 45, 108, 101, 110, 103, 116, 104]⟩ : ByteArray)).bind fun t269 => ((tollbarref07_There.f kj2 l1_3 (⟨#[116, 114, 97, 110, 115, 102, 101, 114, 45, 101, 110, 99, 111, 100, 105, 110, 103]⟩ : ByteArray)).bind fun t270 => ((tollbarref07_Length.f kj2 l1_3).bind fun bt271 => (if t269 = true then (tollbarref07_Response.j1 kj2 t269 t270 bt271.1 bt271.2 t270 a1_0 a1_1 a1_2 l1_3 l1_4) else (tollbarref07_Response.j1 kj2 t269 t270 bt271.1 bt271.2 false a1_0 a1_1 a1_2 l1_3 l1_4))))) = some (r1, r2, r3) := by rw [if_neg (show ¬ (false = true) by decide)] at H; exact H
        clear H
        have H := H1
        clear H1
        replace H := Option.bind_eq_some_iff.mp H
        obtain ⟨t269, A120, H⟩ := H
        replace H : ((tollbarref07_There.f kj2 l1_3 (⟨#[116, 114, 97, 110, 115, 102, 101, 114, 45, 101, 110, 99, 111, 100, 105, 110, 103]⟩ : ByteArray)).bind fun t270 => ((tollbarref07_Length.f kj2 l1_3).bind fun bt271 => (if t269 = true then (tollbarref07_Response.j1 kj2 t269 t270 bt271.1 bt271.2 t270 a1_0 a1_1 a1_2 l1_3 l1_4) else (tollbarref07_Response.j1 kj2 t269 t270 bt271.1 bt271.2 false a1_0 a1_1 a1_2 l1_3 l1_4)))) = some (r1, r2, r3) := H
        have A12 := Aside0.mk A120
        clear A120
        replace H := Option.bind_eq_some_iff.mp H
        obtain ⟨t270, A130, H⟩ := H
        replace H : ((tollbarref07_Length.f kj2 l1_3).bind fun bt271 => (if t269 = true then (tollbarref07_Response.j1 kj2 t269 t270 bt271.1 bt271.2 t270 a1_0 a1_1 a1_2 l1_3 l1_4) else (tollbarref07_Response.j1 kj2 t269 t270 bt271.1 bt271.2 false a1_0 a1_1 a1_2 l1_3 l1_4))) = some (r1, r2, r3) := H
        have A13 := Aside0.mk A130
        clear A130
        replace H := Option.bind_eq_some_iff.mp H
        obtain ⟨⟨t271, t272⟩, A140, H⟩ := H
        replace H : (if t269 = true then (tollbarref07_Response.j1 kj2 t269 t270 t271 t272 t270 a1_0 a1_1 a1_2 l1_3 l1_4) else (tollbarref07_Response.j1 kj2 t269 t270 t271 t272 false a1_0 a1_1 a1_2 l1_3 l1_4)) = some (r1, r2, r3) := H
        have A14 := Aside0.mk A140
        clear A140
        have HC15 := Aside0.mk H
        clear H
        try go_wp2
        have n0_ := Aside0.mk (blk_drew BK268.out)
        have n1_ := Aside0.mk (below_drew1 HB.out)
        clear BK268
        clear HB
        have BK268 := n0_
        have HB := n1_
        clear n0_ n1_
        refine start_ (n := 8) (S := fun w' => w'.cell? ⟨gb268, 0, none⟩ = some (.int .i64 a1_0) ∧ w'.cell? ⟨gb268, 1, none⟩ = some (.string a1_1) ∧ w'.cell? ⟨gb268, 2, none⟩ = some (.int .i64 a1_2) ∧ w'.cell? ⟨gb268, 3, none⟩ = some (.slice A1_3 l1_3.length c1_3) ∧ w'.cell? ⟨gb268, 4, none⟩ = some (.slice A1_4 l1_4.length c1_4)) (ds := []) #[false, false, false, false, false, false, false, false] (by kernel_rfl) rfl rfl ⟨(blk_cell BK268.out 0).trans rfl, (blk_cell BK268.out 1).trans rfl, (blk_cell BK268.out 2).trans rfl, (blk_cell BK268.out 3).trans rfl, (blk_cell BK268.out 4).trans rfl⟩ (fun hHeld => ?_); refine with_tabW tollbarref07_Response.tab3 tollbarref07_Response.bits3 (fun HT_ HW_ => ?_)
        generalize wc.drew = w16 at BK268 HB hHeld ⊢
        refine pure_ (i := 0) (N := some 28) (v := ?_) (a' := ?_) #[true, false, false, false, false, false, false, false] rfl rfl (any_of HT_.out (by kernel_rfl)) (fun _ _ _ h => h) (Or.inl ⟨by rfl, ?_⟩) ?_ ?_
        rotate_left
        · intro w'
          go_simp
          with_reducible rfl
        rotate_left
        · simp only [Act.put, List.setIfInBounds_toArray, List.set_cons_zero, List.set_cons_succ, i64_w, i32_w]
          rfl
        refine pure_ (i := 3) (N := some 31) (v := ?_) (a' := ?_) #[true, false, false, true, false, false, false, false] rfl rfl (any_of HT_.out (by kernel_rfl)) (fun _ _ _ h => h) (Or.inl ⟨by rfl, ?_⟩) ?_ ?_
        rotate_left
        · intro w'
          go_simp
          with_reducible rfl
        rotate_left
        · simp only [Act.put, List.setIfInBounds_toArray, List.set_cons_zero, List.set_cons_succ, i64_w, i32_w]
          rfl
        refine take_ (i := 1) (N := some 29) (v := ?_) (a' := ?_) #[true, true, false, true, false, false, false, false] rfl rfl (take_ofW HT_.out HW_.out (by kernel_rfl)) (fun _ _ _ h => h) (Or.inl ⟨by rfl, ?_⟩) hHeld ?_ ?_
        rotate_left
        · rintro w' ⟨s0, s1, s2, s3, s4⟩
          go_simp
          with_reducible rfl
        rotate_left
        · simp only [Act.put, List.setIfInBounds_toArray, List.set_cons_zero, List.set_cons_succ, i64_w, i32_w]
          rfl
        refine take_ (i := 4) (N := some 32) (v := ?_) (a' := ?_) #[true, true, false, true, true, false, false, false] rfl rfl (take_ofW HT_.out HW_.out (by kernel_rfl)) (fun _ _ _ h => h) (Or.inl ⟨by rfl, ?_⟩) hHeld ?_ ?_
        rotate_left
        · rintro w' ⟨s0, s1, s2, s3, s4⟩
          go_simp
          with_reducible rfl
        rotate_left
        · simp only [Act.put, List.setIfInBounds_toArray, List.set_cons_zero, List.set_cons_succ, i64_w, i32_w]
          rfl
        refine one_ (i := 2) (N := some 30) #[true, true, true, true, true, false, false, false] rfl rfl (one_of HT_.out (by kernel_rfl)) (by decide) (fun K hK => ?_)
        refine goes_ Tryd.func63 (by kernel_rfl) rfl #[.slice A1_3 l1_3.length c1_3, .string (⟨#[99, 111, 110, 116, 101, 110, 116, 45, 108, 101, 110, 103, 116, 104]⟩ : ByteArray)] (by rfl) rfl rfl (by (try simp only [List.map_toArray, List.map_cons, List.map_nil]); first | done | rfl | (simp only [List.length_drop, List.length_take]; rfl)) ?_
        with_reducible refine (tollbarref07_There.calls kj2 _ _ l1_3 (⟨#[99, 111, 110, 116, 101, 110, 116, 45, 108, 101, 110, 103, 116, 104]⟩ : ByteArray) t269 _ ?side1 ?side2 A12.out).mono ?_
        (case side1 => repeat (first | exact (Kd.C_below HR1_3.out HB.out) | (with_reducible refine Kd.C_alloc ?_ _) | (with_reducible refine Kd.C_drewN ?_ _) | (with_reducible refine Kd.C_drew ?_)))
        (case side2 => exact HC1_3.out)
        rintro e w17 ⟨rfl, hb⟩
        refine ⟨_, rfl, ?_⟩
        have n0_ := Aside0.mk (blk_below (g := gb268) (o := .cells #[.int .i64 a1_0, .string a1_1, .int .i64 a1_2, .slice A1_3 l1_3.length c1_3, .slice A1_4 l1_4.length c1_4] 53 (0, 0)) (by (with_reducible repeat (first | refine blk_drewN ?_ _ | refine blk_drew ?_ | refine blk_alloc ?_ _)); exact BK268.out) hb)
        have n1_ := Aside0.mk (below_step (by repeat (first | (with_reducible first | exact HB.out | apply below_alloc | apply pw_below_drewN | apply below_drew1 | refine below_set ?_ GE268.out) | exact HB.out)) hb)
        clear BK268
        clear HB
        have BK268 := n0_
        have HB := n1_
        clear n0_ n1_
        (try clear hb)
        (try clear hb2)
        (try clear hk)
        (try clear hi)
        refine hK.out _ _ ⟨(blk_cell BK268.out 0).trans rfl, (blk_cell BK268.out 1).trans rfl, (blk_cell BK268.out 2).trans rfl, (blk_cell BK268.out 3).trans rfl, (blk_cell BK268.out 4).trans rfl⟩ (fun hHeld => ?_)
        clear hK K
        refine norm_ (a' := ?_) ?_ ?_
        rotate_left
        · show Act.put _ (some 30) _ = _
          simp only [Act.put, List.setIfInBounds_toArray, List.set_cons_zero, List.set_cons_succ, i64_w, i32_w]
          rfl
        refine one_ (i := 5) (N := some 33) #[true, true, true, true, true, true, false, false] rfl rfl (one_of HT_.out (by kernel_rfl)) (by decide) (fun K hK => ?_)
        refine goes_ Tryd.func63 (by kernel_rfl) rfl #[.slice A1_3 l1_3.length c1_3, .string (⟨#[116, 114, 97, 110, 115, 102, 101, 114, 45, 101, 110, 99, 111, 100, 105, 110, 103]⟩ : ByteArray)] (by rfl) rfl rfl (by (try simp only [List.map_toArray, List.map_cons, List.map_nil]); first | done | rfl | (simp only [List.length_drop, List.length_take]; rfl)) ?_
        with_reducible refine (tollbarref07_There.calls kj2 _ _ l1_3 (⟨#[116, 114, 97, 110, 115, 102, 101, 114, 45, 101, 110, 99, 111, 100, 105, 110, 103]⟩ : ByteArray) t270 _ ?side1 ?side2 A13.out).mono ?_
        (case side1 => repeat (first | exact (Kd.C_below HR1_3.out HB.out) | (with_reducible refine Kd.C_alloc ?_ _) | (with_reducible refine Kd.C_drewN ?_ _) | (with_reducible refine Kd.C_drew ?_)))
        (case side2 => exact HC1_3.out)
        rintro e w18 ⟨rfl, hb⟩
        refine ⟨_, rfl, ?_⟩
        have n0_ := Aside0.mk (blk_below (g := gb268) (o := .cells #[.int .i64 a1_0, .string a1_1, .int .i64 a1_2, .slice A1_3 l1_3.length c1_3, .slice A1_4 l1_4.length c1_4] 53 (0, 0)) (by (with_reducible repeat (first | refine blk_drewN ?_ _ | refine blk_drew ?_ | refine blk_alloc ?_ _)); exact BK268.out) hb)
        have n1_ := Aside0.mk (below_step (by repeat (first | (with_reducible first | exact HB.out | apply below_alloc | apply pw_below_drewN | apply below_drew1 | refine below_set ?_ GE268.out) | exact HB.out)) hb)
        clear BK268
        clear HB
        have BK268 := n0_
        have HB := n1_
        clear n0_ n1_
        (try clear hb)
        (try clear hb2)
        (try clear hk)
        (try clear hi)
        refine hK.out _ _ ⟨(blk_cell BK268.out 0).trans rfl, (blk_cell BK268.out 1).trans rfl, (blk_cell BK268.out 2).trans rfl, (blk_cell BK268.out 3).trans rfl, (blk_cell BK268.out 4).trans rfl⟩ (fun hHeld => ?_)
        clear hK K
        refine norm_ (a' := ?_) ?_ ?_
        rotate_left
        · show Act.put _ (some 33) _ = _
          simp only [Act.put, List.setIfInBounds_toArray, List.set_cons_zero, List.set_cons_succ, i64_w, i32_w]
          rfl
        refine pure_ (i := 6) (N := some 7) (v := ?_) (a' := ?_) #[true, true, true, true, true, true, true, false] rfl rfl (any_of HT_.out (by kernel_rfl)) (fun _ _ _ h => h) (Or.inl ⟨by rfl, ?_⟩) ?_ ?_
        rotate_left
        · intro w'
          go_simp
          with_reducible rfl
        rotate_left
        · simp only [Act.put, List.setIfInBounds_toArray, List.set_cons_zero, List.set_cons_succ, i64_w, i32_w]
          rfl
        refine pure_ (i := 7) (N := some 8) (v := ?_) (a' := ?_) #[true, true, true, true, true, true, true, true] rfl rfl (any_of HT_.out (by kernel_rfl)) (fun _ _ _ h => h) (Or.inl ⟨by rfl, ?_⟩) ?_ ?_
        rotate_left
        · intro w'
          go_simp
          with_reducible rfl
        rotate_left
        · simp only [Act.put, List.setIfInBounds_toArray, List.set_cons_zero, List.set_cons_succ, i64_w, i32_w]
          rfl
        refine done_ (done_of HT_.out (by kernel_rfl)) ?_
        have hcz19_0 : w18.cell? ⟨gb268, 0, none⟩ = some (.int .i64 a1_0) := (blk_cell BK268.out 0).trans rfl
        have hcz19_1 : w18.cell? ⟨gb268, 1, none⟩ = some (.string a1_1) := (blk_cell BK268.out 1).trans rfl
        have hcz19_2 : w18.cell? ⟨gb268, 2, none⟩ = some (.int .i64 a1_2) := (blk_cell BK268.out 2).trans rfl
        have hcz19_3 : w18.cell? ⟨gb268, 3, none⟩ = some (.slice A1_3 l1_3.length c1_3) := (blk_cell BK268.out 3).trans rfl
        have hcz19_4 : w18.cell? ⟨gb268, 4, none⟩ = some (.slice A1_4 l1_4.length c1_4) := (blk_cell BK268.out 4).trans rfl
        have hfz19_0 := blk_frozen BK268.out 0
        have hfz19_1 := blk_frozen BK268.out 1
        have hfz19_2 := blk_frozen BK268.out 2
        have hfz19_3 := blk_frozen BK268.out 3
        have hfz19_4 := blk_frozen BK268.out 4
        go_upto_region 5 with (first | ((with_reducible refine gate_callee (f := 65) rfl ?_); refine goesL_ (some 37) rfl rfl Tryd.func65 (by kernel_rfl) rfl #[.slice A1_3 l1_3.length c1_3] rfl (by (try simp only [List.map_toArray, List.map_cons, List.map_nil]); first | done | rfl | (simp only [List.length_drop, List.length_take]; rfl)) ?_; (with_reducible refine (tollbarref07_Length.calls kj2 _ _ l1_3 t271 t272 _ ?side1 ?side2 A14.out).mono ?_); (case side1 => repeat (first | exact (Kd.C_below HR1_3.out HB.out) | (with_reducible refine Kd.C_alloc ?_ _) | (with_reducible refine Kd.C_drewN ?_ _) | (with_reducible refine Kd.C_drew ?_))); (case side2 => exact HC1_3.out); rintro e w20 ⟨rfl, hb⟩; refine ⟨_, rfl, ?_⟩; have n0_ := Aside0.mk (blk_below (g := gb268) (o := .cells #[.int .i64 a1_0, .string a1_1, .int .i64 a1_2, .slice A1_3 l1_3.length c1_3, .slice A1_4 l1_4.length c1_4] 53 (0, 0)) (by (with_reducible repeat (first | refine blk_drewN ?_ _ | refine blk_drew ?_ | refine blk_alloc ?_ _)); exact BK268.out) hb); have n1_ := Aside0.mk (below_step (by repeat (first | (with_reducible first | exact HB.out | apply below_alloc | apply pw_below_drewN | apply below_drew1 | refine below_set ?_ GE268.out) | exact HB.out)) hb); clear BK268; clear HB; have BK268 := n0_; have HB := n1_; clear n0_ n1_; (try clear hb); (try clear hb2); (try clear hk); (try clear hi)))
        (try simp only [Act.put, List.setIfInBounds_toArray, List.set_cons_zero, List.set_cons_succ])
        go_cut [40] (fun v40 wc => ∃ (kq : Nat) (x40_14 : Bool), v40 = .bool x40_14 ∧ Aside0 (tollbarref07_Response.j1 kq t269 t270 t271 t272 x40_14 a1_0 a1_1 a1_2 l1_3 l1_4 = some (r1, r2, r3)) ∧ Aside0 (kq ≤ kj2) ∧ Aside0 (wc.heap[gb268]? = some (.cells #[.int .i64 a1_0, .string a1_1, .int .i64 a1_2, (.slice A1_3 l1_3.length c1_3), (.slice A1_4 l1_4.length c1_4)] 53 (0, 0))) ∧ Aside0 (Below w.heap.size w wc))
        case first =>
          have H := HC15.out
          clear HC15
          by_cases c21 : t269 = true
          · subst c21
            have H1 : (tollbarref07_Response.j1 kj2 true t270 t271 t272 t270 a1_0 a1_1 a1_2 l1_3 l1_4) = some (r1, r2, r3) := by rw [if_pos rfl] at H; exact H
            clear H
            have H := H1
            clear H1
            have H' := Aside0.mk H
            clear H
            go_wp2
            go_meet
            case rel => exact ⟨_, (t270), (by first | rfl | (simp; done) | (simp [*]; done)), H', ⟨by have := HJ2.out; first | omega | exact Nat.le_refl _⟩, ⟨by (with_reducible repeat (first | refine blk_drewN ?_ _ | refine blk_drew ?_ | refine blk_alloc ?_ _)); exact BK268.out⟩, ⟨by repeat (first | (with_reducible first | exact HB.out | apply below_alloc | apply pw_below_drewN | apply below_drew1 | refine below_set ?_ GE268.out) | exact HB.out)⟩⟩
          · replace c21 := Bool.eq_false_iff.mpr c21
            subst c21
            have H1 : (tollbarref07_Response.j1 kj2 false t270 t271 t272 false a1_0 a1_1 a1_2 l1_3 l1_4) = some (r1, r2, r3) := by rw [if_neg (show ¬ (false = true) by decide)] at H; exact H
            clear H
            have H := H1
            clear H1
            have H' := Aside0.mk H
            clear H
            go_wp2
            go_meet
            case rel => exact ⟨_, (false), (by first | rfl | (simp; done) | (simp [*]; done)), H', ⟨by have := HJ2.out; first | omega | exact Nat.le_refl _⟩, ⟨by (with_reducible repeat (first | refine blk_drewN ?_ _ | refine blk_drew ?_ | refine blk_alloc ?_ _)); exact BK268.out⟩, ⟨by repeat (first | (with_reducible first | exact HB.out | apply below_alloc | apply pw_below_drewN | apply below_drew1 | refine below_set ?_ GE268.out) | exact HB.out)⟩⟩
        case rest =>
          clear HC15
          try clear c1
          try clear c2
          try clear p2
          try clear c4
          try clear c5
          try clear c5b0
          try clear c5b1
          try clear c6
          try clear c6b0
          try clear c8
          try clear c8b0
          try clear c8b1
          try clear c11
          try clear c21
          try clear hcz10_0
          try clear hcz10_1
          try clear hcz10_2
          try clear hcz10_3
          try clear hcz10_4
          try clear hcz19_0
          try clear hcz19_1
          try clear hcz19_2
          try clear hcz19_3
          try clear hcz19_4
          try clear hcz7_0
          try clear hcz7_1
          try clear hcz7_2
          try clear hcz7_3
          try clear hcz7_4
          try clear hcz9_0
          try clear hcz9_1
          try clear hcz9_2
          try clear hcz9_3
          try clear hcz9_4
          try clear hfz10_0
          try clear hfz10_1
          try clear hfz10_2
          try clear hfz10_3
          try clear hfz10_4
          try clear hfz19_0
          try clear hfz19_1
          try clear hfz19_2
          try clear hfz19_3
          try clear hfz19_4
          try clear hfz7_0
          try clear hfz7_1
          try clear hfz7_2
          try clear hfz7_3
          try clear hfz7_4
          try clear hfz9_0
          try clear hfz9_1
          try clear hfz9_2
          try clear hfz9_3
          try clear hfz9_4
          try clear p2
          obtain ⟨kq, x40_14, rfl, HA, HJ14, BK268, HB⟩ := hcut
          cases kq with
          | zero => exact absurd HA.out (by simp [tollbarref07_Response.j1])
          | succ kj14 =>
            have H := HA.out
            clear HA
            simp only [tollbarref07_Response.j1] at H
            have HC22 := Aside0.mk H
            clear H
            go_upto_if 40 with (fail)
            go_cut [40] (fun v40 wc => ∃ (kq : Nat) (x40_21 : Bool), v40 = .bool x40_21 ∧ Aside0 (tollbarref07_Response.j2 kq t269 t270 t271 x40_21 = some (r1, r2, r3)) ∧ Aside0 (kq ≤ kj14) ∧ Aside0 (wc.heap[gb268]? = some (.cells #[.int .i64 a1_0, .string a1_1, .int .i64 a1_2, (.slice A1_3 l1_3.length c1_3), (.slice A1_4 l1_4.length c1_4)] 53 (0, 0))) ∧ Aside0 (Below w.heap.size w wc))
            case first =>
              have H := HC22.out
              clear HC22
              by_cases c23 : x40_14 = true
              · subst c23
                have H1 : (tollbarref07_Response.j2 kj14 t269 t270 t271 true) = some (r1, r2, r3) := by rw [if_pos rfl] at H; exact H
                clear H
                have H := H1
                clear H1
                have H' := Aside0.mk H
                clear H
                go_wp2
                go_meet
                case rel => exact ⟨_, (true), (by first | rfl | (simp; done) | (simp [*]; done)), H', ⟨by have := HJ2.out; have := HJ14.out; first | omega | exact Nat.le_refl _⟩, ⟨by (with_reducible repeat (first | refine blk_drewN ?_ _ | refine blk_drew ?_ | refine blk_alloc ?_ _)); exact BK268.out⟩, ⟨by repeat (first | (with_reducible first | exact HB.out | apply below_alloc | apply pw_below_drewN | apply below_drew1 | refine below_set ?_ GE268.out) | exact HB.out)⟩⟩
              · replace c23 := Bool.eq_false_iff.mpr c23
                subst c23
                have H1 : (if t270 = true then (if a1_2 = 0 then (tollbarref07_Response.j2 kj14 t269 t270 t271 true) else ((tollbarref07_Coded.f kj14 l1_3).bind fun t273 => (if t273 = true then (if t269 = true then (if t272 = true then (tollbarref07_Response.j2 kj14 t269 t270 t271 (decide (t271 > 4096))) else (tollbarref07_Response.j2 kj14 t269 t270 t271 true)) else (tollbarref07_Response.j2 kj14 t269 t270 t271 false)) else (tollbarref07_Response.j2 kj14 t269 t270 t271 (!t273))))) else (if t269 = true then (if t272 = true then (tollbarref07_Response.j2 kj14 t269 t270 t271 (decide (t271 > 4096))) else (tollbarref07_Response.j2 kj14 t269 t270 t271 true)) else (tollbarref07_Response.j2 kj14 t269 t270 t271 false))) = some (r1, r2, r3) := by rw [if_neg (show ¬ (false = true) by decide)] at H; exact H
                clear H
                have H := H1
                clear H1
                by_cases c24 : t270 = true
                · subst c24
                  have H1 : (if a1_2 = 0 then (tollbarref07_Response.j2 kj14 t269 true t271 true) else ((tollbarref07_Coded.f kj14 l1_3).bind fun t273 => (if t273 = true then (if t269 = true then (if t272 = true then (tollbarref07_Response.j2 kj14 t269 true t271 (decide (t271 > 4096))) else (tollbarref07_Response.j2 kj14 t269 true t271 true)) else (tollbarref07_Response.j2 kj14 t269 true t271 false)) else (tollbarref07_Response.j2 kj14 t269 true t271 (!t273))))) = some (r1, r2, r3) := by rw [if_pos rfl] at H; exact H
                  clear H
                  have H := H1
                  clear H1
                  by_cases c25 : a1_2 = 0
                  · rw [if_pos c25] at H
                    have c25b0 : (a1_2 == 0) = true := beq_iff_eq.mpr c25
                    have c25b1 : (a1_2 != 0) = false := bne_eq_false_iff_eq.mpr c25
                    clear c25
                    (first | rw [c25b0] | (simp only [i64_w, i32_w]; rw [c25b0]) | skip)
                    have H' := Aside0.mk H
                    clear H
                    have hcz26_0 : wc.cell? ⟨gb268, 0, none⟩ = some (.int .i64 a1_0) := (blk_cell BK268.out 0).trans rfl
                    have hcz26_1 : wc.cell? ⟨gb268, 1, none⟩ = some (.string a1_1) := (blk_cell BK268.out 1).trans rfl
                    have hcz26_2 : wc.cell? ⟨gb268, 2, none⟩ = some (.int .i64 a1_2) := (blk_cell BK268.out 2).trans rfl
                    have hcz26_3 : wc.cell? ⟨gb268, 3, none⟩ = some (.slice A1_3 l1_3.length c1_3) := (blk_cell BK268.out 3).trans rfl
                    have hcz26_4 : wc.cell? ⟨gb268, 4, none⟩ = some (.slice A1_4 l1_4.length c1_4) := (blk_cell BK268.out 4).trans rfl
                    have hfz26_0 := blk_frozen BK268.out 0
                    have hfz26_1 := blk_frozen BK268.out 1
                    have hfz26_2 := blk_frozen BK268.out 2
                    have hfz26_3 := blk_frozen BK268.out 3
                    have hfz26_4 := blk_frozen BK268.out 4
                    go_wp2
                    go_meet
                    case rel => exact ⟨_, (true), (by first | rfl | (simp; done) | (simp [*]; done)), H', ⟨by have := HJ2.out; have := HJ14.out; first | omega | exact Nat.le_refl _⟩, ⟨by (with_reducible repeat (first | refine blk_drewN ?_ _ | refine blk_drew ?_ | refine blk_alloc ?_ _)); exact BK268.out⟩, ⟨by repeat (first | (with_reducible first | exact HB.out | apply below_alloc | apply pw_below_drewN | apply below_drew1 | refine below_set ?_ GE268.out) | exact HB.out)⟩⟩
                  · rw [if_neg c25] at H
                    have c25b0 : (a1_2 == 0) = false := beq_eq_false_iff_ne.mpr c25
                    have c25b1 : (a1_2 != 0) = true := bne_iff_ne.mpr c25
                    (first | rw [c25b0] | (simp only [i64_w, i32_w]; rw [c25b0]) | skip)
                    replace H := Option.bind_eq_some_iff.mp H
                    obtain ⟨t273, A270, H⟩ := H
                    replace H : (if t273 = true then (if t269 = true then (if t272 = true then (tollbarref07_Response.j2 kj14 t269 true t271 (decide (t271 > 4096))) else (tollbarref07_Response.j2 kj14 t269 true t271 true)) else (tollbarref07_Response.j2 kj14 t269 true t271 false)) else (tollbarref07_Response.j2 kj14 t269 true t271 (!t273))) = some (r1, r2, r3) := H
                    have A27 := Aside0.mk A270
                    clear A270
                    by_cases c28 : t273 = true
                    · subst c28
                      have H1 : (if t269 = true then (if t272 = true then (tollbarref07_Response.j2 kj14 t269 true t271 (decide (t271 > 4096))) else (tollbarref07_Response.j2 kj14 t269 true t271 true)) else (tollbarref07_Response.j2 kj14 t269 true t271 false)) = some (r1, r2, r3) := by rw [if_pos rfl] at H; exact H
                      clear H
                      have H := H1
                      clear H1
                      by_cases c29 : t269 = true
                      · subst c29
                        have H1 : (if t272 = true then (tollbarref07_Response.j2 kj14 true true t271 (decide (t271 > 4096))) else (tollbarref07_Response.j2 kj14 true true t271 true)) = some (r1, r2, r3) := by rw [if_pos rfl] at H; exact H
                        clear H
                        have H := H1
                        clear H1
                        by_cases c30 : t272 = true
                        · subst c30
                          have H1 : (tollbarref07_Response.j2 kj14 true true t271 (decide (t271 > 4096))) = some (r1, r2, r3) := by rw [if_pos rfl] at H; exact H
                          clear H
                          have H := H1
                          clear H1
                          have H' := Aside0.mk H
                          clear H
                          have hcz31_0 : wc.cell? ⟨gb268, 0, none⟩ = some (.int .i64 a1_0) := (blk_cell BK268.out 0).trans rfl
                          have hcz31_1 : wc.cell? ⟨gb268, 1, none⟩ = some (.string a1_1) := (blk_cell BK268.out 1).trans rfl
                          have hcz31_2 : wc.cell? ⟨gb268, 2, none⟩ = some (.int .i64 a1_2) := (blk_cell BK268.out 2).trans rfl
                          have hcz31_3 : wc.cell? ⟨gb268, 3, none⟩ = some (.slice A1_3 l1_3.length c1_3) := (blk_cell BK268.out 3).trans rfl
                          have hcz31_4 : wc.cell? ⟨gb268, 4, none⟩ = some (.slice A1_4 l1_4.length c1_4) := (blk_cell BK268.out 4).trans rfl
                          have hfz31_0 := blk_frozen BK268.out 0
                          have hfz31_1 := blk_frozen BK268.out 1
                          have hfz31_2 := blk_frozen BK268.out 2
                          have hfz31_3 := blk_frozen BK268.out 3
                          have hfz31_4 := blk_frozen BK268.out 4
                          go_wp2_with (first | (go_at_call 64; (with_reducible refine (tollbarref07_Coded.calls kj14 _ _ l1_3 true _ ?side1 ?side2 A27.out).mono ?_); (case side1 => repeat (first | exact (Kd.C_below HR1_3.out HB.out) | (with_reducible refine Kd.C_alloc ?_ _) | (with_reducible refine Kd.C_drewN ?_ _) | (with_reducible refine Kd.C_drew ?_))); (case side2 => exact HC1_3.out); rintro e w32 ⟨rfl, hb⟩; have n0_ := Aside0.mk (blk_below (g := gb268) (o := .cells #[.int .i64 a1_0, .string a1_1, .int .i64 a1_2, .slice A1_3 l1_3.length c1_3, .slice A1_4 l1_4.length c1_4] 53 (0, 0)) (by (with_reducible repeat (first | refine blk_drewN ?_ _ | refine blk_drew ?_ | refine blk_alloc ?_ _)); exact BK268.out) hb); have n1_ := Aside0.mk (below_step (by repeat (first | (with_reducible first | exact HB.out | apply below_alloc | apply pw_below_drewN | apply below_drew1 | refine below_set ?_ GE268.out) | exact HB.out)) hb); clear BK268; clear HB; have BK268 := n0_; have HB := n1_; clear n0_ n1_; (try clear hb); (try clear hb2); (try clear hk); (try clear hi)))
                          go_meet
                          case rel => exact ⟨_, (decide (t271 > 4096)), (by first | rfl | (simp; done) | (simp [*]; done)), H', ⟨by have := HJ2.out; have := HJ14.out; first | omega | exact Nat.le_refl _⟩, ⟨by (with_reducible repeat (first | refine blk_drewN ?_ _ | refine blk_drew ?_ | refine blk_alloc ?_ _)); exact BK268.out⟩, ⟨by repeat (first | (with_reducible first | exact HB.out | apply below_alloc | apply pw_below_drewN | apply below_drew1 | refine below_set ?_ GE268.out) | exact HB.out)⟩⟩
                        · replace c30 := Bool.eq_false_iff.mpr c30
                          subst c30
                          have H1 : (tollbarref07_Response.j2 kj14 true true t271 true) = some (r1, r2, r3) := by rw [if_neg (show ¬ (false = true) by decide)] at H; exact H
                          clear H
                          have H := H1
                          clear H1
                          have H' := Aside0.mk H
                          clear H
                          have hcz33_0 : wc.cell? ⟨gb268, 0, none⟩ = some (.int .i64 a1_0) := (blk_cell BK268.out 0).trans rfl
                          have hcz33_1 : wc.cell? ⟨gb268, 1, none⟩ = some (.string a1_1) := (blk_cell BK268.out 1).trans rfl
                          have hcz33_2 : wc.cell? ⟨gb268, 2, none⟩ = some (.int .i64 a1_2) := (blk_cell BK268.out 2).trans rfl
                          have hcz33_3 : wc.cell? ⟨gb268, 3, none⟩ = some (.slice A1_3 l1_3.length c1_3) := (blk_cell BK268.out 3).trans rfl
                          have hcz33_4 : wc.cell? ⟨gb268, 4, none⟩ = some (.slice A1_4 l1_4.length c1_4) := (blk_cell BK268.out 4).trans rfl
                          have hfz33_0 := blk_frozen BK268.out 0
                          have hfz33_1 := blk_frozen BK268.out 1
                          have hfz33_2 := blk_frozen BK268.out 2
                          have hfz33_3 := blk_frozen BK268.out 3
                          have hfz33_4 := blk_frozen BK268.out 4
                          go_wp2_with (first | (go_at_call 64; (with_reducible refine (tollbarref07_Coded.calls kj14 _ _ l1_3 true _ ?side1 ?side2 A27.out).mono ?_); (case side1 => repeat (first | exact (Kd.C_below HR1_3.out HB.out) | (with_reducible refine Kd.C_alloc ?_ _) | (with_reducible refine Kd.C_drewN ?_ _) | (with_reducible refine Kd.C_drew ?_))); (case side2 => exact HC1_3.out); rintro e w34 ⟨rfl, hb⟩; have n0_ := Aside0.mk (blk_below (g := gb268) (o := .cells #[.int .i64 a1_0, .string a1_1, .int .i64 a1_2, .slice A1_3 l1_3.length c1_3, .slice A1_4 l1_4.length c1_4] 53 (0, 0)) (by (with_reducible repeat (first | refine blk_drewN ?_ _ | refine blk_drew ?_ | refine blk_alloc ?_ _)); exact BK268.out) hb); have n1_ := Aside0.mk (below_step (by repeat (first | (with_reducible first | exact HB.out | apply below_alloc | apply pw_below_drewN | apply below_drew1 | refine below_set ?_ GE268.out) | exact HB.out)) hb); clear BK268; clear HB; have BK268 := n0_; have HB := n1_; clear n0_ n1_; (try clear hb); (try clear hb2); (try clear hk); (try clear hi)))
                          go_meet
                          case rel => exact ⟨_, (true), (by first | rfl | (simp; done) | (simp [*]; done)), H', ⟨by have := HJ2.out; have := HJ14.out; first | omega | exact Nat.le_refl _⟩, ⟨by (with_reducible repeat (first | refine blk_drewN ?_ _ | refine blk_drew ?_ | refine blk_alloc ?_ _)); exact BK268.out⟩, ⟨by repeat (first | (with_reducible first | exact HB.out | apply below_alloc | apply pw_below_drewN | apply below_drew1 | refine below_set ?_ GE268.out) | exact HB.out)⟩⟩
                      · replace c29 := Bool.eq_false_iff.mpr c29
                        subst c29
                        have H1 : (tollbarref07_Response.j2 kj14 false true t271 false) = some (r1, r2, r3) := by rw [if_neg (show ¬ (false = true) by decide)] at H; exact H
                        clear H
                        have H := H1
                        clear H1
                        have H' := Aside0.mk H
                        clear H
                        have hcz35_0 : wc.cell? ⟨gb268, 0, none⟩ = some (.int .i64 a1_0) := (blk_cell BK268.out 0).trans rfl
                        have hcz35_1 : wc.cell? ⟨gb268, 1, none⟩ = some (.string a1_1) := (blk_cell BK268.out 1).trans rfl
                        have hcz35_2 : wc.cell? ⟨gb268, 2, none⟩ = some (.int .i64 a1_2) := (blk_cell BK268.out 2).trans rfl
                        have hcz35_3 : wc.cell? ⟨gb268, 3, none⟩ = some (.slice A1_3 l1_3.length c1_3) := (blk_cell BK268.out 3).trans rfl
                        have hcz35_4 : wc.cell? ⟨gb268, 4, none⟩ = some (.slice A1_4 l1_4.length c1_4) := (blk_cell BK268.out 4).trans rfl
                        have hfz35_0 := blk_frozen BK268.out 0
                        have hfz35_1 := blk_frozen BK268.out 1
                        have hfz35_2 := blk_frozen BK268.out 2
                        have hfz35_3 := blk_frozen BK268.out 3
                        have hfz35_4 := blk_frozen BK268.out 4
                        go_wp2_with (first | (go_at_call 64; (with_reducible refine (tollbarref07_Coded.calls kj14 _ _ l1_3 true _ ?side1 ?side2 A27.out).mono ?_); (case side1 => repeat (first | exact (Kd.C_below HR1_3.out HB.out) | (with_reducible refine Kd.C_alloc ?_ _) | (with_reducible refine Kd.C_drewN ?_ _) | (with_reducible refine Kd.C_drew ?_))); (case side2 => exact HC1_3.out); rintro e w36 ⟨rfl, hb⟩; have n0_ := Aside0.mk (blk_below (g := gb268) (o := .cells #[.int .i64 a1_0, .string a1_1, .int .i64 a1_2, .slice A1_3 l1_3.length c1_3, .slice A1_4 l1_4.length c1_4] 53 (0, 0)) (by (with_reducible repeat (first | refine blk_drewN ?_ _ | refine blk_drew ?_ | refine blk_alloc ?_ _)); exact BK268.out) hb); have n1_ := Aside0.mk (below_step (by repeat (first | (with_reducible first | exact HB.out | apply below_alloc | apply pw_below_drewN | apply below_drew1 | refine below_set ?_ GE268.out) | exact HB.out)) hb); clear BK268; clear HB; have BK268 := n0_; have HB := n1_; clear n0_ n1_; (try clear hb); (try clear hb2); (try clear hk); (try clear hi)))
                        go_meet
                        case rel => exact ⟨_, (false), (by first | rfl | (simp; done) | (simp [*]; done)), H', ⟨by have := HJ2.out; have := HJ14.out; first | omega | exact Nat.le_refl _⟩, ⟨by (with_reducible repeat (first | refine blk_drewN ?_ _ | refine blk_drew ?_ | refine blk_alloc ?_ _)); exact BK268.out⟩, ⟨by repeat (first | (with_reducible first | exact HB.out | apply below_alloc | apply pw_below_drewN | apply below_drew1 | refine below_set ?_ GE268.out) | exact HB.out)⟩⟩
                    · replace c28 := Bool.eq_false_iff.mpr c28
                      subst c28
                      have H1 : (tollbarref07_Response.j2 kj14 t269 true t271 (!false)) = some (r1, r2, r3) := by rw [if_neg (show ¬ (false = true) by decide)] at H; exact H
                      clear H
                      have H := H1
                      clear H1
                      have H' := Aside0.mk H
                      clear H
                      have hcz37_0 : wc.cell? ⟨gb268, 0, none⟩ = some (.int .i64 a1_0) := (blk_cell BK268.out 0).trans rfl
                      have hcz37_1 : wc.cell? ⟨gb268, 1, none⟩ = some (.string a1_1) := (blk_cell BK268.out 1).trans rfl
                      have hcz37_2 : wc.cell? ⟨gb268, 2, none⟩ = some (.int .i64 a1_2) := (blk_cell BK268.out 2).trans rfl
                      have hcz37_3 : wc.cell? ⟨gb268, 3, none⟩ = some (.slice A1_3 l1_3.length c1_3) := (blk_cell BK268.out 3).trans rfl
                      have hcz37_4 : wc.cell? ⟨gb268, 4, none⟩ = some (.slice A1_4 l1_4.length c1_4) := (blk_cell BK268.out 4).trans rfl
                      have hfz37_0 := blk_frozen BK268.out 0
                      have hfz37_1 := blk_frozen BK268.out 1
                      have hfz37_2 := blk_frozen BK268.out 2
                      have hfz37_3 := blk_frozen BK268.out 3
                      have hfz37_4 := blk_frozen BK268.out 4
                      go_wp2_with (first | (go_at_call 64; (with_reducible refine (tollbarref07_Coded.calls kj14 _ _ l1_3 false _ ?side1 ?side2 A27.out).mono ?_); (case side1 => repeat (first | exact (Kd.C_below HR1_3.out HB.out) | (with_reducible refine Kd.C_alloc ?_ _) | (with_reducible refine Kd.C_drewN ?_ _) | (with_reducible refine Kd.C_drew ?_))); (case side2 => exact HC1_3.out); rintro e w38 ⟨rfl, hb⟩; have n0_ := Aside0.mk (blk_below (g := gb268) (o := .cells #[.int .i64 a1_0, .string a1_1, .int .i64 a1_2, .slice A1_3 l1_3.length c1_3, .slice A1_4 l1_4.length c1_4] 53 (0, 0)) (by (with_reducible repeat (first | refine blk_drewN ?_ _ | refine blk_drew ?_ | refine blk_alloc ?_ _)); exact BK268.out) hb); have n1_ := Aside0.mk (below_step (by repeat (first | (with_reducible first | exact HB.out | apply below_alloc | apply pw_below_drewN | apply below_drew1 | refine below_set ?_ GE268.out) | exact HB.out)) hb); clear BK268; clear HB; have BK268 := n0_; have HB := n1_; clear n0_ n1_; (try clear hb); (try clear hb2); (try clear hk); (try clear hi)))
                      go_meet
                      case rel => exact ⟨_, (!false), (by first | rfl | (simp; done) | (simp [*]; done)), H', ⟨by have := HJ2.out; have := HJ14.out; first | omega | exact Nat.le_refl _⟩, ⟨by (with_reducible repeat (first | refine blk_drewN ?_ _ | refine blk_drew ?_ | refine blk_alloc ?_ _)); exact BK268.out⟩, ⟨by repeat (first | (with_reducible first | exact HB.out | apply below_alloc | apply pw_below_drewN | apply below_drew1 | refine below_set ?_ GE268.out) | exact HB.out)⟩⟩
                · replace c24 := Bool.eq_false_iff.mpr c24
                  subst c24
                  have H1 : (if t269 = true then (if t272 = true then (tollbarref07_Response.j2 kj14 t269 false t271 (decide (t271 > 4096))) else (tollbarref07_Response.j2 kj14 t269 false t271 true)) else (tollbarref07_Response.j2 kj14 t269 false t271 false)) = some (r1, r2, r3) := by rw [if_neg (show ¬ (false = true) by decide)] at H; exact H
                  clear H
                  have H := H1
                  clear H1
                  by_cases c39 : t269 = true
                  · subst c39
                    have H1 : (if t272 = true then (tollbarref07_Response.j2 kj14 true false t271 (decide (t271 > 4096))) else (tollbarref07_Response.j2 kj14 true false t271 true)) = some (r1, r2, r3) := by rw [if_pos rfl] at H; exact H
                    clear H
                    have H := H1
                    clear H1
                    by_cases c40 : t272 = true
                    · subst c40
                      have H1 : (tollbarref07_Response.j2 kj14 true false t271 (decide (t271 > 4096))) = some (r1, r2, r3) := by rw [if_pos rfl] at H; exact H
                      clear H
                      have H := H1
                      clear H1
                      have H' := Aside0.mk H
                      clear H
                      go_wp2
                      go_meet
                      case rel => exact ⟨_, (decide (t271 > 4096)), (by first | rfl | (simp; done) | (simp [*]; done)), H', ⟨by have := HJ2.out; have := HJ14.out; first | omega | exact Nat.le_refl _⟩, ⟨by (with_reducible repeat (first | refine blk_drewN ?_ _ | refine blk_drew ?_ | refine blk_alloc ?_ _)); exact BK268.out⟩, ⟨by repeat (first | (with_reducible first | exact HB.out | apply below_alloc | apply pw_below_drewN | apply below_drew1 | refine below_set ?_ GE268.out) | exact HB.out)⟩⟩
                    · replace c40 := Bool.eq_false_iff.mpr c40
                      subst c40
                      have H1 : (tollbarref07_Response.j2 kj14 true false t271 true) = some (r1, r2, r3) := by rw [if_neg (show ¬ (false = true) by decide)] at H; exact H
                      clear H
                      have H := H1
                      clear H1
                      have H' := Aside0.mk H
                      clear H
                      go_wp2
                      go_meet
                      case rel => exact ⟨_, (true), (by first | rfl | (simp; done) | (simp [*]; done)), H', ⟨by have := HJ2.out; have := HJ14.out; first | omega | exact Nat.le_refl _⟩, ⟨by (with_reducible repeat (first | refine blk_drewN ?_ _ | refine blk_drew ?_ | refine blk_alloc ?_ _)); exact BK268.out⟩, ⟨by repeat (first | (with_reducible first | exact HB.out | apply below_alloc | apply pw_below_drewN | apply below_drew1 | refine below_set ?_ GE268.out) | exact HB.out)⟩⟩
                  · replace c39 := Bool.eq_false_iff.mpr c39
                    subst c39
                    have H1 : (tollbarref07_Response.j2 kj14 false false t271 false) = some (r1, r2, r3) := by rw [if_neg (show ¬ (false = true) by decide)] at H; exact H
                    clear H
                    have H := H1
                    clear H1
                    have H' := Aside0.mk H
                    clear H
                    go_wp2
                    go_meet
                    case rel => exact ⟨_, (false), (by first | rfl | (simp; done) | (simp [*]; done)), H', ⟨by have := HJ2.out; have := HJ14.out; first | omega | exact Nat.le_refl _⟩, ⟨by (with_reducible repeat (first | refine blk_drewN ?_ _ | refine blk_drew ?_ | refine blk_alloc ?_ _)); exact BK268.out⟩, ⟨by repeat (first | (with_reducible first | exact HB.out | apply below_alloc | apply pw_below_drewN | apply below_drew1 | refine below_set ?_ GE268.out) | exact HB.out)⟩⟩
            case rest =>
              clear HC22
              try clear c1
              try clear c2
              try clear p2
              try clear c3
              try clear c4
              try clear c5
              try clear c5b0
              try clear c5b1
              try clear c6
              try clear c6b0
              try clear c8
              try clear c8b0
              try clear c8b1
              try clear c11
              try clear c21
              try clear c23
              try clear c24
              try clear c25
              try clear c25b0
              try clear c25b1
              try clear c28
              try clear c29
              try clear c30
              try clear c39
              try clear c40
              try clear hcz10_0
              try clear hcz10_1
              try clear hcz10_2
              try clear hcz10_3
              try clear hcz10_4
              try clear hcz19_0
              try clear hcz19_1
              try clear hcz19_2
              try clear hcz19_3
              try clear hcz19_4
              try clear hcz26_0
              try clear hcz26_1
              try clear hcz26_2
              try clear hcz26_3
              try clear hcz26_4
              try clear hcz31_0
              try clear hcz31_1
              try clear hcz31_2
              try clear hcz31_3
              try clear hcz31_4
              try clear hcz33_0
              try clear hcz33_1
              try clear hcz33_2
              try clear hcz33_3
              try clear hcz33_4
              try clear hcz35_0
              try clear hcz35_1
              try clear hcz35_2
              try clear hcz35_3
              try clear hcz35_4
              try clear hcz37_0
              try clear hcz37_1
              try clear hcz37_2
              try clear hcz37_3
              try clear hcz37_4
              try clear hcz7_0
              try clear hcz7_1
              try clear hcz7_2
              try clear hcz7_3
              try clear hcz7_4
              try clear hcz9_0
              try clear hcz9_1
              try clear hcz9_2
              try clear hcz9_3
              try clear hcz9_4
              try clear hfz10_0
              try clear hfz10_1
              try clear hfz10_2
              try clear hfz10_3
              try clear hfz10_4
              try clear hfz19_0
              try clear hfz19_1
              try clear hfz19_2
              try clear hfz19_3
              try clear hfz19_4
              try clear hfz26_0
              try clear hfz26_1
              try clear hfz26_2
              try clear hfz26_3
              try clear hfz26_4
              try clear hfz31_0
              try clear hfz31_1
              try clear hfz31_2
              try clear hfz31_3
              try clear hfz31_4
              try clear hfz33_0
              try clear hfz33_1
              try clear hfz33_2
              try clear hfz33_3
              try clear hfz33_4
              try clear hfz35_0
              try clear hfz35_1
              try clear hfz35_2
              try clear hfz35_3
              try clear hfz35_4
              try clear hfz37_0
              try clear hfz37_1
              try clear hfz37_2
              try clear hfz37_3
              try clear hfz37_4
              try clear hfz7_0
              try clear hfz7_1
              try clear hfz7_2
              try clear hfz7_3
              try clear hfz7_4
              try clear hfz9_0
              try clear hfz9_1
              try clear hfz9_2
              try clear hfz9_3
              try clear hfz9_4
              try clear p2
              obtain ⟨kq, x40_21, rfl, HA, HJ21, BK268, HB⟩ := hcut
              cases kq with
              | zero => exact absurd HA.out (by simp [tollbarref07_Response.j2])
              | succ kj21 =>
                have H := HA.out
                clear HA
                simp only [tollbarref07_Response.j2] at H
                by_cases c41 : x40_21 = true
                · subst c41
                  have H1 : (some (0, 0, false)) = some (r1, r2, r3) := by rw [if_pos rfl] at H; exact H
                  clear H
                  have H := H1
                  clear H1
                  simp only [Option.some.injEq, Prod.mk.injEq] at H
                  obtain ⟨rfl, rfl, rfl⟩ := H
                  go_wp2
                  go_ret3
                  exact ⟨by first | rfl | (simp [errW_none, errW_some] <;> rfl) | (simp [*, errW_none, errW_some] <;> rfl), by repeat (first | (with_reducible first | exact HB.out | apply below_alloc | apply pw_below_drewN | apply below_drew1 | refine below_set ?_ GE268.out) | exact HB.out)⟩
                · replace c41 := Bool.eq_false_iff.mpr c41
                  subst c41
                  have H1 : (if t270 = true then (some (2, 0, true)) else (if t269 = true then (some (1, t271, true)) else (some (3, 0, true)))) = some (r1, r2, r3) := by rw [if_neg (show ¬ (false = true) by decide)] at H; exact H
                  clear H
                  have H := H1
                  clear H1
                  by_cases c42 : t270 = true
                  · subst c42
                    have H1 : (some (2, 0, true)) = some (r1, r2, r3) := by rw [if_pos rfl] at H; exact H
                    clear H
                    have H := H1
                    clear H1
                    simp only [Option.some.injEq, Prod.mk.injEq] at H
                    obtain ⟨rfl, rfl, rfl⟩ := H
                    go_wp2
                    go_ret3
                    exact ⟨by first | rfl | (simp [errW_none, errW_some] <;> rfl) | (simp [*, errW_none, errW_some] <;> rfl), by repeat (first | (with_reducible first | exact HB.out | apply below_alloc | apply pw_below_drewN | apply below_drew1 | refine below_set ?_ GE268.out) | exact HB.out)⟩
                  · replace c42 := Bool.eq_false_iff.mpr c42
                    subst c42
                    have H1 : (if t269 = true then (some (1, t271, true)) else (some (3, 0, true))) = some (r1, r2, r3) := by rw [if_neg (show ¬ (false = true) by decide)] at H; exact H
                    clear H
                    have H := H1
                    clear H1
                    by_cases c43 : t269 = true
                    · subst c43
                      have H1 : (some (1, t271, true)) = some (r1, r2, r3) := by rw [if_pos rfl] at H; exact H
                      clear H
                      have H := H1
                      clear H1
                      simp only [Option.some.injEq, Prod.mk.injEq] at H
                      obtain ⟨rfl, rfl, rfl⟩ := H
                      go_wp2
                      go_ret3
                      exact ⟨by first | rfl | (simp [errW_none, errW_some] <;> rfl) | (simp [*, errW_none, errW_some] <;> rfl), by repeat (first | (with_reducible first | exact HB.out | apply below_alloc | apply pw_below_drewN | apply below_drew1 | refine below_set ?_ GE268.out) | exact HB.out)⟩
                    · replace c43 := Bool.eq_false_iff.mpr c43
                      subst c43
                      have H1 : (some (3, 0, true)) = some (r1, r2, r3) := by rw [if_neg (show ¬ (false = true) by decide)] at H; exact H
                      clear H
                      have H := H1
                      clear H1
                      simp only [Option.some.injEq, Prod.mk.injEq] at H
                      obtain ⟨rfl, rfl, rfl⟩ := H
                      go_wp2
                      go_ret3
                      exact ⟨by first | rfl | (simp [errW_none, errW_some] <;> rfl) | (simp [*, errW_none, errW_some] <;> rfl), by repeat (first | (with_reducible first | exact HB.out | apply below_alloc | apply pw_below_drewN | apply below_drew1 | refine below_set ?_ GE268.out) | exact HB.out)⟩

end Go.Proofs.YtijindelbagpiaaDoor.PFrame
