-- Written by this session's program xprint.py over the kit's print, with contracts given by hand. Not trusted: Lean checks it.
import Derived.Test.YtijindelbagpiaaDoorPAllx0
import Derived.Test.YtijindelbagpiaaDoorPAllx1
import Derived.Test.YtijindelbagpiaaDoorPAllx4
import Derived.Test.YtijindelbagpiaaDoorPAllx8
import Derived.Test.YtijindelbagpiaaDoorPAllx9
namespace Go.Proofs.YtijindelbagpiaaDoor.PAll
open Go.RowKit Go.Proofs.YtijindelbagpiaaDoorW.PrintWords Go.Proofs.YtijindelbagpiaaDoorW.PrintLast Go.Proofs.YtijindelbagpiaaDoorW.PrintMore
attribute [local go_sem] max2_int min2_int max_two min_two max_three min_three max_four min_four   -- for this text's walks alone
set_option linter.unusedVariables false
set_option linter.unusedSimpArgs false

attribute [local go_sem high] eqA24
/-! ### tollbarlaw04_FieldBack: function 8 -/
mutual
def tollbarlaw04_FieldBack.j0 : Nat → Bool → ByteArray → ByteArray → Option (Bool)
  | 0, _, _, _ => none
  | k + 1, x12, x479000, x479001 => if x12 = true then (none) else ((field_Right.f k (([(⟨x479000, x479001⟩ : S24)] : List (S24)))).bind fun t484 => (if t484 = true then ((field_Line.f x479000 x479001).bind fun t485 => (if (t485.size : Int) = (wrap64 ((wrap64 ((x479000.size : Int) + (x479001.size : Int))) + 4)) then (if 0 ≤ (wrap64 ((t485.size : Int) - 2)) then (if (wrap64 ((t485.size : Int) - 2)) ≤ (t485.size : Int) then (tollbarlaw04_FieldBack.j1 k t485 ((t485.extract ((wrap64 ((t485.size : Int) - 2)) : Int).toNat t485.size).toList != ([13, 10] : List UInt8)) x479000 x479001) else (none)) else (none)) else (tollbarlaw04_FieldBack.j1 k t485 true x479000 x479001))) else (some true)))
def tollbarlaw04_FieldBack.j1 : Nat → ByteArray → Bool → ByteArray → ByteArray → Option (Bool)
  | 0, _, _, _, _ => none
  | k + 1, x3, x37, x479000, x479001 => if x37 = true then (none) else (tollbarlaw04_FieldBack.l0 k x3 0 x479000 x479001)
def tollbarlaw04_FieldBack.l0 : Nat → ByteArray → Int → ByteArray → ByteArray → Option (Bool)
  | 0, _, _, _, _ => none
  | k + 1, x3, x4, x479000, x479001 => if x4 < (wrap64 ((x3.size : Int) - 2)) then (if 0 ≤ x4 then (if x4 < (x3.size : Int) then (if (bt x3 x4) = 13 then (none) else (if (bt x3 x4) = 10 then (none) else (tollbarlaw04_FieldBack.l0 k x3 (wrap64 (x4 + 1)) x479000 x479001))) else (none)) else (none)) else (if 0 ≤ (wrap64 ((x3.size : Int) - 2)) then (if (wrap64 ((x3.size : Int) - 2)) ≤ (x3.size : Int) then ((field_Parse.f k (x3.extract 0 ((wrap64 ((x3.size : Int) - 2)) : Int).toNat)).bind fun bt486 => (if bt486.2.2 = 0 then (some (bt486.1.toList == x479000.toList && (bt486.2.1.toList == x479001.toList))) else (none))) else (none)) else (none))
end
def tollbarlaw04_FieldBack.f (k : Nat) (a0_0 : ByteArray) (a0_1 : ByteArray) : Option (Bool) := (tollbarlaw04_parsing.f k).bind fun t479 => (if t479 = true then ((tollbarlaw04_looking.f k).bind fun t480 => (tollbarlaw04_FieldBack.j0 k (!t480) a0_0 a0_1)) else (tollbarlaw04_FieldBack.j0 k true a0_0 a0_1))
theorem tollbarlaw04_FieldBack.mono_l : ∀ k, (∀ y0 y1 y2, LeO (tollbarlaw04_FieldBack.j0 k y0 y1 y2) (tollbarlaw04_FieldBack.j0 (k + 1) y0 y1 y2)) ∧ (∀ y0 y1 y2 y3, LeO (tollbarlaw04_FieldBack.j1 k y0 y1 y2 y3) (tollbarlaw04_FieldBack.j1 (k + 1) y0 y1 y2 y3)) ∧ (∀ y0 y1 y2 y3, LeO (tollbarlaw04_FieldBack.l0 k y0 y1 y2 y3) (tollbarlaw04_FieldBack.l0 (k + 1) y0 y1 y2 y3))
  | 0 => ⟨fun _ _ _ r h => by simp [tollbarlaw04_FieldBack.j0] at h, fun _ _ _ _ r h => by simp [tollbarlaw04_FieldBack.j1] at h, fun _ _ _ _ r h => by simp [tollbarlaw04_FieldBack.l0] at h⟩
  | k + 1 => by
    obtain ⟨ih0, ih1, ih2⟩ := tollbarlaw04_FieldBack.mono_l k
    refine ⟨?_, ?_, ?_⟩
    · intro y0 y1 y2
      unfold tollbarlaw04_FieldBack.j0
      repeat' first
      | (with_reducible exact ih0 _ _ _)
      | (with_reducible exact ih1 _ _ _ _)
      | (with_reducible exact ih2 _ _ _ _)
      | (with_reducible exact field_Parse.mono _ _)
      | (with_reducible exact field_Right.mono _ _)
      | (with_reducible exact tollbarlaw04_looking.mono _)
      | (with_reducible exact tollbarlaw04_parsing.mono _)
      | (with_reducible exact LeO.refl _)
      | (with_reducible exact LeO.none _)
      | (with_reducible refine LeO.ite ?_ ?_)
      | (with_reducible refine LeO.bind ?_ (fun _ => ?_))
      | exact ih0 _ _ _
      | exact ih1 _ _ _ _
      | exact ih2 _ _ _ _
      | exact field_Parse.mono _ _
      | exact field_Right.mono _ _
      | exact tollbarlaw04_looking.mono _
      | exact tollbarlaw04_parsing.mono _
      | exact LeO.none _
      | refine LeO.ite ?_ ?_
      | refine LeO.bind ?_ (fun _ => ?_)
    · intro y0 y1 y2 y3
      unfold tollbarlaw04_FieldBack.j1
      repeat' first
      | (with_reducible exact ih0 _ _ _)
      | (with_reducible exact ih1 _ _ _ _)
      | (with_reducible exact ih2 _ _ _ _)
      | (with_reducible exact field_Parse.mono _ _)
      | (with_reducible exact field_Right.mono _ _)
      | (with_reducible exact tollbarlaw04_looking.mono _)
      | (with_reducible exact tollbarlaw04_parsing.mono _)
      | (with_reducible exact LeO.refl _)
      | (with_reducible exact LeO.none _)
      | (with_reducible refine LeO.ite ?_ ?_)
      | (with_reducible refine LeO.bind ?_ (fun _ => ?_))
      | exact ih0 _ _ _
      | exact ih1 _ _ _ _
      | exact ih2 _ _ _ _
      | exact field_Parse.mono _ _
      | exact field_Right.mono _ _
      | exact tollbarlaw04_looking.mono _
      | exact tollbarlaw04_parsing.mono _
      | exact LeO.none _
      | refine LeO.ite ?_ ?_
      | refine LeO.bind ?_ (fun _ => ?_)
    · intro y0 y1 y2 y3
      unfold tollbarlaw04_FieldBack.l0
      repeat' first
      | (with_reducible exact ih0 _ _ _)
      | (with_reducible exact ih1 _ _ _ _)
      | (with_reducible exact ih2 _ _ _ _)
      | (with_reducible exact field_Parse.mono _ _)
      | (with_reducible exact field_Right.mono _ _)
      | (with_reducible exact tollbarlaw04_looking.mono _)
      | (with_reducible exact tollbarlaw04_parsing.mono _)
      | (with_reducible exact LeO.refl _)
      | (with_reducible exact LeO.none _)
      | (with_reducible refine LeO.ite ?_ ?_)
      | (with_reducible refine LeO.bind ?_ (fun _ => ?_))
      | exact ih0 _ _ _
      | exact ih1 _ _ _ _
      | exact ih2 _ _ _ _
      | exact field_Parse.mono _ _
      | exact field_Right.mono _ _
      | exact tollbarlaw04_looking.mono _
      | exact tollbarlaw04_parsing.mono _
      | exact LeO.none _
      | refine LeO.ite ?_ ?_
      | refine LeO.bind ?_ (fun _ => ?_)
theorem tollbarlaw04_FieldBack.mono : ∀ a0 a1 k, LeO (tollbarlaw04_FieldBack.f k a0 a1) (tollbarlaw04_FieldBack.f (k + 1) a0 a1) := by
  intro a0 a1 k
  obtain ⟨ih0, ih1, ih2⟩ := tollbarlaw04_FieldBack.mono_l k
  unfold tollbarlaw04_FieldBack.f
  repeat' first
      | (with_reducible exact ih0 _ _ _)
      | (with_reducible exact ih1 _ _ _ _)
      | (with_reducible exact ih2 _ _ _ _)
      | (with_reducible exact field_Parse.mono _ _)
      | (with_reducible exact field_Right.mono _ _)
      | (with_reducible exact tollbarlaw04_looking.mono _)
      | (with_reducible exact tollbarlaw04_parsing.mono _)
      | (with_reducible exact LeO.refl _)
      | (with_reducible exact LeO.none _)
      | (with_reducible refine LeO.ite ?_ ?_)
      | (with_reducible refine LeO.bind ?_ (fun _ => ?_))
      | exact ih0 _ _ _
      | exact ih1 _ _ _ _
      | exact ih2 _ _ _ _
      | exact field_Parse.mono _ _
      | exact field_Right.mono _ _
      | exact tollbarlaw04_looking.mono _
      | exact tollbarlaw04_parsing.mono _
      | exact LeO.none _
      | refine LeO.ite ?_ ?_
      | refine LeO.bind ?_ (fun _ => ?_)
set_option maxHeartbeats 8000000 in
set_option maxRecDepth 100000 in
theorem tollbarlaw04_FieldBack.calls (k : Nat) (a0_0 : ByteArray) (a0_1 : ByteArray) (r : Bool) (w : World) (h : tollbarlaw04_FieldBack.f k a0_0 a0_1 = some r) :
    Calls Tryd.prog 8 #[.agg #[.string a0_0, .string a0_1]] w fun e w' => e = .returned (.bool r) ∧ Below w.heap.size w w' := by
  have hu24 := Tryd.underlying24
  have HB := Aside0.mk (Below.refl w.heap.size w)
  have H : ((tollbarlaw04_parsing.f k).bind fun t479 => (if t479 = true then ((tollbarlaw04_looking.f k).bind fun t480 => (tollbarlaw04_FieldBack.j0 k (!t480) a0_0 a0_1)) else (tollbarlaw04_FieldBack.j0 k true a0_0 a0_1))) = some r := h
  clear h
  have HC2 := Aside0.mk H
  clear H
  go_enter Tryd.func8, Tryd.ntmps8
  go_upto_region 1 with (first | ((with_reducible refine gate_dst (N := 1) rfl ?_); (try (refine gate_guard (by rfl) ?_; dsimp only)); refine box_event ?hg (N := 1) ?hd (cs := #[.string a0_0, .string a0_1]) (t := 24) ?hr ?_; (case hd => rfl); (case hg => rfl); (case hr => first | (go_simp; done) | (go_simp; rfl)); intro gb478 hg w3 hbox hb; have n0_ := Aside0.mk (below_step (by repeat (first | (with_reducible first | exact HB.out | apply below_alloc | apply pw_below_drewN | apply below_drew1) | exact HB.out)) hb); have n1_ := Aside0.mk (hbox); have n2_ := Aside0.mk ((by rw [hg]; exact (below_size (by repeat (first | (with_reducible first | exact HB.out | apply below_alloc | apply pw_below_drewN | apply below_drew1) | exact HB.out))) : w.heap.size ≤ gb478)); have n3_ := Aside0.mk ((by rw [hg]; exact (below_size (by repeat (first | (with_reducible first | exact HB.out | apply below_alloc | apply pw_below_drewN | apply below_drew1) | exact HB.out))) : w.heap.size ≤ gb478)); clear HB; have HB := n0_; have BK478 := n1_; have GW478 := n2_; have GE478 := n3_; clear n0_ n1_ n2_ n3_; clear hb hbox hg))
  (try simp only [Act.put, List.setIfInBounds_toArray, List.set_cons_zero, List.set_cons_succ])
  go_cut [12] (fun v12 wc => ∃ (kq : Nat) (x12_1 : Bool), v12 = .bool x12_1 ∧ Aside0 (tollbarlaw04_FieldBack.j0 kq x12_1 a0_0 a0_1 = some r) ∧ Aside0 (kq ≤ k) ∧ Aside0 (wc.heap[gb478]? = some (.cells #[.string a0_0, .string a0_1] 24 (0, 0))) ∧ Aside0 (Below w.heap.size w wc))
  case first =>
    have H := HC2.out
    clear HC2
    replace H := Option.bind_eq_some_iff.mp H
    obtain ⟨t479, A40, H⟩ := H
    replace H : (if t479 = true then ((tollbarlaw04_looking.f k).bind fun t480 => (tollbarlaw04_FieldBack.j0 k (!t480) a0_0 a0_1)) else (tollbarlaw04_FieldBack.j0 k true a0_0 a0_1)) = some r := H
    have A4 := Aside0.mk A40
    clear A40
    by_cases c5 : t479 = true
    · subst c5
      have H1 : ((tollbarlaw04_looking.f k).bind fun t480 => (tollbarlaw04_FieldBack.j0 k (!t480) a0_0 a0_1)) = some r := by rw [if_pos rfl] at H; exact H
      clear H
      have H := H1
      clear H1
      replace H := Option.bind_eq_some_iff.mp H
      obtain ⟨t480, A60, H⟩ := H
      replace H : (tollbarlaw04_FieldBack.j0 k (!t480) a0_0 a0_1) = some r := H
      have A6 := Aside0.mk A60
      clear A60
      have H' := Aside0.mk H
      clear H
      go_wp2_with (first | ((with_reducible refine gate_callee (f := 15) rfl ?_); refine goesL_ (some 7) rfl rfl Tryd.func15 (by kernel_rfl) rfl #[] rfl (by (try simp only [List.map_toArray, List.map_cons, List.map_nil]); first | done | rfl | (simp only [List.length_drop, List.length_take]; rfl)) ?_; (with_reducible refine (tollbarlaw04_parsing.calls k  true _ A4.out).mono ?_); rintro e w7 ⟨rfl, hb⟩; refine ⟨_, rfl, ?_⟩; have n0_ := Aside0.mk (blk_below (g := gb478) (o := .cells #[.string a0_0, .string a0_1] 24 (0, 0)) (by (with_reducible repeat (first | refine blk_drewN ?_ _ | refine blk_drew ?_ | refine blk_alloc ?_ _)); exact BK478.out) hb); have n1_ := Aside0.mk (below_step (by repeat (first | (with_reducible first | exact HB.out | apply below_alloc | apply pw_below_drewN | apply below_drew1 | refine below_set ?_ GE478.out) | exact HB.out)) hb); clear BK478; clear HB; have BK478 := n0_; have HB := n1_; clear n0_ n1_; (try clear hb); (try clear hb2); (try clear hk); (try clear hi)) | (go_at_call 18; (with_reducible refine (tollbarlaw04_looking.calls k  t480 _ A6.out).mono ?_); rintro e w8 ⟨rfl, hb⟩; have n0_ := Aside0.mk (blk_below (g := gb478) (o := .cells #[.string a0_0, .string a0_1] 24 (0, 0)) (by (with_reducible repeat (first | refine blk_drewN ?_ _ | refine blk_drew ?_ | refine blk_alloc ?_ _)); exact BK478.out) hb); have n1_ := Aside0.mk (below_step (by repeat (first | (with_reducible first | exact HB.out | apply below_alloc | apply pw_below_drewN | apply below_drew1 | refine below_set ?_ GE478.out) | exact HB.out)) hb); clear BK478; clear HB; have BK478 := n0_; have HB := n1_; clear n0_ n1_; (try clear hb); (try clear hb2); (try clear hk); (try clear hi)))
      go_meet
      case rel => exact ⟨_, (!t480), (by first | rfl | (simp; done) | (simp [*]; done)), H', ⟨by first | omega | exact Nat.le_refl _⟩, ⟨by (with_reducible repeat (first | refine blk_drewN ?_ _ | refine blk_drew ?_ | refine blk_alloc ?_ _)); exact BK478.out⟩, ⟨by repeat (first | (with_reducible first | exact HB.out | apply below_alloc | apply pw_below_drewN | apply below_drew1 | refine below_set ?_ GE478.out) | exact HB.out)⟩⟩
    · replace c5 := Bool.eq_false_iff.mpr c5
      subst c5
      have H1 : (tollbarlaw04_FieldBack.j0 k true a0_0 a0_1) = some r := by rw [if_neg (show ¬ (false = true) by decide)] at H; exact H
      clear H
      have H := H1
      clear H1
      have H' := Aside0.mk H
      clear H
      go_wp2_with (first | ((with_reducible refine gate_callee (f := 15) rfl ?_); refine goesL_ (some 7) rfl rfl Tryd.func15 (by kernel_rfl) rfl #[] rfl (by (try simp only [List.map_toArray, List.map_cons, List.map_nil]); first | done | rfl | (simp only [List.length_drop, List.length_take]; rfl)) ?_; (with_reducible refine (tollbarlaw04_parsing.calls k  false _ A4.out).mono ?_); rintro e w9 ⟨rfl, hb⟩; refine ⟨_, rfl, ?_⟩; have n0_ := Aside0.mk (blk_below (g := gb478) (o := .cells #[.string a0_0, .string a0_1] 24 (0, 0)) (by (with_reducible repeat (first | refine blk_drewN ?_ _ | refine blk_drew ?_ | refine blk_alloc ?_ _)); exact BK478.out) hb); have n1_ := Aside0.mk (below_step (by repeat (first | (with_reducible first | exact HB.out | apply below_alloc | apply pw_below_drewN | apply below_drew1 | refine below_set ?_ GE478.out) | exact HB.out)) hb); clear BK478; clear HB; have BK478 := n0_; have HB := n1_; clear n0_ n1_; (try clear hb); (try clear hb2); (try clear hk); (try clear hi)))
      go_meet
      case rel => exact ⟨_, (true), (by first | rfl | (simp; done) | (simp [*]; done)), H', ⟨by first | omega | exact Nat.le_refl _⟩, ⟨by (with_reducible repeat (first | refine blk_drewN ?_ _ | refine blk_drew ?_ | refine blk_alloc ?_ _)); exact BK478.out⟩, ⟨by repeat (first | (with_reducible first | exact HB.out | apply below_alloc | apply pw_below_drewN | apply below_drew1 | refine below_set ?_ GE478.out) | exact HB.out)⟩⟩
  case rest =>
    clear HC2
    try clear c1
    try clear p2
    try clear c5
    try clear c8
    obtain ⟨kq, x12_1, rfl, HA, HJ1, BK478, HB⟩ := hcut
    cases kq with
    | zero => exact absurd HA.out (by simp [tollbarlaw04_FieldBack.j0])
    | succ kj1 =>
      have H := HA.out
      clear HA
      simp only [tollbarlaw04_FieldBack.j0] at H
      by_cases c10 : x12_1 = true
      · subst c10
        have H1 : (none) = some r := by rw [if_pos rfl] at H; exact H
        clear H
        have H := H1
        clear H1
        exact absurd H (by simp)
      · replace c10 := Bool.eq_false_iff.mpr c10
        subst c10
        have H1 : ((field_Right.f kj1 (([(⟨a0_0, a0_1⟩ : S24)] : List (S24)))).bind fun t484 => (if t484 = true then ((field_Line.f a0_0 a0_1).bind fun t485 => (if (t485.size : Int) = (wrap64 ((wrap64 ((a0_0.size : Int) + (a0_1.size : Int))) + 4)) then (if 0 ≤ (wrap64 ((t485.size : Int) - 2)) then (if (wrap64 ((t485.size : Int) - 2)) ≤ (t485.size : Int) then (tollbarlaw04_FieldBack.j1 kj1 t485 ((t485.extract ((wrap64 ((t485.size : Int) - 2)) : Int).toNat t485.size).toList != ([13, 10] : List UInt8)) a0_0 a0_1) else (none)) else (none)) else (tollbarlaw04_FieldBack.j1 kj1 t485 true a0_0 a0_1))) else (some true))) = some r := by rw [if_neg (show ¬ (false = true) by decide)] at H; exact H
        clear H
        have H := H1
        clear H1
        obtain ⟨y481, hy481⟩ : ∃ y_ : List (S24), y_ = (([(⟨a0_0, a0_1⟩ : S24)] : List (S24))) := ⟨_, rfl⟩
        replace H : ((field_Right.f kj1 y481).bind fun t484 => (if t484 = true then ((field_Line.f a0_0 a0_1).bind fun t485 => (if (t485.size : Int) = (wrap64 ((wrap64 ((a0_0.size : Int) + (a0_1.size : Int))) + 4)) then (if 0 ≤ (wrap64 ((t485.size : Int) - 2)) then (if (wrap64 ((t485.size : Int) - 2)) ≤ (t485.size : Int) then (tollbarlaw04_FieldBack.j1 kj1 t485 ((t485.extract ((wrap64 ((t485.size : Int) - 2)) : Int).toNat t485.size).toList != ([13, 10] : List UInt8)) a0_0 a0_1) else (none)) else (none)) else (tollbarlaw04_FieldBack.j1 kj1 t485 true a0_0 a0_1))) else (some true))) = some r := by first | (rw [hy481]; with_reducible exact H) | (have H2_ := (Option.bind_some _ _).symm.trans H; rw [hy481]; with_reducible exact H2_) | (have H2_ := (Option.bind_some _ _).symm.trans H; with_reducible exact H2_) | with_reducible exact H | (rw [hy481]; exact H) | exact H
        have Ny481 := Aside0.mk hy481
        clear hy481
        replace H := Option.bind_eq_some_iff.mp H
        obtain ⟨t484, A110, H⟩ := H
        replace H : (if t484 = true then ((field_Line.f a0_0 a0_1).bind fun t485 => (if (t485.size : Int) = (wrap64 ((wrap64 ((a0_0.size : Int) + (a0_1.size : Int))) + 4)) then (if 0 ≤ (wrap64 ((t485.size : Int) - 2)) then (if (wrap64 ((t485.size : Int) - 2)) ≤ (t485.size : Int) then (tollbarlaw04_FieldBack.j1 kj1 t485 ((t485.extract ((wrap64 ((t485.size : Int) - 2)) : Int).toNat t485.size).toList != ([13, 10] : List UInt8)) a0_0 a0_1) else (none)) else (none)) else (tollbarlaw04_FieldBack.j1 kj1 t485 true a0_0 a0_1))) else (some true)) = some r := H
        have A11 := Aside0.mk A110
        clear A110
        by_cases c12 : t484 = true
        · subst c12
          have H1 : ((field_Line.f a0_0 a0_1).bind fun t485 => (if (t485.size : Int) = (wrap64 ((wrap64 ((a0_0.size : Int) + (a0_1.size : Int))) + 4)) then (if 0 ≤ (wrap64 ((t485.size : Int) - 2)) then (if (wrap64 ((t485.size : Int) - 2)) ≤ (t485.size : Int) then (tollbarlaw04_FieldBack.j1 kj1 t485 ((t485.extract ((wrap64 ((t485.size : Int) - 2)) : Int).toNat t485.size).toList != ([13, 10] : List UInt8)) a0_0 a0_1) else (none)) else (none)) else (tollbarlaw04_FieldBack.j1 kj1 t485 true a0_0 a0_1))) = some r := by rw [if_pos rfl] at H; exact H
          clear H
          have H := H1
          clear H1
          replace H := Option.bind_eq_some_iff.mp H
          obtain ⟨t485, A130, H⟩ := H
          replace H : (if (t485.size : Int) = (wrap64 ((wrap64 ((a0_0.size : Int) + (a0_1.size : Int))) + 4)) then (if 0 ≤ (wrap64 ((t485.size : Int) - 2)) then (if (wrap64 ((t485.size : Int) - 2)) ≤ (t485.size : Int) then (tollbarlaw04_FieldBack.j1 kj1 t485 ((t485.extract ((wrap64 ((t485.size : Int) - 2)) : Int).toNat t485.size).toList != ([13, 10] : List UInt8)) a0_0 a0_1) else (none)) else (none)) else (tollbarlaw04_FieldBack.j1 kj1 t485 true a0_0 a0_1)) = some r := H
          have A13 := Aside0.mk A130
          clear A130
          have HC14 := Aside0.mk H
          clear H
          have hcz15_0 : wc.cell? ⟨gb478, 0, none⟩ = some (.string a0_0) := (blk_cell BK478.out 0).trans rfl
          have hcz15_1 : wc.cell? ⟨gb478, 1, none⟩ = some (.string a0_1) := (blk_cell BK478.out 1).trans rfl
          have hfz15_0 := blk_frozen BK478.out 0
          have hfz15_1 := blk_frozen BK478.out 1
          go_upto_region 6 with (first | ((with_reducible refine gate_dst (N := 14) rfl ?_); (try (refine gate_guard (by rfl) ?_; dsimp only)); refine Kd.R_lit k24 _ 24 ?hg (N := 14) ?hd (xs := ([(⟨a0_0, a0_1⟩ : S24)] : List (S24))) (inner := [.string a0_0, .string a0_1]) (ok := fun _ => True) (okp := fun _ => True) ?hr ?hp (fun _ hk => hk) trivial (Below.refl _ _) (Nat.le_refl _) (by simp) ?_; (case hd => rfl); (case hg => rfl); (case hr => first | (go_simp; done) | (go_simp; rfl)); (case hp => exact (Reps.c2 (show Kd.M k24 _ _ _ (⟨a0_0, a0_1⟩ : S24) [.string a0_0, .string a0_1] from (k24_mkM _ _ _ (⟨a0_0, a0_1⟩ : S24) )) (Reps.none _ _))); intro v482 w16 ho17 hb hg_ hnew_; clear hg_ hnew_; (first | rw [← Ny481.out] at ho17 | (simp only [Int.reduceToNat] at ho17; rw [← Ny481.out] at ho17)); have n0_ := Aside0.mk (Kd.R_lower (Kd.R_newB ho17 (g := gb478) (o := .cells #[.string a0_0, .string a0_1] 24 (0, 0)) (by (with_reducible repeat (first | refine blk_drewN ?_ _ | refine blk_drew ?_ | refine blk_alloc ?_ _)); exact BK478.out)) (below_size (by repeat (first | (with_reducible first | exact HB.out | apply below_alloc | apply pw_below_drewN | apply below_drew1 | refine below_set ?_ GE478.out) | exact HB.out)))); have n1_ := Aside0.mk (blk_below (g := gb478) (o := .cells #[.string a0_0, .string a0_1] 24 (0, 0)) (by (with_reducible repeat (first | refine blk_drewN ?_ _ | refine blk_drew ?_ | refine blk_alloc ?_ _)); exact BK478.out) hb); have n2_ := Aside0.mk (below_step (by repeat (first | (with_reducible first | exact HB.out | apply below_alloc | apply pw_below_drewN | apply below_drew1 | refine below_set ?_ GE478.out) | exact HB.out)) hb); clear BK478; clear HB; have HO483 := n0_; have BK478 := n1_; have HB := n2_; clear n0_ n1_ n2_; clear hb ho17; obtain ⟨Ao18, co18, eo18⟩ := Kd.R_slice HO483.out; subst eo18) | ((with_reducible refine gate_callee (f := 26) rfl ?_); refine goesL_ (some 15) rfl rfl Tryd.func26 (by kernel_rfl) rfl #[.slice Ao18 y481.length co18] rfl (by (try simp only [List.map_toArray, List.map_cons, List.map_nil]); first | done | rfl | (simp only [List.length_drop, List.length_take]; rfl)) ?_; (with_reducible refine (field_Right.calls kj1 _ _ y481 true _ ?side1 ?side2 A11.out).mono ?_); (case side1 => repeat (first | exact (Kd.R_reads' HO483.out).2.2 | (with_reducible refine Kd.C_alloc ?_ _) | (with_reducible refine Kd.C_drewN ?_ _) | (with_reducible refine Kd.C_drew ?_))); (case side2 => exact (Kd.R_reads' HO483.out).2.1); rintro e w19 ⟨rfl, hb⟩; refine ⟨_, rfl, ?_⟩; have n0_ := Aside0.mk (Kd.R_below (by (with_reducible repeat (first | apply Kd.R_alloc | apply Kd.R_drewN | apply Kd.R_drew)); exact HO483.out) hb); have n1_ := Aside0.mk (blk_below (g := gb478) (o := .cells #[.string a0_0, .string a0_1] 24 (0, 0)) (by (with_reducible repeat (first | refine blk_drewN ?_ _ | refine blk_drew ?_ | refine blk_alloc ?_ _)); exact BK478.out) hb); have n2_ := Aside0.mk (below_step (by repeat (first | (with_reducible first | exact HB.out | apply below_alloc | apply pw_below_drewN | apply below_drew1 | refine below_set ?_ GE478.out) | exact HB.out)) hb); clear HO483; clear BK478; clear HB; have HO483 := n0_; have BK478 := n1_; have HB := n2_; clear n0_ n1_ n2_; (try clear hb); (try clear hb2); (try clear hk); (try clear hi); have hcz20_0 : w19.cell? ⟨gb478, 0, none⟩ = some (.string a0_0) := (blk_cell BK478.out 0).trans rfl; have hcz20_1 : w19.cell? ⟨gb478, 1, none⟩ = some (.string a0_1) := (blk_cell BK478.out 1).trans rfl; have hfz20_0 := blk_frozen BK478.out 0; have hfz20_1 := blk_frozen BK478.out 1) | ((with_reducible refine gate_callee (f := 33) rfl ?_); refine goesL_ (some 18) rfl rfl Tryd.func33 (by kernel_rfl) rfl #[.agg #[.string a0_0, .string a0_1]] rfl (by (try simp only [List.map_toArray, List.map_cons, List.map_nil]); first | done | rfl | (simp only [List.length_drop, List.length_take]; rfl)) ?_; (with_reducible refine (field_Line.calls a0_0 a0_1 t485 _ A13.out).mono ?_); rintro e w21 ⟨rfl, hb⟩; refine ⟨_, rfl, ?_⟩; have n0_ := Aside0.mk (Kd.R_below (by (with_reducible repeat (first | apply Kd.R_alloc | apply Kd.R_drewN | apply Kd.R_drew)); exact HO483.out) hb); have n1_ := Aside0.mk (blk_below (g := gb478) (o := .cells #[.string a0_0, .string a0_1] 24 (0, 0)) (by (with_reducible repeat (first | refine blk_drewN ?_ _ | refine blk_drew ?_ | refine blk_alloc ?_ _)); exact BK478.out) hb); have n2_ := Aside0.mk (below_step (by repeat (first | (with_reducible first | exact HB.out | apply below_alloc | apply pw_below_drewN | apply below_drew1 | refine below_set ?_ GE478.out) | exact HB.out)) hb); clear HO483; clear BK478; clear HB; have HO483 := n0_; have BK478 := n1_; have HB := n2_; clear n0_ n1_ n2_; (try clear hb); (try clear hb2); (try clear hk); (try clear hi)))
          (try simp only [Act.put, List.setIfInBounds_toArray, List.set_cons_zero, List.set_cons_succ])
          go_cut [37] (fun v37 wc => ∃ (kq : Nat) (x37_13 : Bool), v37 = .bool x37_13 ∧ Aside0 (tollbarlaw04_FieldBack.j1 kq t485 x37_13 a0_0 a0_1 = some r) ∧ Aside0 (kq ≤ kj1) ∧ Aside0 (wc.heap[gb478]? = some (.cells #[.string a0_0, .string a0_1] 24 (0, 0))) ∧ Aside0 (Below w.heap.size w wc))
          case first =>
            have H := HC14.out
            clear HC14
            by_cases c22 : (t485.size : Int) = (wrap64 ((wrap64 ((a0_0.size : Int) + (a0_1.size : Int))) + 4))
            · rw [if_pos c22] at H
              have c22b0 : ((t485.size : Int) == (wrap64 ((wrap64 ((a0_0.size : Int) + (a0_1.size : Int))) + 4))) = true := beq_iff_eq.mpr c22
              try (have c22z_ := c22; simp only [xsz_app, xsz_rest, xsz_mk, List.length_cons, List.length_nil, Nat.zero_add, Int.natCast_add] at c22z_)
              have c22b1 : ((t485.size : Int) != (wrap64 ((wrap64 ((a0_0.size : Int) + (a0_1.size : Int))) + 4))) = false := bne_eq_false_iff_eq.mpr c22
              clear c22
              (first | rw [c22b0] | (simp only [i64_w, i32_w]; rw [c22b0]) | skip)
              obtain ⟨ji23, hji23⟩ : ∃ j_ : Int, (wrap64 ((t485.size : Int) - 2)) = j_ := ⟨_, rfl⟩
              replace H : (if 0 ≤ (ji23) then (if (ji23) ≤ (t485.size : Int) then (tollbarlaw04_FieldBack.j1 kj1 t485 ((t485.extract ((ji23) : Int).toNat t485.size).toList != ([13, 10] : List UInt8)) a0_0 a0_1) else (none)) else (none)) = some r := by first | (rw [hji23] at H; exact H) | (simp only [hji23] at H ⊢; exact H)
              have hji23w : (IntKind.i64.wrap ((t485.size : Int) - 2)) = ji23 := (i64_w _).trans hji23
              by_cases c24 : 0 ≤ (ji23)
              · rw [if_pos c24] at H
                have c24b0 := eq_true c24
                try (have c24z_ := c24; simp only [xsz_app, xsz_rest, xsz_mk, List.length_cons, List.length_nil, Nat.zero_add, Int.natCast_add] at c24z_)
                have c24b1 : decide (0 ≤ (ji23)) = true := decide_eq_true c24
                clear c24
                by_cases c25 : (ji23) ≤ (t485.size : Int)
                · rw [if_pos c25] at H
                  have c25b0 := eq_true c25
                  try (have c25z_ := c25; simp only [xsz_app, xsz_rest, xsz_mk, List.length_cons, List.length_nil, Nat.zero_add, Int.natCast_add] at c25z_)
                  have c25b1 : decide ((ji23) ≤ (t485.size : Int)) = true := decide_eq_true c25
                  clear c25
                  have H' := Aside0.mk H
                  clear H
                  have hcz26_0 : w21.cell? ⟨gb478, 0, none⟩ = some (.string a0_0) := (blk_cell BK478.out 0).trans rfl
                  have hcz26_1 : w21.cell? ⟨gb478, 1, none⟩ = some (.string a0_1) := (blk_cell BK478.out 1).trans rfl
                  have hfz26_0 := blk_frozen BK478.out 0
                  have hfz26_1 := blk_frozen BK478.out 1
                  go_wp2
                  go_meet
                  case rel => exact ⟨_, (((t485.extract ((ji23) : Int).toNat t485.size).toList != ([13, 10] : List UInt8))), (by first | rfl | (simp; done) | (simp only [← hji23] <;> (first | rfl | simp)) | (simp [*]; done)), H', ⟨by have := HJ1.out; first | omega | exact Nat.le_refl _⟩, ⟨by (with_reducible repeat (first | refine blk_drewN ?_ _ | refine blk_drew ?_ | refine blk_alloc ?_ _)); exact BK478.out⟩, ⟨by repeat (first | (with_reducible first | exact HB.out | apply below_alloc | apply pw_below_drewN | apply below_drew1 | refine below_set ?_ GE478.out) | exact HB.out)⟩⟩
                · rw [if_neg c25] at H
                  exact absurd H (by simp)
              · rw [if_neg c24] at H
                exact absurd H (by simp)
            · rw [if_neg c22] at H
              have c22b0 : ((t485.size : Int) == (wrap64 ((wrap64 ((a0_0.size : Int) + (a0_1.size : Int))) + 4))) = false := beq_eq_false_iff_ne.mpr c22
              try (have c22z_ := c22; simp only [xsz_app, xsz_rest, xsz_mk, List.length_cons, List.length_nil, Nat.zero_add, Int.natCast_add] at c22z_)
              have c22b1 : ((t485.size : Int) != (wrap64 ((wrap64 ((a0_0.size : Int) + (a0_1.size : Int))) + 4))) = true := bne_iff_ne.mpr c22
              (first | rw [c22b0] | (simp only [i64_w, i32_w]; rw [c22b0]) | skip)
              have H' := Aside0.mk H
              clear H
              have hcz27_0 : w21.cell? ⟨gb478, 0, none⟩ = some (.string a0_0) := (blk_cell BK478.out 0).trans rfl
              have hcz27_1 : w21.cell? ⟨gb478, 1, none⟩ = some (.string a0_1) := (blk_cell BK478.out 1).trans rfl
              have hfz27_0 := blk_frozen BK478.out 0
              have hfz27_1 := blk_frozen BK478.out 1
              go_wp2
              go_meet
              case rel => exact ⟨_, (true), (by first | rfl | (simp; done) | (simp [*]; done)), H', ⟨by have := HJ1.out; first | omega | exact Nat.le_refl _⟩, ⟨by (with_reducible repeat (first | refine blk_drewN ?_ _ | refine blk_drew ?_ | refine blk_alloc ?_ _)); exact BK478.out⟩, ⟨by repeat (first | (with_reducible first | exact HB.out | apply below_alloc | apply pw_below_drewN | apply below_drew1 | refine below_set ?_ GE478.out) | exact HB.out)⟩⟩
          case rest =>
            clear HC14
            try clear c1
            try clear c2
            try clear p2
            try clear c3
            try clear c5
            try clear p6
            try clear c8
            try clear c10
            try clear c12
            try clear c15
            try clear c22
            try clear c22b0
            try clear c22b1
            try clear c24
            try clear c24b0
            try clear c24b1
            try clear c25
            try clear c25b0
            try clear c25b1
            try clear c26
            try clear hcz15_0
            try clear hcz15_1
            try clear hcz20_0
            try clear hcz20_1
            try clear hcz26_0
            try clear hcz26_1
            try clear hcz27_0
            try clear hcz27_1
            try clear hfz15_0
            try clear hfz15_1
            try clear hfz20_0
            try clear hfz20_1
            try clear hfz26_0
            try clear hfz26_1
            try clear hfz27_0
            try clear hfz27_1
            try clear p2
            obtain ⟨kq, x37_13, rfl, HA, HJ13, BK478, HB⟩ := hcut
            cases kq with
            | zero => exact absurd HA.out (by simp [tollbarlaw04_FieldBack.j1])
            | succ kj13 =>
              have H := HA.out
              clear HA
              simp only [tollbarlaw04_FieldBack.j1] at H
              by_cases c28 : x37_13 = true
              · subst c28
                have H1 : (none) = some r := by rw [if_pos rfl] at H; exact H
                clear H
                have H := H1
                clear H1
                exact absurd H (by simp)
              · replace c28 := Bool.eq_false_iff.mpr c28
                subst c28
                have H1 : (tollbarlaw04_FieldBack.l0 kj13 t485 0 a0_0 a0_1) = some r := by rw [if_neg (show ¬ (false = true) by decide)] at H; exact H
                clear H
                have H := H1
                clear H1
                have H' := Aside0.mk H
                clear H
                go_wp2
                go_loopg [4] kj13 (fun kq v4 w' => ∃ (x4_3 : Int), v4 = .int .i64 x4_3 ∧ Aside0 (tollbarlaw04_FieldBack.l0 kq t485 x4_3 a0_0 a0_1 = some r) ∧ Aside0 (kq ≤ kj13) ∧ Aside0 (w'.heap[gb478]? = some (.cells #[.string a0_0, .string a0_1] 24 (0, 0))) ∧ Aside0 (Below w.heap.size w w'))
                case atStart => exact ⟨(0), (by first | rfl | (simp; done) | (simp [*]; done)), H', ⟨Nat.le_refl _⟩, ⟨by (with_reducible repeat (first | refine blk_drewN ?_ _ | refine blk_drew ?_ | refine blk_alloc ?_ _)); exact BK478.out⟩, ⟨by repeat (first | (with_reducible first | exact HB.out | apply below_alloc | apply pw_below_drewN | apply below_drew1 | refine below_set ?_ GE478.out) | exact HB.out)⟩⟩
                case round =>
                  clear H'
                  try clear c1
                  try clear c2
                  try clear p2
                  try clear c3
                  try clear c5
                  try clear p6
                  try clear c8
                  try clear c10
                  try clear c12
                  try clear c15
                  try clear c22
                  try clear c22b0
                  try clear c22b1
                  try clear c24
                  try clear c24b0
                  try clear c24b1
                  try clear c25
                  try clear c25b0
                  try clear c25b1
                  try clear c26
                  try clear c28
                  try clear hcz15_0
                  try clear hcz15_1
                  try clear hcz20_0
                  try clear hcz20_1
                  try clear hcz26_0
                  try clear hcz26_1
                  try clear hcz27_0
                  try clear hcz27_1
                  try clear hfz15_0
                  try clear hfz15_1
                  try clear hfz20_0
                  try clear hfz20_1
                  try clear hfz26_0
                  try clear hfz26_1
                  try clear hfz27_0
                  try clear hfz27_1
                  try clear p2
                  try clear p6
                  obtain ⟨x4_3, rfl, HA, HK3, BK478, HB⟩ := hrel
                  cases gk with
                  | zero => exact absurd HA.out (by simp [tollbarlaw04_FieldBack.l0])
                  | succ k3 =>
                    have H := HA.out
                    clear HA
                    simp only [tollbarlaw04_FieldBack.l0] at H
                    by_cases c29 : x4_3 < (wrap64 ((t485.size : Int) - 2))
                    · rw [if_pos c29] at H
                      have c29b0 : decide (x4_3 < (wrap64 ((t485.size : Int) - 2))) = true := decide_eq_true c29
                      try (have c29z_ := c29; simp only [xsz_app, xsz_rest, xsz_mk, List.length_cons, List.length_nil, Nat.zero_add, Int.natCast_add] at c29z_)
                      clear c29
                      by_cases c30 : 0 ≤ x4_3
                      · rw [if_pos c30] at H
                        have c30b0 : decide (0 ≤ x4_3) = true := decide_eq_true c30
                        clear c30
                        by_cases c31 : x4_3 < (t485.size : Int)
                        · rw [if_pos c31] at H
                          have c31b0 : decide (x4_3 < (t485.size : Int)) = true := decide_eq_true c31
                          try (have c31z_ := c31; simp only [xsz_app, xsz_rest, xsz_mk, List.length_cons, List.length_nil, Nat.zero_add, Int.natCast_add] at c31z_)
                          clear c31
                          by_cases c33 : (bt t485 x4_3) = 13
                          · rw [if_pos c33] at H
                            exact absurd H (by simp)
                          · rw [if_neg c33] at H
                            have c33b0 : ((bt t485 x4_3) == 13) = false := beq_eq_false_iff_ne.mpr c33
                            have c33b1 : ((bt t485 x4_3) != 13) = true := bne_iff_ne.mpr c33
                            by_cases c35 : (bt t485 x4_3) = 10
                            · rw [if_pos c35] at H
                              exact absurd H (by simp)
                            · rw [if_neg c35] at H
                              have c35b0 : ((bt t485 x4_3) == 10) = false := beq_eq_false_iff_ne.mpr c35
                              have c35b1 : ((bt t485 x4_3) != 10) = true := bne_iff_ne.mpr c35
                              have H' := Aside0.mk H
                              clear H
                              have p32 : 0 ≤ (x4_3 : Int) := of_decide_eq_true (by first | (with_reducible assumption) | assumption)
                              have q32 : x4_3 < (t485.size : Int) := of_decide_eq_true (by first | (with_reducible assumption) | assumption)
                              have hx32 := bt_at t485 x4_3
                              replace p32 := eq_true p32
                              replace q32 := eq_true q32
                              have p34 : 0 ≤ (x4_3 : Int) := of_decide_eq_true (by first | (with_reducible assumption) | assumption)
                              have q34 : x4_3 < (t485.size : Int) := of_decide_eq_true (by first | (with_reducible assumption) | assumption)
                              have hx34 := bt_at t485 x4_3
                              replace p34 := eq_true p34
                              replace q34 := eq_true q34
                              go_wp2
                              go_roundg k3
                              case measure => have := HJ1.out; have := HJ13.out; have := HK3.out; omega
                              case rel => exact ⟨(wrap64 (x4_3 + 1)), (by first | rfl | (simp; done) | (simp [*]; done)), H', ⟨by have := HJ1.out; have := HJ13.out; have := HK3.out; omega⟩, ⟨by (with_reducible repeat (first | refine blk_drewN ?_ _ | refine blk_drew ?_ | refine blk_alloc ?_ _)); exact BK478.out⟩, ⟨by repeat (first | (with_reducible first | exact HB.out | apply below_alloc | apply pw_below_drewN | apply below_drew1 | refine below_set ?_ GE478.out) | exact HB.out)⟩⟩
                        · rw [if_neg c31] at H
                          exact absurd H (by simp)
                      · rw [if_neg c30] at H
                        exact absurd H (by simp)
                    · rw [if_neg c29] at H
                      have c29b0 : decide (x4_3 < (wrap64 ((t485.size : Int) - 2))) = false := decide_eq_false c29
                      try (have c29z_ := c29; simp only [xsz_app, xsz_rest, xsz_mk, List.length_cons, List.length_nil, Nat.zero_add, Int.natCast_add] at c29z_)
                      clear c29
                      obtain ⟨ji36, hji36⟩ : ∃ j_ : Int, (wrap64 ((t485.size : Int) - 2)) = j_ := ⟨_, rfl⟩
                      replace H : (if 0 ≤ (ji36) then (if (ji36) ≤ (t485.size : Int) then ((field_Parse.f k3 (t485.extract 0 ((ji36) : Int).toNat)).bind fun bt486 => (if bt486.2.2 = 0 then (some (bt486.1.toList == a0_0.toList && (bt486.2.1.toList == a0_1.toList))) else (none))) else (none)) else (none)) = some r := by first | (rw [hji36] at H; exact H) | (simp only [hji36] at H ⊢; exact H)
                      (try rw [hji36] at c29b0)
                      have hji36w : (IntKind.i64.wrap ((t485.size : Int) - 2)) = ji36 := (i64_w _).trans hji36
                      by_cases c37 : 0 ≤ (ji36)
                      · rw [if_pos c37] at H
                        have c37b0 := eq_true c37
                        try (have c37z_ := c37; simp only [xsz_app, xsz_rest, xsz_mk, List.length_cons, List.length_nil, Nat.zero_add, Int.natCast_add] at c37z_)
                        have c37b1 : decide (0 ≤ (ji36)) = true := decide_eq_true c37
                        clear c37
                        by_cases c38 : (ji36) ≤ (t485.size : Int)
                        · rw [if_pos c38] at H
                          have c38b0 := eq_true c38
                          try (have c38z_ := c38; simp only [xsz_app, xsz_rest, xsz_mk, List.length_cons, List.length_nil, Nat.zero_add, Int.natCast_add] at c38z_)
                          have c38b1 : decide ((ji36) ≤ (t485.size : Int)) = true := decide_eq_true c38
                          clear c38
                          replace H := Option.bind_eq_some_iff.mp H
                          obtain ⟨⟨t486, t487, t488⟩, A390, H⟩ := H
                          replace H : (if t488 = 0 then (some (t486.toList == a0_0.toList && (t487.toList == a0_1.toList))) else (none)) = some r := H
                          have A39 := Aside0.mk A390
                          clear A390
                          by_cases c40 : t488 = 0
                          · rw [if_pos c40] at H
                            have c40b0 : (t488 == 0) = true := beq_iff_eq.mpr c40
                            have c40b1 : (t488 != 0) = false := bne_eq_false_iff_eq.mpr c40
                            clear c40
                            obtain rfl := Option.some.inj H
                            go_wp2_with (first | ((with_reducible refine gate_callee (f := 16) rfl ?_); refine goesL_ (some 61) rfl rfl Tryd.func16 (by kernel_rfl) rfl #[.string (t485.extract 0 ((ji36) : Int).toNat)] rfl (by (try simp only [List.map_toArray, List.map_cons, List.map_nil]); first | done | (simp only [hji36]; rfl) | rfl | (simp only [List.length_drop, List.length_take]; rfl)) ?_; (with_reducible refine (field_Parse.calls k3 (t485.extract 0 ((ji36) : Int).toNat) t486 t487 t488 _ A39.out).mono ?_); rintro e w41 ⟨rfl, hb⟩; refine ⟨_, rfl, ?_⟩; have n0_ := Aside0.mk (blk_below (g := gb478) (o := .cells #[.string a0_0, .string a0_1] 24 (0, 0)) (by (with_reducible repeat (first | refine blk_drewN ?_ _ | refine blk_drew ?_ | refine blk_alloc ?_ _)); exact BK478.out) hb); have n1_ := Aside0.mk (below_step (by repeat (first | (with_reducible first | exact HB.out | apply below_alloc | apply pw_below_drewN | apply below_drew1 | refine below_set ?_ GE478.out) | exact HB.out)) hb); clear BK478; clear HB; have BK478 := n0_; have HB := n1_; clear n0_ n1_; (try clear hb); (try clear hb2); (try clear hk); (try clear hi)) | ((with_reducible refine gate_dst (N := 5) rfl ?_); (try (refine gate_guard (by rfl) ?_; dsimp only)); refine box_event ?hg (N := 5) ?hd (cs := #[.string (⟨#[]⟩ : ByteArray), .string (⟨#[]⟩ : ByteArray)]) (t := 24) ?hr ?_; (case hd => rfl); (case hg => rfl); (case hr => first | (go_simp; done) | (go_simp; rfl)); intro gb489 hg w42 hbox hb; have n0_ := Aside0.mk (blk_below (g := gb478) (o := .cells #[.string a0_0, .string a0_1] 24 (0, 0)) (by (with_reducible repeat (first | refine blk_drewN ?_ _ | refine blk_drew ?_ | refine blk_alloc ?_ _)); exact BK478.out) hb); have n1_ := Aside0.mk (below_step (by repeat (first | (with_reducible first | exact HB.out | apply below_alloc | apply pw_below_drewN | apply below_drew1 | refine below_set ?_ GE478.out) | exact HB.out)) hb); have n2_ := Aside0.mk (hbox); have n3_ := Aside0.mk ((by rw [hg]; exact (below_size (by repeat (first | (with_reducible first | exact HB.out | apply below_alloc | apply pw_below_drewN | apply below_drew1 | refine below_set ?_ GE478.out) | exact HB.out))) : w.heap.size ≤ gb489)); have n4_ := Aside0.mk ((by rw [hg]; exact (below_size (by repeat (first | (with_reducible first | exact HB.out | apply below_alloc | apply pw_below_drewN | apply below_drew1 | refine below_set ?_ GE478.out) | exact HB.out))) : w.heap.size ≤ gb489)); have n5_ := Aside0.mk ((by rw [hg]; exact Nat.ne_of_lt (blk_lt (g := gb478) (o := .cells #[.string a0_0, .string a0_1] 24 (0, 0)) (by (with_reducible repeat (first | refine blk_drewN ?_ _ | refine blk_drew ?_ | refine blk_alloc ?_ _)); exact BK478.out)) : gb478 ≠ gb489)); have n6_ := Aside0.mk ((by rw [hg]; exact Nat.ne_of_gt (blk_lt (g := gb478) (o := .cells #[.string a0_0, .string a0_1] 24 (0, 0)) (by (with_reducible repeat (first | refine blk_drewN ?_ _ | refine blk_drew ?_ | refine blk_alloc ?_ _)); exact BK478.out)) : gb489 ≠ gb478)); clear BK478; clear HB; have BK478 := n0_; have HB := n1_; have BK489 := n2_; have GW489 := n3_; have GE489 := n4_; have NB478_489 := n5_; have NB489_478 := n6_; clear n0_ n1_ n2_ n3_ n4_ n5_ n6_; clear hb hbox hg; have hnb43 := NB489_478.out; have hnc43 := NB478_489.out; have hcz44_0 : w42.cell? ⟨gb489, 0, none⟩ = some (.string (⟨#[]⟩ : ByteArray)) := (blk_cell BK489.out 0).trans rfl; have hcz44_1 : w42.cell? ⟨gb489, 1, none⟩ = some (.string (⟨#[]⟩ : ByteArray)) := (blk_cell BK489.out 1).trans rfl; have hfz44_0 := blk_frozen BK489.out 0; have hfz44_1 := blk_frozen BK489.out 1; have hcz45_0 : w42.cell? ⟨gb478, 0, none⟩ = some (.string a0_0) := (blk_cell BK478.out 0).trans rfl; have hcz45_1 : w42.cell? ⟨gb478, 1, none⟩ = some (.string a0_1) := (blk_cell BK478.out 1).trans rfl; have hfz45_0 := blk_frozen BK478.out 0; have hfz45_1 := blk_frozen BK478.out 1))
                            go_ret
                            exact ⟨by first | rfl | (simp [errW_none, errW_some] <;> rfl) | (simp only [← hji36]; first | rfl | (simp [errW_none, errW_some] <;> rfl)) | (simp [*, errW_none, errW_some] <;> rfl), by repeat (first | (with_reducible first | exact HB.out | apply below_alloc | apply pw_below_drewN | apply below_drew1 | refine below_set ?_ GE478.out | refine below_set ?_ GE489.out) | exact HB.out)⟩
                          · rw [if_neg c40] at H
                            exact absurd H (by simp)
                        · rw [if_neg c38] at H
                          exact absurd H (by simp)
                      · rw [if_neg c37] at H
                        exact absurd H (by simp)
        · replace c12 := Bool.eq_false_iff.mpr c12
          subst c12
          have H1 : (some true) = some r := by rw [if_neg (show ¬ (false = true) by decide)] at H; exact H
          clear H
          have H := H1
          clear H1
          obtain rfl := Option.some.inj H
          have hcz46_0 : wc.cell? ⟨gb478, 0, none⟩ = some (.string a0_0) := (blk_cell BK478.out 0).trans rfl
          have hcz46_1 : wc.cell? ⟨gb478, 1, none⟩ = some (.string a0_1) := (blk_cell BK478.out 1).trans rfl
          have hfz46_0 := blk_frozen BK478.out 0
          have hfz46_1 := blk_frozen BK478.out 1
          go_wp2_with (first | ((with_reducible refine gate_dst (N := 14) rfl ?_); (try (refine gate_guard (by rfl) ?_; dsimp only)); refine Kd.R_lit k24 _ 24 ?hg (N := 14) ?hd (xs := ([(⟨a0_0, a0_1⟩ : S24)] : List (S24))) (inner := [.string a0_0, .string a0_1]) (ok := fun _ => True) (okp := fun _ => True) ?hr ?hp (fun _ hk => hk) trivial (Below.refl _ _) (Nat.le_refl _) (by simp) ?_; (case hd => rfl); (case hg => rfl); (case hr => first | (go_simp; done) | (go_simp; rfl)); (case hp => exact (Reps.c2 (show Kd.M k24 _ _ _ (⟨a0_0, a0_1⟩ : S24) [.string a0_0, .string a0_1] from (k24_mkM _ _ _ (⟨a0_0, a0_1⟩ : S24) )) (Reps.none _ _))); intro v482 w47 ho48 hb hg_ hnew_; clear hg_ hnew_; (first | rw [← Ny481.out] at ho48 | (simp only [Int.reduceToNat] at ho48; rw [← Ny481.out] at ho48)); have n0_ := Aside0.mk (Kd.R_lower (Kd.R_newB ho48 (g := gb478) (o := .cells #[.string a0_0, .string a0_1] 24 (0, 0)) (by (with_reducible repeat (first | refine blk_drewN ?_ _ | refine blk_drew ?_ | refine blk_alloc ?_ _)); exact BK478.out)) (below_size (by repeat (first | (with_reducible first | exact HB.out | apply below_alloc | apply pw_below_drewN | apply below_drew1 | refine below_set ?_ GE478.out) | exact HB.out)))); have n1_ := Aside0.mk (blk_below (g := gb478) (o := .cells #[.string a0_0, .string a0_1] 24 (0, 0)) (by (with_reducible repeat (first | refine blk_drewN ?_ _ | refine blk_drew ?_ | refine blk_alloc ?_ _)); exact BK478.out) hb); have n2_ := Aside0.mk (below_step (by repeat (first | (with_reducible first | exact HB.out | apply below_alloc | apply pw_below_drewN | apply below_drew1 | refine below_set ?_ GE478.out) | exact HB.out)) hb); clear BK478; clear HB; have HO483 := n0_; have BK478 := n1_; have HB := n2_; clear n0_ n1_ n2_; clear hb ho48; obtain ⟨Ao49, co49, eo49⟩ := Kd.R_slice HO483.out; subst eo49) | ((with_reducible refine gate_callee (f := 26) rfl ?_); refine goesL_ (some 15) rfl rfl Tryd.func26 (by kernel_rfl) rfl #[.slice Ao49 y481.length co49] rfl (by (try simp only [List.map_toArray, List.map_cons, List.map_nil]); first | done | rfl | (simp only [List.length_drop, List.length_take]; rfl)) ?_; (with_reducible refine (field_Right.calls kj1 _ _ y481 false _ ?side1 ?side2 A11.out).mono ?_); (case side1 => repeat (first | exact (Kd.R_reads' HO483.out).2.2 | (with_reducible refine Kd.C_alloc ?_ _) | (with_reducible refine Kd.C_drewN ?_ _) | (with_reducible refine Kd.C_drew ?_))); (case side2 => exact (Kd.R_reads' HO483.out).2.1); rintro e w50 ⟨rfl, hb⟩; refine ⟨_, rfl, ?_⟩; have n0_ := Aside0.mk (Kd.R_below (by (with_reducible repeat (first | apply Kd.R_alloc | apply Kd.R_drewN | apply Kd.R_drew)); exact HO483.out) hb); have n1_ := Aside0.mk (blk_below (g := gb478) (o := .cells #[.string a0_0, .string a0_1] 24 (0, 0)) (by (with_reducible repeat (first | refine blk_drewN ?_ _ | refine blk_drew ?_ | refine blk_alloc ?_ _)); exact BK478.out) hb); have n2_ := Aside0.mk (below_step (by repeat (first | (with_reducible first | exact HB.out | apply below_alloc | apply pw_below_drewN | apply below_drew1 | refine below_set ?_ GE478.out) | exact HB.out)) hb); clear HO483; clear BK478; clear HB; have HO483 := n0_; have BK478 := n1_; have HB := n2_; clear n0_ n1_ n2_; (try clear hb); (try clear hb2); (try clear hk); (try clear hi)))
          go_ret
          exact ⟨by first | rfl | (simp [errW_none, errW_some] <;> rfl) | (simp [*, errW_none, errW_some] <;> rfl), by repeat (first | (with_reducible first | exact HB.out | apply below_alloc | apply pw_below_drewN | apply below_drew1 | refine below_set ?_ GE478.out) | exact HB.out)⟩

/-- THE ONE PURE STATEMENT of tollbarlaw04_FieldBack. -/
def tollbarlaw04_FieldBack.Pure : Prop := ∀ (a0 : S24), ((a0.f0.size ≤ 140737488351232) ∧ (a0.f1.size ≤ 140737488351232)) → ∃ k, tollbarlaw04_FieldBack.f k a0.f0 a0.f1 = some true

end Go.Proofs.YtijindelbagpiaaDoor.PAll
