-- Written by this session's program xprint.py over the kit's print, with contracts given by hand. Not trusted: Lean checks it.
import Derived.Test.YtijindelbagpiaaDoorPFieldPartsx0
import Derived.Test.YtijindelbagpiaaDoorPFieldPartsx2
import Derived.Test.YtijindelbagpiaaDoorPFieldPartsx3
import Derived.Test.YtijindelbagpiaaDoorPFieldPartsx6
import Derived.Test.YtijindelbagpiaaDoorPFieldPartsx7
namespace Go.Proofs.YtijindelbagpiaaDoor.PFieldParts
open Go.RowKit Go.Proofs.YtijindelbagpiaaDoorW.PrintWords Go.Proofs.YtijindelbagpiaaDoorW.PrintLast Go.Proofs.YtijindelbagpiaaDoorW.PrintMore
attribute [local go_sem] max2_int min2_int max_two min_two max_three min_three max_four min_four   -- for this text's walks alone
set_option linter.unusedVariables false
set_option linter.unusedSimpArgs false

/-! ### tollbarlaw04_FieldParts: function 5 -/
mutual
def tollbarlaw04_FieldParts.j0 : Nat → List (S24) → List ByteArray → Bool → Option (Bool)
  | 0, _, _, _ => none
  | k + 1, x0, x1, x24 => if x24 = true then (some true) else ((some (([] : List (S24)) : List (S24))).bind fun y221 => (if y221.length + x0.length < 4398046511104 then ((field_Without.f x0 x1).bind fun t227 => (tollbarlaw04_FieldParts.l0 k x0 (y221 ++ x0) t227 0 (([] : List ByteArray)) x1 (x1.length : Int) 0)) else (none)))
def tollbarlaw04_FieldParts.l0 : Nat → List (S24) → List (S24) → List (S24) → Int → List ByteArray → List ByteArray → Int → Int → Option (Bool)
  | 0, _, _, _, _, _, _, _, _ => none
  | k + 1, x0, x5, x6, x7, x8, x32, x33, x34 => if x34 < x33 then (if 0 ≤ x34 then (if x34 < (x32.length : Int) then ((field_Get.f k x6 (rdOf ByteArray.empty x32 x34)).bind fun t234 => (if (t234.length : Int) = 0 then ((field_Has.f k x6 (rdOf ByteArray.empty x32 x34) (⟨#[120]⟩ : ByteArray)).bind fun t237 => (tollbarlaw04_FieldParts.j2 k x0 x5 x6 x7 x8 (rdOf ByteArray.empty x32 x34) x32 x33 x34 t237)) else (tollbarlaw04_FieldParts.j2 k x0 x5 x6 x7 x8 (rdOf ByteArray.empty x32 x34) x32 x33 x34 true))) else (none)) else (none)) else (if (wrap64 ((x6.length : Int) + x7)) = (x0.length : Int) then (tollbarlaw04_FieldParts.l2 k x0 x5 x6 (x6.length : Int) 0) else (none))
def tollbarlaw04_FieldParts.j2 : Nat → List (S24) → List (S24) → List (S24) → Int → List ByteArray → ByteArray → List ByteArray → Int → Int → Bool → Option (Bool)
  | 0, _, _, _, _, _, _, _, _, _, _ => none
  | k + 1, x0, x5, x6, x7, x8, x10, x32, x33, x34, x47 => if x47 = true then (none) else (tollbarlaw04_FieldParts.l1 k x0 x5 x6 x7 x8 x10 false x32 x33 x34 x8 (x8.length : Int) 0)
def tollbarlaw04_FieldParts.l1 : Nat → List (S24) → List (S24) → List (S24) → Int → List ByteArray → ByteArray → Bool → List ByteArray → Int → Int → List ByteArray → Int → Int → Option (Bool)
  | 0, _, _, _, _, _, _, _, _, _, _, _, _, _ => none
  | k + 1, x0, x5, x6, x7, x8, x10, x11, x32, x33, x34, x48, x49, x50 => if x50 < x49 then (if 0 ≤ x50 then (if x50 < (x48.length : Int) then (if x11 = true then (tollbarlaw04_FieldParts.l1 k x0 x5 x6 x7 x8 x10 true x32 x33 x34 x48 x49 (wrap64 (x50 + 1))) else ((tollbarref02_Fold.f k (rdOf ByteArray.empty x48 x50)).bind fun t239 => ((tollbarref02_Fold.f k x10).bind fun t240 => (tollbarlaw04_FieldParts.l1 k x0 x5 x6 x7 x8 x10 (t239.toList == t240.toList) x32 x33 x34 x48 x49 (wrap64 (x50 + 1)))))) else (none)) else (none)) else (if x11 = true then (tollbarlaw04_FieldParts.l0 k x0 x5 x6 x7 x8 x32 x33 (wrap64 (x34 + 1))) else ((field_Get.f k x0 x10).bind fun t241 => (if x8.length < 8796093022208 then (tollbarlaw04_FieldParts.l0 k x0 x5 x6 (wrap64 (x7 + (t241.length : Int))) (x8 ++ [x10]) x32 x33 (wrap64 (x34 + 1))) else (none))))
def tollbarlaw04_FieldParts.l2 : Nat → List (S24) → List (S24) → List (S24) → Int → Int → Option (Bool)
  | 0, _, _, _, _, _ => none
  | k + 1, x0, x5, x6, x84, x85 => if x85 < x84 then (if 0 ≤ x85 then (if x85 < (x6.length : Int) then (tollbarlaw04_FieldParts.l2 k x0 x5 (x6.set (x85 : Int).toNat (⟨(⟨#[116, 117, 114, 110, 101, 100]⟩ : ByteArray), (rd_T24 x6 x85).f1⟩ : S24)) x84 (wrap64 (x85 + 1))) else (none)) else (none)) else ((tollbarref04_Same.f k x0 x5).bind fun t248 => (some t248))
end
def tollbarlaw04_FieldParts.f (k : Nat) (l0 : List (S24)) (l1 : List ByteArray) : Option (Bool) := (tollbarlaw04_looking.f k).bind fun t220 => (if t220 = true then (if (l0.length : Int) > 100 then (tollbarlaw04_FieldParts.j0 k l0 l1 true) else (tollbarlaw04_FieldParts.j0 k l0 l1 (decide ((l1.length : Int) > 100)))) else (none))
theorem tollbarlaw04_FieldParts.mono_l : ∀ k, (∀ y0 y1 y2, LeO (tollbarlaw04_FieldParts.j0 k y0 y1 y2) (tollbarlaw04_FieldParts.j0 (k + 1) y0 y1 y2)) ∧ (∀ y0 y1 y2 y3 y4 y5 y6 y7, LeO (tollbarlaw04_FieldParts.l0 k y0 y1 y2 y3 y4 y5 y6 y7) (tollbarlaw04_FieldParts.l0 (k + 1) y0 y1 y2 y3 y4 y5 y6 y7)) ∧ (∀ y0 y1 y2 y3 y4 y5 y6 y7 y8 y9, LeO (tollbarlaw04_FieldParts.j2 k y0 y1 y2 y3 y4 y5 y6 y7 y8 y9) (tollbarlaw04_FieldParts.j2 (k + 1) y0 y1 y2 y3 y4 y5 y6 y7 y8 y9)) ∧ (∀ y0 y1 y2 y3 y4 y5 y6 y7 y8 y9 y10 y11 y12, LeO (tollbarlaw04_FieldParts.l1 k y0 y1 y2 y3 y4 y5 y6 y7 y8 y9 y10 y11 y12) (tollbarlaw04_FieldParts.l1 (k + 1) y0 y1 y2 y3 y4 y5 y6 y7 y8 y9 y10 y11 y12)) ∧ (∀ y0 y1 y2 y3 y4, LeO (tollbarlaw04_FieldParts.l2 k y0 y1 y2 y3 y4) (tollbarlaw04_FieldParts.l2 (k + 1) y0 y1 y2 y3 y4))
  | 0 => ⟨fun _ _ _ r h => by simp [tollbarlaw04_FieldParts.j0] at h, fun _ _ _ _ _ _ _ _ r h => by simp [tollbarlaw04_FieldParts.l0] at h, fun _ _ _ _ _ _ _ _ _ _ r h => by simp [tollbarlaw04_FieldParts.j2] at h, fun _ _ _ _ _ _ _ _ _ _ _ _ _ r h => by simp [tollbarlaw04_FieldParts.l1] at h, fun _ _ _ _ _ r h => by simp [tollbarlaw04_FieldParts.l2] at h⟩
  | k + 1 => by
    obtain ⟨ih0, ih1, ih2, ih3, ih4⟩ := tollbarlaw04_FieldParts.mono_l k
    refine ⟨?_, ?_, ?_, ?_, ?_⟩
    · intro y0 y1 y2
      unfold tollbarlaw04_FieldParts.j0
      repeat' first
      | (with_reducible exact ih0 _ _ _)
      | (with_reducible exact ih1 _ _ _ _ _ _ _ _)
      | (with_reducible exact ih2 _ _ _ _ _ _ _ _ _ _)
      | (with_reducible exact ih3 _ _ _ _ _ _ _ _ _ _ _ _ _)
      | (with_reducible exact ih4 _ _ _ _ _)
      | (with_reducible exact field_Get.mono _ _ _)
      | (with_reducible exact field_Has.mono _ _ _ _)
      | (with_reducible exact tollbarlaw04_looking.mono _)
      | (with_reducible exact tollbarref02_Fold.mono _ _)
      | (with_reducible exact tollbarref04_Same.mono _ _ _)
      | (with_reducible exact LeO.refl _)
      | (with_reducible exact LeO.none _)
      | (with_reducible refine LeO.ite ?_ ?_)
      | (with_reducible refine LeO.bind ?_ (fun _ => ?_))
      | exact ih0 _ _ _
      | exact ih1 _ _ _ _ _ _ _ _
      | exact ih2 _ _ _ _ _ _ _ _ _ _
      | exact ih3 _ _ _ _ _ _ _ _ _ _ _ _ _
      | exact ih4 _ _ _ _ _
      | exact field_Get.mono _ _ _
      | exact field_Has.mono _ _ _ _
      | exact tollbarlaw04_looking.mono _
      | exact tollbarref02_Fold.mono _ _
      | exact tollbarref04_Same.mono _ _ _
      | exact LeO.none _
      | refine LeO.ite ?_ ?_
      | refine LeO.bind ?_ (fun _ => ?_)
    · intro y0 y1 y2 y3 y4 y5 y6 y7
      unfold tollbarlaw04_FieldParts.l0
      repeat' first
      | (with_reducible exact ih0 _ _ _)
      | (with_reducible exact ih1 _ _ _ _ _ _ _ _)
      | (with_reducible exact ih2 _ _ _ _ _ _ _ _ _ _)
      | (with_reducible exact ih3 _ _ _ _ _ _ _ _ _ _ _ _ _)
      | (with_reducible exact ih4 _ _ _ _ _)
      | (with_reducible exact field_Get.mono _ _ _)
      | (with_reducible exact field_Has.mono _ _ _ _)
      | (with_reducible exact tollbarlaw04_looking.mono _)
      | (with_reducible exact tollbarref02_Fold.mono _ _)
      | (with_reducible exact tollbarref04_Same.mono _ _ _)
      | (with_reducible exact LeO.refl _)
      | (with_reducible exact LeO.none _)
      | (with_reducible refine LeO.ite ?_ ?_)
      | (with_reducible refine LeO.bind ?_ (fun _ => ?_))
      | exact ih0 _ _ _
      | exact ih1 _ _ _ _ _ _ _ _
      | exact ih2 _ _ _ _ _ _ _ _ _ _
      | exact ih3 _ _ _ _ _ _ _ _ _ _ _ _ _
      | exact ih4 _ _ _ _ _
      | exact field_Get.mono _ _ _
      | exact field_Has.mono _ _ _ _
      | exact tollbarlaw04_looking.mono _
      | exact tollbarref02_Fold.mono _ _
      | exact tollbarref04_Same.mono _ _ _
      | exact LeO.none _
      | refine LeO.ite ?_ ?_
      | refine LeO.bind ?_ (fun _ => ?_)
    · intro y0 y1 y2 y3 y4 y5 y6 y7 y8 y9
      unfold tollbarlaw04_FieldParts.j2
      repeat' first
      | (with_reducible exact ih0 _ _ _)
      | (with_reducible exact ih1 _ _ _ _ _ _ _ _)
      | (with_reducible exact ih2 _ _ _ _ _ _ _ _ _ _)
      | (with_reducible exact ih3 _ _ _ _ _ _ _ _ _ _ _ _ _)
      | (with_reducible exact ih4 _ _ _ _ _)
      | (with_reducible exact field_Get.mono _ _ _)
      | (with_reducible exact field_Has.mono _ _ _ _)
      | (with_reducible exact tollbarlaw04_looking.mono _)
      | (with_reducible exact tollbarref02_Fold.mono _ _)
      | (with_reducible exact tollbarref04_Same.mono _ _ _)
      | (with_reducible exact LeO.refl _)
      | (with_reducible exact LeO.none _)
      | (with_reducible refine LeO.ite ?_ ?_)
      | (with_reducible refine LeO.bind ?_ (fun _ => ?_))
      | exact ih0 _ _ _
      | exact ih1 _ _ _ _ _ _ _ _
      | exact ih2 _ _ _ _ _ _ _ _ _ _
      | exact ih3 _ _ _ _ _ _ _ _ _ _ _ _ _
      | exact ih4 _ _ _ _ _
      | exact field_Get.mono _ _ _
      | exact field_Has.mono _ _ _ _
      | exact tollbarlaw04_looking.mono _
      | exact tollbarref02_Fold.mono _ _
      | exact tollbarref04_Same.mono _ _ _
      | exact LeO.none _
      | refine LeO.ite ?_ ?_
      | refine LeO.bind ?_ (fun _ => ?_)
    · intro y0 y1 y2 y3 y4 y5 y6 y7 y8 y9 y10 y11 y12
      unfold tollbarlaw04_FieldParts.l1
      repeat' first
      | (with_reducible exact ih0 _ _ _)
      | (with_reducible exact ih1 _ _ _ _ _ _ _ _)
      | (with_reducible exact ih2 _ _ _ _ _ _ _ _ _ _)
      | (with_reducible exact ih3 _ _ _ _ _ _ _ _ _ _ _ _ _)
      | (with_reducible exact ih4 _ _ _ _ _)
      | (with_reducible exact field_Get.mono _ _ _)
      | (with_reducible exact field_Has.mono _ _ _ _)
      | (with_reducible exact tollbarlaw04_looking.mono _)
      | (with_reducible exact tollbarref02_Fold.mono _ _)
      | (with_reducible exact tollbarref04_Same.mono _ _ _)
      | (with_reducible exact LeO.refl _)
      | (with_reducible exact LeO.none _)
      | (with_reducible refine LeO.ite ?_ ?_)
      | (with_reducible refine LeO.bind ?_ (fun _ => ?_))
      | exact ih0 _ _ _
      | exact ih1 _ _ _ _ _ _ _ _
      | exact ih2 _ _ _ _ _ _ _ _ _ _
      | exact ih3 _ _ _ _ _ _ _ _ _ _ _ _ _
      | exact ih4 _ _ _ _ _
      | exact field_Get.mono _ _ _
      | exact field_Has.mono _ _ _ _
      | exact tollbarlaw04_looking.mono _
      | exact tollbarref02_Fold.mono _ _
      | exact tollbarref04_Same.mono _ _ _
      | exact LeO.none _
      | refine LeO.ite ?_ ?_
      | refine LeO.bind ?_ (fun _ => ?_)
    · intro y0 y1 y2 y3 y4
      unfold tollbarlaw04_FieldParts.l2
      repeat' first
      | (with_reducible exact ih0 _ _ _)
      | (with_reducible exact ih1 _ _ _ _ _ _ _ _)
      | (with_reducible exact ih2 _ _ _ _ _ _ _ _ _ _)
      | (with_reducible exact ih3 _ _ _ _ _ _ _ _ _ _ _ _ _)
      | (with_reducible exact ih4 _ _ _ _ _)
      | (with_reducible exact field_Get.mono _ _ _)
      | (with_reducible exact field_Has.mono _ _ _ _)
      | (with_reducible exact tollbarlaw04_looking.mono _)
      | (with_reducible exact tollbarref02_Fold.mono _ _)
      | (with_reducible exact tollbarref04_Same.mono _ _ _)
      | (with_reducible exact LeO.refl _)
      | (with_reducible exact LeO.none _)
      | (with_reducible refine LeO.ite ?_ ?_)
      | (with_reducible refine LeO.bind ?_ (fun _ => ?_))
      | exact ih0 _ _ _
      | exact ih1 _ _ _ _ _ _ _ _
      | exact ih2 _ _ _ _ _ _ _ _ _ _
      | exact ih3 _ _ _ _ _ _ _ _ _ _ _ _ _
      | exact ih4 _ _ _ _ _
      | exact field_Get.mono _ _ _
      | exact field_Has.mono _ _ _ _
      | exact tollbarlaw04_looking.mono _
      | exact tollbarref02_Fold.mono _ _
      | exact tollbarref04_Same.mono _ _ _
      | exact LeO.none _
      | refine LeO.ite ?_ ?_
      | refine LeO.bind ?_ (fun _ => ?_)
theorem tollbarlaw04_FieldParts.mono : ∀ a0 a1 k, LeO (tollbarlaw04_FieldParts.f k a0 a1) (tollbarlaw04_FieldParts.f (k + 1) a0 a1) := by
  intro a0 a1 k
  obtain ⟨ih0, ih1, ih2, ih3, ih4⟩ := tollbarlaw04_FieldParts.mono_l k
  unfold tollbarlaw04_FieldParts.f
  repeat' first
      | (with_reducible exact ih0 _ _ _)
      | (with_reducible exact ih1 _ _ _ _ _ _ _ _)
      | (with_reducible exact ih2 _ _ _ _ _ _ _ _ _ _)
      | (with_reducible exact ih3 _ _ _ _ _ _ _ _ _ _ _ _ _)
      | (with_reducible exact ih4 _ _ _ _ _)
      | (with_reducible exact field_Get.mono _ _ _)
      | (with_reducible exact field_Has.mono _ _ _ _)
      | (with_reducible exact tollbarlaw04_looking.mono _)
      | (with_reducible exact tollbarref02_Fold.mono _ _)
      | (with_reducible exact tollbarref04_Same.mono _ _ _)
      | (with_reducible exact LeO.refl _)
      | (with_reducible exact LeO.none _)
      | (with_reducible refine LeO.ite ?_ ?_)
      | (with_reducible refine LeO.bind ?_ (fun _ => ?_))
      | exact ih0 _ _ _
      | exact ih1 _ _ _ _ _ _ _ _
      | exact ih2 _ _ _ _ _ _ _ _ _ _
      | exact ih3 _ _ _ _ _ _ _ _ _ _ _ _ _
      | exact ih4 _ _ _ _ _
      | exact field_Get.mono _ _ _
      | exact field_Has.mono _ _ _ _
      | exact tollbarlaw04_looking.mono _
      | exact tollbarref02_Fold.mono _ _
      | exact tollbarref04_Same.mono _ _ _
      | exact LeO.none _
      | refine LeO.ite ?_ ?_
      | refine LeO.bind ?_ (fun _ => ?_)
set_option maxHeartbeats 8000000 in
set_option maxRecDepth 100000 in
theorem tollbarlaw04_FieldParts.calls (k : Nat) (A0 : Option Addr) (c0 : Nat) (l0 : List (S24)) (A1 : Option Addr) (c1 : Nat) (l1 : List ByteArray) (r : Bool) (w : World) (hr0 : Kd.C k24 w A0 l0.length l0) (hc0 : l0.length ≤ c0) (hr1 : Kd.C Kd.string w A1 l1.length l1) (hc1 : l1.length ≤ c1) (h : tollbarlaw04_FieldParts.f k l0 l1 = some r) :
    Calls Tryd.prog 5 #[.slice A0 l0.length c0, .slice A1 l1.length c1] w fun e w' => e = .returned (.bool r) ∧ Below w.heap.size w w' := by
  have HR0 := Aside0.mk hr0
  have HC0 := Aside0.mk hc0
  clear hr0 hc0
  have HR1 := Aside0.mk hr1
  have HC1 := Aside0.mk hc1
  clear hr1 hc1
  have HB := Aside0.mk (Below.refl w.heap.size w)
  have H : ((tollbarlaw04_looking.f k).bind fun t220 => (if t220 = true then (if (l0.length : Int) > 100 then (tollbarlaw04_FieldParts.j0 k l0 l1 true) else (tollbarlaw04_FieldParts.j0 k l0 l1 (decide ((l1.length : Int) > 100)))) else (none))) = some r := h
  clear h
  replace H := Option.bind_eq_some_iff.mp H
  obtain ⟨t220, A30, H⟩ := H
  replace H : (if t220 = true then (if (l0.length : Int) > 100 then (tollbarlaw04_FieldParts.j0 k l0 l1 true) else (tollbarlaw04_FieldParts.j0 k l0 l1 (decide ((l1.length : Int) > 100)))) else (none)) = some r := H
  have A3 := Aside0.mk A30
  clear A30
  by_cases c4 : t220 = true
  · subst c4
    have H1 : (if (l0.length : Int) > 100 then (tollbarlaw04_FieldParts.j0 k l0 l1 true) else (tollbarlaw04_FieldParts.j0 k l0 l1 (decide ((l1.length : Int) > 100)))) = some r := by rw [if_pos rfl] at H; exact H
    clear H
    have H := H1
    clear H1
    have HC5 := Aside0.mk H
    clear H
    go_enter Tryd.func5, Tryd.ntmps5
    go_upto_region 3 with (first | ((with_reducible refine gate_callee (f := 18) rfl ?_); refine goesL_ (some 15) rfl rfl Tryd.func18 (by kernel_rfl) rfl #[] rfl (by (try simp only [List.map_toArray, List.map_cons, List.map_nil]); first | done | rfl | (simp only [List.length_drop, List.length_take]; rfl)) ?_; (with_reducible refine (tollbarlaw04_looking.calls k  true _ A3.out).mono ?_); rintro e w6 ⟨rfl, hb⟩; refine ⟨_, rfl, ?_⟩; have n0_ := Aside0.mk (below_step (by repeat (first | (with_reducible first | exact HB.out | apply below_alloc | apply pw_below_drewN | apply below_drew1) | exact HB.out)) hb); clear HB; have HB := n0_; clear n0_; (try clear hb); (try clear hb2); (try clear hk); (try clear hi)))
    (try simp only [Act.put, List.setIfInBounds_toArray, List.set_cons_zero, List.set_cons_succ])
    go_cut [24] (fun v24 wc => ∃ (kq : Nat) (x24_4 : Bool), v24 = .bool x24_4 ∧ Aside0 (tollbarlaw04_FieldParts.j0 kq l0 l1 x24_4 = some r) ∧ Aside0 (kq ≤ k) ∧ Aside0 (Below w.heap.size w wc))
    case first =>
      have H := HC5.out
      clear HC5
      by_cases c7 : (l0.length : Int) > 100
      · rw [if_pos c7] at H
        have c7b0 : decide (100 < (l0.length : Int)) = true := decide_eq_true c7
        have c7b1 : decide (100 < l0.length) = true := decide_eq_true (by omega)
        clear c7
        (first | rw [c7b0] | (simp only [i64_w, i32_w]; rw [c7b0]) | skip)
        have H' := Aside0.mk H
        clear H
        go_wp2
        go_meet
        case rel => exact ⟨_, (true), (by first | rfl | (simp; done) | (simp [*]; done)), H', ⟨by first | omega | exact Nat.le_refl _⟩, ⟨by repeat (first | (with_reducible first | exact HB.out | apply below_alloc | apply pw_below_drewN | apply below_drew1) | exact HB.out)⟩⟩
      · rw [if_neg c7] at H
        have c7b0 : decide (100 < (l0.length : Int)) = false := decide_eq_false c7
        have c7b1 : decide (100 < l0.length) = false := decide_eq_false (by omega)
        clear c7
        (first | rw [c7b0] | (simp only [i64_w, i32_w]; rw [c7b0]) | skip)
        have H' := Aside0.mk H
        clear H
        go_wp2
        go_meet
        case rel => exact ⟨_, (decide ((l1.length : Int) > 100)), (by first | rfl | (simp; done) | (simp [*]; done)), H', ⟨by first | omega | exact Nat.le_refl _⟩, ⟨by repeat (first | (with_reducible first | exact HB.out | apply below_alloc | apply pw_below_drewN | apply below_drew1) | exact HB.out)⟩⟩
    case rest =>
      clear HC5
      try clear c1
      try clear p2
      try clear c4
      try clear c5
      try clear c7
      try clear c7b0
      try clear c7b1
      obtain ⟨kq, x24_4, rfl, HA, HJ4, HB⟩ := hcut
      cases kq with
      | zero => exact absurd HA.out (by simp [tollbarlaw04_FieldParts.j0])
      | succ kj4 =>
        have H := HA.out
        clear HA
        simp only [tollbarlaw04_FieldParts.j0] at H
        by_cases c8 : x24_4 = true
        · subst c8
          have H1 : (some true) = some r := by rw [if_pos rfl] at H; exact H
          clear H
          have H := H1
          clear H1
          obtain rfl := Option.some.inj H
          go_wp2
          go_ret
          exact ⟨by first | rfl | (simp [errW_none, errW_some] <;> rfl) | (simp [*, errW_none, errW_some] <;> rfl), by repeat (first | (with_reducible first | exact HB.out | apply below_alloc | apply pw_below_drewN | apply below_drew1) | exact HB.out)⟩
        · replace c8 := Bool.eq_false_iff.mpr c8
          subst c8
          have H1 : ((some (([] : List (S24)) : List (S24))).bind fun y221 => (if y221.length + l0.length < 4398046511104 then ((field_Without.f l0 l1).bind fun t227 => (tollbarlaw04_FieldParts.l0 kj4 l0 (y221 ++ l0) t227 0 (([] : List ByteArray)) l1 (l1.length : Int) 0)) else (none))) = some r := by rw [if_neg (show ¬ (false = true) by decide)] at H; exact H
          clear H
          have H := H1
          clear H1
          obtain ⟨y221, hy221⟩ : ∃ y_ : List (S24), y_ = (([] : List (S24))) := ⟨_, rfl⟩
          replace H : (if y221.length + l0.length < 4398046511104 then ((field_Without.f l0 l1).bind fun t227 => (tollbarlaw04_FieldParts.l0 kj4 l0 (y221 ++ l0) t227 0 (([] : List ByteArray)) l1 (l1.length : Int) 0)) else (none)) = some r := by first | (rw [hy221]; with_reducible exact H) | (have H2_ := (Option.bind_some _ _).symm.trans H; rw [hy221]; with_reducible exact H2_) | (have H2_ := (Option.bind_some _ _).symm.trans H; with_reducible exact H2_) | with_reducible exact H | (rw [hy221]; exact H) | exact H
          have Ny221 := Aside0.mk hy221
          clear hy221
          by_cases c9 : y221.length + l0.length < 4398046511104
          · rw [if_pos c9] at H
            have LMc9 := Aside0.mk c9
            clear c9
            obtain ⟨y224, hy224⟩ : ∃ y_ : List (S24), y_ = (y221 ++ l0) := ⟨_, rfl⟩
            replace H : ((field_Without.f l0 l1).bind fun t227 => (tollbarlaw04_FieldParts.l0 kj4 l0 y224 t227 0 (([] : List ByteArray)) l1 (l1.length : Int) 0)) = some r := by first | (rw [hy224]; with_reducible exact H) | (have H2_ := (Option.bind_some _ _).symm.trans H; rw [hy224]; with_reducible exact H2_) | (have H2_ := (Option.bind_some _ _).symm.trans H; with_reducible exact H2_) | with_reducible exact H | (rw [hy224]; exact H) | exact H
            have Ny224 := Aside0.mk hy224
            clear hy224
            replace H := Option.bind_eq_some_iff.mp H
            obtain ⟨t227, A100, H⟩ := H
            replace H : (tollbarlaw04_FieldParts.l0 kj4 l0 y224 t227 0 (([] : List ByteArray)) l1 (l1.length : Int) 0) = some r := H
            have A10 := Aside0.mk A100
            clear A100
            obtain ⟨y230, hy230⟩ : ∃ y_ : List ByteArray, y_ = (([] : List ByteArray)) := ⟨_, rfl⟩
            replace H : (tollbarlaw04_FieldParts.l0 kj4 l0 y224 t227 0 y230 l1 (l1.length : Int) 0) = some r := by first | (rw [hy230]; with_reducible exact H) | (have H2_ := (Option.bind_some _ _).symm.trans H; rw [hy230]; with_reducible exact H2_) | (have H2_ := (Option.bind_some _ _).symm.trans H; with_reducible exact H2_) | with_reducible exact H | (rw [hy230]; exact H) | exact H
            have Ny230 := Aside0.mk hy230
            clear hy230
            have H' := Aside0.mk H
            clear H
            go_wp2_with (first | ((with_reducible refine gate_dst (N := 25) rfl ?_); (try (refine gate_guard (by rfl) ?_; dsimp only)); refine Kd.R_lit k24 _ 24 ?hg (N := 25) ?hd (xs := ([] : List (S24))) (inner := []) (ok := fun _ => True) (okp := fun _ => True) ?hr ?hp (fun _ hk => hk) trivial (Below.refl _ _) (Nat.le_refl _) (by simp) ?_; (case hd => rfl); (case hg => rfl); (case hr => first | (go_simp; done) | (go_simp; rfl)); (case hp => exact (Reps.none _ _)); intro v222 w11 ho12 hb hg_ hnew_; clear hg_ hnew_; (first | rw [← Ny221.out] at ho12 | (simp only [Int.reduceToNat] at ho12; rw [← Ny221.out] at ho12)); have n0_ := Aside0.mk (Kd.R_lower ho12 (below_size (by repeat (first | (with_reducible first | exact HB.out | apply below_alloc | apply pw_below_drewN | apply below_drew1) | exact HB.out)))); have n1_ := Aside0.mk (below_step (by repeat (first | (with_reducible first | exact HB.out | apply below_alloc | apply pw_below_drewN | apply below_drew1) | exact HB.out)) hb); clear HB; have HO223 := n0_; have HB := n1_; clear n0_ n1_; clear hb ho12) | ((with_reducible refine gate_builtin (b := .append) (xs := #[.tmp 25, .tmp 26]) rfl ?_); (try (refine gate_guard (by rfl) ?_; dsimp only)); at_builtin; refine Kd.R_append_rows k24 (w0 := w) w.heap.size rfl (.tmp 25) (.tmp 26) 31 24 (.agg #[(.string ⟨#[]⟩), (.string ⟨#[]⟩)]) 32 rfl Tryd.underlying31 info24 rfl (by decide) (by omega) v222 y221 l0 _ _ _ (fun _ => True) (fun _ => False) rfl rfl ?aO ?aR (fun _ _ h => h) (fun _ h => h.elim) ?aF ?aB ?aS ?aL ?_; (case aR => repeat (first | exact (Kd.C_below HR0.out HB.out) | (with_reducible refine Kd.C_alloc ?_ _) | (with_reducible refine Kd.C_drewN ?_ _) | (with_reducible refine Kd.C_drew ?_))); (case aB => exact (by repeat (first | (with_reducible first | exact HB.out | apply below_alloc | apply pw_below_drewN | apply below_drew1) | exact HB.out))); (case aF => exact (fun _ _ => trivial)); (case aO => exact (by (with_reducible repeat (first | apply Kd.R_alloc | apply Kd.R_drewN | apply Kd.R_drew)); exact HO223.out)); (case aS => exact (below_size (by repeat (first | (with_reducible first | exact HB.out | apply below_alloc | apply pw_below_drewN | apply below_drew1) | exact HB.out)))); (case aL => have := LMc9.out; omega); intro v225 w13 ho hb hg hat; rw [← Ny224.out] at ho; have n0_ := Aside0.mk (hb); have n1_ := Aside0.mk (ho); clear HB; clear HO223; have HB := n0_; have HO226 := n1_; clear n0_ n1_; clear ho hb hg hat) | ((with_reducible refine gate_callee (f := 29) rfl ?_); refine goesL_ (some 30) rfl rfl Tryd.func29 (by kernel_rfl) rfl #[.slice A0 l0.length c0, .slice A1 l1.length c1] rfl (by (try simp only [List.map_toArray, List.map_cons, List.map_nil]); first | done | rfl | (simp only [List.length_drop, List.length_take]; rfl)) ?_; (with_reducible refine (field_Without.calls _ _ l0 _ _ l1 t227 _ ?side1 ?side2 ?side3 ?side4 A10.out).mono ?_); (case side1 => repeat (first | exact (Kd.C_below HR0.out HB.out) | (with_reducible refine Kd.C_alloc ?_ _) | (with_reducible refine Kd.C_drewN ?_ _) | (with_reducible refine Kd.C_drew ?_))); (case side2 => exact HC0.out); (case side3 => repeat (first | exact (Kd.C_below HR1.out HB.out) | (with_reducible refine Kd.C_alloc ?_ _) | (with_reducible refine Kd.C_drewN ?_ _) | (with_reducible refine Kd.C_drew ?_))); (case side4 => exact HC1.out); rintro e w14 ⟨v228, rfl, ho0, hb⟩; refine ⟨_, rfl, ?_⟩; have n0_ := Aside0.mk (Kd.R_elder' (by (with_reducible repeat (first | apply Kd.R_alloc | apply Kd.R_drewN | apply Kd.R_drew)); exact HO226.out) (Kd.R_base ho0) hb); have n1_ := Aside0.mk (Kd.R_lower (Kd.R_new' ho0 (Kd.R_lt (by (with_reducible repeat (first | apply Kd.R_alloc | apply Kd.R_drewN | apply Kd.R_drew)); exact HO226.out))) (below_size (by repeat (first | (with_reducible first | exact HB.out | apply below_alloc | apply pw_below_drewN | apply below_drew1) | exact HB.out)))); have n2_ := Aside0.mk (below_step (by repeat (first | (with_reducible first | exact HB.out | apply below_alloc | apply pw_below_drewN | apply below_drew1) | exact HB.out)) hb); clear HO226; clear HB; have HO226 := n0_; have HO229 := n1_; have HB := n2_; clear n0_ n1_ n2_; (try clear hb); (try clear hb2); (try clear hk); (try clear hi); (try clear ho0)) | ((with_reducible refine gate_dst (N := 31) rfl ?_); (try (refine gate_guard (by rfl) ?_; dsimp only)); refine Kd.R_lit Kd.string _ 9 ?hg (N := 31) ?hd (xs := ([] : List ByteArray)) (inner := []) (ok := fun _ => True) (okp := fun _ => True) ?hr ?hp (fun _ hk => hk) trivial (Below.refl _ _) (Nat.le_refl _) (by simp) ?_; (case hd => rfl); (case hg => rfl); (case hr => first | (go_simp; done) | (go_simp; rfl)); (case hp => exact (Reps.none _ _)); intro v231 w15 ho16 hb hg_ hnew_; clear hg_ hnew_; (first | rw [← Ny230.out] at ho16 | (simp only [Int.reduceToNat] at ho16; rw [← Ny230.out] at ho16)); have n0_ := Aside0.mk (Kd.R_below (by (with_reducible repeat (first | apply Kd.R_alloc | apply Kd.R_drewN | apply Kd.R_drew)); exact HO226.out) hb); have n1_ := Aside0.mk (Kd.R_below (by (with_reducible repeat (first | apply Kd.R_alloc | apply Kd.R_drewN | apply Kd.R_drew)); exact HO229.out) hb); have n2_ := Aside0.mk (Kd.R_lower ho16 (below_size (by repeat (first | (with_reducible first | exact HB.out | apply below_alloc | apply pw_below_drewN | apply below_drew1) | exact HB.out)))); have n3_ := Aside0.mk (below_step (by repeat (first | (with_reducible first | exact HB.out | apply below_alloc | apply pw_below_drewN | apply below_drew1) | exact HB.out)) hb); clear HO226; clear HO229; clear HB; have HO226 := n0_; have HO229 := n1_; have HO232 := n2_; have HB := n3_; clear n0_ n1_ n2_ n3_; clear hb ho16))
            go_loopg [7, 8, 34] kj4 (fun kq v7 v8 v34 w' => ∃ (x7_2 : Int) (x8_2 : List ByteArray) (x34_2 : Int), v7 = .int .i64 x7_2 ∧ v34 = .int .i64 x34_2 ∧ Aside0 (tollbarlaw04_FieldParts.l0 kq l0 y224 t227 x7_2 x8_2 l1 (l1.length : Int) x34_2 = some r) ∧ Aside0 (kq ≤ kj4) ∧ Aside0 (Kd.R k24 24 w' w.heap.size (fun k_ => some k_ ≠ (v228 : Value).ownBlock) v225 y224) ∧ Aside0 (Kd.R k24 24 w' w.heap.size (fun k_ => some k_ ≠ (v225 : Value).ownBlock) v228 t227) ∧ Aside0 (Kd.R Kd.string 9 w' w.heap.size (fun _ => True) v8 x8_2) ∧ Aside0 (Below w.heap.size w w'))
            case atStart => exact ⟨(0), (y230), (0), (by first | rfl | (simp; done) | (simp [*]; done)), (by first | rfl | (simp; done) | (simp [*]; done)), H', ⟨Nat.le_refl _⟩, ⟨by (with_reducible repeat (first | apply Kd.R_alloc | apply Kd.R_drewN | apply Kd.R_drew)); exact Kd.R_mono HO226.out (fun _ hk => hk.2)⟩, ⟨by (with_reducible repeat (first | apply Kd.R_alloc | apply Kd.R_drewN | apply Kd.R_drew)); exact Kd.R_mono HO229.out (fun _ hk => hk.2)⟩, ⟨by (with_reducible repeat (first | apply Kd.R_alloc | apply Kd.R_drewN | apply Kd.R_drew)); exact HO232.out⟩, ⟨by repeat (first | (with_reducible first | exact HB.out | apply below_alloc | apply pw_below_drewN | apply below_drew1) | exact HB.out)⟩⟩
            case round =>
              clear H'
              try clear c1
              try clear c2
              try clear p2
              try clear c4
              try clear c5
              try clear c7
              try clear c7b0
              try clear c7b1
              try clear c8
              try clear c9
              try clear p2
              obtain ⟨x7_2, x8_2, x34_2, rfl, rfl, HA, HK2, HO_5, HO_6, HO_8, HB⟩ := hrel
              cases gk with
              | zero => exact absurd HA.out (by simp [tollbarlaw04_FieldParts.l0])
              | succ k2 =>
                have H := HA.out
                clear HA
                simp only [tollbarlaw04_FieldParts.l0] at H
                by_cases c17 : x34_2 < (l1.length : Int)
                · rw [if_pos c17] at H
                  have c17b0 : decide (x34_2 < (l1.length : Int)) = true := decide_eq_true c17
                  clear c17
                  by_cases c18 : 0 ≤ x34_2
                  · rw [if_pos c18] at H
                    have c18b0 : decide (0 ≤ x34_2) = true := decide_eq_true c18
                    clear c18
                    by_cases c19 : x34_2 < (l1.length : Int)
                    · rw [if_pos c19] at H
                      have c19b0 : decide (x34_2 < (l1.length : Int)) = true := decide_eq_true c19
                      clear c19
                      have HC20 := Aside0.mk H
                      clear H
                      have p233 : 0 ≤ (x34_2 : Int) := of_decide_eq_true (by first | (with_reducible assumption) | assumption)
                      have q233 : x34_2 < (l1.length : Int) := of_decide_eq_true (by first | (with_reducible assumption) | assumption)
                      obtain ⟨ad233, e233, hx233_0⟩ := Kd.at_string HR1.out x34_2 p233 q233
                      cases e233
                      replace hx233_0 := (HB.out.cell (World.block_lt_of_cell? w _ hx233_0)).trans hx233_0
                      replace p233 := eq_true p233
                      replace q233 := eq_true q233
                      go_upto_region 12 with (fail)
                      go_cut [47] (fun v47 wc => ∃ (kq : Nat) (x47_19 : Bool), v47 = .bool x47_19 ∧ Aside0 (tollbarlaw04_FieldParts.j2 kq l0 y224 t227 x7_2 x8_2 (rdOf ByteArray.empty l1 x34_2) l1 (l1.length : Int) x34_2 x47_19 = some r) ∧ Aside0 (kq ≤ k2) ∧ Aside0 (Kd.R k24 24 wc w.heap.size (fun k_ => some k_ ≠ (v228 : Value).ownBlock) v225 y224) ∧ Aside0 (Kd.R k24 24 wc w.heap.size (fun k_ => some k_ ≠ (v225 : Value).ownBlock) v228 t227) ∧ Aside0 (Kd.R Kd.string 9 wc w.heap.size (fun _ => True) u8 x8_2) ∧ Aside0 (Below w.heap.size w wc))
                      case first =>
                        have H := HC20.out
                        clear HC20
                        replace H := Option.bind_eq_some_iff.mp H
                        obtain ⟨t234, A210, H⟩ := H
                        replace H : (if (t234.length : Int) = 0 then ((field_Has.f k2 t227 (rdOf ByteArray.empty l1 x34_2) (⟨#[120]⟩ : ByteArray)).bind fun t237 => (tollbarlaw04_FieldParts.j2 k2 l0 y224 t227 x7_2 x8_2 (rdOf ByteArray.empty l1 x34_2) l1 (l1.length : Int) x34_2 t237)) else (tollbarlaw04_FieldParts.j2 k2 l0 y224 t227 x7_2 x8_2 (rdOf ByteArray.empty l1 x34_2) l1 (l1.length : Int) x34_2 true)) = some r := H
                        have A21 := Aside0.mk A210
                        clear A210
                        by_cases c22 : (t234.length : Int) = 0
                        · rw [if_pos c22] at H
                          have c22b0 : ((t234.length : Int) == 0) = true := beq_iff_eq.mpr c22
                          have c22b1 : ((t234.length : Int) != 0) = false := bne_eq_false_iff_eq.mpr c22
                          clear c22
                          (first | rw [c22b0] | (simp only [i64_w, i32_w]; rw [c22b0]) | skip)
                          replace H := Option.bind_eq_some_iff.mp H
                          obtain ⟨t237, A230, H⟩ := H
                          replace H : (tollbarlaw04_FieldParts.j2 k2 l0 y224 t227 x7_2 x8_2 (rdOf ByteArray.empty l1 x34_2) l1 (l1.length : Int) x34_2 t237) = some r := H
                          have A23 := Aside0.mk A230
                          clear A230
                          have H' := Aside0.mk H
                          clear H
                          obtain ⟨Ao24, co24, eo24⟩ := Kd.R_slice HO_6.out
                          subst eo24
                          go_wp2_with (first | ((with_reducible refine gate_callee (f := 20) rfl ?_); refine goesL_ (some 40) rfl rfl Tryd.func20 (by kernel_rfl) rfl #[.slice Ao24 t227.length co24, .string (rdOf ByteArray.empty l1 x34_2)] rfl (by (try simp only [List.map_toArray, List.map_cons, List.map_nil]); first | done | rfl | (simp only [List.length_drop, List.length_take]; rfl)) ?_; (with_reducible refine (field_Get.calls k2 _ _ t227 (rdOf ByteArray.empty l1 x34_2) t234 _ ?side1 ?side2 A21.out).mono ?_); (case side1 => repeat (first | exact (Kd.R_reads' HO_6.out).2.2 | (with_reducible refine Kd.C_alloc ?_ _) | (with_reducible refine Kd.C_drewN ?_ _) | (with_reducible refine Kd.C_drew ?_))); (case side2 => exact (Kd.R_reads' HO_6.out).2.1); rintro e w25 ⟨v235, rfl, ho0, hb⟩; refine ⟨_, rfl, ?_⟩; have n0_ := Aside0.mk (Kd.R_below (by (with_reducible repeat (first | apply Kd.R_alloc | apply Kd.R_drewN | apply Kd.R_drew)); exact HO_5.out) hb); have n1_ := Aside0.mk (Kd.R_below (by (with_reducible repeat (first | apply Kd.R_alloc | apply Kd.R_drewN | apply Kd.R_drew)); exact HO_6.out) hb); have n2_ := Aside0.mk (Kd.R_elder' (by (with_reducible repeat (first | apply Kd.R_alloc | apply Kd.R_drewN | apply Kd.R_drew)); exact HO_8.out) (Kd.R_base ho0) hb); have n3_ := Aside0.mk (Kd.R_lower (Kd.R_new' ho0 (Kd.R_lt (by (with_reducible repeat (first | apply Kd.R_alloc | apply Kd.R_drewN | apply Kd.R_drew)); exact HO_8.out))) (below_size (by repeat (first | (with_reducible first | exact HB.out | apply below_alloc | apply pw_below_drewN | apply below_drew1) | exact HB.out)))); have n4_ := Aside0.mk (below_step (by repeat (first | (with_reducible first | exact HB.out | apply below_alloc | apply pw_below_drewN | apply below_drew1) | exact HB.out)) hb); clear HO_5; clear HO_6; clear HO_8; clear HB; have HO_5 := n0_; have HO_6 := n1_; have HO_8 := n2_; have HO236 := n3_; have HB := n4_; clear n0_ n1_ n2_ n3_ n4_; (try clear hb); (try clear hb2); (try clear hk); (try clear hi); (try clear ho0); obtain ⟨Ao26, co26, eo26⟩ := Kd.R_slice HO236.out; subst eo26) | (go_at_call 24; (with_reducible refine (field_Has.calls k2 _ _ t227 (rdOf ByteArray.empty l1 x34_2) (⟨#[120]⟩ : ByteArray) t237 _ ?side1 ?side2 A23.out).mono ?_); (case side1 => repeat (first | exact (Kd.R_reads' HO_6.out).2.2 | (with_reducible refine Kd.C_alloc ?_ _) | (with_reducible refine Kd.C_drewN ?_ _) | (with_reducible refine Kd.C_drew ?_))); (case side2 => exact (Kd.R_reads' HO_6.out).2.1); rintro e w27 ⟨rfl, hb⟩; have n0_ := Aside0.mk (Kd.R_below (by (with_reducible repeat (first | apply Kd.R_alloc | apply Kd.R_drewN | apply Kd.R_drew)); exact HO_5.out) hb); have n1_ := Aside0.mk (Kd.R_below (by (with_reducible repeat (first | apply Kd.R_alloc | apply Kd.R_drewN | apply Kd.R_drew)); exact HO_6.out) hb); have n2_ := Aside0.mk (Kd.R_below (by (with_reducible repeat (first | apply Kd.R_alloc | apply Kd.R_drewN | apply Kd.R_drew)); exact HO_8.out) hb); have n3_ := Aside0.mk (Kd.R_below (by (with_reducible repeat (first | apply Kd.R_alloc | apply Kd.R_drewN | apply Kd.R_drew)); exact HO236.out) hb); have n4_ := Aside0.mk (below_step (by repeat (first | (with_reducible first | exact HB.out | apply below_alloc | apply pw_below_drewN | apply below_drew1) | exact HB.out)) hb); clear HO_5; clear HO_6; clear HO_8; clear HO236; clear HB; have HO_5 := n0_; have HO_6 := n1_; have HO_8 := n2_; have HO236 := n3_; have HB := n4_; clear n0_ n1_ n2_ n3_ n4_; (try clear hb); (try clear hb2); (try clear hk); (try clear hi)))
                          go_meet
                          case rel => exact ⟨_, (t237), (by first | rfl | (simp; done) | (simp [*]; done)), H', ⟨by have := HJ4.out; have := HK2.out; first | omega | exact Nat.le_refl _⟩, ⟨by (with_reducible repeat (first | apply Kd.R_alloc | apply Kd.R_drewN | apply Kd.R_drew)); exact HO_5.out⟩, ⟨by (with_reducible repeat (first | apply Kd.R_alloc | apply Kd.R_drewN | apply Kd.R_drew)); exact HO_6.out⟩, ⟨by (with_reducible repeat (first | apply Kd.R_alloc | apply Kd.R_drewN | apply Kd.R_drew)); exact Kd.R_mono HO_8.out (fun _ hk => trivial)⟩, ⟨by repeat (first | (with_reducible first | exact HB.out | apply below_alloc | apply pw_below_drewN | apply below_drew1) | exact HB.out)⟩⟩
                        · rw [if_neg c22] at H
                          have c22b0 : ((t234.length : Int) == 0) = false := beq_eq_false_iff_ne.mpr c22
                          have c22b1 : ((t234.length : Int) != 0) = true := bne_iff_ne.mpr c22
                          have c22b2 : ¬ (t234 = []) := fun h_ => c22 (by rw [h_]; rfl)
                          (first | rw [c22b0] | (simp only [i64_w, i32_w]; rw [c22b0]) | skip)
                          have H' := Aside0.mk H
                          clear H
                          obtain ⟨Ao28, co28, eo28⟩ := Kd.R_slice HO_6.out
                          subst eo28
                          go_wp2_with (first | ((with_reducible refine gate_callee (f := 20) rfl ?_); refine goesL_ (some 40) rfl rfl Tryd.func20 (by kernel_rfl) rfl #[.slice Ao28 t227.length co28, .string (rdOf ByteArray.empty l1 x34_2)] rfl (by (try simp only [List.map_toArray, List.map_cons, List.map_nil]); first | done | rfl | (simp only [List.length_drop, List.length_take]; rfl)) ?_; (with_reducible refine (field_Get.calls k2 _ _ t227 (rdOf ByteArray.empty l1 x34_2) t234 _ ?side1 ?side2 A21.out).mono ?_); (case side1 => repeat (first | exact (Kd.R_reads' HO_6.out).2.2 | (with_reducible refine Kd.C_alloc ?_ _) | (with_reducible refine Kd.C_drewN ?_ _) | (with_reducible refine Kd.C_drew ?_))); (case side2 => exact (Kd.R_reads' HO_6.out).2.1); rintro e w29 ⟨v235, rfl, ho0, hb⟩; refine ⟨_, rfl, ?_⟩; have n0_ := Aside0.mk (Kd.R_below (by (with_reducible repeat (first | apply Kd.R_alloc | apply Kd.R_drewN | apply Kd.R_drew)); exact HO_5.out) hb); have n1_ := Aside0.mk (Kd.R_below (by (with_reducible repeat (first | apply Kd.R_alloc | apply Kd.R_drewN | apply Kd.R_drew)); exact HO_6.out) hb); have n2_ := Aside0.mk (Kd.R_elder' (by (with_reducible repeat (first | apply Kd.R_alloc | apply Kd.R_drewN | apply Kd.R_drew)); exact HO_8.out) (Kd.R_base ho0) hb); have n3_ := Aside0.mk (Kd.R_lower (Kd.R_new' ho0 (Kd.R_lt (by (with_reducible repeat (first | apply Kd.R_alloc | apply Kd.R_drewN | apply Kd.R_drew)); exact HO_8.out))) (below_size (by repeat (first | (with_reducible first | exact HB.out | apply below_alloc | apply pw_below_drewN | apply below_drew1) | exact HB.out)))); have n4_ := Aside0.mk (below_step (by repeat (first | (with_reducible first | exact HB.out | apply below_alloc | apply pw_below_drewN | apply below_drew1) | exact HB.out)) hb); clear HO_5; clear HO_6; clear HO_8; clear HB; have HO_5 := n0_; have HO_6 := n1_; have HO_8 := n2_; have HO236 := n3_; have HB := n4_; clear n0_ n1_ n2_ n3_ n4_; (try clear hb); (try clear hb2); (try clear hk); (try clear hi); (try clear ho0); obtain ⟨Ao30, co30, eo30⟩ := Kd.R_slice HO236.out; subst eo30))
                          go_meet
                          case rel => exact ⟨_, (true), (by first | rfl | (simp; done) | (simp [*]; done)), H', ⟨by have := HJ4.out; have := HK2.out; first | omega | exact Nat.le_refl _⟩, ⟨by (with_reducible repeat (first | apply Kd.R_alloc | apply Kd.R_drewN | apply Kd.R_drew)); exact HO_5.out⟩, ⟨by (with_reducible repeat (first | apply Kd.R_alloc | apply Kd.R_drewN | apply Kd.R_drew)); exact HO_6.out⟩, ⟨by (with_reducible repeat (first | apply Kd.R_alloc | apply Kd.R_drewN | apply Kd.R_drew)); exact Kd.R_mono HO_8.out (fun _ hk => trivial)⟩, ⟨by repeat (first | (with_reducible first | exact HB.out | apply below_alloc | apply pw_below_drewN | apply below_drew1) | exact HB.out)⟩⟩
                      case rest =>
                        clear HC20
                        try clear c1
                        try clear c2
                        try clear p2
                        try clear q2
                        try clear hx2
                        try clear c4
                        try clear c5
                        try clear c7
                        try clear c7b0
                        try clear c7b1
                        try clear c8
                        try clear c9
                        try clear c17
                        try clear c17b0
                        try clear c18
                        try clear c18b0
                        try clear c19
                        try clear c19b0
                        try clear c20
                        try clear c22
                        try clear c22b0
                        try clear c22b1
                        try clear c22b2
                        try clear p23
                        try clear q23
                        try clear hx23
                        try clear c29
                        try clear hx233_0
                        try clear p2
                        try clear p233
                        try clear q233
                        obtain ⟨kq, x47_19, rfl, HA, HJ19, HO_5, HO_6, HO_8, HB⟩ := hcut
                        cases kq with
                        | zero => exact absurd HA.out (by simp [tollbarlaw04_FieldParts.j2])
                        | succ kj19 =>
                          have H := HA.out
                          clear HA
                          simp only [tollbarlaw04_FieldParts.j2] at H
                          by_cases c31 : x47_19 = true
                          · subst c31
                            have H1 : (none) = some r := by rw [if_pos rfl] at H; exact H
                            clear H
                            have H := H1
                            clear H1
                            exact absurd H (by simp)
                          · replace c31 := Bool.eq_false_iff.mpr c31
                            subst c31
                            have H1 : (tollbarlaw04_FieldParts.l1 kj19 l0 y224 t227 x7_2 x8_2 (rdOf ByteArray.empty l1 x34_2) false l1 (l1.length : Int) x34_2 x8_2 (x8_2.length : Int) 0) = some r := by rw [if_neg (show ¬ (false = true) by decide)] at H; exact H
                            clear H
                            have H := H1
                            clear H1
                            have H' := Aside0.mk H
                            clear H
                            obtain ⟨Ao32, co32, eo32⟩ := Kd.R_slice HO_8.out
                            subst eo32
                            go_wp2
                            go_loopg [11, 50] kj19 (fun kq v11 v50 w' => ∃ (x11_4 : Bool) (x50_4 : Int), v11 = .bool x11_4 ∧ v50 = .int .i64 x50_4 ∧ Aside0 (tollbarlaw04_FieldParts.l1 kq l0 y224 t227 x7_2 x8_2 (rdOf ByteArray.empty l1 x34_2) x11_4 l1 (l1.length : Int) x34_2 x8_2 (x8_2.length : Int) x50_4 = some r) ∧ Aside0 (kq ≤ kj19) ∧ Aside0 (Kd.R k24 24 w' w.heap.size (fun k_ => some k_ ≠ (v228 : Value).ownBlock) v225 y224) ∧ Aside0 (Kd.R k24 24 w' w.heap.size (fun k_ => some k_ ≠ (v225 : Value).ownBlock) v228 t227) ∧ Aside0 (Kd.R Kd.string 9 w' w.heap.size (fun _ => True) (.slice Ao32 x8_2.length co32) x8_2) ∧ Aside0 (Kd.R Kd.string 9 w' w.heap.size (fun _ => True) (.slice Ao32 x8_2.length co32) x8_2) ∧ Aside0 (Below w.heap.size w w'))
                            case atStart => exact ⟨(false), (0), (by first | rfl | (simp; done) | (simp [*]; done)), (by first | rfl | (simp; done) | (simp [*]; done)), H', ⟨Nat.le_refl _⟩, ⟨by (with_reducible repeat (first | apply Kd.R_alloc | apply Kd.R_drewN | apply Kd.R_drew)); exact HO_5.out⟩, ⟨by (with_reducible repeat (first | apply Kd.R_alloc | apply Kd.R_drewN | apply Kd.R_drew)); exact HO_6.out⟩, ⟨by (with_reducible repeat (first | apply Kd.R_alloc | apply Kd.R_drewN | apply Kd.R_drew)); exact HO_8.out⟩, ⟨by (with_reducible repeat (first | apply Kd.R_alloc | apply Kd.R_drewN | apply Kd.R_drew)); exact HO_8.out⟩, ⟨by repeat (first | (with_reducible first | exact HB.out | apply below_alloc | apply pw_below_drewN | apply below_drew1) | exact HB.out)⟩⟩
                            case round =>
                              clear H'
                              try clear c1
                              try clear c2
                              try clear p2
                              try clear q2
                              try clear hx2
                              try clear c3
                              try clear c4
                              try clear c5
                              try clear c7
                              try clear c7b0
                              try clear c7b1
                              try clear c8
                              try clear c9
                              try clear c17
                              try clear c17b0
                              try clear c18
                              try clear c18b0
                              try clear c19
                              try clear c19b0
                              try clear c20
                              try clear c22
                              try clear c22b0
                              try clear c22b1
                              try clear c22b2
                              try clear p23
                              try clear q23
                              try clear hx23
                              try clear c29
                              try clear c31
                              try clear hx233_0
                              try clear p2
                              try clear p23
                              try clear p233
                              try clear q2
                              try clear q23
                              try clear q233
                              obtain ⟨x11_4, x50_4, rfl, rfl, HA, HK4, HO_5, HO_6, HO_8, HO_48, HB⟩ := hrel
                              cases gk with
                              | zero => exact absurd HA.out (by simp [tollbarlaw04_FieldParts.l1])
                              | succ k4 =>
                                have H := HA.out
                                clear HA
                                simp only [tollbarlaw04_FieldParts.l1] at H
                                by_cases c33 : x50_4 < (x8_2.length : Int)
                                · rw [if_pos c33] at H
                                  have c33b0 : decide (x50_4 < (x8_2.length : Int)) = true := decide_eq_true c33
                                  clear c33
                                  by_cases c34 : 0 ≤ x50_4
                                  · rw [if_pos c34] at H
                                    have c34b0 : decide (0 ≤ x50_4) = true := decide_eq_true c34
                                    clear c34
                                    by_cases c35 : x50_4 < (x8_2.length : Int)
                                    · rw [if_pos c35] at H
                                      have c35b0 : decide (x50_4 < (x8_2.length : Int)) = true := decide_eq_true c35
                                      clear c35
                                      by_cases c36 : x11_4 = true
                                      · subst c36
                                        have H1 : (tollbarlaw04_FieldParts.l1 k4 l0 y224 t227 x7_2 x8_2 (rdOf ByteArray.empty l1 x34_2) true l1 (l1.length : Int) x34_2 x8_2 (x8_2.length : Int) (wrap64 (x50_4 + 1))) = some r := by rw [if_pos rfl] at H; exact H
                                        clear H
                                        have H := H1
                                        clear H1
                                        have H' := Aside0.mk H
                                        clear H
                                        have p238 : 0 ≤ (x50_4 : Int) := of_decide_eq_true (by first | (with_reducible assumption) | assumption)
                                        have q238 : x50_4 < (x8_2.length : Int) := of_decide_eq_true (by first | (with_reducible assumption) | assumption)
                                        obtain ⟨ad238, e238, hx238_0⟩ := Kd.at_string (Kd.R_reads' HO_48.out).2.2 x50_4 p238 q238
                                        cases e238
                                        replace p238 := eq_true p238
                                        replace q238 := eq_true q238
                                        go_wp2
                                        go_roundg k4
                                        case measure => have := HJ4.out; have := HK2.out; have := HJ19.out; have := HK4.out; omega
                                        case rel => exact ⟨(true), (wrap64 (x50_4 + 1)), (by first | rfl | (simp; done) | (simp [*]; done)), (by first | rfl | (simp; done) | (simp [*]; done)), H', ⟨by have := HJ4.out; have := HK2.out; have := HJ19.out; have := HK4.out; omega⟩, ⟨by (with_reducible repeat (first | apply Kd.R_alloc | apply Kd.R_drewN | apply Kd.R_drew)); exact HO_5.out⟩, ⟨by (with_reducible repeat (first | apply Kd.R_alloc | apply Kd.R_drewN | apply Kd.R_drew)); exact HO_6.out⟩, ⟨by (with_reducible repeat (first | apply Kd.R_alloc | apply Kd.R_drewN | apply Kd.R_drew)); exact HO_8.out⟩, ⟨by (with_reducible repeat (first | apply Kd.R_alloc | apply Kd.R_drewN | apply Kd.R_drew)); exact HO_48.out⟩, ⟨by repeat (first | (with_reducible first | exact HB.out | apply below_alloc | apply pw_below_drewN | apply below_drew1) | exact HB.out)⟩⟩
                                      · replace c36 := Bool.eq_false_iff.mpr c36
                                        subst c36
                                        have H1 : ((tollbarref02_Fold.f k4 (rdOf ByteArray.empty x8_2 x50_4)).bind fun t239 => ((tollbarref02_Fold.f k4 (rdOf ByteArray.empty l1 x34_2)).bind fun t240 => (tollbarlaw04_FieldParts.l1 k4 l0 y224 t227 x7_2 x8_2 (rdOf ByteArray.empty l1 x34_2) (t239.toList == t240.toList) l1 (l1.length : Int) x34_2 x8_2 (x8_2.length : Int) (wrap64 (x50_4 + 1))))) = some r := by rw [if_neg (show ¬ (false = true) by decide)] at H; exact H
                                        clear H
                                        have H := H1
                                        clear H1
                                        replace H := Option.bind_eq_some_iff.mp H
                                        obtain ⟨t239, A370, H⟩ := H
                                        replace H : ((tollbarref02_Fold.f k4 (rdOf ByteArray.empty l1 x34_2)).bind fun t240 => (tollbarlaw04_FieldParts.l1 k4 l0 y224 t227 x7_2 x8_2 (rdOf ByteArray.empty l1 x34_2) (t239.toList == t240.toList) l1 (l1.length : Int) x34_2 x8_2 (x8_2.length : Int) (wrap64 (x50_4 + 1)))) = some r := H
                                        have A37 := Aside0.mk A370
                                        clear A370
                                        replace H := Option.bind_eq_some_iff.mp H
                                        obtain ⟨t240, A380, H⟩ := H
                                        replace H : (tollbarlaw04_FieldParts.l1 k4 l0 y224 t227 x7_2 x8_2 (rdOf ByteArray.empty l1 x34_2) (t239.toList == t240.toList) l1 (l1.length : Int) x34_2 x8_2 (x8_2.length : Int) (wrap64 (x50_4 + 1))) = some r := H
                                        have A38 := Aside0.mk A380
                                        clear A380
                                        have H' := Aside0.mk H
                                        clear H
                                        have p238 : 0 ≤ (x50_4 : Int) := of_decide_eq_true (by first | (with_reducible assumption) | assumption)
                                        have q238 : x50_4 < (x8_2.length : Int) := of_decide_eq_true (by first | (with_reducible assumption) | assumption)
                                        obtain ⟨ad238, e238, hx238_0⟩ := Kd.at_string (Kd.R_reads' HO_48.out).2.2 x50_4 p238 q238
                                        cases e238
                                        replace p238 := eq_true p238
                                        replace q238 := eq_true q238
                                        go_wp2_with (first | (go_at_call 31; (with_reducible refine (tollbarref02_Fold.calls k4 (rdOf ByteArray.empty x8_2 x50_4) t239 _ A37.out).mono ?_); rintro e w39 ⟨rfl, hb⟩; have n0_ := Aside0.mk (Kd.R_below (by (with_reducible repeat (first | apply Kd.R_alloc | apply Kd.R_drewN | apply Kd.R_drew)); exact HO_5.out) hb); have n1_ := Aside0.mk (Kd.R_below (by (with_reducible repeat (first | apply Kd.R_alloc | apply Kd.R_drewN | apply Kd.R_drew)); exact HO_6.out) hb); have n2_ := Aside0.mk (Kd.R_below (by (with_reducible repeat (first | apply Kd.R_alloc | apply Kd.R_drewN | apply Kd.R_drew)); exact HO_8.out) hb); have n3_ := Aside0.mk (Kd.R_below (by (with_reducible repeat (first | apply Kd.R_alloc | apply Kd.R_drewN | apply Kd.R_drew)); exact HO_48.out) hb); have n4_ := Aside0.mk (below_step (by repeat (first | (with_reducible first | exact HB.out | apply below_alloc | apply pw_below_drewN | apply below_drew1) | exact HB.out)) hb); clear HO_5; clear HO_6; clear HO_8; clear HO_48; clear HB; have HO_5 := n0_; have HO_6 := n1_; have HO_8 := n2_; have HO_48 := n3_; have HB := n4_; clear n0_ n1_ n2_ n3_ n4_; (try clear hb); (try clear hb2); (try clear hk); (try clear hi)) | (go_at_call 31; (with_reducible refine (tollbarref02_Fold.calls k4 (rdOf ByteArray.empty l1 x34_2) t240 _ A38.out).mono ?_); rintro e w40 ⟨rfl, hb⟩; have n0_ := Aside0.mk (Kd.R_below (by (with_reducible repeat (first | apply Kd.R_alloc | apply Kd.R_drewN | apply Kd.R_drew)); exact HO_5.out) hb); have n1_ := Aside0.mk (Kd.R_below (by (with_reducible repeat (first | apply Kd.R_alloc | apply Kd.R_drewN | apply Kd.R_drew)); exact HO_6.out) hb); have n2_ := Aside0.mk (Kd.R_below (by (with_reducible repeat (first | apply Kd.R_alloc | apply Kd.R_drewN | apply Kd.R_drew)); exact HO_8.out) hb); have n3_ := Aside0.mk (Kd.R_below (by (with_reducible repeat (first | apply Kd.R_alloc | apply Kd.R_drewN | apply Kd.R_drew)); exact HO_48.out) hb); have n4_ := Aside0.mk (below_step (by repeat (first | (with_reducible first | exact HB.out | apply below_alloc | apply pw_below_drewN | apply below_drew1) | exact HB.out)) hb); clear HO_5; clear HO_6; clear HO_8; clear HO_48; clear HB; have HO_5 := n0_; have HO_6 := n1_; have HO_8 := n2_; have HO_48 := n3_; have HB := n4_; clear n0_ n1_ n2_ n3_ n4_; (try clear hb); (try clear hb2); (try clear hk); (try clear hi)))
                                        go_roundg k4
                                        case measure => have := HJ4.out; have := HK2.out; have := HJ19.out; have := HK4.out; omega
                                        case rel => exact ⟨((t239.toList == t240.toList)), (wrap64 (x50_4 + 1)), (by first | rfl | (simp; done) | (simp [*]; done)), (by first | rfl | (simp; done) | (simp [*]; done)), H', ⟨by have := HJ4.out; have := HK2.out; have := HJ19.out; have := HK4.out; omega⟩, ⟨by (with_reducible repeat (first | apply Kd.R_alloc | apply Kd.R_drewN | apply Kd.R_drew)); exact HO_5.out⟩, ⟨by (with_reducible repeat (first | apply Kd.R_alloc | apply Kd.R_drewN | apply Kd.R_drew)); exact HO_6.out⟩, ⟨by (with_reducible repeat (first | apply Kd.R_alloc | apply Kd.R_drewN | apply Kd.R_drew)); exact HO_8.out⟩, ⟨by (with_reducible repeat (first | apply Kd.R_alloc | apply Kd.R_drewN | apply Kd.R_drew)); exact HO_48.out⟩, ⟨by repeat (first | (with_reducible first | exact HB.out | apply below_alloc | apply pw_below_drewN | apply below_drew1) | exact HB.out)⟩⟩
                                    · rw [if_neg c35] at H
                                      exact absurd H (by simp)
                                  · rw [if_neg c34] at H
                                    exact absurd H (by simp)
                                · rw [if_neg c33] at H
                                  have c33b0 : decide (x50_4 < (x8_2.length : Int)) = false := decide_eq_false c33
                                  clear c33
                                  by_cases c41 : x11_4 = true
                                  · subst c41
                                    have H1 : (tollbarlaw04_FieldParts.l0 k4 l0 y224 t227 x7_2 x8_2 l1 (l1.length : Int) (wrap64 (x34_2 + 1))) = some r := by rw [if_pos rfl] at H; exact H
                                    clear H
                                    have H := H1
                                    clear H1
                                    have H' := Aside0.mk H
                                    clear H
                                    go_wp2
                                    go_roundg k4
                                    case measure => have := HJ4.out; have := HK2.out; have := HJ19.out; have := HK4.out; omega
                                    case rel => exact ⟨(x7_2), (x8_2), (wrap64 (x34_2 + 1)), (by first | rfl | (simp; done) | (simp [*]; done)), (by first | rfl | (simp; done) | (simp [*]; done)), H', ⟨by have := HJ4.out; have := HK2.out; have := HJ19.out; have := HK4.out; omega⟩, ⟨by (with_reducible repeat (first | apply Kd.R_alloc | apply Kd.R_drewN | apply Kd.R_drew)); exact HO_5.out⟩, ⟨by (with_reducible repeat (first | apply Kd.R_alloc | apply Kd.R_drewN | apply Kd.R_drew)); exact HO_6.out⟩, ⟨by (with_reducible repeat (first | apply Kd.R_alloc | apply Kd.R_drewN | apply Kd.R_drew)); exact HO_8.out⟩, ⟨by repeat (first | (with_reducible first | exact HB.out | apply below_alloc | apply pw_below_drewN | apply below_drew1) | exact HB.out)⟩⟩
                                  · replace c41 := Bool.eq_false_iff.mpr c41
                                    subst c41
                                    have H1 : ((field_Get.f k4 l0 (rdOf ByteArray.empty l1 x34_2)).bind fun t241 => (if x8_2.length < 8796093022208 then (tollbarlaw04_FieldParts.l0 k4 l0 y224 t227 (wrap64 (x7_2 + (t241.length : Int))) (x8_2 ++ [(rdOf ByteArray.empty l1 x34_2)]) l1 (l1.length : Int) (wrap64 (x34_2 + 1))) else (none))) = some r := by rw [if_neg (show ¬ (false = true) by decide)] at H; exact H
                                    clear H
                                    have H := H1
                                    clear H1
                                    replace H := Option.bind_eq_some_iff.mp H
                                    obtain ⟨t241, A420, H⟩ := H
                                    replace H : (if x8_2.length < 8796093022208 then (tollbarlaw04_FieldParts.l0 k4 l0 y224 t227 (wrap64 (x7_2 + (t241.length : Int))) (x8_2 ++ [(rdOf ByteArray.empty l1 x34_2)]) l1 (l1.length : Int) (wrap64 (x34_2 + 1))) else (none)) = some r := H
                                    have A42 := Aside0.mk A420
                                    clear A420
                                    by_cases c43 : x8_2.length < 8796093022208
                                    · rw [if_pos c43] at H
                                      have LMc43 := Aside0.mk c43
                                      clear c43
                                      obtain ⟨y244, hy244⟩ : ∃ y_ : List ByteArray, y_ = (x8_2 ++ [(rdOf ByteArray.empty l1 x34_2)]) := ⟨_, rfl⟩
                                      replace H : (tollbarlaw04_FieldParts.l0 k4 l0 y224 t227 (wrap64 (x7_2 + (t241.length : Int))) y244 l1 (l1.length : Int) (wrap64 (x34_2 + 1))) = some r := by first | (rw [hy244]; with_reducible exact H) | (have H2_ := (Option.bind_some _ _).symm.trans H; rw [hy244]; with_reducible exact H2_) | (have H2_ := (Option.bind_some _ _).symm.trans H; with_reducible exact H2_) | with_reducible exact H | (rw [hy244]; exact H) | exact H
                                      have Ny244 := Aside0.mk hy244
                                      clear hy244
                                      have H' := Aside0.mk H
                                      clear H
                                      go_wp2_with (first | ((with_reducible refine gate_callee (f := 20) rfl ?_); refine goesL_ (some 68) rfl rfl Tryd.func20 (by kernel_rfl) rfl #[.slice A0 l0.length c0, .string (rdOf ByteArray.empty l1 x34_2)] rfl (by (try simp only [List.map_toArray, List.map_cons, List.map_nil]); first | done | rfl | (simp only [List.length_drop, List.length_take]; rfl)) ?_; (with_reducible refine (field_Get.calls k4 _ _ l0 (rdOf ByteArray.empty l1 x34_2) t241 _ ?side1 ?side2 A42.out).mono ?_); (case side1 => repeat (first | exact (Kd.C_below HR0.out HB.out) | (with_reducible refine Kd.C_alloc ?_ _) | (with_reducible refine Kd.C_drewN ?_ _) | (with_reducible refine Kd.C_drew ?_))); (case side2 => exact HC0.out); rintro e w44 ⟨v242, rfl, ho0, hb⟩; refine ⟨_, rfl, ?_⟩; have n0_ := Aside0.mk (Kd.R_below (by (with_reducible repeat (first | apply Kd.R_alloc | apply Kd.R_drewN | apply Kd.R_drew)); exact HO_5.out) hb); have n1_ := Aside0.mk (Kd.R_below (by (with_reducible repeat (first | apply Kd.R_alloc | apply Kd.R_drewN | apply Kd.R_drew)); exact HO_6.out) hb); have n2_ := Aside0.mk (Kd.R_elder' (by (with_reducible repeat (first | apply Kd.R_alloc | apply Kd.R_drewN | apply Kd.R_drew)); exact HO_8.out) (Kd.R_base ho0) hb); have n3_ := Aside0.mk (Kd.R_elder' (by (with_reducible repeat (first | apply Kd.R_alloc | apply Kd.R_drewN | apply Kd.R_drew)); exact HO_48.out) (Kd.R_base ho0) hb); have n4_ := Aside0.mk (Kd.R_lower (Kd.R_new' (Kd.R_new' ho0 (Kd.R_lt (by (with_reducible repeat (first | apply Kd.R_alloc | apply Kd.R_drewN | apply Kd.R_drew)); exact HO_8.out))) (Kd.R_lt (by (with_reducible repeat (first | apply Kd.R_alloc | apply Kd.R_drewN | apply Kd.R_drew)); exact HO_48.out))) (below_size (by repeat (first | (with_reducible first | exact HB.out | apply below_alloc | apply pw_below_drewN | apply below_drew1) | exact HB.out)))); have n5_ := Aside0.mk (below_step (by repeat (first | (with_reducible first | exact HB.out | apply below_alloc | apply pw_below_drewN | apply below_drew1) | exact HB.out)) hb); clear HO_5; clear HO_6; clear HO_8; clear HO_48; clear HB; have HO_5 := n0_; have HO_6 := n1_; have HO_8 := n2_; have HO_48 := n3_; have HO243 := n4_; have HB := n5_; clear n0_ n1_ n2_ n3_ n4_ n5_; (try clear hb); (try clear hb2); (try clear hk); (try clear hi); (try clear ho0); obtain ⟨Ao45, co45, eo45⟩ := Kd.R_slice HO243.out; subst eo45) | ((with_reducible refine gate_builtin (b := .append) (xs := #[.tmp 71, .tmp 73]) rfl ?_); (try (refine gate_guard (by rfl) ?_; dsimp only)); at_builtin; refine Kd.R_append Kd.string (w0 := w) w.heap.size rfl (.tmp 71) (.tmp 73) 32 9 (.string ⟨#[]⟩) 16 rfl Tryd.underlying32 info9 rfl (by decide) (by omega) (.slice Ao32 x8_2.length co32) x8_2 (rdOf ByteArray.empty l1 x34_2) [.string (rdOf ByteArray.empty l1 x34_2)] (fun k_ => some k_ ≠ (.slice Ao45 t241.length co45 : Value).ownBlock) (fun _ => False) rfl rfl ?aP (fun _ hk => hk.elim) ?aF ?aO ?aB ?aS ?aL ?_; (case aP => exact rfl); (case aB => exact (by repeat (first | (with_reducible first | exact HB.out | apply below_alloc | apply pw_below_drewN | apply below_drew1) | exact HB.out))); (case aF => exact (fun k_ hk => Kd.fresh' (Kd.R_lt (by (with_reducible repeat (first | apply Kd.R_alloc | apply Kd.R_drewN | apply Kd.R_drew)); exact HO243.out)) k_ hk)); (case aO => exact (by (with_reducible repeat (first | apply Kd.R_alloc | apply Kd.R_drewN | apply Kd.R_drew)); exact Kd.R_mono HO_8.out (fun _ hk => hk.2))); (case aS => exact (below_size (by repeat (first | (with_reducible first | exact HB.out | apply below_alloc | apply pw_below_drewN | apply below_drew1) | exact HB.out)))); (case aL => have := LMc43.out; omega); intro v245 w46 ho hb hg hat; rw [← Ny244.out] at ho; have n0_ := Aside0.mk (Kd.R_over' (by (with_reducible repeat (first | apply Kd.R_alloc | apply Kd.R_drewN | apply Kd.R_drew)); exact HO_5.out) (Kd.R_typed (by (with_reducible repeat (first | apply Kd.R_alloc | apply Kd.R_drewN | apply Kd.R_drew)); exact HO_8.out)) (by decide) hg); have n1_ := Aside0.mk (Kd.R_over' (by (with_reducible repeat (first | apply Kd.R_alloc | apply Kd.R_drewN | apply Kd.R_drew)); exact HO_6.out) (Kd.R_typed (by (with_reducible repeat (first | apply Kd.R_alloc | apply Kd.R_drewN | apply Kd.R_drew)); exact HO_8.out)) (by decide) hg); have n2_ := Aside0.mk (Kd.R_after (ok := (fun _ => True)) (by (with_reducible repeat (first | apply Kd.R_alloc | apply Kd.R_drewN | apply Kd.R_drew)); exact Kd.R_mono HO243.out (fun _ hk => ⟨trivial, hk.1.2⟩)) hg hat); have n3_ := Aside0.mk (hb); have n4_ := Aside0.mk (ho); clear HO_5; clear HO_6; clear HO243; clear HB; clear HO_8; have HO_5 := n0_; have HO_6 := n1_; have HO243 := n2_; have HB := n3_; have HO246 := n4_; clear n0_ n1_ n2_ n3_ n4_; clear ho hb hg hat))
                                      go_roundg k4
                                      case measure => have := HJ4.out; have := HK2.out; have := HJ19.out; have := HK4.out; omega
                                      case rel => exact ⟨(wrap64 (x7_2 + (t241.length : Int))), (y244), (wrap64 (x34_2 + 1)), (by first | rfl | (simp; done) | (simp [*]; done)), (by first | rfl | (simp; done) | (simp [*]; done)), H', ⟨by have := HJ4.out; have := HK2.out; have := HJ19.out; have := HK4.out; omega⟩, ⟨by (with_reducible repeat (first | apply Kd.R_alloc | apply Kd.R_drewN | apply Kd.R_drew)); exact HO_5.out⟩, ⟨by (with_reducible repeat (first | apply Kd.R_alloc | apply Kd.R_drewN | apply Kd.R_drew)); exact HO_6.out⟩, ⟨by (with_reducible repeat (first | apply Kd.R_alloc | apply Kd.R_drewN | apply Kd.R_drew)); exact Kd.R_mono HO246.out (fun _ hk => trivial)⟩, ⟨by repeat (first | (with_reducible first | exact HB.out | apply below_alloc | apply pw_below_drewN | apply below_drew1) | exact HB.out)⟩⟩
                                    · rw [if_neg c43] at H
                                      exact absurd H (by simp)
                    · rw [if_neg c19] at H
                      exact absurd H (by simp)
                  · rw [if_neg c18] at H
                    exact absurd H (by simp)
                · rw [if_neg c17] at H
                  have c17b0 : decide (x34_2 < (l1.length : Int)) = false := decide_eq_false c17
                  clear c17
                  by_cases c47 : (wrap64 ((t227.length : Int) + x7_2)) = (l0.length : Int)
                  · rw [if_pos c47] at H
                    have c47b0 : ((wrap64 ((t227.length : Int) + x7_2)) == (l0.length : Int)) = true := beq_iff_eq.mpr c47
                    have c47b1 : ((wrap64 ((t227.length : Int) + x7_2)) != (l0.length : Int)) = false := bne_eq_false_iff_eq.mpr c47
                    clear c47
                    have H' := Aside0.mk H
                    clear H
                    obtain ⟨Ao48, co48, eo48⟩ := Kd.R_slice HO_6.out
                    subst eo48
                    go_wp2
                    go_loopg [85] k2 (fun kq v85 w' => ∃ (x6_3 : List (S24)) (x85_3 : Int), v85 = .int .i64 x85_3 ∧ Aside0 (tollbarlaw04_FieldParts.l2 kq l0 y224 x6_3 (t227.length : Int) x85_3 = some r) ∧ Aside0 (kq ≤ k2) ∧ Aside0 (Kd.R k24 24 w' w.heap.size (fun k_ => some k_ ≠ ((.slice Ao48 t227.length co48) : Value).ownBlock) v225 y224) ∧ Aside0 (Kd.R k24 24 w' w.heap.size (fun k_ => some k_ ≠ (v225 : Value).ownBlock) (.slice Ao48 t227.length co48) x6_3) ∧ Aside0 (Below w.heap.size w w'))
                    case atStart => exact ⟨(t227), (0), (by first | rfl | (simp; done) | (simp [*]; done)), H', ⟨Nat.le_refl _⟩, ⟨by (with_reducible repeat (first | apply Kd.R_alloc | apply Kd.R_drewN | apply Kd.R_drew)); exact HO_5.out⟩, ⟨by (with_reducible repeat (first | apply Kd.R_alloc | apply Kd.R_drewN | apply Kd.R_drew)); exact HO_6.out⟩, ⟨by repeat (first | (with_reducible first | exact HB.out | apply below_alloc | apply pw_below_drewN | apply below_drew1) | exact HB.out)⟩⟩
                    case round =>
                      clear H'
                      try clear c1
                      try clear c2
                      try clear p2
                      try clear q2
                      try clear hx2
                      try clear c3
                      try clear c4
                      try clear c5
                      try clear p6
                      try clear c7
                      try clear c7b0
                      try clear c7b1
                      try clear c8
                      try clear c9
                      try clear c17
                      try clear c17b0
                      try clear c18
                      try clear c18b0
                      try clear c19
                      try clear c19b0
                      try clear c20
                      try clear c22
                      try clear c22b0
                      try clear c22b1
                      try clear c22b2
                      try clear p23
                      try clear q23
                      try clear hx23
                      try clear c29
                      try clear c31
                      try clear c33
                      try clear c33b0
                      try clear c34
                      try clear c34b0
                      try clear c35
                      try clear c35b0
                      try clear c36
                      try clear c41
                      try clear c43
                      try clear c47
                      try clear c47b0
                      try clear c47b1
                      try clear hx233_0
                      try clear hx238_0
                      try clear p2
                      try clear p23
                      try clear p233
                      try clear p238
                      try clear q2
                      try clear q23
                      try clear q233
                      try clear q238
                      obtain ⟨x6_3, x85_3, rfl, HA, HK3, HO_5, HO_6, HB⟩ := hrel
                      have hl6_3 := (Kd.R_reads' HO_6.out).1
                      rw [hl6_3] at HO_6
                      (try simp only [hl6_3])
                      (try simp only [hl6_3] at HO_5)
                      cases gk with
                      | zero => exact absurd HA.out (by simp [tollbarlaw04_FieldParts.l2])
                      | succ k3 =>
                        have H := HA.out
                        clear HA
                        simp only [tollbarlaw04_FieldParts.l2] at H
                        by_cases c49 : x85_3 < (t227.length : Int)
                        · rw [if_pos c49] at H
                          have c49b0 : decide (x85_3 < (t227.length : Int)) = true := decide_eq_true c49
                          clear c49
                          by_cases c50 : 0 ≤ x85_3
                          · rw [if_pos c50] at H
                            have c50b0 : decide (0 ≤ x85_3) = true := decide_eq_true c50
                            clear c50
                            by_cases c51 : x85_3 < (x6_3.length : Int)
                            · rw [if_pos c51] at H
                              have c51b0 : decide (x85_3 < (x6_3.length : Int)) = true := decide_eq_true c51
                              clear c51
                              obtain ⟨y247, hy247⟩ : ∃ y_ : List (S24), y_ = (x6_3.set (x85_3 : Int).toNat (⟨(⟨#[116, 117, 114, 110, 101, 100]⟩ : ByteArray), (rd_T24 x6_3 x85_3).f1⟩ : S24)) := ⟨_, rfl⟩
                              replace H : (tollbarlaw04_FieldParts.l2 k3 l0 y224 y247 (t227.length : Int) (wrap64 (x85_3 + 1))) = some r := by first | (rw [hy247]; with_reducible exact H) | (have H2_ := (Option.bind_some _ _).symm.trans H; rw [hy247]; with_reducible exact H2_) | (have H2_ := (Option.bind_some _ _).symm.trans H; with_reducible exact H2_) | with_reducible exact H | (rw [hy247]; exact H) | exact H
                              have Ny247 := Aside0.mk hy247
                              clear hy247
                              have H' := Aside0.mk H
                              clear H
                              have p52 : 0 ≤ (x85_3 : Int) := of_decide_eq_true (by first | (with_reducible assumption) | assumption)
                              have q52 : (x85_3 : Int) < ((x6_3.length : Int) : Int) := of_decide_eq_true (by first | (with_reducible assumption) | assumption)
                              obtain ⟨go52, co52, eo52, gb52, gl52, cl52, HG52⟩ := Kd.R_form HO_6.out (by omega)
                              (first | cases eo52 | (injection eo52 with ea_ en_ ec_; (first | subst ea_ | (injection ea_ with ea_; subst ea_)); subst ec_; clear en_))
                              have GB52 := Aside0.mk gb52
                              have GG52 := Aside0.mk HG52
                              clear gb52 gl52 HG52
                              obtain ⟨ce52, hcl52, hM52, hcc52, hfr52⟩ := Kd.R_elem HO_6.out z24 (x85_3 : Int) p52 q52
                              obtain rfl := k24_openM hM52
                              have hx52_0 : wr.cell? ⟨go52, (x85_3 : Int).toNat * 2, none⟩ = some (.string ((rd_T24 x6_3 x85_3).f0)) := hcc52 0 _ rfl
                              have hx52_1 : wr.cell? ⟨go52, (x85_3 : Int).toNat * 2 + 1, none⟩ = some (.string ((rd_T24 x6_3 x85_3).f1)) := hcc52 1 _ rfl
                              have hf52_0 : wr.frozen? ⟨go52, (x85_3 : Int).toNat * 2, none⟩ = false := hfr52 0
                              have hf52_1 : wr.frozen? ⟨go52, (x85_3 : Int).toNat * 2 + 1, none⟩ = false := hfr52 1
                              clear hcl52 hcc52 hfr52 hM52
                              replace p52 := eq_true p52
                              replace q52 := eq_true q52
                              have HX53 := Aside0.mk (show Kd.R k24 24 wr w.heap.size (fun k_ => some k_ ≠ (v225 : Value).ownBlock) (.slice (some ⟨go52, 0, none⟩) x6_3.length co48) x6_3 from (by (with_reducible repeat (first | apply Kd.R_alloc | apply Kd.R_drewN | apply Kd.R_drew)); exact HO_6.out))
                              obtain ⟨ce53, hcl53, hM53, hcc53, hfr53⟩ := Kd.R_elem HX53.out z24 (x85_3 : Int) (of_decide_eq_true (by first | (with_reducible assumption) | assumption)) (by have h_ : (x85_3 : Int) < ((x6_3.length : Int) : Int) := of_decide_eq_true (by first | (with_reducible assumption) | assumption); first | exact h_ | (have e_ := (Kd.R_reads' HO_6.out).1; omega) | simpa using h_)
                              obtain rfl := k24_openM hM53
                              have HP53 := Kd.R_seg HX53.out (x85_3 : Int) (of_decide_eq_true (by first | (with_reducible assumption) | assumption)) (by have h_ : (x85_3 : Int) < ((x6_3.length : Int) : Int) := of_decide_eq_true (by first | (with_reducible assumption) | assumption); first | exact h_ | (have e_ := (Kd.R_reads' HO_6.out).1; omega) | simpa using h_) (seg := [.string (⟨#[116, 117, 114, 110, 101, 100]⟩ : ByteArray)]) (j := 0) hcl53 hcc53 (show 1 ≤ 2 from by decide) (x' := (⟨(⟨#[116, 117, 114, 110, 101, 100]⟩ : ByteArray), (rd_T24 x6_3 x85_3).f1⟩ : S24)) (k24_mkM _ _ _ (⟨(⟨#[116, 117, 114, 110, 101, 100]⟩ : ByteArray), (rd_T24 x6_3 x85_3).f1⟩ : S24) ) (fun _ hk => hk)
                              have hx53_0 := hcc53 0 _ rfl
                              (try simp only [show (k24).sz = 2 from rfl, Nat.mul_one, Nat.add_zero] at hx53_0)
                              have hf53_0 := hfr53 0
                              (try simp only [show (k24).sz = 2 from rfl, Nat.mul_one, Nat.add_zero] at hf53_0)
                              clear hcl53 hcc53 hfr53 hM53
                              go_wp2_with (first | ((with_reducible refine gate_store (t := 9) (p := 91) rfl ?_); refine store_event (t := 9) (p := 91) (v := ?vo_w54) (w1 := (wr.setCell ⟨go52, (x85_3 : Int).toNat * 2, none⟩ (.string (⟨#[116, 117, 114, 110, 101, 100]⟩ : ByteArray)))) ?hg ?ho ?hn ?hr ?_; (case ho => rfl); (case hg => rfl); (case hn => rfl); (case hr => first | (go_simp; done) | (go_simp; rfl)); intro w54 hw; have hg : wr.grownBy w54 (some go52) := (by rw [hw]; exact HP53.2); have hp_ : Kd.R k24 24 w54 w.heap.size (fun k_ => some k_ ≠ (v225 : Value).ownBlock) (.slice (some ⟨go52, 0, none⟩) x6_3.length co48) y247 := (by rw [hw, Ny247.out]; exact HP53.1); clear HP53; have n0_ := Aside0.mk (Kd.R_after (v := (.slice (some ⟨go52, 0, none⟩) x6_3.length co48)) (v1 := (.slice (some ⟨go52, 0, none⟩) x6_3.length co48)) (ok := (fun _ => True)) (by (with_reducible repeat (first | apply Kd.R_alloc | apply Kd.R_drewN | apply Kd.R_drew)); exact Kd.R_mono HO_5.out (fun _ hk => ⟨trivial, hk⟩)) hg (.inl rfl)); have n1_ := Aside0.mk (hp_); have n2_ := Aside0.mk ((by rw [hw]; exact below_set (HB.out) GB52.out : Below w.heap.size w w54)); clear HO_5; clear HO_6; clear HB; have HO_5 := n0_; have HO_6 := n1_; have HB := n2_; clear n0_ n1_ n2_; clear hg hw hp_))
                              (try simp only [← hl6_3])
                              go_roundg k3
                              case measure => have := HJ4.out; have := HK2.out; have := HK3.out; omega
                              case rel => exact ⟨(y247), (wrap64 (x85_3 + 1)), (by first | rfl | (simp; done) | (simp [*]; done)), H', ⟨by have := HJ4.out; have := HK2.out; have := HK3.out; omega⟩, ⟨by (try simp only [hl6_3]); (with_reducible repeat (first | apply Kd.R_alloc | apply Kd.R_drewN | apply Kd.R_drew)); exact Kd.R_mono HO_5.out (fun _ hk => hk.2)⟩, ⟨by (try simp only [hl6_3]); (with_reducible repeat (first | apply Kd.R_alloc | apply Kd.R_drewN | apply Kd.R_drew)); exact HO_6.out⟩, ⟨by repeat (first | (with_reducible first | exact HB.out | apply below_alloc | apply pw_below_drewN | apply below_drew1) | exact HB.out)⟩⟩
                            · rw [if_neg c51] at H
                              exact absurd H (by simp)
                          · rw [if_neg c50] at H
                            exact absurd H (by simp)
                        · rw [if_neg c49] at H
                          have c49b0 : decide (x85_3 < (t227.length : Int)) = false := decide_eq_false c49
                          (try simp only [hl6_3] at c49b0)
                          clear c49
                          replace H := Option.bind_eq_some_iff.mp H
                          obtain ⟨t248, A550, H⟩ := H
                          replace H : (some t248) = some r := H
                          have A55 := Aside0.mk A550
                          clear A550
                          obtain rfl := Option.some.inj H
                          obtain ⟨Ao56, co56, eo56⟩ := Kd.R_slice HO_5.out
                          subst eo56
                          go_wp2_with (first | ((with_reducible refine gate_callee (f := 28) rfl ?_); refine goesL_ (some 95) rfl rfl Tryd.func28 (by kernel_rfl) rfl #[.slice A0 l0.length c0, .slice Ao56 y224.length co56] rfl (by (try simp only [List.map_toArray, List.map_cons, List.map_nil]); first | done | rfl | (simp only [List.length_drop, List.length_take]; rfl)) ?_; (with_reducible refine (tollbarref04_Same.calls k3 _ _ l0 _ _ y224 t248 _ ?side1 ?side2 ?side3 ?side4 A55.out).mono ?_); (case side1 => repeat (first | exact (Kd.C_below HR0.out HB.out) | (with_reducible refine Kd.C_alloc ?_ _) | (with_reducible refine Kd.C_drewN ?_ _) | (with_reducible refine Kd.C_drew ?_))); (case side2 => exact HC0.out); (case side3 => repeat (first | exact (Kd.R_reads' HO_5.out).2.2 | (with_reducible refine Kd.C_alloc ?_ _) | (with_reducible refine Kd.C_drewN ?_ _) | (with_reducible refine Kd.C_drew ?_))); (case side4 => exact (Kd.R_reads' HO_5.out).2.1); rintro e w' ⟨rfl, ⟨nd, rfl⟩⟩; refine ⟨_, rfl, ?_⟩))
                          go_ret
                          exact ⟨by first | rfl | (simp [errW_none, errW_some] <;> rfl) | (simp [*, errW_none, errW_some] <;> rfl), by repeat (first | (with_reducible first | exact HB.out | apply below_alloc | apply pw_below_drewN | apply below_drew1) | exact HB.out)⟩
                  · rw [if_neg c47] at H
                    exact absurd H (by simp)
          · rw [if_neg c9] at H
            exact absurd H (by simp)
  · replace c4 := Bool.eq_false_iff.mpr c4
    subst c4
    have H1 : (none) = some r := by rw [if_neg (show ¬ (false = true) by decide)] at H; exact H
    clear H
    have H := H1
    clear H1
    exact absurd H (by simp)

/-- THE ONE PURE STATEMENT of tollbarlaw04_FieldParts. -/
def tollbarlaw04_FieldParts.Pure : Prop := ∀ (l0 : List (S24)) (l1 : List ByteArray), (l0.length * 32 ≤ 140737488351232 ∧ ∀ x_ ∈ l0, (x_.f0.size ≤ 140737488351232) ∧ (x_.f1.size ≤ 140737488351232)) → (l1.length * 16 ≤ 140737488351232 ∧ ∀ x_ ∈ l1, x_.size ≤ 140737488351232) → ∃ k, tollbarlaw04_FieldParts.f k l0 l1 = some true

end Go.Proofs.YtijindelbagpiaaDoor.PFieldParts
