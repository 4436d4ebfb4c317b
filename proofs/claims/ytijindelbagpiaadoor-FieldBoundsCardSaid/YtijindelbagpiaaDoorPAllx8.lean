-- Written by this session's program xprint.py over the kit's print, with contracts given by hand. Not trusted: Lean checks it.
import Derived.Test.YtijindelbagpiaaDoorPAllx0
import Derived.Test.YtijindelbagpiaaDoorPAllx1
import Derived.Test.YtijindelbagpiaaDoorPAllx2
import Derived.Test.YtijindelbagpiaaDoorPAllx3
import Derived.Test.YtijindelbagpiaaDoorPAllx7
namespace Go.Proofs.YtijindelbagpiaaDoor.PAll
open Go.RowKit Go.Proofs.YtijindelbagpiaaDoorW.PrintWords Go.Proofs.YtijindelbagpiaaDoorW.PrintLast Go.Proofs.YtijindelbagpiaaDoorW.PrintMore
attribute [local go_sem] max2_int min2_int max_two min_two max_three min_three max_four min_four   -- for this text's walks alone
set_option linter.unusedVariables false
set_option linter.unusedSimpArgs false

attribute [local go_sem high] eqA24
/-! ### sign_Split: function 50 -/
def sign_Split.l0 : Nat → List ByteArray → List ByteArray → Int → Int → Option (List ByteArray)
  | 0, _, _, _, _ => none
  | k + 1, x3, x7, x8, x9 => if x9 < x8 then (if 0 ≤ x9 then (if x9 < (x7.length : Int) then ((sign_Trim.f (rdOf ByteArray.empty x7 x9)).bind fun t191 => (if t191.toList = ([] : List UInt8) then (sign_Split.l0 k x3 x7 x8 (wrap64 (x9 + 1))) else (if x3.length < 8796093022208 then (sign_Split.l0 k (x3 ++ [t191]) x7 x8 (wrap64 (x9 + 1))) else (none)))) else (none)) else (none)) else (some x3)
def sign_Split.f (k : Nat) (a0 : ByteArray) : Option (List ByteArray) := (strings_Split.f k a0 (⟨#[44]⟩ : ByteArray)).bind fun t187 => (sign_Split.l0 k ([] : List ByteArray) t187 (t187.length : Int) 0)
theorem sign_Split.mono_l : ∀ k, (∀ y0 y1 y2 y3, LeO (sign_Split.l0 k y0 y1 y2 y3) (sign_Split.l0 (k + 1) y0 y1 y2 y3))
  | 0 => fun _ _ _ _ r h => by simp [sign_Split.l0] at h
  | k + 1 => by
    have ih0 := sign_Split.mono_l k
    · intro y0 y1 y2 y3
      unfold sign_Split.l0
      repeat' first
      | (with_reducible exact ih0 _ _ _ _)
      | (with_reducible exact strings_Split.mono _ _ _)
      | (with_reducible exact LeO.refl _)
      | (with_reducible exact LeO.none _)
      | (with_reducible refine LeO.ite ?_ ?_)
      | (with_reducible refine LeO.bind ?_ (fun _ => ?_))
      | exact ih0 _ _ _ _
      | exact strings_Split.mono _ _ _
      | exact LeO.none _
      | refine LeO.ite ?_ ?_
      | refine LeO.bind ?_ (fun _ => ?_)
theorem sign_Split.mono : ∀ a0 k, LeO (sign_Split.f k a0) (sign_Split.f (k + 1) a0) := by
  intro a0 k
  have ih0 := sign_Split.mono_l k
  unfold sign_Split.f
  repeat' first
      | (with_reducible exact ih0 _ _ _ _)
      | (with_reducible exact strings_Split.mono _ _ _)
      | (with_reducible exact LeO.refl _)
      | (with_reducible exact LeO.none _)
      | (with_reducible refine LeO.ite ?_ ?_)
      | (with_reducible refine LeO.bind ?_ (fun _ => ?_))
      | exact ih0 _ _ _ _
      | exact strings_Split.mono _ _ _
      | exact LeO.none _
      | refine LeO.ite ?_ ?_
      | refine LeO.bind ?_ (fun _ => ?_)
set_option maxHeartbeats 8000000 in
set_option maxRecDepth 100000 in
theorem sign_Split.calls (k : Nat) (a0 : ByteArray) (r : List ByteArray) (w : World) (h : sign_Split.f k a0 = some r) :
    Calls Tryd.prog 50 #[.string a0] w fun e w' => ∃ v0_ : Value, e = .returned (v0_) ∧ Kd.R Kd.string 9 w' w.heap.size (fun _ => True) v0_ r ∧ Below w.heap.size w w' := by
  have HB := Aside0.mk (Below.refl w.heap.size w)
  have H : ((strings_Split.f k a0 (⟨#[44]⟩ : ByteArray)).bind fun t187 => (sign_Split.l0 k ([] : List ByteArray) t187 (t187.length : Int) 0)) = some r := h
  clear h
  replace H := Option.bind_eq_some_iff.mp H
  obtain ⟨t187, A20, H⟩ := H
  replace H : (sign_Split.l0 k ([] : List ByteArray) t187 (t187.length : Int) 0) = some r := H
  have A2 := Aside0.mk A20
  clear A20
  have H' := Aside0.mk H
  clear H
  go_enter Tryd.func50, Tryd.ntmps50
  go_wp2_with (first | ((with_reducible refine gate_callee (f := 74) rfl ?_); refine goesL_ (some 7) rfl rfl Tryd.func74 (by kernel_rfl) rfl #[.string a0, .string (⟨#[44]⟩ : ByteArray)] rfl (by (try simp only [List.map_toArray, List.map_cons, List.map_nil]); first | done | rfl | (simp only [List.length_drop, List.length_take]; rfl)) ?_; (with_reducible refine (strings_Split.calls k a0 (⟨#[44]⟩ : ByteArray) t187 _ A2.out).mono ?_); rintro e w3 ⟨v188, rfl, ho0, hb⟩; refine ⟨_, rfl, ?_⟩; have n0_ := Aside0.mk (Kd.R_lower ho0 (below_size (by repeat (first | (with_reducible first | exact HB.out | apply below_alloc | apply pw_below_drewN | apply below_drew1) | exact HB.out)))); have n1_ := Aside0.mk (below_step (by repeat (first | (with_reducible first | exact HB.out | apply below_alloc | apply pw_below_drewN | apply below_drew1) | exact HB.out)) hb); clear HB; have HO189 := n0_; have HB := n1_; clear n0_ n1_; (try clear hb); (try clear hb2); (try clear hk); (try clear hi); (try clear ho0); obtain ⟨Ao4, co4, eo4⟩ := Kd.R_slice HO189.out; subst eo4))
  go_loopg [3, 9] k (fun kq v3 v9 w' => ∃ (x3_1 : List ByteArray) (x9_1 : Int), v9 = .int .i64 x9_1 ∧ Aside0 (sign_Split.l0 kq x3_1 t187 (t187.length : Int) x9_1 = some r) ∧ Aside0 (kq ≤ k) ∧ Aside0 (Kd.R Kd.string 9 w' w.heap.size (fun k_ => some k_ ≠ ((.slice Ao4 t187.length co4) : Value).ownBlock) v3 x3_1) ∧ Aside0 (Kd.R Kd.string 9 w' w.heap.size (fun k_ => some k_ ≠ (v3 : Value).ownBlock) (.slice Ao4 t187.length co4) t187) ∧ Aside0 (Below w.heap.size w w'))
  case atStart => exact ⟨(([] : List ByteArray)), (0), (by first | rfl | (simp; done) | (simp [*]; done)), H', ⟨Nat.le_refl _⟩, ⟨by first | exact Kd.R_nil _ _ _ _ _ | exact Kd.N_nil _ _ _ _ _ | exact Kd.V_nil _ _ _ _ _ | exact Kd.Q_nil _ _ _ _ _ | exact Kd.S_nil _ _ _ _ _⟩, ⟨by (with_reducible repeat (first | apply Kd.R_alloc | apply Kd.R_drewN | apply Kd.R_drew)); exact Kd.R_mono HO189.out (fun _ hk => (by simp [Value.ownBlock]))⟩, ⟨by repeat (first | (with_reducible first | exact HB.out | apply below_alloc | apply pw_below_drewN | apply below_drew1) | exact HB.out)⟩⟩
  case round =>
    clear H'
    try clear p2
    obtain ⟨x3_1, x9_1, rfl, HA, HK1, HO_3, HO_7, HB⟩ := hrel
    cases gk with
    | zero => exact absurd HA.out (by simp [sign_Split.l0])
    | succ k1 =>
      have H := HA.out
      clear HA
      simp only [sign_Split.l0] at H
      by_cases c5 : x9_1 < (t187.length : Int)
      · rw [if_pos c5] at H
        have c5b0 : decide (x9_1 < (t187.length : Int)) = true := decide_eq_true c5
        clear c5
        by_cases c6 : 0 ≤ x9_1
        · rw [if_pos c6] at H
          have c6b0 : decide (0 ≤ x9_1) = true := decide_eq_true c6
          clear c6
          by_cases c7 : x9_1 < (t187.length : Int)
          · rw [if_pos c7] at H
            have c7b0 : decide (x9_1 < (t187.length : Int)) = true := decide_eq_true c7
            clear c7
            replace H := Option.bind_eq_some_iff.mp H
            obtain ⟨t191, A80, H⟩ := H
            replace H : (if t191.toList = ([] : List UInt8) then (sign_Split.l0 k1 x3_1 t187 (t187.length : Int) (wrap64 (x9_1 + 1))) else (if x3_1.length < 8796093022208 then (sign_Split.l0 k1 (x3_1 ++ [t191]) t187 (t187.length : Int) (wrap64 (x9_1 + 1))) else (none))) = some r := H
            have A8 := Aside0.mk A80
            clear A80
            by_cases c9 : t191.toList = ([] : List UInt8)
            · rw [if_pos c9] at H
              have c9b0 : (t191.toList == ([] : List UInt8)) = true := beq_iff_eq.mpr c9
              have c9b1 : (t191.toList != ([] : List UInt8)) = false := bne_eq_false_iff_eq.mpr c9
              clear c9
              have H' := Aside0.mk H
              clear H
              have p190 : 0 ≤ (x9_1 : Int) := of_decide_eq_true (by first | (with_reducible assumption) | assumption)
              have q190 : x9_1 < (t187.length : Int) := of_decide_eq_true (by first | (with_reducible assumption) | assumption)
              obtain ⟨ad190, e190, hx190_0⟩ := Kd.at_string (Kd.R_reads' HO_7.out).2.2 x9_1 p190 q190
              cases e190
              replace p190 := eq_true p190
              replace q190 := eq_true q190
              go_wp2_with (first | ((with_reducible refine gate_callee (f := 44) rfl ?_); refine goesL_ (some 14) rfl rfl Tryd.func44 (by kernel_rfl) rfl #[.string (rdOf ByteArray.empty t187 x9_1)] rfl (by (try simp only [List.map_toArray, List.map_cons, List.map_nil]); first | done | rfl | (simp only [List.length_drop, List.length_take]; rfl)) ?_; (with_reducible refine (sign_Trim.calls (rdOf ByteArray.empty t187 x9_1) t191 _ A8.out).mono ?_); rintro e w10 ⟨rfl, hb⟩; refine ⟨_, rfl, ?_⟩; have n0_ := Aside0.mk (Kd.R_below (by (with_reducible repeat (first | apply Kd.R_alloc | apply Kd.R_drewN | apply Kd.R_drew)); exact HO_3.out) hb); have n1_ := Aside0.mk (Kd.R_below (by (with_reducible repeat (first | apply Kd.R_alloc | apply Kd.R_drewN | apply Kd.R_drew)); exact HO_7.out) hb); have n2_ := Aside0.mk (below_step (by repeat (first | (with_reducible first | exact HB.out | apply below_alloc | apply pw_below_drewN | apply below_drew1) | exact HB.out)) hb); clear HO_3; clear HO_7; clear HB; have HO_3 := n0_; have HO_7 := n1_; have HB := n2_; clear n0_ n1_ n2_; (try clear hb); (try clear hb2); (try clear hk); (try clear hi)))
              go_roundg k1
              case measure => have := HK1.out; omega
              case rel => exact ⟨(x3_1), (wrap64 (x9_1 + 1)), (by first | rfl | (simp; done) | (simp [*]; done)), H', ⟨by have := HK1.out; omega⟩, ⟨by (with_reducible repeat (first | apply Kd.R_alloc | apply Kd.R_drewN | apply Kd.R_drew)); exact HO_3.out⟩, ⟨by (with_reducible repeat (first | apply Kd.R_alloc | apply Kd.R_drewN | apply Kd.R_drew)); exact HO_7.out⟩, ⟨by repeat (first | (with_reducible first | exact HB.out | apply below_alloc | apply pw_below_drewN | apply below_drew1) | exact HB.out)⟩⟩
            · rw [if_neg c9] at H
              have c9b0 : (t191.toList == ([] : List UInt8)) = false := beq_eq_false_iff_ne.mpr c9
              have c9b1 : (t191.toList != ([] : List UInt8)) = true := bne_iff_ne.mpr c9
              by_cases c11 : x3_1.length < 8796093022208
              · rw [if_pos c11] at H
                have LMc11 := Aside0.mk c11
                clear c11
                obtain ⟨y192, hy192⟩ : ∃ y_ : List ByteArray, y_ = (x3_1 ++ [t191]) := ⟨_, rfl⟩
                replace H : (sign_Split.l0 k1 y192 t187 (t187.length : Int) (wrap64 (x9_1 + 1))) = some r := by first | (rw [hy192]; with_reducible exact H) | (have H2_ := (Option.bind_some _ _).symm.trans H; rw [hy192]; with_reducible exact H2_) | (have H2_ := (Option.bind_some _ _).symm.trans H; with_reducible exact H2_) | with_reducible exact H | (rw [hy192]; exact H) | exact H
                have Ny192 := Aside0.mk hy192
                clear hy192
                have H' := Aside0.mk H
                clear H
                have p190 : 0 ≤ (x9_1 : Int) := of_decide_eq_true (by first | (with_reducible assumption) | assumption)
                have q190 : x9_1 < (t187.length : Int) := of_decide_eq_true (by first | (with_reducible assumption) | assumption)
                obtain ⟨ad190, e190, hx190_0⟩ := Kd.at_string (Kd.R_reads' HO_7.out).2.2 x9_1 p190 q190
                cases e190
                replace p190 := eq_true p190
                replace q190 := eq_true q190
                go_wp2_with (first | ((with_reducible refine gate_callee (f := 44) rfl ?_); refine goesL_ (some 14) rfl rfl Tryd.func44 (by kernel_rfl) rfl #[.string (rdOf ByteArray.empty t187 x9_1)] rfl (by (try simp only [List.map_toArray, List.map_cons, List.map_nil]); first | done | rfl | (simp only [List.length_drop, List.length_take]; rfl)) ?_; (with_reducible refine (sign_Trim.calls (rdOf ByteArray.empty t187 x9_1) t191 _ A8.out).mono ?_); rintro e w12 ⟨rfl, hb⟩; refine ⟨_, rfl, ?_⟩; have n0_ := Aside0.mk (Kd.R_below (by (with_reducible repeat (first | apply Kd.R_alloc | apply Kd.R_drewN | apply Kd.R_drew)); exact HO_3.out) hb); have n1_ := Aside0.mk (Kd.R_below (by (with_reducible repeat (first | apply Kd.R_alloc | apply Kd.R_drewN | apply Kd.R_drew)); exact HO_7.out) hb); have n2_ := Aside0.mk (below_step (by repeat (first | (with_reducible first | exact HB.out | apply below_alloc | apply pw_below_drewN | apply below_drew1) | exact HB.out)) hb); clear HO_3; clear HO_7; clear HB; have HO_3 := n0_; have HO_7 := n1_; have HB := n2_; clear n0_ n1_ n2_; (try clear hb); (try clear hb2); (try clear hk); (try clear hi)) | ((with_reducible refine gate_builtin (b := .append) (xs := #[.tmp 17, .tmp 19]) rfl ?_); at_builtin; refine Kd.R_append Kd.string (w0 := w) w.heap.size rfl (.tmp 17) (.tmp 19) 32 9 (.string ⟨#[]⟩) 16 rfl Tryd.underlying32 info9 rfl (by decide) (by omega) u3 x3_1 t191 [.string t191] (fun k_ => some k_ ≠ (.slice (some ad190) t187.length co4 : Value).ownBlock) (fun _ => False) rfl rfl ?aP (fun _ hk => hk.elim) ?aF ?aO ?aB ?aS ?aL ?_; (case aP => exact rfl); (case aB => exact (by repeat (first | (with_reducible first | exact HB.out | apply below_alloc | apply pw_below_drewN | apply below_drew1) | exact HB.out))); (case aF => exact (fun k_ hk => Kd.fresh' (Kd.R_lt (by (with_reducible repeat (first | apply Kd.R_alloc | apply Kd.R_drewN | apply Kd.R_drew)); exact HO_7.out)) k_ hk)); (case aO => exact (by (with_reducible repeat (first | apply Kd.R_alloc | apply Kd.R_drewN | apply Kd.R_drew)); exact HO_3.out)); (case aS => exact (below_size (by repeat (first | (with_reducible first | exact HB.out | apply below_alloc | apply pw_below_drewN | apply below_drew1) | exact HB.out)))); (case aL => have := LMc11.out; omega); intro v193 w13 ho hb hg hat; rw [← Ny192.out] at ho; have n0_ := Aside0.mk (Kd.R_after (ok := (fun _ => True)) (by (with_reducible repeat (first | apply Kd.R_alloc | apply Kd.R_drewN | apply Kd.R_drew)); exact Kd.R_mono HO_7.out (fun _ hk => ⟨trivial, hk⟩)) hg hat); have n1_ := Aside0.mk (hb); have n2_ := Aside0.mk (ho); clear HO_7; clear HB; clear HO_3; have HO_7 := n0_; have HB := n1_; have HO194 := n2_; clear n0_ n1_ n2_; clear ho hb hg hat))
                go_roundg k1
                case measure => have := HK1.out; omega
                case rel => exact ⟨(y192), (wrap64 (x9_1 + 1)), (by first | rfl | (simp; done) | (simp [*]; done)), H', ⟨by have := HK1.out; omega⟩, ⟨by (with_reducible repeat (first | apply Kd.R_alloc | apply Kd.R_drewN | apply Kd.R_drew)); exact HO194.out⟩, ⟨by (with_reducible repeat (first | apply Kd.R_alloc | apply Kd.R_drewN | apply Kd.R_drew)); exact Kd.R_mono HO_7.out (fun _ hk => hk.2)⟩, ⟨by repeat (first | (with_reducible first | exact HB.out | apply below_alloc | apply pw_below_drewN | apply below_drew1) | exact HB.out)⟩⟩
              · rw [if_neg c11] at H
                exact absurd H (by simp)
          · rw [if_neg c7] at H
            exact absurd H (by simp)
        · rw [if_neg c6] at H
          exact absurd H (by simp)
      · rw [if_neg c5] at H
        have c5b0 : decide (x9_1 < (t187.length : Int)) = false := decide_eq_false c5
        clear c5
        obtain rfl := Option.some.inj H
        go_wp2
        go_ret
        exact ⟨_, by first | rfl | (simp [errW_none, errW_some] <;> rfl) | (simp [*, errW_none, errW_some] <;> rfl), by (with_reducible repeat (first | apply Kd.R_alloc | apply Kd.R_drewN | apply Kd.R_drew)); exact Kd.R_mono HO_3.out (fun _ hk => trivial), by repeat (first | (with_reducible first | exact HB.out | apply below_alloc | apply pw_below_drewN | apply below_drew1) | exact HB.out)⟩

/-! ### field_List: function 22 -/
def field_List.l0 : Nat → List ByteArray → List ByteArray → Int → Int → Option (List ByteArray)
  | 0, _, _, _, _ => none
  | k + 1, x5, x10, x11, x12 => if x12 < x11 then (if 0 ≤ x12 then (if x12 < (x10.length : Int) then ((sign_Split.f k (rdOf ByteArray.empty x10 x12)).bind fun t199 => (if x5.length + t199.length < 8796093022208 then (field_List.l0 k (x5 ++ t199) x10 x11 (wrap64 (x12 + 1))) else (none))) else (none)) else (none)) else (some x5)
def field_List.f (k : Nat) (l0 : List (S24)) (a1 : ByteArray) : Option (List ByteArray) := (field_Get.f k l0 a1).bind fun t195 => (field_List.l0 k ([] : List ByteArray) t195 (t195.length : Int) 0)
theorem field_List.mono_l : ∀ k, (∀ y0 y1 y2 y3, LeO (field_List.l0 k y0 y1 y2 y3) (field_List.l0 (k + 1) y0 y1 y2 y3))
  | 0 => fun _ _ _ _ r h => by simp [field_List.l0] at h
  | k + 1 => by
    have ih0 := field_List.mono_l k
    · intro y0 y1 y2 y3
      unfold field_List.l0
      repeat' first
      | (with_reducible exact ih0 _ _ _ _)
      | (with_reducible exact field_Get.mono _ _ _)
      | (with_reducible exact sign_Split.mono _ _)
      | (with_reducible exact LeO.refl _)
      | (with_reducible exact LeO.none _)
      | (with_reducible refine LeO.ite ?_ ?_)
      | (with_reducible refine LeO.bind ?_ (fun _ => ?_))
      | exact ih0 _ _ _ _
      | exact field_Get.mono _ _ _
      | exact sign_Split.mono _ _
      | exact LeO.none _
      | refine LeO.ite ?_ ?_
      | refine LeO.bind ?_ (fun _ => ?_)
theorem field_List.mono : ∀ a0 a1 k, LeO (field_List.f k a0 a1) (field_List.f (k + 1) a0 a1) := by
  intro a0 a1 k
  have ih0 := field_List.mono_l k
  unfold field_List.f
  repeat' first
      | (with_reducible exact ih0 _ _ _ _)
      | (with_reducible exact field_Get.mono _ _ _)
      | (with_reducible exact sign_Split.mono _ _)
      | (with_reducible exact LeO.refl _)
      | (with_reducible exact LeO.none _)
      | (with_reducible refine LeO.ite ?_ ?_)
      | (with_reducible refine LeO.bind ?_ (fun _ => ?_))
      | exact ih0 _ _ _ _
      | exact field_Get.mono _ _ _
      | exact sign_Split.mono _ _
      | exact LeO.none _
      | refine LeO.ite ?_ ?_
      | refine LeO.bind ?_ (fun _ => ?_)
set_option maxHeartbeats 8000000 in
set_option maxRecDepth 100000 in
theorem field_List.calls (k : Nat) (A0 : Option Addr) (c0 : Nat) (l0 : List (S24)) (a1 : ByteArray) (r : List ByteArray) (w : World) (hr0 : Kd.C k24 w A0 l0.length l0) (hc0 : l0.length ≤ c0) (h : field_List.f k l0 a1 = some r) :
    Calls Tryd.prog 22 #[.slice A0 l0.length c0, .string a1] w fun e w' => ∃ v0_ : Value, e = .returned (v0_) ∧ Kd.R Kd.string 9 w' w.heap.size (fun _ => True) v0_ r ∧ Below w.heap.size w w' := by
  have HR0 := Aside0.mk hr0
  have HC0 := Aside0.mk hc0
  clear hr0 hc0
  have HB := Aside0.mk (Below.refl w.heap.size w)
  have H : ((field_Get.f k l0 a1).bind fun t195 => (field_List.l0 k ([] : List ByteArray) t195 (t195.length : Int) 0)) = some r := h
  clear h
  replace H := Option.bind_eq_some_iff.mp H
  obtain ⟨t195, A30, H⟩ := H
  replace H : (field_List.l0 k ([] : List ByteArray) t195 (t195.length : Int) 0) = some r := H
  have A3 := Aside0.mk A30
  clear A30
  have H' := Aside0.mk H
  clear H
  go_enter Tryd.func22, Tryd.ntmps22
  go_wp2_with (first | ((with_reducible refine gate_callee (f := 20) rfl ?_); refine goesL_ (some 10) rfl rfl Tryd.func20 (by kernel_rfl) rfl #[.slice A0 l0.length c0, .string a1] rfl (by (try simp only [List.map_toArray, List.map_cons, List.map_nil]); first | done | rfl | (simp only [List.length_drop, List.length_take]; rfl)) ?_; (with_reducible refine (field_Get.calls k _ _ l0 a1 t195 _ ?side1 ?side2 A3.out).mono ?_); (case side1 => repeat (first | exact HR0.out | (with_reducible refine Kd.C_alloc ?_ _) | (with_reducible refine Kd.C_drewN ?_ _) | (with_reducible refine Kd.C_drew ?_))); (case side2 => exact HC0.out); rintro e w4 ⟨v196, rfl, ho0, hb⟩; refine ⟨_, rfl, ?_⟩; have n0_ := Aside0.mk (Kd.R_lower ho0 (below_size (by repeat (first | (with_reducible first | exact HB.out | apply below_alloc | apply pw_below_drewN | apply below_drew1) | exact HB.out)))); have n1_ := Aside0.mk (below_step (by repeat (first | (with_reducible first | exact HB.out | apply below_alloc | apply pw_below_drewN | apply below_drew1) | exact HB.out)) hb); clear HB; have HO197 := n0_; have HB := n1_; clear n0_ n1_; (try clear hb); (try clear hb2); (try clear hk); (try clear hi); (try clear ho0); obtain ⟨Ao5, co5, eo5⟩ := Kd.R_slice HO197.out; subst eo5))
  go_loopg [5, 12] k (fun kq v5 v12 w' => ∃ (x5_1 : List ByteArray) (x12_1 : Int), v12 = .int .i64 x12_1 ∧ Aside0 (field_List.l0 kq x5_1 t195 (t195.length : Int) x12_1 = some r) ∧ Aside0 (kq ≤ k) ∧ Aside0 (Kd.R Kd.string 9 w' w.heap.size (fun k_ => some k_ ≠ ((.slice Ao5 t195.length co5) : Value).ownBlock) v5 x5_1) ∧ Aside0 (Kd.R Kd.string 9 w' w.heap.size (fun k_ => some k_ ≠ (v5 : Value).ownBlock) (.slice Ao5 t195.length co5) t195) ∧ Aside0 (Below w.heap.size w w'))
  case atStart => exact ⟨(([] : List ByteArray)), (0), (by first | rfl | (simp; done) | (simp [*]; done)), H', ⟨Nat.le_refl _⟩, ⟨by first | exact Kd.R_nil _ _ _ _ _ | exact Kd.N_nil _ _ _ _ _ | exact Kd.V_nil _ _ _ _ _ | exact Kd.Q_nil _ _ _ _ _ | exact Kd.S_nil _ _ _ _ _⟩, ⟨by (with_reducible repeat (first | apply Kd.R_alloc | apply Kd.R_drewN | apply Kd.R_drew)); exact Kd.R_mono HO197.out (fun _ hk => (by simp [Value.ownBlock]))⟩, ⟨by repeat (first | (with_reducible first | exact HB.out | apply below_alloc | apply pw_below_drewN | apply below_drew1) | exact HB.out)⟩⟩
  case round =>
    clear H'
    try clear c2
    try clear p2
    obtain ⟨x5_1, x12_1, rfl, HA, HK1, HO_5, HO_10, HB⟩ := hrel
    cases gk with
    | zero => exact absurd HA.out (by simp [field_List.l0])
    | succ k1 =>
      have H := HA.out
      clear HA
      simp only [field_List.l0] at H
      by_cases c6 : x12_1 < (t195.length : Int)
      · rw [if_pos c6] at H
        have c6b0 : decide (x12_1 < (t195.length : Int)) = true := decide_eq_true c6
        clear c6
        by_cases c7 : 0 ≤ x12_1
        · rw [if_pos c7] at H
          have c7b0 : decide (0 ≤ x12_1) = true := decide_eq_true c7
          clear c7
          by_cases c8 : x12_1 < (t195.length : Int)
          · rw [if_pos c8] at H
            have c8b0 : decide (x12_1 < (t195.length : Int)) = true := decide_eq_true c8
            clear c8
            replace H := Option.bind_eq_some_iff.mp H
            obtain ⟨t199, A90, H⟩ := H
            replace H : (if x5_1.length + t199.length < 8796093022208 then (field_List.l0 k1 (x5_1 ++ t199) t195 (t195.length : Int) (wrap64 (x12_1 + 1))) else (none)) = some r := H
            have A9 := Aside0.mk A90
            clear A90
            by_cases c10 : x5_1.length + t199.length < 8796093022208
            · rw [if_pos c10] at H
              have LMc10 := Aside0.mk c10
              clear c10
              obtain ⟨y202, hy202⟩ : ∃ y_ : List ByteArray, y_ = (x5_1 ++ t199) := ⟨_, rfl⟩
              replace H : (field_List.l0 k1 y202 t195 (t195.length : Int) (wrap64 (x12_1 + 1))) = some r := by first | (rw [hy202]; with_reducible exact H) | (have H2_ := (Option.bind_some _ _).symm.trans H; rw [hy202]; with_reducible exact H2_) | (have H2_ := (Option.bind_some _ _).symm.trans H; with_reducible exact H2_) | with_reducible exact H | (rw [hy202]; exact H) | exact H
              have Ny202 := Aside0.mk hy202
              clear hy202
              have H' := Aside0.mk H
              clear H
              have p198 : 0 ≤ (x12_1 : Int) := of_decide_eq_true (by first | (with_reducible assumption) | assumption)
              have q198 : x12_1 < (t195.length : Int) := of_decide_eq_true (by first | (with_reducible assumption) | assumption)
              obtain ⟨ad198, e198, hx198_0⟩ := Kd.at_string (Kd.R_reads' HO_10.out).2.2 x12_1 p198 q198
              cases e198
              replace p198 := eq_true p198
              replace q198 := eq_true q198
              go_wp2_with (first | ((with_reducible refine gate_callee (f := 50) rfl ?_); refine goesL_ (some 18) rfl rfl Tryd.func50 (by kernel_rfl) rfl #[.string (rdOf ByteArray.empty t195 x12_1)] rfl (by (try simp only [List.map_toArray, List.map_cons, List.map_nil]); first | done | rfl | (simp only [List.length_drop, List.length_take]; rfl)) ?_; (with_reducible refine (sign_Split.calls k1 (rdOf ByteArray.empty t195 x12_1) t199 _ A9.out).mono ?_); rintro e w11 ⟨v200, rfl, ho0, hb⟩; refine ⟨_, rfl, ?_⟩; have n0_ := Aside0.mk (Kd.R_elder' (by (with_reducible repeat (first | apply Kd.R_alloc | apply Kd.R_drewN | apply Kd.R_drew)); exact HO_5.out) (Kd.R_base ho0) hb); have n1_ := Aside0.mk (Kd.R_elder' (by (with_reducible repeat (first | apply Kd.R_alloc | apply Kd.R_drewN | apply Kd.R_drew)); exact HO_10.out) (Kd.R_base ho0) hb); have n2_ := Aside0.mk (Kd.R_lower (Kd.R_new' (Kd.R_new' ho0 (Kd.R_lt (by (with_reducible repeat (first | apply Kd.R_alloc | apply Kd.R_drewN | apply Kd.R_drew)); exact HO_5.out))) (Kd.R_lt (by (with_reducible repeat (first | apply Kd.R_alloc | apply Kd.R_drewN | apply Kd.R_drew)); exact HO_10.out))) (below_size (by repeat (first | (with_reducible first | exact HB.out | apply below_alloc | apply pw_below_drewN | apply below_drew1) | exact HB.out)))); have n3_ := Aside0.mk (below_step (by repeat (first | (with_reducible first | exact HB.out | apply below_alloc | apply pw_below_drewN | apply below_drew1) | exact HB.out)) hb); clear HO_5; clear HO_10; clear HB; have HO_5 := n0_; have HO_10 := n1_; have HO201 := n2_; have HB := n3_; clear n0_ n1_ n2_ n3_; (try clear hb); (try clear hb2); (try clear hk); (try clear hi); (try clear ho0); obtain ⟨Ao13, co13, eo13⟩ := Kd.R_slice HO201.out; subst eo13) | ((with_reducible refine gate_builtin (b := .append) (xs := #[.tmp 16, .tmp 18]) rfl ?_); at_builtin; refine Kd.R_append_rows Kd.string (w0 := w) w.heap.size rfl (.tmp 16) (.tmp 18) 32 9 (.string ⟨#[]⟩) 16 rfl Tryd.underlying32 info9 rfl (by decide) (by omega) u5 x5_1 t199 _ _ _ (fun k_ => some k_ ≠ (.slice (some ad198) t195.length co5 : Value).ownBlock ∧ some k_ ≠ (.slice Ao13 t199.length co13 : Value).ownBlock) (fun _ => False) rfl rfl ?aO ?aR (fun _ _ h => h) (fun _ h => h.elim) ?aF ?aB ?aS ?aL ?_; (case aR => repeat (first | exact (Kd.R_reads' HO201.out).2.2 | (with_reducible refine Kd.C_alloc ?_ _) | (with_reducible refine Kd.C_drewN ?_ _) | (with_reducible refine Kd.C_drew ?_))); (case aB => exact (by repeat (first | (with_reducible first | exact HB.out | apply below_alloc | apply pw_below_drewN | apply below_drew1) | exact HB.out))); (case aF => exact (fun k_ hk => ⟨Kd.fresh' (Kd.R_lt (by (with_reducible repeat (first | apply Kd.R_alloc | apply Kd.R_drewN | apply Kd.R_drew)); exact HO_10.out)) k_ hk, Kd.fresh' (Kd.R_lt (by (with_reducible repeat (first | apply Kd.R_alloc | apply Kd.R_drewN | apply Kd.R_drew)); exact HO201.out)) k_ hk⟩)); (case aO => exact (by (with_reducible repeat (first | apply Kd.R_alloc | apply Kd.R_drewN | apply Kd.R_drew)); exact HO_5.out)); (case aS => exact (below_size (by repeat (first | (with_reducible first | exact HB.out | apply below_alloc | apply pw_below_drewN | apply below_drew1) | exact HB.out)))); (case aL => have := LMc10.out; omega); intro v203 w12 ho hb hg hat; rw [← Ny202.out] at ho; have n0_ := Aside0.mk (Kd.R_after (ok := (fun k_ => some k_ ≠ (.slice Ao13 t199.length co13 : Value).ownBlock)) (by (with_reducible repeat (first | apply Kd.R_alloc | apply Kd.R_drewN | apply Kd.R_drew)); exact Kd.R_mono HO_10.out (fun _ hk => ⟨hk.2, hk.1⟩)) hg hat); have n1_ := Aside0.mk (Kd.R_after (ok := (fun k_ => some k_ ≠ (.slice (some ad198) t195.length co5 : Value).ownBlock)) (by (with_reducible repeat (first | apply Kd.R_alloc | apply Kd.R_drewN | apply Kd.R_drew)); exact Kd.R_mono HO201.out (fun _ hk => ⟨hk.2, hk.1.2⟩)) hg hat); have n2_ := Aside0.mk (hb); have n3_ := Aside0.mk (ho); clear HO_10; clear HO201; clear HB; clear HO_5; have HO_10 := n0_; have HO201 := n1_; have HB := n2_; have HO204 := n3_; clear n0_ n1_ n2_ n3_; clear ho hb hg hat))
              go_roundg k1
              case measure => have := HK1.out; omega
              case rel => exact ⟨(y202), (wrap64 (x12_1 + 1)), (by first | rfl | (simp; done) | (simp [*]; done)), H', ⟨by have := HK1.out; omega⟩, ⟨by (with_reducible repeat (first | apply Kd.R_alloc | apply Kd.R_drewN | apply Kd.R_drew)); exact Kd.R_mono HO204.out (fun _ hk => hk.1)⟩, ⟨by (with_reducible repeat (first | apply Kd.R_alloc | apply Kd.R_drewN | apply Kd.R_drew)); exact Kd.R_mono HO_10.out (fun _ hk => hk.2)⟩, ⟨by repeat (first | (with_reducible first | exact HB.out | apply below_alloc | apply pw_below_drewN | apply below_drew1) | exact HB.out)⟩⟩
            · rw [if_neg c10] at H
              exact absurd H (by simp)
          · rw [if_neg c8] at H
            exact absurd H (by simp)
        · rw [if_neg c7] at H
          exact absurd H (by simp)
      · rw [if_neg c6] at H
        have c6b0 : decide (x12_1 < (t195.length : Int)) = false := decide_eq_false c6
        clear c6
        obtain rfl := Option.some.inj H
        go_wp2
        go_ret
        exact ⟨_, by first | rfl | (simp [errW_none, errW_some] <;> rfl) | (simp [*, errW_none, errW_some] <;> rfl), by (with_reducible repeat (first | apply Kd.R_alloc | apply Kd.R_drewN | apply Kd.R_drew)); exact Kd.R_mono HO_5.out (fun _ hk => trivial), by repeat (first | (with_reducible first | exact HB.out | apply below_alloc | apply pw_below_drewN | apply below_drew1) | exact HB.out)⟩

/-! ### field_Has: function 24 -/

/-- the closure: is p the same as what is captured? -/
theorem field_Has.clo (g : Nat) (p q : ByteArray) (b : Bool) (W : World) (hg : W.cell? ⟨g, 0, none⟩ = some (.string q)) (h : sign_Same.f p q = some b) :
    Calls Tryd.prog 53 #[.string p, .pointer (some ⟨g, 0, none⟩)] W fun e W' => e = .returned (.bool b) ∧ Below W.heap.size W W' := by
  have A := Aside0.mk h
  clear h
  go_enter Tryd.func53, Tryd.ntmps53
  go_wp2_with (go_at_call 48; (with_reducible refine (sign_Same.calls p q b _ A.out).mono ?_); rintro e w' ⟨rfl, hb⟩)
  go_ret
  exact ⟨rfl, hb⟩
/-- does one of the texts stand there? -/
def field_Has.any : List ByteArray → ByteArray → Option Bool
  | [], _ => some false
  | p :: ps, q => (sign_Same.f p q).bind fun b => if b = true then some true else field_Has.any ps q
set_option maxHeartbeats 1000000 in
set_option maxRecDepth 100000 in
theorem field_Has.idx (g : Nat) (q : ByteArray) (r : Bool) (A : Option Addr) (c : Nat) (l : List ByteArray) (w : World) (hg : w.cell? ⟨g, 0, none⟩ = some (.string q)) (hr : Kd.C Kd.string w A l.length l) (h : field_Has.any l q = some r) :
    Calls Tryd.prog 75 #[.slice A l.length c, .func (.func 53) #[] #[.pointer (some ⟨g, 0, none⟩)]] w fun e w' => (∃ i : Int, e = .returned (.int .i64 i) ∧ decide (0 ≤ i) = r) ∧ Below w.heap.size w w' := by
  have HA := Aside0.mk h
  have HR := Aside0.mk hr
  have HG := Aside0.mk hg
  have hm : l.length ≤ 9223372036854775807 := hr.2.1
  clear h hr hg
  go_enter Tryd.func75, Tryd.ntmps75
  go_wp2
  go_loopw [8] (fun v8 wr => ∃ k : Nat, k ≤ l.length ∧ v8 = .int .i64 k ∧ Aside0 (field_Has.any (l.drop k) q = some r) ∧ Aside0 (Below w.heap.size w wr)) (fun v8 _ => l.length - (intOf v8).toNat)
  case atStart => exact ⟨0, Nat.zero_le _, rfl, HA, ⟨Below.refl _ _⟩⟩
  case round =>
    obtain ⟨k, hk, rfl, HK, HB⟩ := hrel
    clear HA
    by_cases hlt : k < l.length
    · have H := HK.out
      rw [List.drop_eq_getElem_cons hlt] at H
      simp only [field_Has.any] at H
      obtain ⟨b, hb, H⟩ := Option.bind_eq_some_iff.1 H
      have HS := Aside0.mk hb
      clear hb HK
      obtain ⟨ad, ead, hx⟩ := Kd.at_string HR.out (k : Int) (by omega) (by omega)
      cases ead
      replace hx := (HB.out.cell (World.block_lt_of_cell? w _ hx)).trans hx
      have hrd : rdOf ByteArray.empty l (k : Int) = l[k] := by
        unfold rdOf
        rw [Int.toNat_natCast, List.getD_eq_getElem?_getD, List.getElem?_eq_getElem hlt]; rfl
      rw [hrd, Int.toNat_natCast] at hx
      have hgc := (HB.out.cell (World.block_lt_of_cell? w _ HG.out)).trans HG.out
      generalize l[k] = p at *
      clear hrd
      cases b with
      | true =>
        have hT : true = r := by simpa using H
        subst hT
        clear H
        go_wp2_with (go_at_call 53; (with_reducible refine (field_Has.clo g p q true _ hgc HS.out).mono ?_); rintro e w' ⟨rfl, hb⟩)
        go_ret
        exact ⟨⟨(k : Int), rfl, by simp⟩, below_step HB.out hb⟩
      | false =>
        have HN : Aside0 (field_Has.any (l.drop (k + 1)) q = some r) := ⟨by simpa using H⟩
        clear H
        go_wp2_with (go_at_call 53; (with_reducible refine (field_Has.clo g p q false _ hgc HS.out).mono ?_); rintro e w' ⟨rfl, hb⟩)
        go_roundw
        case rel => exact ⟨k + 1, by omega, by go_num, HN, ⟨below_step HB.out hb⟩⟩
        case measure => simp [intOf]; omega
    · have hkl : k = l.length := by omega
      have H := HK.out
      rw [List.drop_of_length_le (by omega)] at H
      simp only [field_Has.any, Option.some.injEq] at H
      subst H
      clear HK hkl
      go_wp2
      go_ret
      exact ⟨⟨-1, rfl, rfl⟩, HB.out⟩
theorem field_Has.cont (g : Nat) (q : ByteArray) (r : Bool) (A : Option Addr) (c : Nat) (l : List ByteArray) (w : World) (hg : w.cell? ⟨g, 0, none⟩ = some (.string q)) (hr : Kd.C Kd.string w A l.length l) (h : field_Has.any l q = some r) :
    Calls Tryd.prog 52 #[.slice A l.length c, .func (.func 53) #[] #[.pointer (some ⟨g, 0, none⟩)]] w fun e w' => e = .returned (.bool r) ∧ Below w.heap.size w w' := by
  have HA := Aside0.mk h
  have HR := Aside0.mk hr
  clear h hr
  go_enter Tryd.func52, Tryd.ntmps52
  go_wp2_with (go_at_call 75; (with_reducible refine (field_Has.idx g q r A c l _ hg HR.out HA.out).mono ?_); rintro e w' ⟨⟨i, rfl, hi⟩, hb⟩)
  go_ret
  exact ⟨by rw [← hi]; rfl, hb⟩

def field_Has.f (k : Nat) (l0 : List S24) (a1 : ByteArray) (a2 : ByteArray) : Option Bool := (field_List.f k l0 a1).bind fun ps => field_Has.any ps a2
theorem field_Has.mono : ∀ a0 a1 a2 k, LeO (field_Has.f k a0 a1 a2) (field_Has.f (k + 1) a0 a1 a2) := fun a0 a1 _ k => LeO.bind (field_List.mono a0 a1 k) (fun _ => LeO.refl _)
set_option maxHeartbeats 1000000 in
set_option maxRecDepth 100000 in
theorem field_Has.calls (k : Nat) (A0 : Option Addr) (c0 : Nat) (l0 : List S24) (a1 : ByteArray) (a2 : ByteArray) (r : Bool) (w : World) (hr0 : Kd.C k24 w A0 l0.length l0) (hc0 : l0.length ≤ c0) (h : field_Has.f k l0 a1 a2 = some r) :
    Calls Tryd.prog 24 #[.slice A0 l0.length c0, .string a1, .string a2] w fun e w' => e = .returned (.bool r) ∧ Below w.heap.size w w' := by
  obtain ⟨ps, h1, h2⟩ := Option.bind_eq_some_iff.1 h
  have H1 := Aside0.mk h1
  have H2 := Aside0.mk h2
  have HR := Aside0.mk (Kd.C_below hr0 (below_alloc (Below.refl w.heap.size w) (.cells #[.string a2] 9)))
  have HC := Aside0.mk hc0
  clear h h1 h2 hr0 hc0
  go_enter Tryd.func24, Tryd.ntmps24
  go_wp2_with (first | (go_at_call 22; (with_reducible refine (field_List.calls k A0 c0 l0 a1 ps _ HR.out HC.out H1.out).mono ?_); rintro e w1 ⟨v, rfl, ho, hb⟩; obtain ⟨A1, c1, rfl, _, hC⟩ := Kd.R_reads ho; have HO := Aside0.mk hC; have HB := Aside0.mk hb; have HG : Aside0 (w1.cell? ⟨w.heap.size, 0, none⟩ = some (.string a2)) := ⟨(hb.cell (p := ⟨w.heap.size, 0, none⟩) (by simp)).trans ((blk_cell (heap_alloc_new w (.cells #[.string a2] 9)) 0).trans rfl)⟩; clear ho hb hC) | (go_at_call 52; (with_reducible refine (field_Has.cont w.heap.size a2 r A1 c1 ps _ HG.out HO.out H2.out).mono ?_); rintro e w2 ⟨rfl, hb2⟩))
  go_ret
  exact ⟨rfl, below_step (below_step (below_alloc (Below.refl _ _) _) HB.out) hb2⟩


/-! ### field_Right_1: function 55 -/
def field_Right_1.f (k : Nat) (a0_0 : ByteArray) (a0_1 : ByteArray) : Option (Bool) := (field_right.f k a0_0 a0_1).bind fun t206 => (some (!t206))
theorem field_Right_1.mono : ∀ a0 a1 k, LeO (field_Right_1.f k a0 a1) (field_Right_1.f (k + 1) a0 a1) := by
  intro a0 a1 k
  unfold field_Right_1.f
  repeat' first
      | (with_reducible exact field_right.mono _ _ _)
      | (with_reducible exact LeO.refl _)
      | (with_reducible exact LeO.none _)
      | (with_reducible refine LeO.ite ?_ ?_)
      | (with_reducible refine LeO.bind ?_ (fun _ => ?_))
      | exact field_right.mono _ _ _
      | exact LeO.none _
      | refine LeO.ite ?_ ?_
      | refine LeO.bind ?_ (fun _ => ?_)
set_option maxHeartbeats 8000000 in
set_option maxRecDepth 100000 in
theorem field_Right_1.calls (k : Nat) (a0_0 : ByteArray) (a0_1 : ByteArray) (r : Bool) (w : World) (h : field_Right_1.f k a0_0 a0_1 = some r) :
    Calls Tryd.prog 55 #[.agg #[.string a0_0, .string a0_1]] w fun e w' => e = .returned (.bool r) ∧ Below w.heap.size w w' := by
  have hu24 := Tryd.underlying24
  have HB := Aside0.mk (Below.refl w.heap.size w)
  have H : ((field_right.f k a0_0 a0_1).bind fun t206 => (some (!t206))) = some r := h
  clear h
  replace H := Option.bind_eq_some_iff.mp H
  obtain ⟨t206, A20, H⟩ := H
  replace H : (some (!t206)) = some r := H
  have A2 := Aside0.mk A20
  clear A20
  obtain rfl := Option.some.inj H
  go_enter Tryd.func55, Tryd.ntmps55
  go_wp2_with (first | ((with_reducible refine gate_dst (N := 1) rfl ?_); refine box_event ?hg (N := 1) ?hd (cs := #[.string a0_0, .string a0_1]) (t := 24) ?hr ?_; (case hd => rfl); (case hg => rfl); (case hr => first | (go_simp; done) | (go_simp; rfl)); intro gb205 hg w3 hbox hb; have n0_ := Aside0.mk (below_step (by repeat (first | (with_reducible first | exact HB.out | apply below_alloc | apply pw_below_drewN | apply below_drew1) | exact HB.out)) hb); have n1_ := Aside0.mk (hbox); have n2_ := Aside0.mk ((by rw [hg]; exact (below_size (by repeat (first | (with_reducible first | exact HB.out | apply below_alloc | apply pw_below_drewN | apply below_drew1) | exact HB.out))) : w.heap.size ≤ gb205)); have n3_ := Aside0.mk ((by rw [hg]; exact (below_size (by repeat (first | (with_reducible first | exact HB.out | apply below_alloc | apply pw_below_drewN | apply below_drew1) | exact HB.out))) : w.heap.size ≤ gb205)); clear HB; have HB := n0_; have BK205 := n1_; have GW205 := n2_; have GE205 := n3_; clear n0_ n1_ n2_ n3_; clear hb hbox hg; have hcz4_0 : w3.cell? ⟨gb205, 0, none⟩ = some (.string a0_0) := (blk_cell BK205.out 0).trans rfl; have hcz4_1 : w3.cell? ⟨gb205, 1, none⟩ = some (.string a0_1) := (blk_cell BK205.out 1).trans rfl; have hfz4_0 := blk_frozen BK205.out 0; have hfz4_1 := blk_frozen BK205.out 1) | ((with_reducible refine gate_callee (f := 45) rfl ?_); refine goesL_ (some 4) rfl rfl Tryd.func45 (by kernel_rfl) rfl #[.agg #[.string a0_0, .string a0_1]] rfl (by (try simp only [List.map_toArray, List.map_cons, List.map_nil]); first | done | rfl | (simp only [List.length_drop, List.length_take]; rfl)) ?_; (with_reducible refine (field_right.calls k a0_0 a0_1 t206 _ A2.out).mono ?_); rintro e w5 ⟨rfl, hb⟩; refine ⟨_, rfl, ?_⟩; have n0_ := Aside0.mk (blk_below (g := gb205) (o := .cells #[.string a0_0, .string a0_1] 24 (0, 0)) (by (with_reducible repeat (first | refine blk_drewN ?_ _ | refine blk_drew ?_ | refine blk_alloc ?_ _)); exact BK205.out) hb); have n1_ := Aside0.mk (below_step (by repeat (first | (with_reducible first | exact HB.out | apply below_alloc | apply pw_below_drewN | apply below_drew1 | refine below_set ?_ GE205.out) | exact HB.out)) hb); clear BK205; clear HB; have BK205 := n0_; have HB := n1_; clear n0_ n1_; (try clear hb); (try clear hb2); (try clear hk); (try clear hi)))
  go_ret
  exact ⟨by first | rfl | (simp [errW_none, errW_some] <;> rfl) | (simp [*, errW_none, errW_some] <;> rfl), by repeat (first | (with_reducible first | exact HB.out | apply below_alloc | apply pw_below_drewN | apply below_drew1 | refine below_set ?_ GE205.out) | exact HB.out)⟩

/-! ### api_Field_55_76: function 76 -/
def api_Field_55_76.l0 : Nat → List (S24) → Int → Int → Option (Int)
  | 0, _, _, _ => none
  | k + 1, x0, x7, x8 => if x8 < x7 then (if 0 ≤ x8 then (if x8 < (x0.length : Int) then ((field_Right_1.f k ((rd_T24 x0 x8).f0) ((rd_T24 x0 x8).f1)).bind fun t208 => (if t208 = true then (some x8) else (api_Field_55_76.l0 k x0 x7 (wrap64 (x8 + 1))))) else (none)) else (none)) else (some (-1))
def api_Field_55_76.f (k : Nat) (l0 : List (S24))  : Option (Int) := api_Field_55_76.l0 k l0 (l0.length : Int) 0
theorem api_Field_55_76.mono_l : ∀ k, (∀ y0 y1 y2, LeO (api_Field_55_76.l0 k y0 y1 y2) (api_Field_55_76.l0 (k + 1) y0 y1 y2))
  | 0 => fun _ _ _ r h => by simp [api_Field_55_76.l0] at h
  | k + 1 => by
    have ih0 := api_Field_55_76.mono_l k
    · intro y0 y1 y2
      unfold api_Field_55_76.l0
      repeat' first
      | (with_reducible exact ih0 _ _ _)
      | (with_reducible exact field_Right_1.mono _ _ _)
      | (with_reducible exact LeO.refl _)
      | (with_reducible exact LeO.none _)
      | (with_reducible refine LeO.ite ?_ ?_)
      | (with_reducible refine LeO.bind ?_ (fun _ => ?_))
      | exact ih0 _ _ _
      | exact field_Right_1.mono _ _ _
      | exact LeO.none _
      | refine LeO.ite ?_ ?_
      | refine LeO.bind ?_ (fun _ => ?_)
theorem api_Field_55_76.mono : ∀ a0 k, LeO (api_Field_55_76.f k a0) (api_Field_55_76.f (k + 1) a0) := by
  intro a0 k
  have ih0 := api_Field_55_76.mono_l k
  unfold api_Field_55_76.f
  repeat' first
      | (with_reducible exact ih0 _ _ _)
      | (with_reducible exact field_Right_1.mono _ _ _)
      | (with_reducible exact LeO.refl _)
      | (with_reducible exact LeO.none _)
      | (with_reducible refine LeO.ite ?_ ?_)
      | (with_reducible refine LeO.bind ?_ (fun _ => ?_))
      | exact ih0 _ _ _
      | exact field_Right_1.mono _ _ _
      | exact LeO.none _
      | refine LeO.ite ?_ ?_
      | refine LeO.bind ?_ (fun _ => ?_)
set_option maxHeartbeats 8000000 in
set_option maxRecDepth 100000 in
theorem api_Field_55_76.calls (k : Nat) (A0 : Option Addr) (c0 : Nat) (l0 : List (S24))  (r : Int) (w : World) (hr0 : Kd.C k24 w A0 l0.length l0) (hc0 : l0.length ≤ c0) (h : api_Field_55_76.f k l0 = some r) :
    Calls Tryd.prog 76 #[.slice A0 l0.length c0, .func (.func 55) #[] #[]] w fun e w' => e = .returned (.int .i64 r) ∧ Below w.heap.size w w' := by
  have hu24 := Tryd.underlying24
  have HR0 := Aside0.mk hr0
  have HC0 := Aside0.mk hc0
  clear hr0 hc0
  have HB := Aside0.mk (Below.refl w.heap.size w)
  have H : (api_Field_55_76.l0 k l0 (l0.length : Int) 0) = some r := h
  clear h
  have H' := Aside0.mk H
  clear H
  go_enter Tryd.func76, Tryd.ntmps76
  go_wp2
  go_loopg [8] k (fun kq v8 w' => ∃ (x8_1 : Int), v8 = .int .i64 x8_1 ∧ Aside0 (api_Field_55_76.l0 kq l0 (l0.length : Int) x8_1 = some r) ∧ Aside0 (kq ≤ k) ∧ Aside0 (Below w.heap.size w w'))
  case atStart => exact ⟨(0), (by first | rfl | (simp; done) | (simp [*]; done)), H', ⟨Nat.le_refl _⟩, ⟨by repeat (first | (with_reducible first | exact HB.out | apply below_alloc | apply pw_below_drewN | apply below_drew1) | exact HB.out)⟩⟩
  case round =>
    clear H'
    try clear p2
    obtain ⟨x8_1, rfl, HA, HK1, HB⟩ := hrel
    cases gk with
    | zero => exact absurd HA.out (by simp [api_Field_55_76.l0])
    | succ k1 =>
      have H := HA.out
      clear HA
      simp only [api_Field_55_76.l0] at H
      by_cases c3 : x8_1 < (l0.length : Int)
      · rw [if_pos c3] at H
        have c3b0 : decide (x8_1 < (l0.length : Int)) = true := decide_eq_true c3
        clear c3
        by_cases c4 : 0 ≤ x8_1
        · rw [if_pos c4] at H
          have c4b0 : decide (0 ≤ x8_1) = true := decide_eq_true c4
          clear c4
          by_cases c5 : x8_1 < (l0.length : Int)
          · rw [if_pos c5] at H
            have c5b0 : decide (x8_1 < (l0.length : Int)) = true := decide_eq_true c5
            clear c5
            replace H := Option.bind_eq_some_iff.mp H
            obtain ⟨t208, A60, H⟩ := H
            replace H : (if t208 = true then (some x8_1) else (api_Field_55_76.l0 k1 l0 (l0.length : Int) (wrap64 (x8_1 + 1)))) = some r := H
            have A6 := Aside0.mk A60
            clear A60
            by_cases c7 : t208 = true
            · subst c7
              have H1 : (some x8_1) = some r := by rw [if_pos rfl] at H; exact H
              clear H
              have H := H1
              clear H1
              obtain rfl := Option.some.inj H
              have p207 : 0 ≤ (x8_1 : Int) := of_decide_eq_true (by first | (with_reducible assumption) | assumption)
              have q207 : x8_1 < (l0.length : Int) := of_decide_eq_true (by first | (with_reducible assumption) | assumption)
              obtain ⟨ad207, e207, hx207_0, hx207_1⟩ := at_T24 HR0.out x8_1 p207 q207
              cases e207
              replace hx207_0 := (HB.out.cell (World.block_lt_of_cell? w _ hx207_0)).trans hx207_0
              replace hx207_1 := (HB.out.cell (World.block_lt_of_cell? w _ hx207_1)).trans hx207_1
              replace p207 := eq_true p207
              replace q207 := eq_true q207
              go_wp2_with (first | (go_at_call 55; (with_reducible refine (field_Right_1.calls k1 ((rd_T24 l0 x8_1).f0) ((rd_T24 l0 x8_1).f1) true _ A6.out).mono ?_); rintro e w8 ⟨rfl, hb⟩; have n0_ := Aside0.mk (below_step (by repeat (first | (with_reducible first | exact HB.out | apply below_alloc | apply pw_below_drewN | apply below_drew1) | exact HB.out)) hb); clear HB; have HB := n0_; clear n0_; (try clear hb); (try clear hb2); (try clear hk); (try clear hi)))
              go_ret
              exact ⟨by first | rfl | (simp [errW_none, errW_some] <;> rfl) | (simp [*, errW_none, errW_some] <;> rfl), by repeat (first | (with_reducible first | exact HB.out | apply below_alloc | apply pw_below_drewN | apply below_drew1) | exact HB.out)⟩
            · replace c7 := Bool.eq_false_iff.mpr c7
              subst c7
              have H1 : (api_Field_55_76.l0 k1 l0 (l0.length : Int) (wrap64 (x8_1 + 1))) = some r := by rw [if_neg (show ¬ (false = true) by decide)] at H; exact H
              clear H
              have H := H1
              clear H1
              have H' := Aside0.mk H
              clear H
              have p207 : 0 ≤ (x8_1 : Int) := of_decide_eq_true (by first | (with_reducible assumption) | assumption)
              have q207 : x8_1 < (l0.length : Int) := of_decide_eq_true (by first | (with_reducible assumption) | assumption)
              obtain ⟨ad207, e207, hx207_0, hx207_1⟩ := at_T24 HR0.out x8_1 p207 q207
              cases e207
              replace hx207_0 := (HB.out.cell (World.block_lt_of_cell? w _ hx207_0)).trans hx207_0
              replace hx207_1 := (HB.out.cell (World.block_lt_of_cell? w _ hx207_1)).trans hx207_1
              replace p207 := eq_true p207
              replace q207 := eq_true q207
              go_wp2_with (first | (go_at_call 55; (with_reducible refine (field_Right_1.calls k1 ((rd_T24 l0 x8_1).f0) ((rd_T24 l0 x8_1).f1) false _ A6.out).mono ?_); rintro e w9 ⟨rfl, hb⟩; have n0_ := Aside0.mk (below_step (by repeat (first | (with_reducible first | exact HB.out | apply below_alloc | apply pw_below_drewN | apply below_drew1) | exact HB.out)) hb); clear HB; have HB := n0_; clear n0_; (try clear hb); (try clear hb2); (try clear hk); (try clear hi)))
              go_roundg k1
              case measure => have := HK1.out; omega
              case rel => exact ⟨(wrap64 (x8_1 + 1)), (by first | rfl | (simp; done) | (simp [*]; done)), H', ⟨by have := HK1.out; omega⟩, ⟨by repeat (first | (with_reducible first | exact HB.out | apply below_alloc | apply pw_below_drewN | apply below_drew1) | exact HB.out)⟩⟩
          · rw [if_neg c5] at H
            exact absurd H (by simp)
        · rw [if_neg c4] at H
          exact absurd H (by simp)
      · rw [if_neg c3] at H
        have c3b0 : decide (x8_1 < (l0.length : Int)) = false := decide_eq_false c3
        clear c3
        obtain rfl := Option.some.inj H
        go_wp2
        go_ret
        exact ⟨by first | rfl | (simp [errW_none, errW_some] <;> rfl) | (simp [*, errW_none, errW_some] <;> rfl), by repeat (first | (with_reducible first | exact HB.out | apply below_alloc | apply pw_below_drewN | apply below_drew1) | exact HB.out)⟩

/-! ### api_Field_55_54: function 54 -/
def api_Field_55_54.f (k : Nat) (l0 : List (S24))  : Option (Bool) := (api_Field_55_76.f k l0).bind fun t209 => (some (decide (t209 ≥ 0)))
theorem api_Field_55_54.mono : ∀ a0 k, LeO (api_Field_55_54.f k a0) (api_Field_55_54.f (k + 1) a0) := by
  intro a0 k
  unfold api_Field_55_54.f
  repeat' first
      | (with_reducible exact api_Field_55_76.mono _ _)
      | (with_reducible exact LeO.refl _)
      | (with_reducible exact LeO.none _)
      | (with_reducible refine LeO.ite ?_ ?_)
      | (with_reducible refine LeO.bind ?_ (fun _ => ?_))
      | exact api_Field_55_76.mono _ _
      | exact LeO.none _
      | refine LeO.ite ?_ ?_
      | refine LeO.bind ?_ (fun _ => ?_)
set_option maxHeartbeats 8000000 in
set_option maxRecDepth 100000 in
theorem api_Field_55_54.calls (k : Nat) (A0 : Option Addr) (c0 : Nat) (l0 : List (S24))  (r : Bool) (w : World) (hr0 : Kd.C k24 w A0 l0.length l0) (hc0 : l0.length ≤ c0) (h : api_Field_55_54.f k l0 = some r) :
    Calls Tryd.prog 54 #[.slice A0 l0.length c0, .func (.func 55) #[] #[]] w fun e w' => e = .returned (.bool r) ∧ Below w.heap.size w w' := by
  have HR0 := Aside0.mk hr0
  have HC0 := Aside0.mk hc0
  clear hr0 hc0
  have HB := Aside0.mk (Below.refl w.heap.size w)
  have H : ((api_Field_55_76.f k l0).bind fun t209 => (some (decide (t209 ≥ 0)))) = some r := h
  clear h
  replace H := Option.bind_eq_some_iff.mp H
  obtain ⟨t209, A30, H⟩ := H
  replace H : (some (decide (t209 ≥ 0))) = some r := H
  have A3 := Aside0.mk A30
  clear A30
  obtain rfl := Option.some.inj H
  go_enter Tryd.func54, Tryd.ntmps54
  go_wp2_with (first | ((with_reducible refine gate_callee (f := 76) rfl ?_); refine goesL_ (some 7) rfl rfl Tryd.func76 (by kernel_rfl) rfl #[.slice A0 l0.length c0, .func (.func 55) #[] #[]] rfl (by (try simp only [List.map_toArray, List.map_cons, List.map_nil]); first | done | rfl | (simp only [List.length_drop, List.length_take]; rfl)) ?_; (with_reducible refine (api_Field_55_76.calls k _ _ l0 t209 _ ?side1 ?side2 A3.out).mono ?_); (case side1 => repeat (first | exact HR0.out | (with_reducible refine Kd.C_alloc ?_ _) | (with_reducible refine Kd.C_drewN ?_ _) | (with_reducible refine Kd.C_drew ?_))); (case side2 => exact HC0.out); rintro e w4 ⟨rfl, hb⟩; refine ⟨_, rfl, ?_⟩; have n0_ := Aside0.mk (below_step (by repeat (first | (with_reducible first | exact HB.out | apply below_alloc | apply pw_below_drewN | apply below_drew1) | exact HB.out)) hb); clear HB; have HB := n0_; clear n0_; (try clear hb); (try clear hb2); (try clear hk); (try clear hi)))
  go_ret
  exact ⟨by first | rfl | (simp [errW_none, errW_some] <;> rfl) | (simp [*, errW_none, errW_some] <;> rfl), by repeat (first | (with_reducible first | exact HB.out | apply below_alloc | apply pw_below_drewN | apply below_drew1) | exact HB.out)⟩

/-! ### field_Right: function 26 -/
def field_Right.f (k : Nat) (l0 : List (S24)) : Option (Bool) := if (l0.length : Int) ≤ 40 then ((api_Field_55_54.f k l0).bind fun t210 => (some (!t210))) else (some false)
theorem field_Right.mono : ∀ a0 k, LeO (field_Right.f k a0) (field_Right.f (k + 1) a0) := by
  intro a0 k
  unfold field_Right.f
  repeat' first
      | (with_reducible exact api_Field_55_54.mono _ _)
      | (with_reducible exact LeO.refl _)
      | (with_reducible exact LeO.none _)
      | (with_reducible refine LeO.ite ?_ ?_)
      | (with_reducible refine LeO.bind ?_ (fun _ => ?_))
      | exact api_Field_55_54.mono _ _
      | exact LeO.none _
      | refine LeO.ite ?_ ?_
      | refine LeO.bind ?_ (fun _ => ?_)
set_option maxHeartbeats 8000000 in
set_option maxRecDepth 100000 in
theorem field_Right.calls (k : Nat) (A0 : Option Addr) (c0 : Nat) (l0 : List (S24)) (r : Bool) (w : World) (hr0 : Kd.C k24 w A0 l0.length l0) (hc0 : l0.length ≤ c0) (h : field_Right.f k l0 = some r) :
    Calls Tryd.prog 26 #[.slice A0 l0.length c0] w fun e w' => e = .returned (.bool r) ∧ Below w.heap.size w w' := by
  have HR0 := Aside0.mk hr0
  have HC0 := Aside0.mk hc0
  clear hr0 hc0
  have HB := Aside0.mk (Below.refl w.heap.size w)
  have H : (if (l0.length : Int) ≤ 40 then ((api_Field_55_54.f k l0).bind fun t210 => (some (!t210))) else (some false)) = some r := h
  clear h
  by_cases c2 : (l0.length : Int) ≤ 40
  · rw [if_pos c2] at H
    have c2b0 : decide ((l0.length : Int) ≤ 40) = true := decide_eq_true c2
    have c2b1 : decide (l0.length ≤ 40) = true := decide_eq_true (by omega)
    clear c2
    replace H := Option.bind_eq_some_iff.mp H
    obtain ⟨t210, A30, H⟩ := H
    replace H : (some (!t210)) = some r := H
    have A3 := Aside0.mk A30
    clear A30
    obtain rfl := Option.some.inj H
    go_enter Tryd.func26, Tryd.ntmps26
    go_wp2_with (first | (go_at_call 54; (with_reducible refine (api_Field_55_54.calls k _ _ l0 t210 _ ?side1 ?side2 A3.out).mono ?_); (case side1 => repeat (first | exact HR0.out | (with_reducible refine Kd.C_alloc ?_ _) | (with_reducible refine Kd.C_drewN ?_ _) | (with_reducible refine Kd.C_drew ?_))); (case side2 => exact HC0.out); rintro e w4 ⟨rfl, hb⟩; have n0_ := Aside0.mk (below_step (by repeat (first | (with_reducible first | exact HB.out | apply below_alloc | apply pw_below_drewN | apply below_drew1) | exact HB.out)) hb); clear HB; have HB := n0_; clear n0_; (try clear hb); (try clear hb2); (try clear hk); (try clear hi)))
    go_ret
    exact ⟨by first | rfl | (simp [errW_none, errW_some] <;> rfl) | (simp [*, errW_none, errW_some] <;> rfl), by repeat (first | (with_reducible first | exact HB.out | apply below_alloc | apply pw_below_drewN | apply below_drew1) | exact HB.out)⟩
  · rw [if_neg c2] at H
    have c2b0 : decide ((l0.length : Int) ≤ 40) = false := decide_eq_false c2
    have c2b1 : decide (l0.length ≤ 40) = false := decide_eq_false (by omega)
    clear c2
    obtain rfl := Option.some.inj H
    go_enter Tryd.func26, Tryd.ntmps26
    go_wp2
    go_ret
    exact ⟨by first | rfl | (simp [errW_none, errW_some] <;> rfl) | (simp [*, errW_none, errW_some] <;> rfl), by repeat (first | (with_reducible first | exact HB.out | apply below_alloc | apply pw_below_drewN | apply below_drew1) | exact HB.out)⟩

/-! ### field_Without: function 29 -/

/-- the closure: is p the same as what is captured? -/
theorem field_Without.clo (g : Nat) (p q : ByteArray) (b : Bool) (W : World) (hg : W.cell? ⟨g, 0, none⟩ = some (.string q)) (h : sign_Same.f p q = some b) :
    Calls Tryd.prog 56 #[.string p, .pointer (some ⟨g, 0, none⟩)] W fun e W' => e = .returned (.bool b) ∧ Below W.heap.size W W' := by
  have A := Aside0.mk h
  clear h
  go_enter Tryd.func56, Tryd.ntmps56
  go_wp2_with (go_at_call 48; (with_reducible refine (sign_Same.calls p q b _ A.out).mono ?_); rintro e w' ⟨rfl, hb⟩)
  go_ret
  exact ⟨rfl, hb⟩
/-- does one of the texts stand there? -/
def field_Without.any : List ByteArray → ByteArray → Option Bool
  | [], _ => some false
  | p :: ps, q => (sign_Same.f p q).bind fun b => if b = true then some true else field_Without.any ps q
set_option maxHeartbeats 1000000 in
set_option maxRecDepth 100000 in
theorem field_Without.idx (g : Nat) (q : ByteArray) (r : Bool) (A : Option Addr) (c : Nat) (l : List ByteArray) (w : World) (hg : w.cell? ⟨g, 0, none⟩ = some (.string q)) (hr : Kd.C Kd.string w A l.length l) (h : field_Without.any l q = some r) :
    Calls Tryd.prog 75 #[.slice A l.length c, .func (.func 56) #[] #[.pointer (some ⟨g, 0, none⟩)]] w fun e w' => (∃ i : Int, e = .returned (.int .i64 i) ∧ decide (0 ≤ i) = r) ∧ Below w.heap.size w w' := by
  have HA := Aside0.mk h
  have HR := Aside0.mk hr
  have HG := Aside0.mk hg
  have hm : l.length ≤ 9223372036854775807 := hr.2.1
  clear h hr hg
  go_enter Tryd.func75, Tryd.ntmps75
  go_wp2
  go_loopw [8] (fun v8 wr => ∃ k : Nat, k ≤ l.length ∧ v8 = .int .i64 k ∧ Aside0 (field_Without.any (l.drop k) q = some r) ∧ Aside0 (Below w.heap.size w wr)) (fun v8 _ => l.length - (intOf v8).toNat)
  case atStart => exact ⟨0, Nat.zero_le _, rfl, HA, ⟨Below.refl _ _⟩⟩
  case round =>
    obtain ⟨k, hk, rfl, HK, HB⟩ := hrel
    clear HA
    by_cases hlt : k < l.length
    · have H := HK.out
      rw [List.drop_eq_getElem_cons hlt] at H
      simp only [field_Without.any] at H
      obtain ⟨b, hb, H⟩ := Option.bind_eq_some_iff.1 H
      have HS := Aside0.mk hb
      clear hb HK
      obtain ⟨ad, ead, hx⟩ := Kd.at_string HR.out (k : Int) (by omega) (by omega)
      cases ead
      replace hx := (HB.out.cell (World.block_lt_of_cell? w _ hx)).trans hx
      have hrd : rdOf ByteArray.empty l (k : Int) = l[k] := by
        unfold rdOf
        rw [Int.toNat_natCast, List.getD_eq_getElem?_getD, List.getElem?_eq_getElem hlt]; rfl
      rw [hrd, Int.toNat_natCast] at hx
      have hgc := (HB.out.cell (World.block_lt_of_cell? w _ HG.out)).trans HG.out
      generalize l[k] = p at *
      clear hrd
      cases b with
      | true =>
        have hT : true = r := by simpa using H
        subst hT
        clear H
        go_wp2_with (go_at_call 56; (with_reducible refine (field_Without.clo g p q true _ hgc HS.out).mono ?_); rintro e w' ⟨rfl, hb⟩)
        go_ret
        exact ⟨⟨(k : Int), rfl, by simp⟩, below_step HB.out hb⟩
      | false =>
        have HN : Aside0 (field_Without.any (l.drop (k + 1)) q = some r) := ⟨by simpa using H⟩
        clear H
        go_wp2_with (go_at_call 56; (with_reducible refine (field_Without.clo g p q false _ hgc HS.out).mono ?_); rintro e w' ⟨rfl, hb⟩)
        go_roundw
        case rel => exact ⟨k + 1, by omega, by go_num, HN, ⟨below_step HB.out hb⟩⟩
        case measure => simp [intOf]; omega
    · have hkl : k = l.length := by omega
      have H := HK.out
      rw [List.drop_of_length_le (by omega)] at H
      simp only [field_Without.any, Option.some.injEq] at H
      subst H
      clear HK hkl
      go_wp2
      go_ret
      exact ⟨⟨-1, rfl, rfl⟩, HB.out⟩
theorem field_Without.cont (g : Nat) (q : ByteArray) (r : Bool) (A : Option Addr) (c : Nat) (l : List ByteArray) (w : World) (hg : w.cell? ⟨g, 0, none⟩ = some (.string q)) (hr : Kd.C Kd.string w A l.length l) (h : field_Without.any l q = some r) :
    Calls Tryd.prog 52 #[.slice A l.length c, .func (.func 56) #[] #[.pointer (some ⟨g, 0, none⟩)]] w fun e w' => e = .returned (.bool r) ∧ Below w.heap.size w w' := by
  have HA := Aside0.mk h
  have HR := Aside0.mk hr
  clear h hr
  go_enter Tryd.func52, Tryd.ntmps52
  go_wp2_with (go_at_call 75; (with_reducible refine (field_Without.idx g q r A c l _ hg HR.out HA.out).mono ?_); rintro e w' ⟨⟨i, rfl, hi⟩, hb⟩)
  go_ret
  exact ⟨by rw [← hi]; rfl, hb⟩

/-- what is left -/
def field_Without.go : List S24 → List ByteArray → List S24 → Option (List S24)
  | [], _, acc => some acc
  | x :: xs, ns, acc => (field_Without.any ns x.f0).bind fun b => if b = true then field_Without.go xs ns acc else if acc.length < 4398046511104 then field_Without.go xs ns (acc ++ [x]) else none
def field_Without.f (l0 : List S24) (l1 : List ByteArray) : Option (List S24) := field_Without.go l0 l1 []
set_option maxHeartbeats 2000000 in
set_option maxRecDepth 100000 in
theorem field_Without.calls (A0 : Option Addr) (c0 : Nat) (l0 : List S24) (A1 : Option Addr) (c1 : Nat) (l1 : List ByteArray) (r : List S24) (w : World) (hr0 : Kd.C k24 w A0 l0.length l0) (hc0 : l0.length ≤ c0) (hr1 : Kd.C Kd.string w A1 l1.length l1) (hc1 : l1.length ≤ c1) (h : field_Without.f l0 l1 = some r) :
    Calls Tryd.prog 29 #[.slice A0 l0.length c0, .slice A1 l1.length c1] w fun e w' => ∃ v0_ : Value, e = .returned (v0_) ∧ Kd.R k24 24 w' w.heap.size (fun _ => True) v0_ r ∧ Below w.heap.size w w' := by
  have hu := Tryd.underlying24
  have HA := Aside0.mk h
  have HR0 := Aside0.mk hr0
  have HR1 := Aside0.mk hr1
  have hm : l0.length ≤ 9223372036854775807 := hr0.2.1
  clear h hr0 hr1 hc0 hc1
  go_enter Tryd.func29, Tryd.ntmps29
  go_wp2
  go_loopw [5, 10] (fun v5 v10 wr => ∃ (k : Nat) (acc : List S24), k ≤ l0.length ∧ v10 = .int .i64 k ∧ Aside0 (field_Without.go (l0.drop k) l1 acc = some r) ∧ Aside0 (Kd.R k24 24 wr w.heap.size (fun _ => True) v5 acc) ∧ Aside0 (Below w.heap.size w wr)) (fun _ v10 _ => l0.length - (intOf v10).toNat)
  case atStart => exact ⟨0, [], Nat.zero_le _, rfl, HA, ⟨Kd.R_nil _ _ _ _ _⟩, ⟨Below.refl _ _⟩⟩
  case round =>
    obtain ⟨k, acc, hk, rfl, HK, HO, HB⟩ := hrel
    clear HA
    by_cases hlt : k < l0.length
    · have H := HK.out
      rw [List.drop_eq_getElem_cons hlt] at H
      simp only [field_Without.go] at H
      obtain ⟨b, hb, H⟩ := Option.bind_eq_some_iff.1 H
      have HS := Aside0.mk hb
      clear hb HK
      obtain ⟨ad, ead, hx0, hx1⟩ := at_T24 HR0.out (k : Int) (by omega) (by omega)
      cases ead
      replace hx0 := (HB.out.cell (World.block_lt_of_cell? w _ hx0)).trans hx0
      replace hx1 := (HB.out.cell (World.block_lt_of_cell? w _ hx1)).trans hx1
      have hrd : rd_T24 l0 (k : Int) = l0[k] := by
        unfold rd_T24
        rw [Int.toNat_natCast, List.getD_eq_getElem?_getD, List.getElem?_eq_getElem hlt]; rfl
      rw [hrd] at hx0 hx1
      rw [Int.toNat_natCast] at hx0 hx1
      generalize l0[k] = x at *
      clear hrd
      have HBA := Aside0.mk (below_alloc (Below.refl wr.heap.size wr) (.cells #[.string x.f0, .string x.f1] 24))
      have HG0 : Aside0 ((wr.alloc (.cells #[.string x.f0, .string x.f1] 24)).cell? ⟨wr.heap.size, 0, none⟩ = some (.string x.f0)) := ⟨(blk_cell (heap_alloc_new wr _) 0).trans rfl⟩
      have HG1 : Aside0 ((wr.alloc (.cells #[.string x.f0, .string x.f1] 24)).cell? ⟨wr.heap.size, 1, none⟩ = some (.string x.f1)) := ⟨(blk_cell (heap_alloc_new wr _) 1).trans rfl⟩
      have HRA := Aside0.mk (Kd.C_below (Kd.C_below HR1.out HB.out) HBA.out)
      have HOA := Aside0.mk (Kd.R_below HO.out HBA.out)
      have HLT : Aside0 (wr.heap.size < (wr.alloc (.cells #[.string x.f0, .string x.f1] 24)).heap.size) := ⟨by simp⟩
      cases b with
      | true =>
        have HN : Aside0 (field_Without.go (l0.drop (k + 1)) l1 acc = some r) := ⟨by simpa using H⟩
        clear H
        go_wp2_with (go_at_call 52; (with_reducible refine (field_Without.cont wr.heap.size x.f0 true A1 c1 l1 _ HG0.out HRA.out HS.out).mono ?_); rintro e w2 ⟨rfl, hb⟩)
        go_roundw
        case rel => exact ⟨k + 1, acc, by omega, by go_num, HN, ⟨Kd.R_below HOA.out hb⟩, ⟨below_step (below_step HB.out HBA.out) hb⟩⟩
        case measure => simp [intOf]; omega
      | false =>
        simp only [Bool.false_eq_true, if_false] at H
        by_cases hacc : acc.length < 4398046511104
        · rw [if_pos hacc] at H
          have HN := Aside0.mk H
          have HL := Aside0.mk hacc
          clear H hacc
          go_wp2_with (first | (go_at_call 52; (with_reducible refine (field_Without.cont wr.heap.size x.f0 false A1 c1 l1 _ HG0.out HRA.out HS.out).mono ?_); rintro e w2 ⟨rfl, hb⟩; have hc0 := (hb.cell (p := ⟨wr.heap.size, 0, none⟩) HLT.out).trans HG0.out; have hc1 := (hb.cell (p := ⟨wr.heap.size, 1, none⟩) HLT.out).trans HG1.out; have HO2 := Aside0.mk (Kd.R_below HOA.out hb); have HB2 := Aside0.mk (below_step (below_step HB.out HBA.out) hb); clear hb) | (at_builtin; refine Kd.R_append k24 (w0 := w) w.heap.size rfl (.tmp 18) (.tmp 20) 31 24 (.agg #[(.string ⟨#[]⟩), (.string ⟨#[]⟩)]) 32 rfl Tryd.underlying31 info24 rfl (by decide) (by omega) u5 acc x [.string x.f0, .string x.f1] (fun _ => True) (fun _ => False) rfl rfl ?aP (fun _ hk => hk.elim) ?aF ?aO ?aB ?aS ?aL ?_; (case aP => exact k24_mkM _ _ _ x); (case aB => exact HB2.out); (case aF => exact (fun _ _ => trivial)); (case aO => exact HO2.out); (case aS => exact HB2.out.size); (case aL => have := HL.out; omega); intro v3 w3 ho hb3 hg hat; have HO3 := Aside0.mk ho; have HB3 := Aside0.mk hb3; clear ho hb3 hg hat))
          go_roundw
          case rel => exact ⟨k + 1, acc ++ [x], by omega, by go_num, HN, HO3, HB3⟩
          case measure => simp [intOf]; omega
        · rw [if_neg hacc] at H
          cases H
    · have hkl : k = l0.length := by omega
      have H := HK.out
      rw [List.drop_of_length_le (by omega)] at H
      simp only [field_Without.go, Option.some.injEq] at H
      subst H
      clear HK hkl
      go_wp2
      go_ret
      exact ⟨_, rfl, HO.out, HB.out⟩


/-! ### field_Same_1: function 59 -/
def field_Same_1.f (a0_0 : ByteArray) (a0_1 : ByteArray) (a1_0 : ByteArray) (a1_1 : ByteArray) : Option (Bool) := some (a0_0.toList == a1_0.toList && (a0_1.toList == a1_1.toList))
set_option maxHeartbeats 8000000 in
set_option maxRecDepth 100000 in
theorem field_Same_1.calls (a0_0 : ByteArray) (a0_1 : ByteArray) (a1_0 : ByteArray) (a1_1 : ByteArray) (r : Bool) (w : World) (h : field_Same_1.f a0_0 a0_1 a1_0 a1_1 = some r) :
    Calls Tryd.prog 59 #[.agg #[.string a0_0, .string a0_1], .agg #[.string a1_0, .string a1_1]] w fun e w' => e = .returned (.bool r) ∧ Below w.heap.size w w' := by
  have hu24 := Tryd.underlying24
  have HB := Aside0.mk (Below.refl w.heap.size w)
  have H : (some (a0_0.toList == a1_0.toList && (a0_1.toList == a1_1.toList))) = some r := h
  clear h
  obtain rfl := Option.some.inj H
  go_enter Tryd.func59, Tryd.ntmps59
  go_wp2_with (first | ((with_reducible refine gate_dst (N := 2) rfl ?_); refine box_event ?hg (N := 2) ?hd (cs := #[.string a0_0, .string a0_1]) (t := 24) ?hr ?_; (case hd => rfl); (case hg => rfl); (case hr => first | (go_simp; done) | (go_simp; rfl)); intro gb211 hg w3 hbox hb; have n0_ := Aside0.mk (below_step (by repeat (first | (with_reducible first | exact HB.out | apply below_alloc | apply pw_below_drewN | apply below_drew1) | exact HB.out)) hb); have n1_ := Aside0.mk (hbox); have n2_ := Aside0.mk ((by rw [hg]; exact (below_size (by repeat (first | (with_reducible first | exact HB.out | apply below_alloc | apply pw_below_drewN | apply below_drew1) | exact HB.out))) : w.heap.size ≤ gb211)); have n3_ := Aside0.mk ((by rw [hg]; exact (below_size (by repeat (first | (with_reducible first | exact HB.out | apply below_alloc | apply pw_below_drewN | apply below_drew1) | exact HB.out))) : w.heap.size ≤ gb211)); clear HB; have HB := n0_; have BK211 := n1_; have GW211 := n2_; have GE211 := n3_; clear n0_ n1_ n2_ n3_; clear hb hbox hg) | ((with_reducible refine gate_dst (N := 3) rfl ?_); refine box_event ?hg (N := 3) ?hd (cs := #[.string a1_0, .string a1_1]) (t := 24) ?hr ?_; (case hd => rfl); (case hg => rfl); (case hr => first | (go_simp; done) | (go_simp; rfl)); intro gb212 hg w4 hbox hb; have n0_ := Aside0.mk (blk_below (g := gb211) (o := .cells #[.string a0_0, .string a0_1] 24 (0, 0)) (by (with_reducible repeat (first | refine blk_drewN ?_ _ | refine blk_drew ?_ | refine blk_alloc ?_ _)); exact BK211.out) hb); have n1_ := Aside0.mk (below_step (by repeat (first | (with_reducible first | exact HB.out | apply below_alloc | apply pw_below_drewN | apply below_drew1 | refine below_set ?_ GE211.out) | exact HB.out)) hb); have n2_ := Aside0.mk (hbox); have n3_ := Aside0.mk ((by rw [hg]; exact (below_size (by repeat (first | (with_reducible first | exact HB.out | apply below_alloc | apply pw_below_drewN | apply below_drew1 | refine below_set ?_ GE211.out) | exact HB.out))) : w.heap.size ≤ gb212)); have n4_ := Aside0.mk ((by rw [hg]; exact (below_size (by repeat (first | (with_reducible first | exact HB.out | apply below_alloc | apply pw_below_drewN | apply below_drew1 | refine below_set ?_ GE211.out) | exact HB.out))) : w.heap.size ≤ gb212)); have n5_ := Aside0.mk ((by rw [hg]; exact Nat.ne_of_lt (blk_lt (g := gb211) (o := .cells #[.string a0_0, .string a0_1] 24 (0, 0)) (by (with_reducible repeat (first | refine blk_drewN ?_ _ | refine blk_drew ?_ | refine blk_alloc ?_ _)); exact BK211.out)) : gb211 ≠ gb212)); have n6_ := Aside0.mk ((by rw [hg]; exact Nat.ne_of_gt (blk_lt (g := gb211) (o := .cells #[.string a0_0, .string a0_1] 24 (0, 0)) (by (with_reducible repeat (first | refine blk_drewN ?_ _ | refine blk_drew ?_ | refine blk_alloc ?_ _)); exact BK211.out)) : gb212 ≠ gb211)); clear BK211; clear HB; have BK211 := n0_; have HB := n1_; have BK212 := n2_; have GW212 := n3_; have GE212 := n4_; have NB211_212 := n5_; have NB212_211 := n6_; clear n0_ n1_ n2_ n3_ n4_ n5_ n6_; clear hb hbox hg; have hnb5 := NB211_212.out; have hnc5 := NB212_211.out; have hcz6_0 : w4.cell? ⟨gb211, 0, none⟩ = some (.string a0_0) := (blk_cell BK211.out 0).trans rfl; have hcz6_1 : w4.cell? ⟨gb211, 1, none⟩ = some (.string a0_1) := (blk_cell BK211.out 1).trans rfl; have hfz6_0 := blk_frozen BK211.out 0; have hfz6_1 := blk_frozen BK211.out 1; have hcz7_0 : w4.cell? ⟨gb212, 0, none⟩ = some (.string a1_0) := (blk_cell BK212.out 0).trans rfl; have hcz7_1 : w4.cell? ⟨gb212, 1, none⟩ = some (.string a1_1) := (blk_cell BK212.out 1).trans rfl; have hfz7_0 := blk_frozen BK212.out 0; have hfz7_1 := blk_frozen BK212.out 1))
  go_ret
  exact ⟨by first | rfl | (simp [errW_none, errW_some] <;> rfl) | (simp [*, errW_none, errW_some] <;> rfl), by repeat (first | (with_reducible first | exact HB.out | apply below_alloc | apply pw_below_drewN | apply below_drew1 | refine below_set ?_ GE211.out | refine below_set ?_ GE212.out) | exact HB.out)⟩

end Go.Proofs.YtijindelbagpiaaDoor.PAll
