/- PoolRows: its walk. -/
import Derived.Test.YtffockklleanmaaXCare
import Derived.Test.YtffockklleanmaaXBits
namespace Go.Proofs.Ytffockklleanmaa.X
open Go.RowKit Go.MapKept Go.ChangeMaps Go.Proofs.YtffockklleanmaaW.PrintWords Go.Proofs.YtffockklleanmaaW.PrintLast Go.Proofs.YtffockklleanmaaW.PrintMore
attribute [local go_sem] max2_int min2_int max_two min_two max_three min_three max_four min_four
set_option linter.unusedVariables false



abbrev confV (f c : Int) : Value := .agg #[.slice none 0 0, .slice none 0 0, .slice none 0 0, .slice none 0 0, .int .i64 0, .int .i64 0, .int .i64 f, .int .i64 c]
/-- what holds all along -/
structure RInv (w W : World) (lo hi cb p : Nat) (f c : Int) (s : HSt) : Prop where
  le : w.heap.size ≤ cb
  lt : cb < lo
  at_ : HAt W (fun k => lo ≤ k ∧ k < hi) p s
  conf : W.heap[cb]? = some (.cells #[.slice none 0 0, .slice none 0 0, .slice none 0 0, .slice none 0 0, .int .i64 0, .int .i64 0, .int .i64 f, .int .i64 c] 39 (0, 0))
  below : Below w.heap.size w W
section
variable {w W W' : World} {lo hi cb p : Nat} {f c : Int} {s s' : HSt}
theorem RInv.next (h : RInv w W lo hi cb p f c s) (ha : HAt W' (fun k => lo ≤ k ∧ k < hi) p s') (hc : Chg (fun k => lo ≤ k ∧ k < hi) W W') : RInv w W' lo hi cb p f c s' :=
  ⟨h.le, h.lt, ha, hc.blk h.conf (by have := h.lt; omega), h.below.trans (hc.below (fun k hk => by have := h.le; have := h.lt; omega) h.below.size)⟩
theorem RInv.bad {a : ByteArray} {b : Bool} {now : Int} (h : RInv w W lo hi cb p f c s) (hp : badM s a now f c = (s', b)) :
    Calls Try.prog 14 #[.pointer (some ⟨p, 0, none⟩), .string a, .int .i64 now, confV f c] W fun ed W' => ed = .returned (.bool b) ∧ RInv w W' lo hi cb p f c s' := by
  refine (bad_calls _ p s a now f c _ _ _ _ 0 0 W h.at_).mono ?_
  rintro ed W' ⟨h1, h2, h3⟩
  rw [hp] at h1 h2
  exact ⟨h1, h.next h2 h3⟩
theorem RInv.good {a : ByteArray} (h : RInv w W lo hi cb p f c s) (hp : goodM s a = s') :
    Calls Try.prog 15 #[.pointer (some ⟨p, 0, none⟩), .string a] W fun ed W' => ed = .returned (.tuple #[]) ∧ RInv w W' lo hi cb p f c s' := by
  refine (good_calls _ p s a W h.at_).mono ?_
  rintro ed W' ⟨h1, h2, h3⟩
  rw [hp] at h2
  exact ⟨h1, h.next h2 h3⟩
theorem RInv.sick {a : ByteArray} {b : Bool} {now : Int} (h : RInv w W lo hi cb p f c s) (hp : sickM s a now = b) :
    Calls Try.prog 17 #[.pointer (some ⟨p, 0, none⟩), .string a, .int .i64 now] W fun ed W' => ed = .returned (.bool b) ∧ W' = W := by
  rw [← hp]
  exact sick_calls _ p s a now W h.at_
theorem RInv.cells (h : RInv w W lo hi cb p f c s) : W.cell? ⟨cb, 0, none⟩ = some (.slice none 0 0) ∧ W.cell? ⟨cb, 1, none⟩ = some (.slice none 0 0) ∧ W.cell? ⟨cb, 2, none⟩ = some (.slice none 0 0) ∧ W.cell? ⟨cb, 3, none⟩ = some (.slice none 0 0) ∧ W.cell? ⟨cb, 4, none⟩ = some (.int .i64 0) ∧ W.cell? ⟨cb, 5, none⟩ = some (.int .i64 0) ∧ W.cell? ⟨cb, 6, none⟩ = some (.int .i64 f) ∧ W.cell? ⟨cb, 7, none⟩ = some (.int .i64 c) :=
  ⟨(blk_cell h.conf 0).trans rfl, (blk_cell h.conf 1).trans rfl, (blk_cell h.conf 2).trans rfl, (blk_cell h.conf 3).trans rfl, (blk_cell h.conf 4).trans rfl, (blk_cell h.conf 5).trans rfl, (blk_cell h.conf 6).trans rfl, (blk_cell h.conf 7).trans rfl⟩
end
def fs (i : Nat) : HSt := ⟨[], if i = 0 then [] else [(sA, (i : Int))], []⟩
def us (u : Int) : HSt := ⟨[], [], [(sA, u)]⟩
theorem fs_bad (i : Nat) (now f c : Int) (h : (i : Int) + 1 < f) (hi : i < 100) : badM (fs i) sA now f c = (fs (i + 1), false) := by
  unfold badM
  have e : wrap64 ((aget (fs i).f sA).getD 0 + 1) = ((i + 1 : Nat) : Int) := by
    unfold fs
    by_cases h0 : i = 0
    · subst h0; kernel_rfl
    · rw [if_neg h0]
      simp only [aget, if_true, Option.getD_some]
      rw [wrap64_in (by omega) (by omega)]; rfl
  rw [e, if_pos (by omega)]
  have e2 : aput (fs i).f sA ((i + 1 : Nat) : Int) = (fs (i + 1)).f := by
    unfold fs
    by_cases h0 : i = 0
    · subst h0; simp [aput]
    · rw [if_neg h0, if_neg (by omega)]; simp [aput]
  rw [e2]; rfl
theorem fs_last (i : Nat) (now f c : Int) (h : f ≤ (i : Int) + 1) (hi : i < 100) : badM (fs i) sA now f c = (us (wrap64 (now + c)), true) := by
  unfold badM
  have e : wrap64 ((aget (fs i).f sA).getD 0 + 1) = ((i + 1 : Nat) : Int) := by
    unfold fs
    by_cases h0 : i = 0
    · subst h0; kernel_rfl
    · rw [if_neg h0]
      simp only [aget, if_true, Option.getD_some]
      rw [wrap64_in (by omega) (by omega)]; rfl
  rw [e, if_neg (by omega)]
  have e2 : adel (aput (fs i).f sA ((i + 1 : Nat) : Int)) sA = [] := by
    unfold fs
    by_cases h0 : i = 0
    · subst h0; simp [aput, adel]
    · rw [if_neg h0]; simp [aput, adel]
  rw [e2]; rfl
theorem fs_good (i : Nat) : goodM (fs i) sA = fs 0 := by
  unfold goodM fs
  by_cases h0 : i = 0
  · subst h0; rfl
  · rw [if_neg h0]; simp [adel]
theorem fs_sick (i : Nat) (now : Int) (h : 0 ≤ now) : sickM (fs i) sA now = false := by
  unfold sickM fs; simp only [aget, Option.getD_none]; exact decide_eq_false (by omega)
theorem us_sick (u now : Int) : sickM (us u) sA now = decide (now < u) := by
  unfold sickM us; simp [aget]
theorem us_sickB (u now : Int) (h : 0 ≤ now) : sickM (us u) sB now = false := by
  unfold sickM us
  have : ¬ sA = sB := by decide
  simp only [aget, if_neg this, Option.getD_none]; exact decide_eq_false (by omega)
theorem us_bad1 (u now f c : Int) : (badM (us u) sA now f c).2 = decide (f ≤ 1) := by
  unfold badM
  have e : wrap64 ((aget (us u).f sA).getD 0 + 1) = 1 := by kernel_rfl
  rw [e]
  by_cases h : 1 < f
  · rw [if_pos h, decide_eq_false (by omega)]
  · rw [if_neg h, decide_eq_true (by omega)]

set_option maxHeartbeats 4000000 in
set_option maxRecDepth 100000 in
theorem poolRows_calls (a0 a1 a2 a3 : Int) (w : World) : Calls Try.prog 5 #[.int .i64 a0, .int .i64 a1, .int .i64 a2, .int .i64 a3] w fun e w' => e = .returned (.bool true) ∧ Below w.heap.size w w' := by
  have hf1 : 1 ≤ 1 + a0 % 16 ∧ 1 + a0 % 16 ≤ 16 := by omega
  have hc1 : 0 ≤ a2 % 1024 ∧ a2 % 1024 ≤ 1023 := by omega
  have hk1 : 0 ≤ a1 % 4 ∧ a1 % 4 ≤ 3 := by omega
  have hx1 := and15 a0
  have hx2 := and1023 a2
  have hx3 := and3 a1
  rcases (by omega : a3 < 0 ∨ (0 ≤ a3 ∧ a3 ≤ 1099511627776) ∨ (1099511627776 < a3)) with hn | ⟨hn, hn2⟩ | hn
  · go_enter Try.func5, Try.ntmps5
    go_wp2_with (first | (go_at_call 10; (with_reducible refine (caring_calls _).mono ?_); rintro e w0 ⟨rfl, hb⟩; have HB := Aside0.mk hb; clear hb) | (go_at_call 9; (with_reducible refine (newHealth_calls _).mono ?_); rintro e w1 ⟨p, rfl, hh, hb⟩; have HH := Aside0.mk hh; have HW := Aside0.mk hb; clear hh hb))
    have hI0 : RInv w w1 (w0.alloc (.cells #[.slice none 0 0, .slice none 0 0, .slice none 0 0, .slice none 0 0, .int .i64 0, .int .i64 0, .int .i64 (1 + a0 % 16), .int .i64 (a2 % 1024)] 39)).heap.size w1.heap.size w0.heap.size p (1 + a0 % 16) (a2 % 1024) (fs 0) :=
      ⟨HB.out.size, by simp, HH.out, (HW.out.block _ (by simp)).trans (heap_alloc_new w0 _), below_step (below_alloc HB.out _) HW.out⟩
    have HI := Aside0.mk hI0
    generalize (w0.alloc (.cells #[.slice none 0 0, .slice none 0 0, .slice none 0 0, .slice none 0 0, .int .i64 0, .int .i64 0, .int .i64 (1 + a0 % 16), .int .i64 (a2 % 1024)] 39)).heap.size = lo at *
    generalize w0.heap.size = cb at *
    generalize w1.heap.size = hi at *
    clear HH HW hI0 HB
    go_loopw [11] (fun v11 wr => ∃ k : Nat, (k : Int) ≤ a1 % 4 ∧ v11 = .int .i64 k ∧ Aside0 (RInv w wr lo hi cb p (1 + a0 % 16) (a2 % 1024) (fs 0))) (fun v11 _ => 4 - (intOf v11).toNat)
    case atStart => exact ⟨0, by omega, rfl, HI⟩
    case round =>
      obtain ⟨k, hk, rfl, HK⟩ := hrel
      by_cases hlt : (k : Int) < a1 % 4
      · go_wp2
        go_loopw [12] (fun v12 wi => ∃ i : Nat, (i : Int) ≤ a0 % 16 ∧ v12 = .int .i64 i ∧ Aside0 (RInv w wi lo hi cb p (1 + a0 % 16) (a2 % 1024) (fs i))) (fun v12 _ => 16 - (intOf v12).toNat)
        case atStart => exact ⟨0, by omega, rfl, HK⟩
        case round =>
          obtain ⟨i, hi1, rfl, HK1⟩ := hrel
          by_cases hlt1 : (i : Int) < a0 % 16
          · obtain ⟨d0, d1, d2, d3, d4, d5, d6, d7⟩ := HK1.out.cells
            go_wp2_with (go_at_call 14; (with_reducible refine (HK1.out.bad (fs_bad i _ _ _ ?_ ?_)).mono ?_); omega; omega; rintro e w2 ⟨rfl, h2⟩; have H2 := Aside0.mk h2)
            go_roundw
            case rel => exact ⟨i + 1, by omega, by go_num, H2⟩
            case measure => simp [intOf]; omega
          · go_wp2_with (go_at_call 15; (with_reducible refine (HK1.out.good (fs_good i)).mono ?_); rintro e w2 ⟨rfl, h2⟩; have H2 := Aside0.mk h2)
            go_roundw
            case rel => exact ⟨k + 1, by omega, by go_num, H2⟩
            case measure => simp [intOf]; omega
      · go_wp2
        go_loopw [13] (fun v13 wi => ∃ i : Nat, (i : Int) ≤ a0 % 16 + 1 ∧ v13 = .int .i64 ((i + 1 : Nat) : Int) ∧ Aside0 (RInv w wi lo hi cb p (1 + a0 % 16) (a2 % 1024) (if (i : Int) ≤ a0 % 16 then fs i else us (a2 % 1024)))) (fun v13 _ => 18 - (intOf v13).toNat)
        case atStart => exact ⟨0, by omega, rfl, by rw [if_pos (by omega)]; exact HK⟩
        case round =>
          obtain ⟨i, hi1, rfl, HK1⟩ := hrel
          by_cases hlt1 : (i : Int) < a0 % 16
          · rw [if_pos (by omega)] at HK1
            obtain ⟨d0, d1, d2, d3, d4, d5, d6, d7⟩ := HK1.out.cells
            have hbe : ((i : Int) + 1 == 1 + a0 % 16) = false := by simp; omega
            go_wp2_with (first | (go_at_call 17; (with_reducible refine (HK1.out.sick (fs_sick i _ ?_)).mono ?_); omega; rintro e w2 ⟨rfl, rfl⟩) | (go_at_call 14; (with_reducible refine (HK1.out.bad (fs_bad i _ _ _ ?_ ?_)).mono ?_); omega; omega; rintro e w2 ⟨rfl, h2⟩; have H2 := Aside0.mk h2))
            refine ⟨⟨i + 1, by omega, by go_num, by rw [if_pos (by omega)]; exact H2⟩, by simp [intOf]; omega⟩
          · by_cases hlt2 : (i : Int) ≤ a0 % 16
            · rw [if_pos (by omega)] at HK1
              obtain ⟨d0, d1, d2, d3, d4, d5, d6, d7⟩ := HK1.out.cells
              have hbe : ((i : Int) + 1 == 1 + a0 % 16) = true := by simp; omega
              go_wp2_with (first | (go_at_call 17; (with_reducible refine (HK1.out.sick (fs_sick i _ ?_)).mono ?_); omega; rintro e w2 ⟨rfl, rfl⟩) | (go_at_call 14; (with_reducible refine (HK1.out.bad (fs_last i _ _ _ ?_ ?_)).mono ?_); omega; omega; rintro e w2 ⟨rfl, h2⟩; have H2 := Aside0.mk h2))
              refine ⟨⟨i + 1, by omega, by go_num, ?_⟩, by simp [intOf]; omega⟩
              rw [if_neg (by omega)]
              have h3 := H2.out
              rw [show wrap64 (0 + a2 % 1024) = a2 % 1024 from (wrap64_in (by omega) (by omega)).trans (by omega)] at h3
              exact ⟨h3⟩
            · rw [if_neg (by omega)] at HK1
              obtain ⟨d0, d1, d2, d3, d4, d5, d6, d7⟩ := HK1.out.cells
              have hb3 : (badM (us (a2 % 1024)) sA (a2 % 1024) (1 + a0 % 16) (a2 % 1024)).2 = (1 + a0 % 16 == 1) := by rw [us_bad1, Bool.eq_iff_iff, decide_eq_true_iff, beq_iff_eq]; omega
              have hb4 : badM (us (a2 % 1024)) sA (a2 % 1024) (1 + a0 % 16) (a2 % 1024) = ((badM (us (a2 % 1024)) sA (a2 % 1024) (1 + a0 % 16) (a2 % 1024)).1, (1 + a0 % 16 == 1)) := by rw [← hb3]
              have hs2 : sickM (us (a2 % 1024)) sA (a2 % 1024) = false := by rw [us_sick]; simp
              have HB4 := Aside0.mk hb4
              clear hb3 hb4
              by_cases hc0 : 0 < a2 % 1024
              · have hs1 : sickM (us (a2 % 1024)) sA 0 = true := by rw [us_sick]; exact decide_eq_true (by omega)
                have HS := Aside0.mk (And.intro hs1 hs2)
                clear hs1 hs2
                go_wp2_with (first | (go_at_call 17; (with_reducible refine (HK1.out.sick HS.out.1).mono ?_); rintro e w2 ⟨rfl, rfl⟩) | (go_at_call 17; (with_reducible refine (HK1.out.sick HS.out.2).mono ?_); rintro e w2 ⟨rfl, rfl⟩) | (go_at_call 17; (with_reducible refine (HK1.out.sick (us_sickB _ _ ?_)).mono ?_); omega; rintro e w2 ⟨rfl, rfl⟩) | (go_at_call 14; (with_reducible refine (HK1.out.bad HB4.out).mono ?_); rintro e w2 ⟨rfl, h2⟩; have H2 := Aside0.mk h2))
                go_ret
                exact ⟨rfl, H2.out.below⟩
              · have hs1 : sickM (us (a2 % 1024)) sA 0 = false := by rw [us_sick]; exact decide_eq_false (by omega)
                have HS := Aside0.mk (And.intro hs1 hs2)
                clear hs1 hs2
                go_wp2_with (first | (go_at_call 17; (with_reducible refine (HK1.out.sick HS.out.1).mono ?_); rintro e w2 ⟨rfl, rfl⟩) | (go_at_call 17; (with_reducible refine (HK1.out.sick HS.out.2).mono ?_); rintro e w2 ⟨rfl, rfl⟩) | (go_at_call 17; (with_reducible refine (HK1.out.sick (us_sickB _ _ ?_)).mono ?_); omega; rintro e w2 ⟨rfl, rfl⟩) | (go_at_call 14; (with_reducible refine (HK1.out.bad HB4.out).mono ?_); rintro e w2 ⟨rfl, h2⟩; have H2 := Aside0.mk h2))
                go_ret
                exact ⟨rfl, H2.out.below⟩
  · go_enter Try.func5, Try.ntmps5
    go_wp2_with (first | (go_at_call 10; (with_reducible refine (caring_calls _).mono ?_); rintro e w0 ⟨rfl, hb⟩; have HB := Aside0.mk hb; clear hb) | (go_at_call 9; (with_reducible refine (newHealth_calls _).mono ?_); rintro e w1 ⟨p, rfl, hh, hb⟩; have HH := Aside0.mk hh; have HW := Aside0.mk hb; clear hh hb))
    have hI0 : RInv w w1 (w0.alloc (.cells #[.slice none 0 0, .slice none 0 0, .slice none 0 0, .slice none 0 0, .int .i64 0, .int .i64 0, .int .i64 (1 + a0 % 16), .int .i64 (a2 % 1024)] 39)).heap.size w1.heap.size w0.heap.size p (1 + a0 % 16) (a2 % 1024) (fs 0) :=
      ⟨HB.out.size, by simp, HH.out, (HW.out.block _ (by simp)).trans (heap_alloc_new w0 _), below_step (below_alloc HB.out _) HW.out⟩
    have HI := Aside0.mk hI0
    generalize (w0.alloc (.cells #[.slice none 0 0, .slice none 0 0, .slice none 0 0, .slice none 0 0, .int .i64 0, .int .i64 0, .int .i64 (1 + a0 % 16), .int .i64 (a2 % 1024)] 39)).heap.size = lo at *
    generalize w0.heap.size = cb at *
    generalize w1.heap.size = hi at *
    clear HH HW hI0 HB
    go_loopw [11] (fun v11 wr => ∃ k : Nat, (k : Int) ≤ a1 % 4 ∧ v11 = .int .i64 k ∧ Aside0 (RInv w wr lo hi cb p (1 + a0 % 16) (a2 % 1024) (fs 0))) (fun v11 _ => 4 - (intOf v11).toNat)
    case atStart => exact ⟨0, by omega, rfl, HI⟩
    case round =>
      obtain ⟨k, hk, rfl, HK⟩ := hrel
      by_cases hlt : (k : Int) < a1 % 4
      · go_wp2
        go_loopw [12] (fun v12 wi => ∃ i : Nat, (i : Int) ≤ a0 % 16 ∧ v12 = .int .i64 i ∧ Aside0 (RInv w wi lo hi cb p (1 + a0 % 16) (a2 % 1024) (fs i))) (fun v12 _ => 16 - (intOf v12).toNat)
        case atStart => exact ⟨0, by omega, rfl, HK⟩
        case round =>
          obtain ⟨i, hi1, rfl, HK1⟩ := hrel
          by_cases hlt1 : (i : Int) < a0 % 16
          · obtain ⟨d0, d1, d2, d3, d4, d5, d6, d7⟩ := HK1.out.cells
            go_wp2_with (go_at_call 14; (with_reducible refine (HK1.out.bad (fs_bad i _ _ _ ?_ ?_)).mono ?_); omega; omega; rintro e w2 ⟨rfl, h2⟩; have H2 := Aside0.mk h2)
            go_roundw
            case rel => exact ⟨i + 1, by omega, by go_num, H2⟩
            case measure => simp [intOf]; omega
          · go_wp2_with (go_at_call 15; (with_reducible refine (HK1.out.good (fs_good i)).mono ?_); rintro e w2 ⟨rfl, h2⟩; have H2 := Aside0.mk h2)
            go_roundw
            case rel => exact ⟨k + 1, by omega, by go_num, H2⟩
            case measure => simp [intOf]; omega
      · go_wp2
        go_loopw [13] (fun v13 wi => ∃ i : Nat, (i : Int) ≤ a0 % 16 + 1 ∧ v13 = .int .i64 ((i + 1 : Nat) : Int) ∧ Aside0 (RInv w wi lo hi cb p (1 + a0 % 16) (a2 % 1024) (if (i : Int) ≤ a0 % 16 then fs i else us (a3 + a2 % 1024)))) (fun v13 _ => 18 - (intOf v13).toNat)
        case atStart => exact ⟨0, by omega, rfl, by rw [if_pos (by omega)]; exact HK⟩
        case round =>
          obtain ⟨i, hi1, rfl, HK1⟩ := hrel
          by_cases hlt1 : (i : Int) < a0 % 16
          · rw [if_pos (by omega)] at HK1
            obtain ⟨d0, d1, d2, d3, d4, d5, d6, d7⟩ := HK1.out.cells
            have hbe : ((i : Int) + 1 == 1 + a0 % 16) = false := by simp; omega
            go_wp2_with (first | (go_at_call 17; (with_reducible refine (HK1.out.sick (fs_sick i _ ?_)).mono ?_); omega; rintro e w2 ⟨rfl, rfl⟩) | (go_at_call 14; (with_reducible refine (HK1.out.bad (fs_bad i _ _ _ ?_ ?_)).mono ?_); omega; omega; rintro e w2 ⟨rfl, h2⟩; have H2 := Aside0.mk h2))
            refine ⟨⟨i + 1, by omega, by go_num, by rw [if_pos (by omega)]; exact H2⟩, by simp [intOf]; omega⟩
          · by_cases hlt2 : (i : Int) ≤ a0 % 16
            · rw [if_pos (by omega)] at HK1
              obtain ⟨d0, d1, d2, d3, d4, d5, d6, d7⟩ := HK1.out.cells
              have hbe : ((i : Int) + 1 == 1 + a0 % 16) = true := by simp; omega
              go_wp2_with (first | (go_at_call 17; (with_reducible refine (HK1.out.sick (fs_sick i _ ?_)).mono ?_); omega; rintro e w2 ⟨rfl, rfl⟩) | (go_at_call 14; (with_reducible refine (HK1.out.bad (fs_last i _ _ _ ?_ ?_)).mono ?_); omega; omega; rintro e w2 ⟨rfl, h2⟩; have H2 := Aside0.mk h2))
              refine ⟨⟨i + 1, by omega, by go_num, ?_⟩, by simp [intOf]; omega⟩
              rw [if_neg (by omega)]
              have h3 := H2.out
              rw [show wrap64 (a3 + a2 % 1024) = a3 + a2 % 1024 from (wrap64_in (by omega) (by omega)).trans (by omega)] at h3
              exact ⟨h3⟩
            · rw [if_neg (by omega)] at HK1
              obtain ⟨d0, d1, d2, d3, d4, d5, d6, d7⟩ := HK1.out.cells
              have hb3 : (badM (us (a3 + a2 % 1024)) sA (a3 + a2 % 1024) (1 + a0 % 16) (a2 % 1024)).2 = (1 + a0 % 16 == 1) := by rw [us_bad1, Bool.eq_iff_iff, decide_eq_true_iff, beq_iff_eq]; omega
              have hb4 : badM (us (a3 + a2 % 1024)) sA (a3 + a2 % 1024) (1 + a0 % 16) (a2 % 1024) = ((badM (us (a3 + a2 % 1024)) sA (a3 + a2 % 1024) (1 + a0 % 16) (a2 % 1024)).1, (1 + a0 % 16 == 1)) := by rw [← hb3]
              have hs2 : sickM (us (a3 + a2 % 1024)) sA (a3 + a2 % 1024) = false := by rw [us_sick]; simp
              have HB4 := Aside0.mk hb4
              clear hb3 hb4
              by_cases hc0 : 0 < a2 % 1024
              · have hs1 : sickM (us (a3 + a2 % 1024)) sA a3 = true := by rw [us_sick]; exact decide_eq_true (by omega)
                have HS := Aside0.mk (And.intro hs1 hs2)
                clear hs1 hs2
                go_wp2_with (first | (go_at_call 17; (with_reducible refine (HK1.out.sick HS.out.1).mono ?_); rintro e w2 ⟨rfl, rfl⟩) | (go_at_call 17; (with_reducible refine (HK1.out.sick HS.out.2).mono ?_); rintro e w2 ⟨rfl, rfl⟩) | (go_at_call 17; (with_reducible refine (HK1.out.sick (us_sickB _ _ ?_)).mono ?_); omega; rintro e w2 ⟨rfl, rfl⟩) | (go_at_call 14; (with_reducible refine (HK1.out.bad HB4.out).mono ?_); rintro e w2 ⟨rfl, h2⟩; have H2 := Aside0.mk h2))
                go_ret
                exact ⟨rfl, H2.out.below⟩
              · have hs1 : sickM (us (a3 + a2 % 1024)) sA a3 = false := by rw [us_sick]; exact decide_eq_false (by omega)
                have HS := Aside0.mk (And.intro hs1 hs2)
                clear hs1 hs2
                go_wp2_with (first | (go_at_call 17; (with_reducible refine (HK1.out.sick HS.out.1).mono ?_); rintro e w2 ⟨rfl, rfl⟩) | (go_at_call 17; (with_reducible refine (HK1.out.sick HS.out.2).mono ?_); rintro e w2 ⟨rfl, rfl⟩) | (go_at_call 17; (with_reducible refine (HK1.out.sick (us_sickB _ _ ?_)).mono ?_); omega; rintro e w2 ⟨rfl, rfl⟩) | (go_at_call 14; (with_reducible refine (HK1.out.bad HB4.out).mono ?_); rintro e w2 ⟨rfl, h2⟩; have H2 := Aside0.mk h2))
                go_ret
                exact ⟨rfl, H2.out.below⟩
  · go_enter Try.func5, Try.ntmps5
    go_wp2_with (first | (go_at_call 10; (with_reducible refine (caring_calls _).mono ?_); rintro e w0 ⟨rfl, hb⟩; have HB := Aside0.mk hb; clear hb) | (go_at_call 9; (with_reducible refine (newHealth_calls _).mono ?_); rintro e w1 ⟨p, rfl, hh, hb⟩; have HH := Aside0.mk hh; have HW := Aside0.mk hb; clear hh hb))
    have hI0 : RInv w w1 (w0.alloc (.cells #[.slice none 0 0, .slice none 0 0, .slice none 0 0, .slice none 0 0, .int .i64 0, .int .i64 0, .int .i64 (1 + a0 % 16), .int .i64 (a2 % 1024)] 39)).heap.size w1.heap.size w0.heap.size p (1 + a0 % 16) (a2 % 1024) (fs 0) :=
      ⟨HB.out.size, by simp, HH.out, (HW.out.block _ (by simp)).trans (heap_alloc_new w0 _), below_step (below_alloc HB.out _) HW.out⟩
    have HI := Aside0.mk hI0
    generalize (w0.alloc (.cells #[.slice none 0 0, .slice none 0 0, .slice none 0 0, .slice none 0 0, .int .i64 0, .int .i64 0, .int .i64 (1 + a0 % 16), .int .i64 (a2 % 1024)] 39)).heap.size = lo at *
    generalize w0.heap.size = cb at *
    generalize w1.heap.size = hi at *
    clear HH HW hI0 HB
    go_loopw [11] (fun v11 wr => ∃ k : Nat, (k : Int) ≤ a1 % 4 ∧ v11 = .int .i64 k ∧ Aside0 (RInv w wr lo hi cb p (1 + a0 % 16) (a2 % 1024) (fs 0))) (fun v11 _ => 4 - (intOf v11).toNat)
    case atStart => exact ⟨0, by omega, rfl, HI⟩
    case round =>
      obtain ⟨k, hk, rfl, HK⟩ := hrel
      by_cases hlt : (k : Int) < a1 % 4
      · go_wp2
        go_loopw [12] (fun v12 wi => ∃ i : Nat, (i : Int) ≤ a0 % 16 ∧ v12 = .int .i64 i ∧ Aside0 (RInv w wi lo hi cb p (1 + a0 % 16) (a2 % 1024) (fs i))) (fun v12 _ => 16 - (intOf v12).toNat)
        case atStart => exact ⟨0, by omega, rfl, HK⟩
        case round =>
          obtain ⟨i, hi1, rfl, HK1⟩ := hrel
          by_cases hlt1 : (i : Int) < a0 % 16
          · obtain ⟨d0, d1, d2, d3, d4, d5, d6, d7⟩ := HK1.out.cells
            go_wp2_with (go_at_call 14; (with_reducible refine (HK1.out.bad (fs_bad i _ _ _ ?_ ?_)).mono ?_); omega; omega; rintro e w2 ⟨rfl, h2⟩; have H2 := Aside0.mk h2)
            go_roundw
            case rel => exact ⟨i + 1, by omega, by go_num, H2⟩
            case measure => simp [intOf]; omega
          · go_wp2_with (go_at_call 15; (with_reducible refine (HK1.out.good (fs_good i)).mono ?_); rintro e w2 ⟨rfl, h2⟩; have H2 := Aside0.mk h2)
            go_roundw
            case rel => exact ⟨k + 1, by omega, by go_num, H2⟩
            case measure => simp [intOf]; omega
      · go_wp2
        go_loopw [13] (fun v13 wi => ∃ i : Nat, (i : Int) ≤ a0 % 16 + 1 ∧ v13 = .int .i64 ((i + 1 : Nat) : Int) ∧ Aside0 (RInv w wi lo hi cb p (1 + a0 % 16) (a2 % 1024) (if (i : Int) ≤ a0 % 16 then fs i else us (1099511627776 + a2 % 1024)))) (fun v13 _ => 18 - (intOf v13).toNat)
        case atStart => exact ⟨0, by omega, rfl, by rw [if_pos (by omega)]; exact HK⟩
        case round =>
          obtain ⟨i, hi1, rfl, HK1⟩ := hrel
          by_cases hlt1 : (i : Int) < a0 % 16
          · rw [if_pos (by omega)] at HK1
            obtain ⟨d0, d1, d2, d3, d4, d5, d6, d7⟩ := HK1.out.cells
            have hbe : ((i : Int) + 1 == 1 + a0 % 16) = false := by simp; omega
            go_wp2_with (first | (go_at_call 17; (with_reducible refine (HK1.out.sick (fs_sick i _ ?_)).mono ?_); omega; rintro e w2 ⟨rfl, rfl⟩) | (go_at_call 14; (with_reducible refine (HK1.out.bad (fs_bad i _ _ _ ?_ ?_)).mono ?_); omega; omega; rintro e w2 ⟨rfl, h2⟩; have H2 := Aside0.mk h2))
            refine ⟨⟨i + 1, by omega, by go_num, by rw [if_pos (by omega)]; exact H2⟩, by simp [intOf]; omega⟩
          · by_cases hlt2 : (i : Int) ≤ a0 % 16
            · rw [if_pos (by omega)] at HK1
              obtain ⟨d0, d1, d2, d3, d4, d5, d6, d7⟩ := HK1.out.cells
              have hbe : ((i : Int) + 1 == 1 + a0 % 16) = true := by simp; omega
              go_wp2_with (first | (go_at_call 17; (with_reducible refine (HK1.out.sick (fs_sick i _ ?_)).mono ?_); omega; rintro e w2 ⟨rfl, rfl⟩) | (go_at_call 14; (with_reducible refine (HK1.out.bad (fs_last i _ _ _ ?_ ?_)).mono ?_); omega; omega; rintro e w2 ⟨rfl, h2⟩; have H2 := Aside0.mk h2))
              refine ⟨⟨i + 1, by omega, by go_num, ?_⟩, by simp [intOf]; omega⟩
              rw [if_neg (by omega)]
              have h3 := H2.out
              rw [show wrap64 (1099511627776 + a2 % 1024) = 1099511627776 + a2 % 1024 from (wrap64_in (by omega) (by omega)).trans (by omega)] at h3
              exact ⟨h3⟩
            · rw [if_neg (by omega)] at HK1
              obtain ⟨d0, d1, d2, d3, d4, d5, d6, d7⟩ := HK1.out.cells
              have hb3 : (badM (us (1099511627776 + a2 % 1024)) sA (1099511627776 + a2 % 1024) (1 + a0 % 16) (a2 % 1024)).2 = (1 + a0 % 16 == 1) := by rw [us_bad1, Bool.eq_iff_iff, decide_eq_true_iff, beq_iff_eq]; omega
              have hb4 : badM (us (1099511627776 + a2 % 1024)) sA (1099511627776 + a2 % 1024) (1 + a0 % 16) (a2 % 1024) = ((badM (us (1099511627776 + a2 % 1024)) sA (1099511627776 + a2 % 1024) (1 + a0 % 16) (a2 % 1024)).1, (1 + a0 % 16 == 1)) := by rw [← hb3]
              have hs2 : sickM (us (1099511627776 + a2 % 1024)) sA (1099511627776 + a2 % 1024) = false := by rw [us_sick]; simp
              have HB4 := Aside0.mk hb4
              clear hb3 hb4
              by_cases hc0 : 0 < a2 % 1024
              · have hs1 : sickM (us (1099511627776 + a2 % 1024)) sA 1099511627776 = true := by rw [us_sick]; exact decide_eq_true (by omega)
                have HS := Aside0.mk (And.intro hs1 hs2)
                clear hs1 hs2
                go_wp2_with (first | (go_at_call 17; (with_reducible refine (HK1.out.sick HS.out.1).mono ?_); rintro e w2 ⟨rfl, rfl⟩) | (go_at_call 17; (with_reducible refine (HK1.out.sick HS.out.2).mono ?_); rintro e w2 ⟨rfl, rfl⟩) | (go_at_call 17; (with_reducible refine (HK1.out.sick (us_sickB _ _ ?_)).mono ?_); omega; rintro e w2 ⟨rfl, rfl⟩) | (go_at_call 14; (with_reducible refine (HK1.out.bad HB4.out).mono ?_); rintro e w2 ⟨rfl, h2⟩; have H2 := Aside0.mk h2))
                go_ret
                exact ⟨rfl, H2.out.below⟩
              · have hs1 : sickM (us (1099511627776 + a2 % 1024)) sA 1099511627776 = false := by rw [us_sick]; exact decide_eq_false (by omega)
                have HS := Aside0.mk (And.intro hs1 hs2)
                clear hs1 hs2
                go_wp2_with (first | (go_at_call 17; (with_reducible refine (HK1.out.sick HS.out.1).mono ?_); rintro e w2 ⟨rfl, rfl⟩) | (go_at_call 17; (with_reducible refine (HK1.out.sick HS.out.2).mono ?_); rintro e w2 ⟨rfl, rfl⟩) | (go_at_call 17; (with_reducible refine (HK1.out.sick (us_sickB _ _ ?_)).mono ?_); omega; rintro e w2 ⟨rfl, rfl⟩) | (go_at_call 14; (with_reducible refine (HK1.out.bad HB4.out).mono ?_); rintro e w2 ⟨rfl, h2⟩; have H2 := Aside0.mk h2))
                go_ret
                exact ⟨rfl, H2.out.below⟩
end Go.Proofs.Ytffockklleanmaa.X
