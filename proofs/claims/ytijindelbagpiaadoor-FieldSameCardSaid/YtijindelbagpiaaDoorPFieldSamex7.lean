-- Written by this session's program xprint.py over the kit's print, with contracts given by hand. Not trusted: Lean checks it.
import Derived.Test.YtijindelbagpiaaDoorPFieldSamex0
import Derived.Test.YtijindelbagpiaaDoorPFieldSamex6
namespace Go.Proofs.YtijindelbagpiaaDoor.PFieldSame
open Go.RowKit Go.Proofs.YtijindelbagpiaaDoorW.PrintWords Go.Proofs.YtijindelbagpiaaDoorW.PrintLast Go.Proofs.YtijindelbagpiaaDoorW.PrintMore
attribute [local go_sem] max2_int min2_int max_two min_two max_three min_three max_four min_four   -- for this text's walks alone
set_option linter.unusedVariables false
set_option linter.unusedSimpArgs false

/-! ### tollbarlaw04_FieldSame: function 6 -/
def tollbarlaw04_FieldSame.j0 : Nat → List (S24) → Int → Bool → Option (Bool)
  | 0, _, _, _ => none
  | k + 1, x0, x1, x36 => if x36 = true then (none) else (if (x0.length : Int) = 0 then (some true) else ((some (([] : List (S24)) : List (S24))).bind fun y227 => (if y227.length + x0.length < 4398046511104 then ((some (y227 ++ x0 : List (S24))).bind fun y230 => (if 0 ≤ (Int.tmod (Go.bits .and .i64 x1 1023) (x0.length : Int)) then (if (Int.tmod (Go.bits .and .i64 x1 1023) (x0.length : Int)) < (y230.length : Int) then (if ((rd_T24 y230 (Int.tmod (Go.bits .and .i64 x1 1023) (x0.length : Int))).f1).size + 1 ≤ 9223372036854775807 then ((some (y230.set ((Int.tmod (Go.bits .and .i64 x1 1023) (x0.length : Int)) : Int).toNat (⟨(rd_T24 y230 (Int.tmod (Go.bits .and .i64 x1 1023) (x0.length : Int))).f0, ((rd_T24 y230 (Int.tmod (Go.bits .and .i64 x1 1023) (x0.length : Int))).f1) ++ (⟨#[120]⟩ : ByteArray)⟩ : S24) : List (S24))).bind fun y234 => ((field_Same.f k x0 y234).bind fun t235 => (if t235 = true then (none) else (if 0 ≤ (wrap64 ((x0.length : Int) - 1)) then (if (wrap64 ((x0.length : Int) - 1)) ≤ (y230.length : Int) then ((field_Same.f k (y234.take ((wrap64 ((x0.length : Int) - 1)) : Int).toNat) x0).bind fun t240 => (some (!t240))) else (none)) else (none))))) else (none)) else (none)) else (none))) else (none))))
def tollbarlaw04_FieldSame.f (k : Nat) (l0 : List (S24)) (a1 : Int) (a2_0 : ByteArray) (a2_1 : ByteArray) : Option (Bool) := (tollbarlaw04_looking.f k).bind fun t205 => (if t205 = true then (if (l0.length : Int) > 100 then (some true) else ((some (([] : List (S24)) : List (S24))).bind fun y206 => (if y206.length + l0.length < 4398046511104 then ((some (y206 ++ l0 : List (S24))).bind fun y209 => ((some (([(⟨a2_0, a2_1⟩ : S24)] : List (S24)) : List (S24))).bind fun y212 => (if y209.length + y212.length < 4398046511104 then ((some (y209 ++ y212 : List (S24))).bind fun y215 => ((some (([] : List (S24)) : List (S24))).bind fun y218 => (if y218.length + l0.length < 4398046511104 then ((field_Same.f k l0 (y218 ++ l0)).bind fun t224 => (if t224 = true then ((field_Same.f k l0 y215).bind fun t225 => (if t225 = true then (tollbarlaw04_FieldSame.j0 k l0 a1 true) else ((field_Same.f k y215 l0).bind fun t226 => (tollbarlaw04_FieldSame.j0 k l0 a1 t226)))) else (tollbarlaw04_FieldSame.j0 k l0 a1 true))) else (none)))) else (none)))) else (none)))) else (none))
theorem tollbarlaw04_FieldSame.mono_l : ∀ k, (∀ y0 y1 y2, LeO (tollbarlaw04_FieldSame.j0 k y0 y1 y2) (tollbarlaw04_FieldSame.j0 (k + 1) y0 y1 y2))
  | 0 => fun _ _ _ r h => by simp [tollbarlaw04_FieldSame.j0] at h
  | k + 1 => by
    have ih0 := tollbarlaw04_FieldSame.mono_l k
    · intro y0 y1 y2
      unfold tollbarlaw04_FieldSame.j0
      repeat' first
      | (with_reducible exact ih0 _ _ _)
      | (with_reducible exact field_Same.mono _ _ _)
      | (with_reducible exact tollbarlaw04_looking.mono _)
      | (with_reducible exact LeO.refl _)
      | (with_reducible exact LeO.none _)
      | (with_reducible refine LeO.ite ?_ ?_)
      | (with_reducible refine LeO.bind ?_ (fun _ => ?_))
      | exact ih0 _ _ _
      | exact field_Same.mono _ _ _
      | exact tollbarlaw04_looking.mono _
      | exact LeO.none _
      | refine LeO.ite ?_ ?_
      | refine LeO.bind ?_ (fun _ => ?_)
theorem tollbarlaw04_FieldSame.mono : ∀ a0 a1 a2 a3 k, LeO (tollbarlaw04_FieldSame.f k a0 a1 a2 a3) (tollbarlaw04_FieldSame.f (k + 1) a0 a1 a2 a3) := by
  intro a0 a1 a2 a3 k
  have ih0 := tollbarlaw04_FieldSame.mono_l k
  unfold tollbarlaw04_FieldSame.f
  repeat' first
      | (with_reducible exact ih0 _ _ _)
      | (with_reducible exact field_Same.mono _ _ _)
      | (with_reducible exact tollbarlaw04_looking.mono _)
      | (with_reducible exact LeO.refl _)
      | (with_reducible exact LeO.none _)
      | (with_reducible refine LeO.ite ?_ ?_)
      | (with_reducible refine LeO.bind ?_ (fun _ => ?_))
      | exact ih0 _ _ _
      | exact field_Same.mono _ _ _
      | exact tollbarlaw04_looking.mono _
      | exact LeO.none _
      | refine LeO.ite ?_ ?_
      | refine LeO.bind ?_ (fun _ => ?_)
set_option maxHeartbeats 8000000 in
set_option maxRecDepth 100000 in
theorem tollbarlaw04_FieldSame.calls (k : Nat) (A0 : Option Addr) (c0 : Nat) (l0 : List (S24)) (a1 : Int) (a2_0 : ByteArray) (a2_1 : ByteArray) (r : Bool) (w : World) (hr0 : Kd.C k24 w A0 l0.length l0) (hc0 : l0.length ≤ c0) (h : tollbarlaw04_FieldSame.f k l0 a1 a2_0 a2_1 = some r) :
    Calls Tryd.prog 6 #[.slice A0 l0.length c0, .int .i64 a1, .agg #[.string a2_0, .string a2_1]] w fun e w' => e = .returned (.bool r) ∧ Below w.heap.size w w' := by
  have hu24 := Tryd.underlying24
  have HR0 := Aside0.mk hr0
  have HC0 := Aside0.mk hc0
  clear hr0 hc0
  have HB := Aside0.mk (Below.refl w.heap.size w)
  have H : ((tollbarlaw04_looking.f k).bind fun t205 => (if t205 = true then (if (l0.length : Int) > 100 then (some true) else ((some (([] : List (S24)) : List (S24))).bind fun y206 => (if y206.length + l0.length < 4398046511104 then ((some (y206 ++ l0 : List (S24))).bind fun y209 => ((some (([(⟨a2_0, a2_1⟩ : S24)] : List (S24)) : List (S24))).bind fun y212 => (if y209.length + y212.length < 4398046511104 then ((some (y209 ++ y212 : List (S24))).bind fun y215 => ((some (([] : List (S24)) : List (S24))).bind fun y218 => (if y218.length + l0.length < 4398046511104 then ((field_Same.f k l0 (y218 ++ l0)).bind fun t224 => (if t224 = true then ((field_Same.f k l0 y215).bind fun t225 => (if t225 = true then (tollbarlaw04_FieldSame.j0 k l0 a1 true) else ((field_Same.f k y215 l0).bind fun t226 => (tollbarlaw04_FieldSame.j0 k l0 a1 t226)))) else (tollbarlaw04_FieldSame.j0 k l0 a1 true))) else (none)))) else (none)))) else (none)))) else (none))) = some r := h
  clear h
  replace H := Option.bind_eq_some_iff.mp H
  obtain ⟨t205, A40, H⟩ := H
  replace H : (if t205 = true then (if (l0.length : Int) > 100 then (some true) else ((some (([] : List (S24)) : List (S24))).bind fun y206 => (if y206.length + l0.length < 4398046511104 then ((some (y206 ++ l0 : List (S24))).bind fun y209 => ((some (([(⟨a2_0, a2_1⟩ : S24)] : List (S24)) : List (S24))).bind fun y212 => (if y209.length + y212.length < 4398046511104 then ((some (y209 ++ y212 : List (S24))).bind fun y215 => ((some (([] : List (S24)) : List (S24))).bind fun y218 => (if y218.length + l0.length < 4398046511104 then ((field_Same.f k l0 (y218 ++ l0)).bind fun t224 => (if t224 = true then ((field_Same.f k l0 y215).bind fun t225 => (if t225 = true then (tollbarlaw04_FieldSame.j0 k l0 a1 true) else ((field_Same.f k y215 l0).bind fun t226 => (tollbarlaw04_FieldSame.j0 k l0 a1 t226)))) else (tollbarlaw04_FieldSame.j0 k l0 a1 true))) else (none)))) else (none)))) else (none)))) else (none)) = some r := H
  have A4 := Aside0.mk A40
  clear A40
  by_cases c5 : t205 = true
  · subst c5
    have H1 : (if (l0.length : Int) > 100 then (some true) else ((some (([] : List (S24)) : List (S24))).bind fun y206 => (if y206.length + l0.length < 4398046511104 then ((some (y206 ++ l0 : List (S24))).bind fun y209 => ((some (([(⟨a2_0, a2_1⟩ : S24)] : List (S24)) : List (S24))).bind fun y212 => (if y209.length + y212.length < 4398046511104 then ((some (y209 ++ y212 : List (S24))).bind fun y215 => ((some (([] : List (S24)) : List (S24))).bind fun y218 => (if y218.length + l0.length < 4398046511104 then ((field_Same.f k l0 (y218 ++ l0)).bind fun t224 => (if t224 = true then ((field_Same.f k l0 y215).bind fun t225 => (if t225 = true then (tollbarlaw04_FieldSame.j0 k l0 a1 true) else ((field_Same.f k y215 l0).bind fun t226 => (tollbarlaw04_FieldSame.j0 k l0 a1 t226)))) else (tollbarlaw04_FieldSame.j0 k l0 a1 true))) else (none)))) else (none)))) else (none)))) = some r := by rw [if_pos rfl] at H; exact H
    clear H
    have H := H1
    clear H1
    by_cases c6 : (l0.length : Int) > 100
    · rw [if_pos c6] at H
      have c6b0 : decide (100 < (l0.length : Int)) = true := decide_eq_true c6
      have c6b1 : decide (100 < l0.length) = true := decide_eq_true (by omega)
      clear c6
      obtain rfl := Option.some.inj H
      go_enter Tryd.func6, Tryd.ntmps6
      go_wp2_with (first | ((with_reducible refine gate_dst (N := 5) rfl ?_); (try (refine gate_guard (by rfl) ?_; dsimp only)); refine box_event ?hg (N := 5) ?hd (cs := #[.string a2_0, .string a2_1]) (t := 24) ?hr ?_; (case hd => rfl); (case hg => rfl); (case hr => first | (go_simp; done) | (go_simp; rfl)); intro gb204 hg w7 hbox hb; have n0_ := Aside0.mk (below_step (by repeat (first | (with_reducible first | exact HB.out | apply below_alloc | apply pw_below_drewN | apply below_drew1) | exact HB.out)) hb); have n1_ := Aside0.mk (hbox); have n2_ := Aside0.mk ((by rw [hg]; exact (below_size (by repeat (first | (with_reducible first | exact HB.out | apply below_alloc | apply pw_below_drewN | apply below_drew1) | exact HB.out))) : w.heap.size ≤ gb204)); have n3_ := Aside0.mk ((by rw [hg]; exact (below_size (by repeat (first | (with_reducible first | exact HB.out | apply below_alloc | apply pw_below_drewN | apply below_drew1) | exact HB.out))) : w.heap.size ≤ gb204)); clear HB; have HB := n0_; have BK204 := n1_; have GW204 := n2_; have GE204 := n3_; clear n0_ n1_ n2_ n3_; clear hb hbox hg) | ((with_reducible refine gate_callee (f := 18) rfl ?_); refine goesL_ (some 10) rfl rfl Tryd.func18 (by kernel_rfl) rfl #[] rfl (by (try simp only [List.map_toArray, List.map_cons, List.map_nil]); first | done | rfl | (simp only [List.length_drop, List.length_take]; rfl)) ?_; (with_reducible refine (tollbarlaw04_looking.calls k  true _ A4.out).mono ?_); rintro e w8 ⟨rfl, hb⟩; refine ⟨_, rfl, ?_⟩; have n0_ := Aside0.mk (blk_below (g := gb204) (o := .cells #[.string a2_0, .string a2_1] 24 (0, 0)) (by (with_reducible repeat (first | refine blk_drewN ?_ _ | refine blk_drew ?_ | refine blk_alloc ?_ _)); exact BK204.out) hb); have n1_ := Aside0.mk (below_step (by repeat (first | (with_reducible first | exact HB.out | apply below_alloc | apply pw_below_drewN | apply below_drew1 | refine below_set ?_ GE204.out) | exact HB.out)) hb); clear BK204; clear HB; have BK204 := n0_; have HB := n1_; clear n0_ n1_; (try clear hb); (try clear hb2); (try clear hk); (try clear hi)))
      go_ret
      exact ⟨by first | rfl | (simp [errW_none, errW_some] <;> rfl) | (simp [*, errW_none, errW_some] <;> rfl), by repeat (first | (with_reducible first | exact HB.out | apply below_alloc | apply pw_below_drewN | apply below_drew1 | refine below_set ?_ GE204.out) | exact HB.out)⟩
    · rw [if_neg c6] at H
      have c6b0 : decide (100 < (l0.length : Int)) = false := decide_eq_false c6
      have c6b1 : decide (100 < l0.length) = false := decide_eq_false (by omega)
      clear c6
      obtain ⟨y206, hy206⟩ : ∃ y_ : List (S24), y_ = (([] : List (S24))) := ⟨_, rfl⟩
      replace H : (if y206.length + l0.length < 4398046511104 then ((some (y206 ++ l0 : List (S24))).bind fun y209 => ((some (([(⟨a2_0, a2_1⟩ : S24)] : List (S24)) : List (S24))).bind fun y212 => (if y209.length + y212.length < 4398046511104 then ((some (y209 ++ y212 : List (S24))).bind fun y215 => ((some (([] : List (S24)) : List (S24))).bind fun y218 => (if y218.length + l0.length < 4398046511104 then ((field_Same.f k l0 (y218 ++ l0)).bind fun t224 => (if t224 = true then ((field_Same.f k l0 y215).bind fun t225 => (if t225 = true then (tollbarlaw04_FieldSame.j0 k l0 a1 true) else ((field_Same.f k y215 l0).bind fun t226 => (tollbarlaw04_FieldSame.j0 k l0 a1 t226)))) else (tollbarlaw04_FieldSame.j0 k l0 a1 true))) else (none)))) else (none)))) else (none)) = some r := by first | (rw [hy206]; with_reducible exact H) | (have H2_ := (Option.bind_some _ _).symm.trans H; rw [hy206]; with_reducible exact H2_) | (have H2_ := (Option.bind_some _ _).symm.trans H; with_reducible exact H2_) | with_reducible exact H | (rw [hy206]; exact H) | exact H
      have Ny206 := Aside0.mk hy206
      clear hy206
      by_cases c9 : y206.length + l0.length < 4398046511104
      · rw [if_pos c9] at H
        have LMc9 := Aside0.mk c9
        clear c9
        obtain ⟨y209, hy209⟩ : ∃ y_ : List (S24), y_ = (y206 ++ l0) := ⟨_, rfl⟩
        replace H : ((some (([(⟨a2_0, a2_1⟩ : S24)] : List (S24)) : List (S24))).bind fun y212 => (if y209.length + y212.length < 4398046511104 then ((some (y209 ++ y212 : List (S24))).bind fun y215 => ((some (([] : List (S24)) : List (S24))).bind fun y218 => (if y218.length + l0.length < 4398046511104 then ((field_Same.f k l0 (y218 ++ l0)).bind fun t224 => (if t224 = true then ((field_Same.f k l0 y215).bind fun t225 => (if t225 = true then (tollbarlaw04_FieldSame.j0 k l0 a1 true) else ((field_Same.f k y215 l0).bind fun t226 => (tollbarlaw04_FieldSame.j0 k l0 a1 t226)))) else (tollbarlaw04_FieldSame.j0 k l0 a1 true))) else (none)))) else (none))) = some r := by first | (rw [hy209]; with_reducible exact H) | (have H2_ := (Option.bind_some _ _).symm.trans H; rw [hy209]; with_reducible exact H2_) | (have H2_ := (Option.bind_some _ _).symm.trans H; with_reducible exact H2_) | with_reducible exact H | (rw [hy209]; exact H) | exact H
        have Ny209 := Aside0.mk hy209
        clear hy209
        obtain ⟨y212, hy212⟩ : ∃ y_ : List (S24), y_ = (([(⟨a2_0, a2_1⟩ : S24)] : List (S24))) := ⟨_, rfl⟩
        replace H : (if y209.length + y212.length < 4398046511104 then ((some (y209 ++ y212 : List (S24))).bind fun y215 => ((some (([] : List (S24)) : List (S24))).bind fun y218 => (if y218.length + l0.length < 4398046511104 then ((field_Same.f k l0 (y218 ++ l0)).bind fun t224 => (if t224 = true then ((field_Same.f k l0 y215).bind fun t225 => (if t225 = true then (tollbarlaw04_FieldSame.j0 k l0 a1 true) else ((field_Same.f k y215 l0).bind fun t226 => (tollbarlaw04_FieldSame.j0 k l0 a1 t226)))) else (tollbarlaw04_FieldSame.j0 k l0 a1 true))) else (none)))) else (none)) = some r := by first | (rw [hy212]; with_reducible exact H) | (have H2_ := (Option.bind_some _ _).symm.trans H; rw [hy212]; with_reducible exact H2_) | (have H2_ := (Option.bind_some _ _).symm.trans H; with_reducible exact H2_) | with_reducible exact H | (rw [hy212]; exact H) | exact H
        have Ny212 := Aside0.mk hy212
        clear hy212
        by_cases c10 : y209.length + y212.length < 4398046511104
        · rw [if_pos c10] at H
          have LMc10 := Aside0.mk c10
          clear c10
          obtain ⟨y215, hy215⟩ : ∃ y_ : List (S24), y_ = (y209 ++ y212) := ⟨_, rfl⟩
          replace H : ((some (([] : List (S24)) : List (S24))).bind fun y218 => (if y218.length + l0.length < 4398046511104 then ((field_Same.f k l0 (y218 ++ l0)).bind fun t224 => (if t224 = true then ((field_Same.f k l0 y215).bind fun t225 => (if t225 = true then (tollbarlaw04_FieldSame.j0 k l0 a1 true) else ((field_Same.f k y215 l0).bind fun t226 => (tollbarlaw04_FieldSame.j0 k l0 a1 t226)))) else (tollbarlaw04_FieldSame.j0 k l0 a1 true))) else (none))) = some r := by first | (rw [hy215]; with_reducible exact H) | (have H2_ := (Option.bind_some _ _).symm.trans H; rw [hy215]; with_reducible exact H2_) | (have H2_ := (Option.bind_some _ _).symm.trans H; with_reducible exact H2_) | with_reducible exact H | (rw [hy215]; exact H) | exact H
          have Ny215 := Aside0.mk hy215
          clear hy215
          have HC11 := Aside0.mk H
          clear H
          go_enter Tryd.func6, Tryd.ntmps6
          try go_wp2_with (first | ((with_reducible refine gate_dst (N := 5) rfl ?_); (try (refine gate_guard (by rfl) ?_; dsimp only)); refine box_event ?hg (N := 5) ?hd (cs := #[.string a2_0, .string a2_1]) (t := 24) ?hr ?_; (case hd => rfl); (case hg => rfl); (case hr => first | (go_simp; done) | (go_simp; rfl)); intro gb204 hg w12 hbox hb; have n0_ := Aside0.mk (below_step (by repeat (first | (with_reducible first | exact HB.out | apply below_alloc | apply pw_below_drewN | apply below_drew1) | exact HB.out)) hb); have n1_ := Aside0.mk (hbox); have n2_ := Aside0.mk ((by rw [hg]; exact (below_size (by repeat (first | (with_reducible first | exact HB.out | apply below_alloc | apply pw_below_drewN | apply below_drew1) | exact HB.out))) : w.heap.size ≤ gb204)); have n3_ := Aside0.mk ((by rw [hg]; exact (below_size (by repeat (first | (with_reducible first | exact HB.out | apply below_alloc | apply pw_below_drewN | apply below_drew1) | exact HB.out))) : w.heap.size ≤ gb204)); clear HB; have HB := n0_; have BK204 := n1_; have GW204 := n2_; have GE204 := n3_; clear n0_ n1_ n2_ n3_; clear hb hbox hg) | ((with_reducible refine gate_callee (f := 18) rfl ?_); refine goesL_ (some 10) rfl rfl Tryd.func18 (by kernel_rfl) rfl #[] rfl (by (try simp only [List.map_toArray, List.map_cons, List.map_nil]); first | done | rfl | (simp only [List.length_drop, List.length_take]; rfl)) ?_; (with_reducible refine (tollbarlaw04_looking.calls k  true _ A4.out).mono ?_); rintro e w13 ⟨rfl, hb⟩; refine ⟨_, rfl, ?_⟩; have n0_ := Aside0.mk (blk_below (g := gb204) (o := .cells #[.string a2_0, .string a2_1] 24 (0, 0)) (by (with_reducible repeat (first | refine blk_drewN ?_ _ | refine blk_drew ?_ | refine blk_alloc ?_ _)); exact BK204.out) hb); have n1_ := Aside0.mk (below_step (by repeat (first | (with_reducible first | exact HB.out | apply below_alloc | apply pw_below_drewN | apply below_drew1 | refine below_set ?_ GE204.out) | exact HB.out)) hb); clear BK204; clear HB; have BK204 := n0_; have HB := n1_; clear n0_ n1_; (try clear hb); (try clear hb2); (try clear hk); (try clear hi)))
          have n0_ := Aside0.mk (blk_drew BK204.out)
          have n1_ := Aside0.mk (below_drew1 HB.out)
          clear BK204
          clear HB
          have BK204 := n0_
          have HB := n1_
          clear n0_ n1_
          refine start_ (n := 7) (S := fun w' => w'.cell? ⟨gb204, 0, none⟩ = some (.string a2_0) ∧ w'.cell? ⟨gb204, 1, none⟩ = some (.string a2_1)) (ds := []) #[false, false, false, false, false, false, false] (by kernel_rfl) rfl rfl ⟨(blk_cell BK204.out 0).trans rfl, (blk_cell BK204.out 1).trans rfl⟩ (fun hHeld => ?_)
          generalize w13.drew = w14 at BK204 HB hHeld ⊢
          refine pure_ (i := 1) (N := some 16) (v := ?_) (a' := ?_) #[false, true, false, false, false, false, false] rfl rfl (by kernel_rfl) (fun _ _ _ h => h) (Or.inl ⟨by rfl, ?_⟩) ?_ ?_
          rotate_left
          · intro w'
            go_simp
            with_reducible rfl
          rotate_left
          · simp only [Act.put, List.setIfInBounds_toArray, List.set_cons_zero, List.set_cons_succ, i64_w, i32_w]
            rfl
          refine take_ (i := 3) (N := some 18) (v := ?_) (a' := ?_) #[false, true, false, true, false, false, false] rfl rfl (by kernel_rfl) (fun _ _ _ h => h) (Or.inl ⟨by rfl, ?_⟩) hHeld ?_ ?_
          rotate_left
          · rintro w' ⟨s0, s1⟩
            go_simp
            with_reducible rfl
          rotate_left
          · simp only [Act.put, List.setIfInBounds_toArray, List.set_cons_zero, List.set_cons_succ, i64_w, i32_w]
            rfl
          refine join_ (σ := Value × Value × Value) 2 #[true, true, true, true, true, false, false] (fun s_ => [(15, s_.1), (17, s_.2.1), (19, s_.2.2)]) (fun s_ w' => (w'.cell? ⟨gb204, 0, none⟩ = some (.string a2_0) ∧ w'.cell? ⟨gb204, 1, none⟩ = some (.string a2_1)) ∧ (Kd.R k24 24 w' w.heap.size (fun k_ => some k_ ≠ (s_.2.2 : Value).ownBlock ∧ k_ ≠ gb204) s_.2.1 y209) ∧ (Kd.R k24 24 w' w.heap.size (fun k_ => some k_ ≠ (s_.2.1 : Value).ownBlock ∧ k_ ≠ gb204) s_.2.2 y212) ∧ (w'.heap[gb204]? = some (.cells #[.string a2_0, .string a2_1] 24 (0, 0))) ∧ (Below w.heap.size w w')) ?_ ?_
          rotate_left
          · intro hCont
            refine two_ (i := 0) (j := 4) (Ni := some 15) (Nj := some 19) #[true, true, false, true, false, false, false] #[false, true, false, true, true, false, false] rfl rfl rfl rfl (by kernel_rfl) (by decide) (by decide) (fun K hK => ?_) (fun K hK => ?_)
            · skip
              refine Kd.R_lit_step k24 _ 24 ?hg (N := 15) ?hd (xs := ([] : List (S24))) (inner := []) (ok := fun _ => True) (okp := fun _ => True) ?hr ?hp (fun _ hk => hk) trivial (Below.refl _ _) (Nat.le_refl _) (by simp) ?_; (case hd => rfl); (case hg => rfl); (case hr => first | (go_simp; done) | (go_simp; rfl)); (case hp => exact (Reps.none _ _))
              intro v207 w15 ho16 hb hg_ hnew_
              clear hg_ hnew_
              (first | rw [← Ny206.out] at ho16 | (simp only [Int.reduceToNat] at ho16; rw [← Ny206.out] at ho16))
              have n0_ := Aside0.mk (Kd.R_lower (Kd.R_newB ho16 (g := gb204) (o := .cells #[.string a2_0, .string a2_1] 24 (0, 0)) (by (with_reducible repeat (first | refine blk_drewN ?_ _ | refine blk_drew ?_ | refine blk_alloc ?_ _)); exact BK204.out)) (below_size (by repeat (first | (with_reducible first | exact HB.out | apply below_alloc | apply pw_below_drewN | apply below_drew1 | refine below_set ?_ GE204.out) | exact HB.out))))
              have n1_ := Aside0.mk (blk_below (g := gb204) (o := .cells #[.string a2_0, .string a2_1] 24 (0, 0)) (by (with_reducible repeat (first | refine blk_drewN ?_ _ | refine blk_drew ?_ | refine blk_alloc ?_ _)); exact BK204.out) hb)
              have n2_ := Aside0.mk (below_step (by repeat (first | (with_reducible first | exact HB.out | apply below_alloc | apply pw_below_drewN | apply below_drew1 | refine below_set ?_ GE204.out) | exact HB.out)) hb)
              clear BK204
              clear HB
              have HO208 := n0_
              have BK204 := n1_
              have HB := n2_
              clear n0_ n1_ n2_
              clear hb ho16
              refine hK.out _ _ ⟨(blk_cell BK204.out 0).trans rfl, (blk_cell BK204.out 1).trans rfl⟩ (fun hHeld => ?_)
              clear hK K
              refine norm_ (a' := ?_) ?_ ?_
              rotate_left
              · show Act.put _ (some 15) _ = _
                simp only [Act.put, List.setIfInBounds_toArray, List.set_cons_zero, List.set_cons_succ, i64_w, i32_w]
                rfl
              refine two_ (i := 2) (j := 4) (Ni := some 17) (Nj := some 19) #[true, true, true, true, false, false, false] #[true, true, false, true, true, false, false] rfl rfl rfl rfl (by kernel_rfl) (by decide) (by decide) (fun K hK => ?_) (fun K hK => ?_)
              · skip
                refine Kd.R_append_rows_step k24 (w0 := w) w.heap.size (by rfl) (.tmp 15) (.tmp 16) 31 24 (.agg #[(.string ⟨#[]⟩), (.string ⟨#[]⟩)]) 32 rfl Tryd.underlying31 info24 rfl (by decide) (by omega) v207 y206 l0 _ _ _ (fun k_ => k_ ≠ gb204) (fun _ => False) rfl rfl ?aO ?aR (fun _ _ h => h) (fun _ h => h.elim) ?aF ?aB ?aS ?aL ?_
                (case aR => repeat (first | exact (Kd.C_below HR0.out HB.out) | (with_reducible refine Kd.C_alloc ?_ _) | (with_reducible refine Kd.C_drewN ?_ _) | (with_reducible refine Kd.C_drew ?_)))
                (case aB => exact (by repeat (first | (with_reducible first | exact HB.out | apply below_alloc | apply pw_below_drewN | apply below_drew1 | refine below_set ?_ GE204.out) | exact HB.out)))
                (case aF => exact (fun k_ hk => Kd.freshB (g := gb204) (o := .cells #[.string a2_0, .string a2_1] 24 (0, 0)) (by (with_reducible repeat (first | refine blk_drewN ?_ _ | refine blk_drew ?_ | refine blk_alloc ?_ _)); exact BK204.out) k_ hk))
                (case aO => exact (by (with_reducible repeat (first | apply Kd.R_alloc | apply Kd.R_drewN | apply Kd.R_drew)); exact Kd.R_mono HO208.out (fun _ hk => hk.2)))
                (case aS => exact (below_size (by repeat (first | (with_reducible first | exact HB.out | apply below_alloc | apply pw_below_drewN | apply below_drew1 | refine below_set ?_ GE204.out) | exact HB.out))))
                (case aL => have := LMc9.out; omega)
                intro v210 w17 ho hb hg hat
                rw [← Ny209.out] at ho
                have n0_ := Aside0.mk (blk_grown (g := gb204) (o := .cells #[.string a2_0, .string a2_1] 24 (0, 0)) (by (with_reducible repeat (first | refine blk_drewN ?_ _ | refine blk_drew ?_ | refine blk_alloc ?_ _)); exact BK204.out) hg (Kd.R_away HO208.out (fun _ hk => hk.2)))
                have n1_ := Aside0.mk (hb)
                have n2_ := Aside0.mk (ho)
                clear BK204
                clear HB
                clear HO208
                have BK204 := n0_
                have HB := n1_
                have HO211 := n2_
                clear n0_ n1_ n2_
                clear ho hb hg hat
                refine hK.out _ _ ⟨(blk_cell BK204.out 0).trans rfl, (blk_cell BK204.out 1).trans rfl⟩ (fun hHeld => ?_)
                clear hK K
                refine norm_ (a' := ?_) ?_ ?_
                rotate_left
                · show Act.put _ (some 17) _ = _
                  simp only [Act.put, List.setIfInBounds_toArray, List.set_cons_zero, List.set_cons_succ, i64_w, i32_w]
                  rfl
                refine one_ (i := 4) (N := some 19) #[true, true, true, true, true, false, false] rfl rfl (by kernel_rfl) (by decide) (fun K hK => ?_)
                refine Kd.R_lit_step k24 _ 24 ?hg (N := 19) ?hd (xs := ([(⟨a2_0, a2_1⟩ : S24)] : List (S24))) (inner := [.string a2_0, .string a2_1]) (ok := fun _ => True) (okp := fun _ => True) ?hr ?hp (fun _ hk => hk) trivial (Below.refl _ _) (Nat.le_refl _) (by simp) ?_; (case hd => rfl); (case hg => rfl); (case hr => first | (go_simp; done) | (go_simp; rfl)); (case hp => exact (Reps.c2 (show Kd.M k24 _ _ _ (⟨a2_0, a2_1⟩ : S24) [.string a2_0, .string a2_1] from (k24_mkM _ _ _ (⟨a2_0, a2_1⟩ : S24) )) (Reps.none _ _)))
                intro v213 w18 ho19 hb hg_ hnew_
                clear hg_ hnew_
                (first | rw [← Ny212.out] at ho19 | (simp only [Int.reduceToNat] at ho19; rw [← Ny212.out] at ho19))
                have n0_ := Aside0.mk (Kd.R_elder' (by (with_reducible repeat (first | apply Kd.R_alloc | apply Kd.R_drewN | apply Kd.R_drew)); exact HO211.out) (Kd.R_base ho19) hb)
                have n1_ := Aside0.mk (Kd.R_lower (Kd.R_newB (Kd.R_new' ho19 (Kd.R_lt (by (with_reducible repeat (first | apply Kd.R_alloc | apply Kd.R_drewN | apply Kd.R_drew)); exact HO211.out))) (g := gb204) (o := .cells #[.string a2_0, .string a2_1] 24 (0, 0)) (by (with_reducible repeat (first | refine blk_drewN ?_ _ | refine blk_drew ?_ | refine blk_alloc ?_ _)); exact BK204.out)) (below_size (by repeat (first | (with_reducible first | exact HB.out | apply below_alloc | apply pw_below_drewN | apply below_drew1 | refine below_set ?_ GE204.out) | exact HB.out))))
                have n2_ := Aside0.mk (blk_below (g := gb204) (o := .cells #[.string a2_0, .string a2_1] 24 (0, 0)) (by (with_reducible repeat (first | refine blk_drewN ?_ _ | refine blk_drew ?_ | refine blk_alloc ?_ _)); exact BK204.out) hb)
                have n3_ := Aside0.mk (below_step (by repeat (first | (with_reducible first | exact HB.out | apply below_alloc | apply pw_below_drewN | apply below_drew1 | refine below_set ?_ GE204.out) | exact HB.out)) hb)
                clear HO211
                clear BK204
                clear HB
                have HO211 := n0_
                have HO214 := n1_
                have BK204 := n2_
                have HB := n3_
                clear n0_ n1_ n2_ n3_
                clear hb ho19
                refine hK.out _ _ ⟨(blk_cell BK204.out 0).trans rfl, (blk_cell BK204.out 1).trans rfl⟩ (fun hHeld => ?_)
                clear hK K
                refine norm_ (a' := ?_) ?_ ?_
                rotate_left
                · show Act.put _ (some 19) _ = _
                  simp only [Act.put, List.setIfInBounds_toArray, List.set_cons_zero, List.set_cons_succ, i64_w, i32_w]
                  rfl
                exact norm_ (by simp only [putAll, Act.put, List.setIfInBounds_toArray, List.set_cons_zero, List.set_cons_succ]) (hCont (v207, v210, v213) _ ⟨hHeld, (by (with_reducible repeat (first | apply Kd.R_alloc | apply Kd.R_drewN | apply Kd.R_drew)); exact Kd.R_mono HO211.out (fun _ hk => ⟨hk.2, hk.1⟩)), (by (with_reducible repeat (first | apply Kd.R_alloc | apply Kd.R_drewN | apply Kd.R_drew)); exact Kd.R_mono HO214.out (fun _ hk => ⟨hk.1.2, hk.2⟩)), (by (with_reducible repeat (first | refine blk_drewN ?_ _ | refine blk_drew ?_ | refine blk_alloc ?_ _)); exact BK204.out), (by repeat (first | (with_reducible first | exact HB.out | apply below_alloc | apply pw_below_drewN | apply below_drew1 | refine below_set ?_ GE204.out) | exact HB.out))⟩)
              · skip
                refine Kd.R_lit_step k24 _ 24 ?hg (N := 19) ?hd (xs := ([(⟨a2_0, a2_1⟩ : S24)] : List (S24))) (inner := [.string a2_0, .string a2_1]) (ok := fun _ => True) (okp := fun _ => True) ?hr ?hp (fun _ hk => hk) trivial (Below.refl _ _) (Nat.le_refl _) (by simp) ?_; (case hd => rfl); (case hg => rfl); (case hr => first | (go_simp; done) | (go_simp; rfl)); (case hp => exact (Reps.c2 (show Kd.M k24 _ _ _ (⟨a2_0, a2_1⟩ : S24) [.string a2_0, .string a2_1] from (k24_mkM _ _ _ (⟨a2_0, a2_1⟩ : S24) )) (Reps.none _ _)))
                intro v213 w17 ho18 hb hg_ hnew_
                clear hg_ hnew_
                (first | rw [← Ny212.out] at ho18 | (simp only [Int.reduceToNat] at ho18; rw [← Ny212.out] at ho18))
                have n0_ := Aside0.mk (Kd.R_elder' (by (with_reducible repeat (first | apply Kd.R_alloc | apply Kd.R_drewN | apply Kd.R_drew)); exact HO208.out) (Kd.R_base ho18) hb)
                have n1_ := Aside0.mk (Kd.R_lower (Kd.R_newB (Kd.R_new' ho18 (Kd.R_lt (by (with_reducible repeat (first | apply Kd.R_alloc | apply Kd.R_drewN | apply Kd.R_drew)); exact HO208.out))) (g := gb204) (o := .cells #[.string a2_0, .string a2_1] 24 (0, 0)) (by (with_reducible repeat (first | refine blk_drewN ?_ _ | refine blk_drew ?_ | refine blk_alloc ?_ _)); exact BK204.out)) (below_size (by repeat (first | (with_reducible first | exact HB.out | apply below_alloc | apply pw_below_drewN | apply below_drew1 | refine below_set ?_ GE204.out) | exact HB.out))))
                have n2_ := Aside0.mk (blk_below (g := gb204) (o := .cells #[.string a2_0, .string a2_1] 24 (0, 0)) (by (with_reducible repeat (first | refine blk_drewN ?_ _ | refine blk_drew ?_ | refine blk_alloc ?_ _)); exact BK204.out) hb)
                have n3_ := Aside0.mk (below_step (by repeat (first | (with_reducible first | exact HB.out | apply below_alloc | apply pw_below_drewN | apply below_drew1 | refine below_set ?_ GE204.out) | exact HB.out)) hb)
                clear HO208
                clear BK204
                clear HB
                have HO208 := n0_
                have HO214 := n1_
                have BK204 := n2_
                have HB := n3_
                clear n0_ n1_ n2_ n3_
                clear hb ho18
                refine hK.out _ _ ⟨(blk_cell BK204.out 0).trans rfl, (blk_cell BK204.out 1).trans rfl⟩ (fun hHeld => ?_)
                clear hK K
                refine norm_ (a' := ?_) ?_ ?_
                rotate_left
                · show Act.put _ (some 19) _ = _
                  simp only [Act.put, List.setIfInBounds_toArray, List.set_cons_zero, List.set_cons_succ, i64_w, i32_w]
                  rfl
                refine one_ (i := 2) (N := some 17) #[true, true, true, true, true, false, false] rfl rfl (by kernel_rfl) (by decide) (fun K hK => ?_)
                refine Kd.R_append_rows_step k24 (w0 := w) w.heap.size (by rfl) (.tmp 15) (.tmp 16) 31 24 (.agg #[(.string ⟨#[]⟩), (.string ⟨#[]⟩)]) 32 rfl Tryd.underlying31 info24 rfl (by decide) (by omega) v207 y206 l0 _ _ _ (fun k_ => some k_ ≠ (v213 : Value).ownBlock ∧ k_ ≠ gb204) (fun _ => False) rfl rfl ?aO ?aR (fun _ _ h => h) (fun _ h => h.elim) ?aF ?aB ?aS ?aL ?_
                (case aR => repeat (first | exact (Kd.C_below HR0.out HB.out) | (with_reducible refine Kd.C_alloc ?_ _) | (with_reducible refine Kd.C_drewN ?_ _) | (with_reducible refine Kd.C_drew ?_)))
                (case aB => exact (by repeat (first | (with_reducible first | exact HB.out | apply below_alloc | apply pw_below_drewN | apply below_drew1 | refine below_set ?_ GE204.out) | exact HB.out)))
                (case aF => exact (fun k_ hk => ⟨Kd.fresh' (Kd.R_lt (by (with_reducible repeat (first | apply Kd.R_alloc | apply Kd.R_drewN | apply Kd.R_drew)); exact HO214.out)) k_ hk, Kd.freshB (g := gb204) (o := .cells #[.string a2_0, .string a2_1] 24 (0, 0)) (by (with_reducible repeat (first | refine blk_drewN ?_ _ | refine blk_drew ?_ | refine blk_alloc ?_ _)); exact BK204.out) k_ hk⟩))
                (case aO => exact (by (with_reducible repeat (first | apply Kd.R_alloc | apply Kd.R_drewN | apply Kd.R_drew)); exact Kd.R_mono HO208.out (fun _ hk => ⟨hk.2, hk.1.2⟩)))
                (case aS => exact (below_size (by repeat (first | (with_reducible first | exact HB.out | apply below_alloc | apply pw_below_drewN | apply below_drew1 | refine below_set ?_ GE204.out) | exact HB.out))))
                (case aL => have := LMc9.out; omega)
                intro v210 w19 ho hb hg hat
                rw [← Ny209.out] at ho
                have n0_ := Aside0.mk (blk_grown (g := gb204) (o := .cells #[.string a2_0, .string a2_1] 24 (0, 0)) (by (with_reducible repeat (first | refine blk_drewN ?_ _ | refine blk_drew ?_ | refine blk_alloc ?_ _)); exact BK204.out) hg (Kd.R_away HO208.out (fun _ hk => hk.1.2)))
                have n1_ := Aside0.mk (Kd.R_after (ok := (fun k_ => k_ ≠ gb204)) (by (with_reducible repeat (first | apply Kd.R_alloc | apply Kd.R_drewN | apply Kd.R_drew)); exact Kd.R_mono HO214.out (fun _ hk => ⟨hk.2, hk.1.2⟩)) hg hat)
                have n2_ := Aside0.mk (hb)
                have n3_ := Aside0.mk (ho)
                clear BK204
                clear HO214
                clear HB
                clear HO208
                have BK204 := n0_
                have HO214 := n1_
                have HB := n2_
                have HO211 := n3_
                clear n0_ n1_ n2_ n3_
                clear ho hb hg hat
                refine hK.out _ _ ⟨(blk_cell BK204.out 0).trans rfl, (blk_cell BK204.out 1).trans rfl⟩ (fun hHeld => ?_)
                clear hK K
                refine norm_ (a' := ?_) ?_ ?_
                rotate_left
                · show Act.put _ (some 17) _ = _
                  simp only [Act.put, List.setIfInBounds_toArray, List.set_cons_zero, List.set_cons_succ, i64_w, i32_w]
                  rfl
                exact norm_ (by simp only [putAll, Act.put, List.setIfInBounds_toArray, List.set_cons_zero, List.set_cons_succ]) (hCont (v207, v210, v213) _ ⟨hHeld, (by (with_reducible repeat (first | apply Kd.R_alloc | apply Kd.R_drewN | apply Kd.R_drew)); exact HO211.out), (by (with_reducible repeat (first | apply Kd.R_alloc | apply Kd.R_drewN | apply Kd.R_drew)); exact Kd.R_mono HO214.out (fun _ hk => ⟨hk.2, hk.1⟩)), (by (with_reducible repeat (first | refine blk_drewN ?_ _ | refine blk_drew ?_ | refine blk_alloc ?_ _)); exact BK204.out), (by repeat (first | (with_reducible first | exact HB.out | apply below_alloc | apply pw_below_drewN | apply below_drew1 | refine below_set ?_ GE204.out) | exact HB.out))⟩)
            · skip
              refine Kd.R_lit_step k24 _ 24 ?hg (N := 19) ?hd (xs := ([(⟨a2_0, a2_1⟩ : S24)] : List (S24))) (inner := [.string a2_0, .string a2_1]) (ok := fun _ => True) (okp := fun _ => True) ?hr ?hp (fun _ hk => hk) trivial (Below.refl _ _) (Nat.le_refl _) (by simp) ?_; (case hd => rfl); (case hg => rfl); (case hr => first | (go_simp; done) | (go_simp; rfl)); (case hp => exact (Reps.c2 (show Kd.M k24 _ _ _ (⟨a2_0, a2_1⟩ : S24) [.string a2_0, .string a2_1] from (k24_mkM _ _ _ (⟨a2_0, a2_1⟩ : S24) )) (Reps.none _ _)))
              intro v213 w15 ho16 hb hg_ hnew_
              clear hg_ hnew_
              (first | rw [← Ny212.out] at ho16 | (simp only [Int.reduceToNat] at ho16; rw [← Ny212.out] at ho16))
              have n0_ := Aside0.mk (Kd.R_lower (Kd.R_newB ho16 (g := gb204) (o := .cells #[.string a2_0, .string a2_1] 24 (0, 0)) (by (with_reducible repeat (first | refine blk_drewN ?_ _ | refine blk_drew ?_ | refine blk_alloc ?_ _)); exact BK204.out)) (below_size (by repeat (first | (with_reducible first | exact HB.out | apply below_alloc | apply pw_below_drewN | apply below_drew1 | refine below_set ?_ GE204.out) | exact HB.out))))
              have n1_ := Aside0.mk (blk_below (g := gb204) (o := .cells #[.string a2_0, .string a2_1] 24 (0, 0)) (by (with_reducible repeat (first | refine blk_drewN ?_ _ | refine blk_drew ?_ | refine blk_alloc ?_ _)); exact BK204.out) hb)
              have n2_ := Aside0.mk (below_step (by repeat (first | (with_reducible first | exact HB.out | apply below_alloc | apply pw_below_drewN | apply below_drew1 | refine below_set ?_ GE204.out) | exact HB.out)) hb)
              clear BK204
              clear HB
              have HO214 := n0_
              have BK204 := n1_
              have HB := n2_
              clear n0_ n1_ n2_
              clear hb ho16
              refine hK.out _ _ ⟨(blk_cell BK204.out 0).trans rfl, (blk_cell BK204.out 1).trans rfl⟩ (fun hHeld => ?_)
              clear hK K
              refine norm_ (a' := ?_) ?_ ?_
              rotate_left
              · show Act.put _ (some 19) _ = _
                simp only [Act.put, List.setIfInBounds_toArray, List.set_cons_zero, List.set_cons_succ, i64_w, i32_w]
                rfl
              refine one_ (i := 0) (N := some 15) #[true, true, false, true, true, false, false] rfl rfl (by kernel_rfl) (by decide) (fun K hK => ?_)
              refine Kd.R_lit_step k24 _ 24 ?hg (N := 15) ?hd (xs := ([] : List (S24))) (inner := []) (ok := fun _ => True) (okp := fun _ => True) ?hr ?hp (fun _ hk => hk) trivial (Below.refl _ _) (Nat.le_refl _) (by simp) ?_; (case hd => rfl); (case hg => rfl); (case hr => first | (go_simp; done) | (go_simp; rfl)); (case hp => exact (Reps.none _ _))
              intro v207 w17 ho18 hb hg_ hnew_
              clear hg_ hnew_
              (first | rw [← Ny206.out] at ho18 | (simp only [Int.reduceToNat] at ho18; rw [← Ny206.out] at ho18))
              have n0_ := Aside0.mk (Kd.R_elder' (by (with_reducible repeat (first | apply Kd.R_alloc | apply Kd.R_drewN | apply Kd.R_drew)); exact HO214.out) (Kd.R_base ho18) hb)
              have n1_ := Aside0.mk (Kd.R_lower (Kd.R_newB (Kd.R_new' ho18 (Kd.R_lt (by (with_reducible repeat (first | apply Kd.R_alloc | apply Kd.R_drewN | apply Kd.R_drew)); exact HO214.out))) (g := gb204) (o := .cells #[.string a2_0, .string a2_1] 24 (0, 0)) (by (with_reducible repeat (first | refine blk_drewN ?_ _ | refine blk_drew ?_ | refine blk_alloc ?_ _)); exact BK204.out)) (below_size (by repeat (first | (with_reducible first | exact HB.out | apply below_alloc | apply pw_below_drewN | apply below_drew1 | refine below_set ?_ GE204.out) | exact HB.out))))
              have n2_ := Aside0.mk (blk_below (g := gb204) (o := .cells #[.string a2_0, .string a2_1] 24 (0, 0)) (by (with_reducible repeat (first | refine blk_drewN ?_ _ | refine blk_drew ?_ | refine blk_alloc ?_ _)); exact BK204.out) hb)
              have n3_ := Aside0.mk (below_step (by repeat (first | (with_reducible first | exact HB.out | apply below_alloc | apply pw_below_drewN | apply below_drew1 | refine below_set ?_ GE204.out) | exact HB.out)) hb)
              clear HO214
              clear BK204
              clear HB
              have HO214 := n0_
              have HO208 := n1_
              have BK204 := n2_
              have HB := n3_
              clear n0_ n1_ n2_ n3_
              clear hb ho18
              refine hK.out _ _ ⟨(blk_cell BK204.out 0).trans rfl, (blk_cell BK204.out 1).trans rfl⟩ (fun hHeld => ?_)
              clear hK K
              refine norm_ (a' := ?_) ?_ ?_
              rotate_left
              · show Act.put _ (some 15) _ = _
                simp only [Act.put, List.setIfInBounds_toArray, List.set_cons_zero, List.set_cons_succ, i64_w, i32_w]
                rfl
              refine one_ (i := 2) (N := some 17) #[true, true, true, true, true, false, false] rfl rfl (by kernel_rfl) (by decide) (fun K hK => ?_)
              refine Kd.R_append_rows_step k24 (w0 := w) w.heap.size (by rfl) (.tmp 15) (.tmp 16) 31 24 (.agg #[(.string ⟨#[]⟩), (.string ⟨#[]⟩)]) 32 rfl Tryd.underlying31 info24 rfl (by decide) (by omega) v207 y206 l0 _ _ _ (fun k_ => some k_ ≠ (v213 : Value).ownBlock ∧ k_ ≠ gb204) (fun _ => False) rfl rfl ?aO ?aR (fun _ _ h => h) (fun _ h => h.elim) ?aF ?aB ?aS ?aL ?_
              (case aR => repeat (first | exact (Kd.C_below HR0.out HB.out) | (with_reducible refine Kd.C_alloc ?_ _) | (with_reducible refine Kd.C_drewN ?_ _) | (with_reducible refine Kd.C_drew ?_)))
              (case aB => exact (by repeat (first | (with_reducible first | exact HB.out | apply below_alloc | apply pw_below_drewN | apply below_drew1 | refine below_set ?_ GE204.out) | exact HB.out)))
              (case aF => exact (fun k_ hk => ⟨Kd.fresh' (Kd.R_lt (by (with_reducible repeat (first | apply Kd.R_alloc | apply Kd.R_drewN | apply Kd.R_drew)); exact HO214.out)) k_ hk, Kd.freshB (g := gb204) (o := .cells #[.string a2_0, .string a2_1] 24 (0, 0)) (by (with_reducible repeat (first | refine blk_drewN ?_ _ | refine blk_drew ?_ | refine blk_alloc ?_ _)); exact BK204.out) k_ hk⟩))
              (case aO => exact (by (with_reducible repeat (first | apply Kd.R_alloc | apply Kd.R_drewN | apply Kd.R_drew)); exact Kd.R_mono HO208.out (fun _ hk => ⟨hk.1.2, hk.2⟩)))
              (case aS => exact (below_size (by repeat (first | (with_reducible first | exact HB.out | apply below_alloc | apply pw_below_drewN | apply below_drew1 | refine below_set ?_ GE204.out) | exact HB.out))))
              (case aL => have := LMc9.out; omega)
              intro v210 w19 ho hb hg hat
              rw [← Ny209.out] at ho
              have n0_ := Aside0.mk (blk_grown (g := gb204) (o := .cells #[.string a2_0, .string a2_1] 24 (0, 0)) (by (with_reducible repeat (first | refine blk_drewN ?_ _ | refine blk_drew ?_ | refine blk_alloc ?_ _)); exact BK204.out) hg (Kd.R_away HO208.out (fun _ hk => hk.2)))
              have n1_ := Aside0.mk (Kd.R_after (ok := (fun k_ => k_ ≠ gb204)) (by (with_reducible repeat (first | apply Kd.R_alloc | apply Kd.R_drewN | apply Kd.R_drew)); exact Kd.R_mono HO214.out (fun _ hk => ⟨hk.1.2, hk.2⟩)) hg hat)
              have n2_ := Aside0.mk (hb)
              have n3_ := Aside0.mk (ho)
              clear BK204
              clear HO214
              clear HB
              clear HO208
              have BK204 := n0_
              have HO214 := n1_
              have HB := n2_
              have HO211 := n3_
              clear n0_ n1_ n2_ n3_
              clear ho hb hg hat
              refine hK.out _ _ ⟨(blk_cell BK204.out 0).trans rfl, (blk_cell BK204.out 1).trans rfl⟩ (fun hHeld => ?_)
              clear hK K
              refine norm_ (a' := ?_) ?_ ?_
              rotate_left
              · show Act.put _ (some 17) _ = _
                simp only [Act.put, List.setIfInBounds_toArray, List.set_cons_zero, List.set_cons_succ, i64_w, i32_w]
                rfl
              exact norm_ (by simp only [putAll, Act.put, List.setIfInBounds_toArray, List.set_cons_zero, List.set_cons_succ]) (hCont (v207, v210, v213) _ ⟨hHeld, (by (with_reducible repeat (first | apply Kd.R_alloc | apply Kd.R_drewN | apply Kd.R_drew)); exact HO211.out), (by (with_reducible repeat (first | apply Kd.R_alloc | apply Kd.R_drewN | apply Kd.R_drew)); exact Kd.R_mono HO214.out (fun _ hk => ⟨hk.2, hk.1⟩)), (by (with_reducible repeat (first | refine blk_drewN ?_ _ | refine blk_drew ?_ | refine blk_alloc ?_ _)); exact BK204.out), (by repeat (first | (with_reducible first | exact HB.out | apply below_alloc | apply pw_below_drewN | apply below_drew1 | refine below_set ?_ GE204.out) | exact HB.out))⟩)
          rintro ⟨v207, v210, v213⟩ w20 ⟨hS_, h0_, h1_, h2_, h3_⟩
          have n0_ : Aside0 (Kd.R k24 24 w20 w.heap.size (fun k_ => some k_ ≠ (v213 : Value).ownBlock ∧ k_ ≠ gb204) v210 y209) := ⟨h0_⟩
          have n1_ : Aside0 (Kd.R k24 24 w20 w.heap.size (fun k_ => some k_ ≠ (v210 : Value).ownBlock ∧ k_ ≠ gb204) v213 y212) := ⟨h1_⟩
          have n2_ : Aside0 (w20.heap[gb204]? = some (.cells #[.string a2_0, .string a2_1] 24 (0, 0))) := ⟨h2_⟩
          have n3_ : Aside0 (Below w.heap.size w w20) := ⟨h3_⟩
          clear BK204
          clear HB
          clear h0_ h1_ h2_ h3_
          have HO211 := n0_
          have HO214 := n1_
          have BK204 := n2_
          have HB := n3_
          clear n0_ n1_ n2_ n3_
          have hHeld : w20.cell? ⟨gb204, 0, none⟩ = some (.string a2_0) ∧ w20.cell? ⟨gb204, 1, none⟩ = some (.string a2_1) := hS_
          obtain ⟨Ao22, co22, eo22⟩ := Kd.R_slice HO214.out
          (first | subst eo22 | (injection eo22 with f1_ f2_ f3_; have f4_ := f1_.symm; have f5_ := f3_.symm; clear f1_ f2_ f3_; subst f4_; subst f5_))
          refine norm_ (a' := ?_) ?_ ?_
          rotate_left
          · simp only [putAll, Act.put, List.setIfInBounds_toArray, List.set_cons_zero, List.set_cons_succ]
            rfl
          refine one_ (i := 5) (N := some 20) #[true, true, true, true, true, true, false] rfl rfl (by kernel_rfl) (by decide) (fun K hK => ?_)
          refine Kd.R_append_rows_step k24 (w0 := w) w.heap.size (by rfl) (.tmp 17) (.tmp 19) 31 24 (.agg #[(.string ⟨#[]⟩), (.string ⟨#[]⟩)]) 32 rfl Tryd.underlying31 info24 rfl (by decide) (by omega) v210 y209 y212 _ _ _ (fun k_ => some k_ ≠ (.slice Ao22 y212.length co22 : Value).ownBlock ∧ k_ ≠ gb204) (fun _ => False) rfl rfl ?aO ?aR (fun _ _ h => h) (fun _ h => h.elim) ?aF ?aB ?aS ?aL ?_
          (case aR => repeat (first | exact (Kd.R_reads' HO214.out).2.2 | (with_reducible refine Kd.C_alloc ?_ _) | (with_reducible refine Kd.C_drewN ?_ _) | (with_reducible refine Kd.C_drew ?_)))
          (case aB => exact (by repeat (first | (with_reducible first | exact HB.out | apply below_alloc | apply pw_below_drewN | apply below_drew1 | refine below_set ?_ GE204.out) | exact HB.out)))
          (case aF => exact (fun k_ hk => ⟨Kd.fresh' (Kd.R_lt (by (with_reducible repeat (first | apply Kd.R_alloc | apply Kd.R_drewN | apply Kd.R_drew)); exact HO214.out)) k_ hk, Kd.freshB (g := gb204) (o := .cells #[.string a2_0, .string a2_1] 24 (0, 0)) (by (with_reducible repeat (first | refine blk_drewN ?_ _ | refine blk_drew ?_ | refine blk_alloc ?_ _)); exact BK204.out) k_ hk⟩))
          (case aO => exact (by (with_reducible repeat (first | apply Kd.R_alloc | apply Kd.R_drewN | apply Kd.R_drew)); exact HO211.out))
          (case aS => exact (below_size (by repeat (first | (with_reducible first | exact HB.out | apply below_alloc | apply pw_below_drewN | apply below_drew1 | refine below_set ?_ GE204.out) | exact HB.out))))
          (case aL => have := LMc10.out; omega)
          intro v216 w21 ho hb hg hat
          rw [← Ny215.out] at ho
          have n0_ := Aside0.mk (blk_grown (g := gb204) (o := .cells #[.string a2_0, .string a2_1] 24 (0, 0)) (by (with_reducible repeat (first | refine blk_drewN ?_ _ | refine blk_drew ?_ | refine blk_alloc ?_ _)); exact BK204.out) hg (Kd.R_away HO211.out (fun _ hk => hk.2)))
          have n1_ := Aside0.mk (Kd.R_after (ok := (fun k_ => k_ ≠ gb204)) (by (with_reducible repeat (first | apply Kd.R_alloc | apply Kd.R_drewN | apply Kd.R_drew)); exact Kd.R_mono HO214.out (fun _ hk => ⟨hk.2, hk.1⟩)) hg hat)
          have n2_ := Aside0.mk (hb)
          have n3_ := Aside0.mk (ho)
          clear BK204
          clear HO214
          clear HB
          clear HO211
          have BK204 := n0_
          have HO214 := n1_
          have HB := n2_
          have HO217 := n3_
          clear n0_ n1_ n2_ n3_
          clear ho hb hg hat
          refine hK.out _ _ ⟨(blk_cell BK204.out 0).trans rfl, (blk_cell BK204.out 1).trans rfl⟩ (fun hHeld => ?_)
          clear hK K
          refine norm_ (a' := ?_) ?_ ?_
          rotate_left
          · show Act.put _ (some 20) _ = _
            simp only [Act.put, List.setIfInBounds_toArray, List.set_cons_zero, List.set_cons_succ, i64_w, i32_w]
            rfl
          refine pure_ (i := 6) (N := some 7) (v := ?_) (a' := ?_) #[true, true, true, true, true, true, true] rfl rfl (by kernel_rfl) (fun _ _ _ h => h) (Or.inl ⟨by rfl, ?_⟩) ?_ ?_
          rotate_left
          · intro w'
            go_simp
            with_reducible rfl
          rotate_left
          · simp only [Act.put, List.setIfInBounds_toArray, List.set_cons_zero, List.set_cons_succ, i64_w, i32_w]
            rfl
          refine done_ (by kernel_rfl) ?_
          go_upto_region 6 with (fail)
          go_cut [36] (fun v36 wc => ∃ (kq : Nat) (x36_10 : Bool), v36 = .bool x36_10 ∧ Aside0 (tollbarlaw04_FieldSame.j0 kq l0 a1 x36_10 = some r) ∧ Aside0 (kq ≤ k) ∧ Aside0 (wc.heap[gb204]? = some (.cells #[.string a2_0, .string a2_1] 24 (0, 0))) ∧ Aside0 (Below w.heap.size w wc))
          case first =>
            have H := HC11.out
            clear HC11
            obtain ⟨y218, hy218⟩ : ∃ y_ : List (S24), y_ = (([] : List (S24))) := ⟨_, rfl⟩
            replace H : (if y218.length + l0.length < 4398046511104 then ((field_Same.f k l0 (y218 ++ l0)).bind fun t224 => (if t224 = true then ((field_Same.f k l0 y215).bind fun t225 => (if t225 = true then (tollbarlaw04_FieldSame.j0 k l0 a1 true) else ((field_Same.f k y215 l0).bind fun t226 => (tollbarlaw04_FieldSame.j0 k l0 a1 t226)))) else (tollbarlaw04_FieldSame.j0 k l0 a1 true))) else (none)) = some r := by first | (rw [hy218]; with_reducible exact H) | (have H2_ := (Option.bind_some _ _).symm.trans H; rw [hy218]; with_reducible exact H2_) | (have H2_ := (Option.bind_some _ _).symm.trans H; with_reducible exact H2_) | with_reducible exact H | (rw [hy218]; exact H) | exact H
            have Ny218 := Aside0.mk hy218
            clear hy218
            by_cases c23 : y218.length + l0.length < 4398046511104
            · rw [if_pos c23] at H
              have LMc23 := Aside0.mk c23
              clear c23
              obtain ⟨y221, hy221⟩ : ∃ y_ : List (S24), y_ = (y218 ++ l0) := ⟨_, rfl⟩
              replace H : ((field_Same.f k l0 y221).bind fun t224 => (if t224 = true then ((field_Same.f k l0 y215).bind fun t225 => (if t225 = true then (tollbarlaw04_FieldSame.j0 k l0 a1 true) else ((field_Same.f k y215 l0).bind fun t226 => (tollbarlaw04_FieldSame.j0 k l0 a1 t226)))) else (tollbarlaw04_FieldSame.j0 k l0 a1 true))) = some r := by first | (rw [hy221]; with_reducible exact H) | (have H2_ := (Option.bind_some _ _).symm.trans H; rw [hy221]; with_reducible exact H2_) | (have H2_ := (Option.bind_some _ _).symm.trans H; with_reducible exact H2_) | with_reducible exact H | (rw [hy221]; exact H) | exact H
              have Ny221 := Aside0.mk hy221
              clear hy221
              replace H := Option.bind_eq_some_iff.mp H
              obtain ⟨t224, A240, H⟩ := H
              replace H : (if t224 = true then ((field_Same.f k l0 y215).bind fun t225 => (if t225 = true then (tollbarlaw04_FieldSame.j0 k l0 a1 true) else ((field_Same.f k y215 l0).bind fun t226 => (tollbarlaw04_FieldSame.j0 k l0 a1 t226)))) else (tollbarlaw04_FieldSame.j0 k l0 a1 true)) = some r := H
              have A24 := Aside0.mk A240
              clear A240
              by_cases c25 : t224 = true
              · subst c25
                have H1 : ((field_Same.f k l0 y215).bind fun t225 => (if t225 = true then (tollbarlaw04_FieldSame.j0 k l0 a1 true) else ((field_Same.f k y215 l0).bind fun t226 => (tollbarlaw04_FieldSame.j0 k l0 a1 t226)))) = some r := by rw [if_pos rfl] at H; exact H
                clear H
                have H := H1
                clear H1
                replace H := Option.bind_eq_some_iff.mp H
                obtain ⟨t225, A260, H⟩ := H
                replace H : (if t225 = true then (tollbarlaw04_FieldSame.j0 k l0 a1 true) else ((field_Same.f k y215 l0).bind fun t226 => (tollbarlaw04_FieldSame.j0 k l0 a1 t226))) = some r := H
                have A26 := Aside0.mk A260
                clear A260
                by_cases c27 : t225 = true
                · subst c27
                  have H1 : (tollbarlaw04_FieldSame.j0 k l0 a1 true) = some r := by rw [if_pos rfl] at H; exact H
                  clear H
                  have H := H1
                  clear H1
                  have H' := Aside0.mk H
                  clear H
                  go_wp2_with (first | ((with_reducible refine gate_dst (N := 22) rfl ?_); (try (refine gate_guard (by rfl) ?_; dsimp only)); refine Kd.R_lit k24 _ 24 ?hg (N := 22) ?hd (xs := ([] : List (S24))) (inner := []) (ok := fun _ => True) (okp := fun _ => True) ?hr ?hp (fun _ hk => hk) trivial (Below.refl _ _) (Nat.le_refl _) (by simp) ?_; (case hd => rfl); (case hg => rfl); (case hr => first | (go_simp; done) | (go_simp; rfl)); (case hp => exact (Reps.none _ _)); intro v219 w28 ho29 hb hg_ hnew_; clear hg_ hnew_; (first | rw [← Ny218.out] at ho29 | (simp only [Int.reduceToNat] at ho29; rw [← Ny218.out] at ho29)); have n0_ := Aside0.mk (Kd.R_elder' (by (with_reducible repeat (first | apply Kd.R_alloc | apply Kd.R_drewN | apply Kd.R_drew)); exact HO214.out) (Kd.R_base ho29) hb); have n1_ := Aside0.mk (Kd.R_elder' (by (with_reducible repeat (first | apply Kd.R_alloc | apply Kd.R_drewN | apply Kd.R_drew)); exact HO217.out) (Kd.R_base ho29) hb); have n2_ := Aside0.mk (Kd.R_lower (Kd.R_newB (Kd.R_new' (Kd.R_new' ho29 (Kd.R_lt (by (with_reducible repeat (first | apply Kd.R_alloc | apply Kd.R_drewN | apply Kd.R_drew)); exact HO214.out))) (Kd.R_lt (by (with_reducible repeat (first | apply Kd.R_alloc | apply Kd.R_drewN | apply Kd.R_drew)); exact HO217.out))) (g := gb204) (o := .cells #[.string a2_0, .string a2_1] 24 (0, 0)) (by (with_reducible repeat (first | refine blk_drewN ?_ _ | refine blk_drew ?_ | refine blk_alloc ?_ _)); exact BK204.out)) (below_size (by repeat (first | (with_reducible first | exact HB.out | apply below_alloc | apply pw_below_drewN | apply below_drew1 | refine below_set ?_ GE204.out) | exact HB.out)))); have n3_ := Aside0.mk (blk_below (g := gb204) (o := .cells #[.string a2_0, .string a2_1] 24 (0, 0)) (by (with_reducible repeat (first | refine blk_drewN ?_ _ | refine blk_drew ?_ | refine blk_alloc ?_ _)); exact BK204.out) hb); have n4_ := Aside0.mk (below_step (by repeat (first | (with_reducible first | exact HB.out | apply below_alloc | apply pw_below_drewN | apply below_drew1 | refine below_set ?_ GE204.out) | exact HB.out)) hb); clear HO214; clear HO217; clear BK204; clear HB; have HO214 := n0_; have HO217 := n1_; have HO220 := n2_; have BK204 := n3_; have HB := n4_; clear n0_ n1_ n2_ n3_ n4_; clear hb ho29) | ((with_reducible refine gate_builtin (b := .append) (xs := #[.tmp 22, .tmp 23]) rfl ?_); (try (refine gate_guard (by rfl) ?_; dsimp only)); at_builtin; refine Kd.R_append_rows k24 (w0 := w) w.heap.size rfl (.tmp 22) (.tmp 23) 31 24 (.agg #[(.string ⟨#[]⟩), (.string ⟨#[]⟩)]) 32 rfl Tryd.underlying31 info24 rfl (by decide) (by omega) v219 y218 l0 _ _ _ (fun k_ => some k_ ≠ (.slice Ao22 y212.length co22 : Value).ownBlock ∧ some k_ ≠ (v216 : Value).ownBlock ∧ k_ ≠ gb204) (fun _ => False) rfl rfl ?aO ?aR (fun _ _ h => h) (fun _ h => h.elim) ?aF ?aB ?aS ?aL ?_; (case aR => repeat (first | exact (Kd.C_below HR0.out HB.out) | (with_reducible refine Kd.C_alloc ?_ _) | (with_reducible refine Kd.C_drewN ?_ _) | (with_reducible refine Kd.C_drew ?_))); (case aB => exact (by repeat (first | (with_reducible first | exact HB.out | apply below_alloc | apply pw_below_drewN | apply below_drew1 | refine below_set ?_ GE204.out) | exact HB.out))); (case aF => exact (fun k_ hk => ⟨Kd.fresh' (Kd.R_lt (by (with_reducible repeat (first | apply Kd.R_alloc | apply Kd.R_drewN | apply Kd.R_drew)); exact HO214.out)) k_ hk, Kd.fresh' (Kd.R_lt (by (with_reducible repeat (first | apply Kd.R_alloc | apply Kd.R_drewN | apply Kd.R_drew)); exact HO217.out)) k_ hk, Kd.freshB (g := gb204) (o := .cells #[.string a2_0, .string a2_1] 24 (0, 0)) (by (with_reducible repeat (first | refine blk_drewN ?_ _ | refine blk_drew ?_ | refine blk_alloc ?_ _)); exact BK204.out) k_ hk⟩)); (case aO => exact (by (with_reducible repeat (first | apply Kd.R_alloc | apply Kd.R_drewN | apply Kd.R_drew)); exact Kd.R_mono HO220.out (fun _ hk => ⟨hk.1.1.2, ⟨hk.1.2, hk.2⟩⟩))); (case aS => exact (below_size (by repeat (first | (with_reducible first | exact HB.out | apply below_alloc | apply pw_below_drewN | apply below_drew1 | refine below_set ?_ GE204.out) | exact HB.out)))); (case aL => have := LMc23.out; omega); intro v222 w30 ho hb hg hat; rw [← Ny221.out] at ho; have n0_ := Aside0.mk (blk_grown (g := gb204) (o := .cells #[.string a2_0, .string a2_1] 24 (0, 0)) (by (with_reducible repeat (first | refine blk_drewN ?_ _ | refine blk_drew ?_ | refine blk_alloc ?_ _)); exact BK204.out) hg (Kd.R_away HO220.out (fun _ hk => hk.2))); have n1_ := Aside0.mk (Kd.R_after (ok := (fun k_ => some k_ ≠ (v216 : Value).ownBlock ∧ k_ ≠ gb204)) (by (with_reducible repeat (first | apply Kd.R_alloc | apply Kd.R_drewN | apply Kd.R_drew)); exact Kd.R_mono HO214.out (fun _ hk => ⟨⟨hk.1.2, hk.1.1⟩, hk.2⟩)) hg hat); have n2_ := Aside0.mk (Kd.R_after (ok := (fun k_ => some k_ ≠ (.slice Ao22 y212.length co22 : Value).ownBlock ∧ k_ ≠ gb204)) (by (with_reducible repeat (first | apply Kd.R_alloc | apply Kd.R_drewN | apply Kd.R_drew)); exact HO217.out) hg hat); have n3_ := Aside0.mk (hb); have n4_ := Aside0.mk (ho); clear BK204; clear HO214; clear HO217; clear HB; clear HO220; have BK204 := n0_; have HO214 := n1_; have HO217 := n2_; have HB := n3_; have HO223 := n4_; clear n0_ n1_ n2_ n3_ n4_; clear ho hb hg hat; obtain ⟨Ao31, co31, eo31⟩ := Kd.R_slice HO223.out; subst eo31) | ((with_reducible refine gate_callee (f := 32) rfl ?_); refine goesL_ (some 25) rfl rfl Tryd.func32 (by kernel_rfl) rfl #[.slice A0 l0.length c0, .slice Ao31 y221.length co31] rfl (by (try simp only [List.map_toArray, List.map_cons, List.map_nil]); first | done | rfl | (simp only [List.length_drop, List.length_take]; rfl)) ?_; (with_reducible refine (field_Same.calls k _ _ l0 _ _ y221 true _ ?side1 ?side2 ?side3 ?side4 A24.out).mono ?_); (case side1 => repeat (first | exact (Kd.C_below HR0.out HB.out) | (with_reducible refine Kd.C_alloc ?_ _) | (with_reducible refine Kd.C_drewN ?_ _) | (with_reducible refine Kd.C_drew ?_))); (case side2 => exact HC0.out); (case side3 => repeat (first | exact (Kd.R_reads' HO223.out).2.2 | (with_reducible refine Kd.C_alloc ?_ _) | (with_reducible refine Kd.C_drewN ?_ _) | (with_reducible refine Kd.C_drew ?_))); (case side4 => exact (Kd.R_reads' HO223.out).2.1); rintro e w32 ⟨rfl, hb⟩; refine ⟨_, rfl, ?_⟩; have n0_ := Aside0.mk (Kd.R_below (by (with_reducible repeat (first | apply Kd.R_alloc | apply Kd.R_drewN | apply Kd.R_drew)); exact HO214.out) hb); have n1_ := Aside0.mk (Kd.R_below (by (with_reducible repeat (first | apply Kd.R_alloc | apply Kd.R_drewN | apply Kd.R_drew)); exact HO217.out) hb); have n2_ := Aside0.mk (Kd.R_below (by (with_reducible repeat (first | apply Kd.R_alloc | apply Kd.R_drewN | apply Kd.R_drew)); exact HO223.out) hb); have n3_ := Aside0.mk (blk_below (g := gb204) (o := .cells #[.string a2_0, .string a2_1] 24 (0, 0)) (by (with_reducible repeat (first | refine blk_drewN ?_ _ | refine blk_drew ?_ | refine blk_alloc ?_ _)); exact BK204.out) hb); have n4_ := Aside0.mk (below_step (by repeat (first | (with_reducible first | exact HB.out | apply below_alloc | apply pw_below_drewN | apply below_drew1 | refine below_set ?_ GE204.out) | exact HB.out)) hb); clear HO214; clear HO217; clear HO223; clear BK204; clear HB; have HO214 := n0_; have HO217 := n1_; have HO223 := n2_; have BK204 := n3_; have HB := n4_; clear n0_ n1_ n2_ n3_ n4_; (try clear hb); (try clear hb2); (try clear hk); (try clear hi); obtain ⟨Ao33, co33, eo33⟩ := Kd.R_slice HO217.out; subst eo33) | (go_at_call 32; (with_reducible refine (field_Same.calls k _ _ l0 _ _ y215 true _ ?side1 ?side2 ?side3 ?side4 A26.out).mono ?_); (case side1 => repeat (first | exact (Kd.C_below HR0.out HB.out) | (with_reducible refine Kd.C_alloc ?_ _) | (with_reducible refine Kd.C_drewN ?_ _) | (with_reducible refine Kd.C_drew ?_))); (case side2 => exact HC0.out); (case side3 => repeat (first | exact (Kd.R_reads' HO217.out).2.2 | (with_reducible refine Kd.C_alloc ?_ _) | (with_reducible refine Kd.C_drewN ?_ _) | (with_reducible refine Kd.C_drew ?_))); (case side4 => exact (Kd.R_reads' HO217.out).2.1); rintro e w34 ⟨rfl, hb⟩; have n0_ := Aside0.mk (Kd.R_below (by (with_reducible repeat (first | apply Kd.R_alloc | apply Kd.R_drewN | apply Kd.R_drew)); exact HO214.out) hb); have n1_ := Aside0.mk (Kd.R_below (by (with_reducible repeat (first | apply Kd.R_alloc | apply Kd.R_drewN | apply Kd.R_drew)); exact HO217.out) hb); have n2_ := Aside0.mk (Kd.R_below (by (with_reducible repeat (first | apply Kd.R_alloc | apply Kd.R_drewN | apply Kd.R_drew)); exact HO223.out) hb); have n3_ := Aside0.mk (blk_below (g := gb204) (o := .cells #[.string a2_0, .string a2_1] 24 (0, 0)) (by (with_reducible repeat (first | refine blk_drewN ?_ _ | refine blk_drew ?_ | refine blk_alloc ?_ _)); exact BK204.out) hb); have n4_ := Aside0.mk (below_step (by repeat (first | (with_reducible first | exact HB.out | apply below_alloc | apply pw_below_drewN | apply below_drew1 | refine below_set ?_ GE204.out) | exact HB.out)) hb); clear HO214; clear HO217; clear HO223; clear BK204; clear HB; have HO214 := n0_; have HO217 := n1_; have HO223 := n2_; have BK204 := n3_; have HB := n4_; clear n0_ n1_ n2_ n3_ n4_; (try clear hb); (try clear hb2); (try clear hk); (try clear hi)))
                  go_meet
                  case rel => exact ⟨_, (true), (by first | rfl | (simp; done) | (simp [*]; done)), H', ⟨by first | omega | exact Nat.le_refl _⟩, ⟨by (with_reducible repeat (first | refine blk_drewN ?_ _ | refine blk_drew ?_ | refine blk_alloc ?_ _)); exact BK204.out⟩, ⟨by repeat (first | (with_reducible first | exact HB.out | apply below_alloc | apply pw_below_drewN | apply below_drew1 | refine below_set ?_ GE204.out) | exact HB.out)⟩⟩
                · replace c27 := Bool.eq_false_iff.mpr c27
                  subst c27
                  have H1 : ((field_Same.f k y215 l0).bind fun t226 => (tollbarlaw04_FieldSame.j0 k l0 a1 t226)) = some r := by rw [if_neg (show ¬ (false = true) by decide)] at H; exact H
                  clear H
                  have H := H1
                  clear H1
                  replace H := Option.bind_eq_some_iff.mp H
                  obtain ⟨t226, A350, H⟩ := H
                  replace H : (tollbarlaw04_FieldSame.j0 k l0 a1 t226) = some r := H
                  have A35 := Aside0.mk A350
                  clear A350
                  have H' := Aside0.mk H
                  clear H
                  go_wp2_with (first | ((with_reducible refine gate_dst (N := 22) rfl ?_); (try (refine gate_guard (by rfl) ?_; dsimp only)); refine Kd.R_lit k24 _ 24 ?hg (N := 22) ?hd (xs := ([] : List (S24))) (inner := []) (ok := fun _ => True) (okp := fun _ => True) ?hr ?hp (fun _ hk => hk) trivial (Below.refl _ _) (Nat.le_refl _) (by simp) ?_; (case hd => rfl); (case hg => rfl); (case hr => first | (go_simp; done) | (go_simp; rfl)); (case hp => exact (Reps.none _ _)); intro v219 w36 ho37 hb hg_ hnew_; clear hg_ hnew_; (first | rw [← Ny218.out] at ho37 | (simp only [Int.reduceToNat] at ho37; rw [← Ny218.out] at ho37)); have n0_ := Aside0.mk (Kd.R_elder' (by (with_reducible repeat (first | apply Kd.R_alloc | apply Kd.R_drewN | apply Kd.R_drew)); exact HO214.out) (Kd.R_base ho37) hb); have n1_ := Aside0.mk (Kd.R_elder' (by (with_reducible repeat (first | apply Kd.R_alloc | apply Kd.R_drewN | apply Kd.R_drew)); exact HO217.out) (Kd.R_base ho37) hb); have n2_ := Aside0.mk (Kd.R_lower (Kd.R_newB (Kd.R_new' (Kd.R_new' ho37 (Kd.R_lt (by (with_reducible repeat (first | apply Kd.R_alloc | apply Kd.R_drewN | apply Kd.R_drew)); exact HO214.out))) (Kd.R_lt (by (with_reducible repeat (first | apply Kd.R_alloc | apply Kd.R_drewN | apply Kd.R_drew)); exact HO217.out))) (g := gb204) (o := .cells #[.string a2_0, .string a2_1] 24 (0, 0)) (by (with_reducible repeat (first | refine blk_drewN ?_ _ | refine blk_drew ?_ | refine blk_alloc ?_ _)); exact BK204.out)) (below_size (by repeat (first | (with_reducible first | exact HB.out | apply below_alloc | apply pw_below_drewN | apply below_drew1 | refine below_set ?_ GE204.out) | exact HB.out)))); have n3_ := Aside0.mk (blk_below (g := gb204) (o := .cells #[.string a2_0, .string a2_1] 24 (0, 0)) (by (with_reducible repeat (first | refine blk_drewN ?_ _ | refine blk_drew ?_ | refine blk_alloc ?_ _)); exact BK204.out) hb); have n4_ := Aside0.mk (below_step (by repeat (first | (with_reducible first | exact HB.out | apply below_alloc | apply pw_below_drewN | apply below_drew1 | refine below_set ?_ GE204.out) | exact HB.out)) hb); clear HO214; clear HO217; clear BK204; clear HB; have HO214 := n0_; have HO217 := n1_; have HO220 := n2_; have BK204 := n3_; have HB := n4_; clear n0_ n1_ n2_ n3_ n4_; clear hb ho37) | ((with_reducible refine gate_builtin (b := .append) (xs := #[.tmp 22, .tmp 23]) rfl ?_); (try (refine gate_guard (by rfl) ?_; dsimp only)); at_builtin; refine Kd.R_append_rows k24 (w0 := w) w.heap.size rfl (.tmp 22) (.tmp 23) 31 24 (.agg #[(.string ⟨#[]⟩), (.string ⟨#[]⟩)]) 32 rfl Tryd.underlying31 info24 rfl (by decide) (by omega) v219 y218 l0 _ _ _ (fun k_ => some k_ ≠ (.slice Ao22 y212.length co22 : Value).ownBlock ∧ some k_ ≠ (v216 : Value).ownBlock ∧ k_ ≠ gb204) (fun _ => False) rfl rfl ?aO ?aR (fun _ _ h => h) (fun _ h => h.elim) ?aF ?aB ?aS ?aL ?_; (case aR => repeat (first | exact (Kd.C_below HR0.out HB.out) | (with_reducible refine Kd.C_alloc ?_ _) | (with_reducible refine Kd.C_drewN ?_ _) | (with_reducible refine Kd.C_drew ?_))); (case aB => exact (by repeat (first | (with_reducible first | exact HB.out | apply below_alloc | apply pw_below_drewN | apply below_drew1 | refine below_set ?_ GE204.out) | exact HB.out))); (case aF => exact (fun k_ hk => ⟨Kd.fresh' (Kd.R_lt (by (with_reducible repeat (first | apply Kd.R_alloc | apply Kd.R_drewN | apply Kd.R_drew)); exact HO214.out)) k_ hk, Kd.fresh' (Kd.R_lt (by (with_reducible repeat (first | apply Kd.R_alloc | apply Kd.R_drewN | apply Kd.R_drew)); exact HO217.out)) k_ hk, Kd.freshB (g := gb204) (o := .cells #[.string a2_0, .string a2_1] 24 (0, 0)) (by (with_reducible repeat (first | refine blk_drewN ?_ _ | refine blk_drew ?_ | refine blk_alloc ?_ _)); exact BK204.out) k_ hk⟩)); (case aO => exact (by (with_reducible repeat (first | apply Kd.R_alloc | apply Kd.R_drewN | apply Kd.R_drew)); exact Kd.R_mono HO220.out (fun _ hk => ⟨hk.1.1.2, ⟨hk.1.2, hk.2⟩⟩))); (case aS => exact (below_size (by repeat (first | (with_reducible first | exact HB.out | apply below_alloc | apply pw_below_drewN | apply below_drew1 | refine below_set ?_ GE204.out) | exact HB.out)))); (case aL => have := LMc23.out; omega); intro v222 w38 ho hb hg hat; rw [← Ny221.out] at ho; have n0_ := Aside0.mk (blk_grown (g := gb204) (o := .cells #[.string a2_0, .string a2_1] 24 (0, 0)) (by (with_reducible repeat (first | refine blk_drewN ?_ _ | refine blk_drew ?_ | refine blk_alloc ?_ _)); exact BK204.out) hg (Kd.R_away HO220.out (fun _ hk => hk.2))); have n1_ := Aside0.mk (Kd.R_after (ok := (fun k_ => some k_ ≠ (v216 : Value).ownBlock ∧ k_ ≠ gb204)) (by (with_reducible repeat (first | apply Kd.R_alloc | apply Kd.R_drewN | apply Kd.R_drew)); exact Kd.R_mono HO214.out (fun _ hk => ⟨⟨hk.1.2, hk.1.1⟩, hk.2⟩)) hg hat); have n2_ := Aside0.mk (Kd.R_after (ok := (fun k_ => some k_ ≠ (.slice Ao22 y212.length co22 : Value).ownBlock ∧ k_ ≠ gb204)) (by (with_reducible repeat (first | apply Kd.R_alloc | apply Kd.R_drewN | apply Kd.R_drew)); exact HO217.out) hg hat); have n3_ := Aside0.mk (hb); have n4_ := Aside0.mk (ho); clear BK204; clear HO214; clear HO217; clear HB; clear HO220; have BK204 := n0_; have HO214 := n1_; have HO217 := n2_; have HB := n3_; have HO223 := n4_; clear n0_ n1_ n2_ n3_ n4_; clear ho hb hg hat; obtain ⟨Ao39, co39, eo39⟩ := Kd.R_slice HO223.out; subst eo39) | ((with_reducible refine gate_callee (f := 32) rfl ?_); refine goesL_ (some 25) rfl rfl Tryd.func32 (by kernel_rfl) rfl #[.slice A0 l0.length c0, .slice Ao39 y221.length co39] rfl (by (try simp only [List.map_toArray, List.map_cons, List.map_nil]); first | done | rfl | (simp only [List.length_drop, List.length_take]; rfl)) ?_; (with_reducible refine (field_Same.calls k _ _ l0 _ _ y221 true _ ?side1 ?side2 ?side3 ?side4 A24.out).mono ?_); (case side1 => repeat (first | exact (Kd.C_below HR0.out HB.out) | (with_reducible refine Kd.C_alloc ?_ _) | (with_reducible refine Kd.C_drewN ?_ _) | (with_reducible refine Kd.C_drew ?_))); (case side2 => exact HC0.out); (case side3 => repeat (first | exact (Kd.R_reads' HO223.out).2.2 | (with_reducible refine Kd.C_alloc ?_ _) | (with_reducible refine Kd.C_drewN ?_ _) | (with_reducible refine Kd.C_drew ?_))); (case side4 => exact (Kd.R_reads' HO223.out).2.1); rintro e w40 ⟨rfl, hb⟩; refine ⟨_, rfl, ?_⟩; have n0_ := Aside0.mk (Kd.R_below (by (with_reducible repeat (first | apply Kd.R_alloc | apply Kd.R_drewN | apply Kd.R_drew)); exact HO214.out) hb); have n1_ := Aside0.mk (Kd.R_below (by (with_reducible repeat (first | apply Kd.R_alloc | apply Kd.R_drewN | apply Kd.R_drew)); exact HO217.out) hb); have n2_ := Aside0.mk (Kd.R_below (by (with_reducible repeat (first | apply Kd.R_alloc | apply Kd.R_drewN | apply Kd.R_drew)); exact HO223.out) hb); have n3_ := Aside0.mk (blk_below (g := gb204) (o := .cells #[.string a2_0, .string a2_1] 24 (0, 0)) (by (with_reducible repeat (first | refine blk_drewN ?_ _ | refine blk_drew ?_ | refine blk_alloc ?_ _)); exact BK204.out) hb); have n4_ := Aside0.mk (below_step (by repeat (first | (with_reducible first | exact HB.out | apply below_alloc | apply pw_below_drewN | apply below_drew1 | refine below_set ?_ GE204.out) | exact HB.out)) hb); clear HO214; clear HO217; clear HO223; clear BK204; clear HB; have HO214 := n0_; have HO217 := n1_; have HO223 := n2_; have BK204 := n3_; have HB := n4_; clear n0_ n1_ n2_ n3_ n4_; (try clear hb); (try clear hb2); (try clear hk); (try clear hi); obtain ⟨Ao41, co41, eo41⟩ := Kd.R_slice HO217.out; subst eo41) | (go_at_call 32; (with_reducible refine (field_Same.calls k _ _ l0 _ _ y215 false _ ?side1 ?side2 ?side3 ?side4 A26.out).mono ?_); (case side1 => repeat (first | exact (Kd.C_below HR0.out HB.out) | (with_reducible refine Kd.C_alloc ?_ _) | (with_reducible refine Kd.C_drewN ?_ _) | (with_reducible refine Kd.C_drew ?_))); (case side2 => exact HC0.out); (case side3 => repeat (first | exact (Kd.R_reads' HO217.out).2.2 | (with_reducible refine Kd.C_alloc ?_ _) | (with_reducible refine Kd.C_drewN ?_ _) | (with_reducible refine Kd.C_drew ?_))); (case side4 => exact (Kd.R_reads' HO217.out).2.1); rintro e w42 ⟨rfl, hb⟩; have n0_ := Aside0.mk (Kd.R_below (by (with_reducible repeat (first | apply Kd.R_alloc | apply Kd.R_drewN | apply Kd.R_drew)); exact HO214.out) hb); have n1_ := Aside0.mk (Kd.R_below (by (with_reducible repeat (first | apply Kd.R_alloc | apply Kd.R_drewN | apply Kd.R_drew)); exact HO217.out) hb); have n2_ := Aside0.mk (Kd.R_below (by (with_reducible repeat (first | apply Kd.R_alloc | apply Kd.R_drewN | apply Kd.R_drew)); exact HO223.out) hb); have n3_ := Aside0.mk (blk_below (g := gb204) (o := .cells #[.string a2_0, .string a2_1] 24 (0, 0)) (by (with_reducible repeat (first | refine blk_drewN ?_ _ | refine blk_drew ?_ | refine blk_alloc ?_ _)); exact BK204.out) hb); have n4_ := Aside0.mk (below_step (by repeat (first | (with_reducible first | exact HB.out | apply below_alloc | apply pw_below_drewN | apply below_drew1 | refine below_set ?_ GE204.out) | exact HB.out)) hb); clear HO214; clear HO217; clear HO223; clear BK204; clear HB; have HO214 := n0_; have HO217 := n1_; have HO223 := n2_; have BK204 := n3_; have HB := n4_; clear n0_ n1_ n2_ n3_ n4_; (try clear hb); (try clear hb2); (try clear hk); (try clear hi)) | (go_at_call 32; (with_reducible refine (field_Same.calls k _ _ y215 _ _ l0 t226 _ ?side1 ?side2 ?side3 ?side4 A35.out).mono ?_); (case side1 => repeat (first | exact (Kd.R_reads' HO217.out).2.2 | (with_reducible refine Kd.C_alloc ?_ _) | (with_reducible refine Kd.C_drewN ?_ _) | (with_reducible refine Kd.C_drew ?_))); (case side2 => exact (Kd.R_reads' HO217.out).2.1); (case side3 => repeat (first | exact (Kd.C_below HR0.out HB.out) | (with_reducible refine Kd.C_alloc ?_ _) | (with_reducible refine Kd.C_drewN ?_ _) | (with_reducible refine Kd.C_drew ?_))); (case side4 => exact HC0.out); rintro e w43 ⟨rfl, hb⟩; have n0_ := Aside0.mk (Kd.R_below (by (with_reducible repeat (first | apply Kd.R_alloc | apply Kd.R_drewN | apply Kd.R_drew)); exact HO214.out) hb); have n1_ := Aside0.mk (Kd.R_below (by (with_reducible repeat (first | apply Kd.R_alloc | apply Kd.R_drewN | apply Kd.R_drew)); exact HO217.out) hb); have n2_ := Aside0.mk (Kd.R_below (by (with_reducible repeat (first | apply Kd.R_alloc | apply Kd.R_drewN | apply Kd.R_drew)); exact HO223.out) hb); have n3_ := Aside0.mk (blk_below (g := gb204) (o := .cells #[.string a2_0, .string a2_1] 24 (0, 0)) (by (with_reducible repeat (first | refine blk_drewN ?_ _ | refine blk_drew ?_ | refine blk_alloc ?_ _)); exact BK204.out) hb); have n4_ := Aside0.mk (below_step (by repeat (first | (with_reducible first | exact HB.out | apply below_alloc | apply pw_below_drewN | apply below_drew1 | refine below_set ?_ GE204.out) | exact HB.out)) hb); clear HO214; clear HO217; clear HO223; clear BK204; clear HB; have HO214 := n0_; have HO217 := n1_; have HO223 := n2_; have BK204 := n3_; have HB := n4_; clear n0_ n1_ n2_ n3_ n4_; (try clear hb); (try clear hb2); (try clear hk); (try clear hi)))
                  go_meet
                  case rel => exact ⟨_, (t226), (by first | rfl | (simp; done) | (simp [*]; done)), H', ⟨by first | omega | exact Nat.le_refl _⟩, ⟨by (with_reducible repeat (first | refine blk_drewN ?_ _ | refine blk_drew ?_ | refine blk_alloc ?_ _)); exact BK204.out⟩, ⟨by repeat (first | (with_reducible first | exact HB.out | apply below_alloc | apply pw_below_drewN | apply below_drew1 | refine below_set ?_ GE204.out) | exact HB.out)⟩⟩
              · replace c25 := Bool.eq_false_iff.mpr c25
                subst c25
                have H1 : (tollbarlaw04_FieldSame.j0 k l0 a1 true) = some r := by rw [if_neg (show ¬ (false = true) by decide)] at H; exact H
                clear H
                have H := H1
                clear H1
                have H' := Aside0.mk H
                clear H
                go_wp2_with (first | ((with_reducible refine gate_dst (N := 22) rfl ?_); (try (refine gate_guard (by rfl) ?_; dsimp only)); refine Kd.R_lit k24 _ 24 ?hg (N := 22) ?hd (xs := ([] : List (S24))) (inner := []) (ok := fun _ => True) (okp := fun _ => True) ?hr ?hp (fun _ hk => hk) trivial (Below.refl _ _) (Nat.le_refl _) (by simp) ?_; (case hd => rfl); (case hg => rfl); (case hr => first | (go_simp; done) | (go_simp; rfl)); (case hp => exact (Reps.none _ _)); intro v219 w44 ho45 hb hg_ hnew_; clear hg_ hnew_; (first | rw [← Ny218.out] at ho45 | (simp only [Int.reduceToNat] at ho45; rw [← Ny218.out] at ho45)); have n0_ := Aside0.mk (Kd.R_elder' (by (with_reducible repeat (first | apply Kd.R_alloc | apply Kd.R_drewN | apply Kd.R_drew)); exact HO214.out) (Kd.R_base ho45) hb); have n1_ := Aside0.mk (Kd.R_elder' (by (with_reducible repeat (first | apply Kd.R_alloc | apply Kd.R_drewN | apply Kd.R_drew)); exact HO217.out) (Kd.R_base ho45) hb); have n2_ := Aside0.mk (Kd.R_lower (Kd.R_newB (Kd.R_new' (Kd.R_new' ho45 (Kd.R_lt (by (with_reducible repeat (first | apply Kd.R_alloc | apply Kd.R_drewN | apply Kd.R_drew)); exact HO214.out))) (Kd.R_lt (by (with_reducible repeat (first | apply Kd.R_alloc | apply Kd.R_drewN | apply Kd.R_drew)); exact HO217.out))) (g := gb204) (o := .cells #[.string a2_0, .string a2_1] 24 (0, 0)) (by (with_reducible repeat (first | refine blk_drewN ?_ _ | refine blk_drew ?_ | refine blk_alloc ?_ _)); exact BK204.out)) (below_size (by repeat (first | (with_reducible first | exact HB.out | apply below_alloc | apply pw_below_drewN | apply below_drew1 | refine below_set ?_ GE204.out) | exact HB.out)))); have n3_ := Aside0.mk (blk_below (g := gb204) (o := .cells #[.string a2_0, .string a2_1] 24 (0, 0)) (by (with_reducible repeat (first | refine blk_drewN ?_ _ | refine blk_drew ?_ | refine blk_alloc ?_ _)); exact BK204.out) hb); have n4_ := Aside0.mk (below_step (by repeat (first | (with_reducible first | exact HB.out | apply below_alloc | apply pw_below_drewN | apply below_drew1 | refine below_set ?_ GE204.out) | exact HB.out)) hb); clear HO214; clear HO217; clear BK204; clear HB; have HO214 := n0_; have HO217 := n1_; have HO220 := n2_; have BK204 := n3_; have HB := n4_; clear n0_ n1_ n2_ n3_ n4_; clear hb ho45) | ((with_reducible refine gate_builtin (b := .append) (xs := #[.tmp 22, .tmp 23]) rfl ?_); (try (refine gate_guard (by rfl) ?_; dsimp only)); at_builtin; refine Kd.R_append_rows k24 (w0 := w) w.heap.size rfl (.tmp 22) (.tmp 23) 31 24 (.agg #[(.string ⟨#[]⟩), (.string ⟨#[]⟩)]) 32 rfl Tryd.underlying31 info24 rfl (by decide) (by omega) v219 y218 l0 _ _ _ (fun k_ => some k_ ≠ (.slice Ao22 y212.length co22 : Value).ownBlock ∧ some k_ ≠ (v216 : Value).ownBlock ∧ k_ ≠ gb204) (fun _ => False) rfl rfl ?aO ?aR (fun _ _ h => h) (fun _ h => h.elim) ?aF ?aB ?aS ?aL ?_; (case aR => repeat (first | exact (Kd.C_below HR0.out HB.out) | (with_reducible refine Kd.C_alloc ?_ _) | (with_reducible refine Kd.C_drewN ?_ _) | (with_reducible refine Kd.C_drew ?_))); (case aB => exact (by repeat (first | (with_reducible first | exact HB.out | apply below_alloc | apply pw_below_drewN | apply below_drew1 | refine below_set ?_ GE204.out) | exact HB.out))); (case aF => exact (fun k_ hk => ⟨Kd.fresh' (Kd.R_lt (by (with_reducible repeat (first | apply Kd.R_alloc | apply Kd.R_drewN | apply Kd.R_drew)); exact HO214.out)) k_ hk, Kd.fresh' (Kd.R_lt (by (with_reducible repeat (first | apply Kd.R_alloc | apply Kd.R_drewN | apply Kd.R_drew)); exact HO217.out)) k_ hk, Kd.freshB (g := gb204) (o := .cells #[.string a2_0, .string a2_1] 24 (0, 0)) (by (with_reducible repeat (first | refine blk_drewN ?_ _ | refine blk_drew ?_ | refine blk_alloc ?_ _)); exact BK204.out) k_ hk⟩)); (case aO => exact (by (with_reducible repeat (first | apply Kd.R_alloc | apply Kd.R_drewN | apply Kd.R_drew)); exact Kd.R_mono HO220.out (fun _ hk => ⟨hk.1.1.2, ⟨hk.1.2, hk.2⟩⟩))); (case aS => exact (below_size (by repeat (first | (with_reducible first | exact HB.out | apply below_alloc | apply pw_below_drewN | apply below_drew1 | refine below_set ?_ GE204.out) | exact HB.out)))); (case aL => have := LMc23.out; omega); intro v222 w46 ho hb hg hat; rw [← Ny221.out] at ho; have n0_ := Aside0.mk (blk_grown (g := gb204) (o := .cells #[.string a2_0, .string a2_1] 24 (0, 0)) (by (with_reducible repeat (first | refine blk_drewN ?_ _ | refine blk_drew ?_ | refine blk_alloc ?_ _)); exact BK204.out) hg (Kd.R_away HO220.out (fun _ hk => hk.2))); have n1_ := Aside0.mk (Kd.R_after (ok := (fun k_ => some k_ ≠ (v216 : Value).ownBlock ∧ k_ ≠ gb204)) (by (with_reducible repeat (first | apply Kd.R_alloc | apply Kd.R_drewN | apply Kd.R_drew)); exact Kd.R_mono HO214.out (fun _ hk => ⟨⟨hk.1.2, hk.1.1⟩, hk.2⟩)) hg hat); have n2_ := Aside0.mk (Kd.R_after (ok := (fun k_ => some k_ ≠ (.slice Ao22 y212.length co22 : Value).ownBlock ∧ k_ ≠ gb204)) (by (with_reducible repeat (first | apply Kd.R_alloc | apply Kd.R_drewN | apply Kd.R_drew)); exact HO217.out) hg hat); have n3_ := Aside0.mk (hb); have n4_ := Aside0.mk (ho); clear BK204; clear HO214; clear HO217; clear HB; clear HO220; have BK204 := n0_; have HO214 := n1_; have HO217 := n2_; have HB := n3_; have HO223 := n4_; clear n0_ n1_ n2_ n3_ n4_; clear ho hb hg hat; obtain ⟨Ao47, co47, eo47⟩ := Kd.R_slice HO223.out; subst eo47) | ((with_reducible refine gate_callee (f := 32) rfl ?_); refine goesL_ (some 25) rfl rfl Tryd.func32 (by kernel_rfl) rfl #[.slice A0 l0.length c0, .slice Ao47 y221.length co47] rfl (by (try simp only [List.map_toArray, List.map_cons, List.map_nil]); first | done | rfl | (simp only [List.length_drop, List.length_take]; rfl)) ?_; (with_reducible refine (field_Same.calls k _ _ l0 _ _ y221 false _ ?side1 ?side2 ?side3 ?side4 A24.out).mono ?_); (case side1 => repeat (first | exact (Kd.C_below HR0.out HB.out) | (with_reducible refine Kd.C_alloc ?_ _) | (with_reducible refine Kd.C_drewN ?_ _) | (with_reducible refine Kd.C_drew ?_))); (case side2 => exact HC0.out); (case side3 => repeat (first | exact (Kd.R_reads' HO223.out).2.2 | (with_reducible refine Kd.C_alloc ?_ _) | (with_reducible refine Kd.C_drewN ?_ _) | (with_reducible refine Kd.C_drew ?_))); (case side4 => exact (Kd.R_reads' HO223.out).2.1); rintro e w48 ⟨rfl, hb⟩; refine ⟨_, rfl, ?_⟩; have n0_ := Aside0.mk (Kd.R_below (by (with_reducible repeat (first | apply Kd.R_alloc | apply Kd.R_drewN | apply Kd.R_drew)); exact HO214.out) hb); have n1_ := Aside0.mk (Kd.R_below (by (with_reducible repeat (first | apply Kd.R_alloc | apply Kd.R_drewN | apply Kd.R_drew)); exact HO217.out) hb); have n2_ := Aside0.mk (Kd.R_below (by (with_reducible repeat (first | apply Kd.R_alloc | apply Kd.R_drewN | apply Kd.R_drew)); exact HO223.out) hb); have n3_ := Aside0.mk (blk_below (g := gb204) (o := .cells #[.string a2_0, .string a2_1] 24 (0, 0)) (by (with_reducible repeat (first | refine blk_drewN ?_ _ | refine blk_drew ?_ | refine blk_alloc ?_ _)); exact BK204.out) hb); have n4_ := Aside0.mk (below_step (by repeat (first | (with_reducible first | exact HB.out | apply below_alloc | apply pw_below_drewN | apply below_drew1 | refine below_set ?_ GE204.out) | exact HB.out)) hb); clear HO214; clear HO217; clear HO223; clear BK204; clear HB; have HO214 := n0_; have HO217 := n1_; have HO223 := n2_; have BK204 := n3_; have HB := n4_; clear n0_ n1_ n2_ n3_ n4_; (try clear hb); (try clear hb2); (try clear hk); (try clear hi)))
                go_meet
                case rel => exact ⟨_, (true), (by first | rfl | (simp; done) | (simp [*]; done)), H', ⟨by first | omega | exact Nat.le_refl _⟩, ⟨by (with_reducible repeat (first | refine blk_drewN ?_ _ | refine blk_drew ?_ | refine blk_alloc ?_ _)); exact BK204.out⟩, ⟨by repeat (first | (with_reducible first | exact HB.out | apply below_alloc | apply pw_below_drewN | apply below_drew1 | refine below_set ?_ GE204.out) | exact HB.out)⟩⟩
            · rw [if_neg c23] at H
              exact absurd H (by simp)
          case rest =>
            clear HC11
            try clear c1
            try clear c2
            try clear p2
            try clear c3
            try clear c5
            try clear c6
            try clear c6b0
            try clear c6b1
            try clear c9
            try clear c10
            try clear c18
            try clear c23
            try clear c25
            try clear c27
            try clear c32
            obtain ⟨kq, x36_10, rfl, HA, HJ10, BK204, HB⟩ := hcut
            cases kq with
            | zero => exact absurd HA.out (by simp [tollbarlaw04_FieldSame.j0])
            | succ kj10 =>
              have H := HA.out
              clear HA
              simp only [tollbarlaw04_FieldSame.j0] at H
              by_cases c49 : x36_10 = true
              · subst c49
                have H1 : (none) = some r := by rw [if_pos rfl] at H; exact H
                clear H
                have H := H1
                clear H1
                exact absurd H (by simp)
              · replace c49 := Bool.eq_false_iff.mpr c49
                subst c49
                have H1 : (if (l0.length : Int) = 0 then (some true) else ((some (([] : List (S24)) : List (S24))).bind fun y227 => (if y227.length + l0.length < 4398046511104 then ((some (y227 ++ l0 : List (S24))).bind fun y230 => (if 0 ≤ (Int.tmod (Go.bits .and .i64 a1 1023) (l0.length : Int)) then (if (Int.tmod (Go.bits .and .i64 a1 1023) (l0.length : Int)) < (y230.length : Int) then (if ((rd_T24 y230 (Int.tmod (Go.bits .and .i64 a1 1023) (l0.length : Int))).f1).size + 1 ≤ 9223372036854775807 then ((some (y230.set ((Int.tmod (Go.bits .and .i64 a1 1023) (l0.length : Int)) : Int).toNat (⟨(rd_T24 y230 (Int.tmod (Go.bits .and .i64 a1 1023) (l0.length : Int))).f0, ((rd_T24 y230 (Int.tmod (Go.bits .and .i64 a1 1023) (l0.length : Int))).f1) ++ (⟨#[120]⟩ : ByteArray)⟩ : S24) : List (S24))).bind fun y234 => ((field_Same.f kj10 l0 y234).bind fun t235 => (if t235 = true then (none) else (if 0 ≤ (wrap64 ((l0.length : Int) - 1)) then (if (wrap64 ((l0.length : Int) - 1)) ≤ (y230.length : Int) then ((field_Same.f kj10 (y234.take ((wrap64 ((l0.length : Int) - 1)) : Int).toNat) l0).bind fun t240 => (some (!t240))) else (none)) else (none))))) else (none)) else (none)) else (none))) else (none)))) = some r := by rw [if_neg (show ¬ (false = true) by decide)] at H; exact H
                clear H
                have H := H1
                clear H1
                by_cases c50 : (l0.length : Int) = 0
                · rw [if_pos c50] at H
                  have c50b0 : ((l0.length : Int) == 0) = true := beq_iff_eq.mpr c50
                  have c50b1 : ((l0.length : Int) != 0) = false := bne_eq_false_iff_eq.mpr c50
                  clear c50
                  obtain rfl := Option.some.inj H
                  go_wp2
                  go_ret
                  exact ⟨by first | rfl | (simp [errW_none, errW_some] <;> rfl) | (simp [*, errW_none, errW_some] <;> rfl), by repeat (first | (with_reducible first | exact HB.out | apply below_alloc | apply pw_below_drewN | apply below_drew1 | refine below_set ?_ GE204.out) | exact HB.out)⟩
                · rw [if_neg c50] at H
                  have c50b0 : ((l0.length : Int) == 0) = false := beq_eq_false_iff_ne.mpr c50
                  have c50b1 : ((l0.length : Int) != 0) = true := bne_iff_ne.mpr c50
                  have c50b2 : ¬ (l0 = []) := fun h_ => c50 (by rw [h_]; rfl)
                  obtain ⟨y227, hy227⟩ : ∃ y_ : List (S24), y_ = (([] : List (S24))) := ⟨_, rfl⟩
                  replace H : (if y227.length + l0.length < 4398046511104 then ((some (y227 ++ l0 : List (S24))).bind fun y230 => (if 0 ≤ (Int.tmod (Go.bits .and .i64 a1 1023) (l0.length : Int)) then (if (Int.tmod (Go.bits .and .i64 a1 1023) (l0.length : Int)) < (y230.length : Int) then (if ((rd_T24 y230 (Int.tmod (Go.bits .and .i64 a1 1023) (l0.length : Int))).f1).size + 1 ≤ 9223372036854775807 then ((some (y230.set ((Int.tmod (Go.bits .and .i64 a1 1023) (l0.length : Int)) : Int).toNat (⟨(rd_T24 y230 (Int.tmod (Go.bits .and .i64 a1 1023) (l0.length : Int))).f0, ((rd_T24 y230 (Int.tmod (Go.bits .and .i64 a1 1023) (l0.length : Int))).f1) ++ (⟨#[120]⟩ : ByteArray)⟩ : S24) : List (S24))).bind fun y234 => ((field_Same.f kj10 l0 y234).bind fun t235 => (if t235 = true then (none) else (if 0 ≤ (wrap64 ((l0.length : Int) - 1)) then (if (wrap64 ((l0.length : Int) - 1)) ≤ (y230.length : Int) then ((field_Same.f kj10 (y234.take ((wrap64 ((l0.length : Int) - 1)) : Int).toNat) l0).bind fun t240 => (some (!t240))) else (none)) else (none))))) else (none)) else (none)) else (none))) else (none)) = some r := by first | (rw [hy227]; with_reducible exact H) | (have H2_ := (Option.bind_some _ _).symm.trans H; rw [hy227]; with_reducible exact H2_) | (have H2_ := (Option.bind_some _ _).symm.trans H; with_reducible exact H2_) | with_reducible exact H | (rw [hy227]; exact H) | exact H
                  have Ny227 := Aside0.mk hy227
                  clear hy227
                  by_cases c51 : y227.length + l0.length < 4398046511104
                  · rw [if_pos c51] at H
                    have LMc51 := Aside0.mk c51
                    clear c51
                    obtain ⟨y230, hy230⟩ : ∃ y_ : List (S24), y_ = (y227 ++ l0) := ⟨_, rfl⟩
                    replace H : (if 0 ≤ (Int.tmod (Go.bits .and .i64 a1 1023) (l0.length : Int)) then (if (Int.tmod (Go.bits .and .i64 a1 1023) (l0.length : Int)) < (y230.length : Int) then (if ((rd_T24 y230 (Int.tmod (Go.bits .and .i64 a1 1023) (l0.length : Int))).f1).size + 1 ≤ 9223372036854775807 then ((some (y230.set ((Int.tmod (Go.bits .and .i64 a1 1023) (l0.length : Int)) : Int).toNat (⟨(rd_T24 y230 (Int.tmod (Go.bits .and .i64 a1 1023) (l0.length : Int))).f0, ((rd_T24 y230 (Int.tmod (Go.bits .and .i64 a1 1023) (l0.length : Int))).f1) ++ (⟨#[120]⟩ : ByteArray)⟩ : S24) : List (S24))).bind fun y234 => ((field_Same.f kj10 l0 y234).bind fun t235 => (if t235 = true then (none) else (if 0 ≤ (wrap64 ((l0.length : Int) - 1)) then (if (wrap64 ((l0.length : Int) - 1)) ≤ (y230.length : Int) then ((field_Same.f kj10 (y234.take ((wrap64 ((l0.length : Int) - 1)) : Int).toNat) l0).bind fun t240 => (some (!t240))) else (none)) else (none))))) else (none)) else (none)) else (none)) = some r := by first | (rw [hy230]; with_reducible exact H) | (have H2_ := (Option.bind_some _ _).symm.trans H; rw [hy230]; with_reducible exact H2_) | (have H2_ := (Option.bind_some _ _).symm.trans H; with_reducible exact H2_) | with_reducible exact H | (rw [hy230]; exact H) | exact H
                    have Ny230 := Aside0.mk hy230
                    clear hy230
                    obtain ⟨ji52, hji52⟩ : ∃ j_ : Int, (Int.tmod (Go.bits .and .i64 a1 1023) (l0.length : Int)) = j_ := ⟨_, rfl⟩
                    replace H : (if 0 ≤ (ji52) then (if (ji52) < (y230.length : Int) then (if ((rd_T24 y230 (ji52)).f1).size + 1 ≤ 9223372036854775807 then ((some (y230.set ((ji52) : Int).toNat (⟨(rd_T24 y230 (ji52)).f0, ((rd_T24 y230 (ji52)).f1) ++ (⟨#[120]⟩ : ByteArray)⟩ : S24) : List (S24))).bind fun y234 => ((field_Same.f kj10 l0 y234).bind fun t235 => (if t235 = true then (none) else (if 0 ≤ (wrap64 ((l0.length : Int) - 1)) then (if (wrap64 ((l0.length : Int) - 1)) ≤ (y230.length : Int) then ((field_Same.f kj10 (y234.take ((wrap64 ((l0.length : Int) - 1)) : Int).toNat) l0).bind fun t240 => (some (!t240))) else (none)) else (none))))) else (none)) else (none)) else (none)) = some r := by first | (rw [hji52] at H; exact H) | (simp only [hji52] at H ⊢; exact H)
                    by_cases c53 : 0 ≤ (ji52)
                    · rw [if_pos c53] at H
                      have c53b0 : decide (0 ≤ (ji52)) = true := decide_eq_true c53
                      clear c53
                      by_cases c54 : (ji52) < (y230.length : Int)
                      · rw [if_pos c54] at H
                        have c54b0 : decide ((ji52) < (y230.length : Int)) = true := decide_eq_true c54
                        clear c54
                        by_cases c55 : ((rd_T24 y230 (ji52)).f1).size + 1 ≤ 9223372036854775807
                        · rw [if_pos c55] at H
                          have c55b0 := eq_true c55
                          try (have c55z_ := c55; simp only [xsz_app, xsz_rest, xsz_mk, List.length_cons, List.length_nil, Nat.zero_add, Int.natCast_add] at c55z_)
                          have c55b1 : decide (((rd_T24 y230 (ji52)).f1).size + 1 ≤ 9223372036854775807) = true := decide_eq_true c55
                          try have c55b2 : (9223372036854775807 < ((rd_T24 y230 (ji52)).f1).size + 1) = False := eq_false (Nat.not_lt.2 c55)
                          obtain ⟨y234, hy234⟩ : ∃ y_ : List (S24), y_ = (y230.set ((ji52) : Int).toNat (⟨(rd_T24 y230 (ji52)).f0, ((rd_T24 y230 (ji52)).f1) ++ (⟨#[120]⟩ : ByteArray)⟩ : S24)) := ⟨_, rfl⟩
                          replace H : ((field_Same.f kj10 l0 y234).bind fun t235 => (if t235 = true then (none) else (if 0 ≤ (wrap64 ((l0.length : Int) - 1)) then (if (wrap64 ((l0.length : Int) - 1)) ≤ (y230.length : Int) then ((field_Same.f kj10 (y234.take ((wrap64 ((l0.length : Int) - 1)) : Int).toNat) l0).bind fun t240 => (some (!t240))) else (none)) else (none)))) = some r := by first | (rw [hy234]; with_reducible exact H) | (have H2_ := (Option.bind_some _ _).symm.trans H; rw [hy234]; with_reducible exact H2_) | (have H2_ := (Option.bind_some _ _).symm.trans H; with_reducible exact H2_) | with_reducible exact H | (rw [hy234]; exact H) | exact H
                          have Ny234 := Aside0.mk hy234
                          clear hy234
                          replace H := Option.bind_eq_some_iff.mp H
                          obtain ⟨t235, A570, H⟩ := H
                          replace H : (if t235 = true then (none) else (if 0 ≤ (wrap64 ((l0.length : Int) - 1)) then (if (wrap64 ((l0.length : Int) - 1)) ≤ (y230.length : Int) then ((field_Same.f kj10 (y234.take ((wrap64 ((l0.length : Int) - 1)) : Int).toNat) l0).bind fun t240 => (some (!t240))) else (none)) else (none))) = some r := H
                          have A57 := Aside0.mk A570
                          clear A570
                          by_cases c58 : t235 = true
                          · subst c58
                            have H1 : (none) = some r := by rw [if_pos rfl] at H; exact H
                            clear H
                            have H := H1
                            clear H1
                            exact absurd H (by simp)
                          · replace c58 := Bool.eq_false_iff.mpr c58
                            subst c58
                            have H1 : (if 0 ≤ (wrap64 ((l0.length : Int) - 1)) then (if (wrap64 ((l0.length : Int) - 1)) ≤ (y230.length : Int) then ((field_Same.f kj10 (y234.take ((wrap64 ((l0.length : Int) - 1)) : Int).toNat) l0).bind fun t240 => (some (!t240))) else (none)) else (none)) = some r := by rw [if_neg (show ¬ (false = true) by decide)] at H; exact H
                            clear H
                            have H := H1
                            clear H1
                            obtain ⟨ji59, hji59⟩ : ∃ j_ : Int, (wrap64 ((l0.length : Int) - 1)) = j_ := ⟨_, rfl⟩
                            replace H : (if 0 ≤ (ji59) then (if (ji59) ≤ (y230.length : Int) then ((field_Same.f kj10 (y234.take ((ji59) : Int).toNat) l0).bind fun t240 => (some (!t240))) else (none)) else (none)) = some r := by first | (rw [hji59] at H; exact H) | (simp only [hji59] at H ⊢; exact H)
                            (try rw [hji59] at A57)
                            have hji59w : (IntKind.i64.wrap ((l0.length : Int) - 1)) = ji59 := (i64_w _).trans hji59
                            by_cases c60 : 0 ≤ (ji59)
                            · rw [if_pos c60] at H
                              have c60b0 := eq_true c60
                              have c60b1 : decide (0 ≤ (ji59)) = true := decide_eq_true c60
                              clear c60
                              by_cases c61 : (ji59) ≤ (y230.length : Int)
                              · rw [if_pos c61] at H
                                have c61b0 := eq_true c61
                                have c61b1 : decide ((ji59) ≤ (y230.length : Int)) = true := decide_eq_true c61
                                clear c61
                                obtain ⟨y236, hy236⟩ : ∃ y_ : List (S24), y_ = (y234.take ((ji59) : Int).toNat) := ⟨_, rfl⟩
                                replace H : ((field_Same.f kj10 y236 l0).bind fun t240 => (some (!t240))) = some r := by first | (rw [hy236]; with_reducible exact H) | (have H2_ := (Option.bind_some _ _).symm.trans H; rw [hy236]; with_reducible exact H2_) | (have H2_ := (Option.bind_some _ _).symm.trans H; with_reducible exact H2_) | with_reducible exact H | (rw [hy236]; exact H) | exact H
                                have Ny236 := Aside0.mk hy236
                                clear hy236
                                replace H := Option.bind_eq_some_iff.mp H
                                obtain ⟨t240, A620, H⟩ := H
                                replace H : (some (!t240)) = some r := H
                                have A62 := Aside0.mk A620
                                clear A620
                                obtain rfl := Option.some.inj H
                                go_wp2_with (first | ((with_reducible refine gate_dst (N := 40) rfl ?_); (try (refine gate_guard (by rfl) ?_; dsimp only)); refine Kd.R_lit k24 _ 24 ?hg (N := 40) ?hd (xs := ([] : List (S24))) (inner := []) (ok := fun _ => True) (okp := fun _ => True) ?hr ?hp (fun _ hk => hk) trivial (Below.refl _ _) (Nat.le_refl _) (by simp) ?_; (case hd => rfl); (case hg => rfl); (case hr => first | (go_simp; done) | (go_simp; rfl)); (case hp => exact (Reps.none _ _)); intro v228 w63 ho64 hb hg_ hnew_; clear hg_ hnew_; (first | rw [← Ny227.out] at ho64 | (simp only [Int.reduceToNat] at ho64; rw [← Ny227.out] at ho64)); have n0_ := Aside0.mk (Kd.R_lower (Kd.R_newB ho64 (g := gb204) (o := .cells #[.string a2_0, .string a2_1] 24 (0, 0)) (by (with_reducible repeat (first | refine blk_drewN ?_ _ | refine blk_drew ?_ | refine blk_alloc ?_ _)); exact BK204.out)) (below_size (by repeat (first | (with_reducible first | exact HB.out | apply below_alloc | apply pw_below_drewN | apply below_drew1 | refine below_set ?_ GE204.out) | exact HB.out)))); have n1_ := Aside0.mk (blk_below (g := gb204) (o := .cells #[.string a2_0, .string a2_1] 24 (0, 0)) (by (with_reducible repeat (first | refine blk_drewN ?_ _ | refine blk_drew ?_ | refine blk_alloc ?_ _)); exact BK204.out) hb); have n2_ := Aside0.mk (below_step (by repeat (first | (with_reducible first | exact HB.out | apply below_alloc | apply pw_below_drewN | apply below_drew1 | refine below_set ?_ GE204.out) | exact HB.out)) hb); clear BK204; clear HB; have HO229 := n0_; have BK204 := n1_; have HB := n2_; clear n0_ n1_ n2_; clear hb ho64) | ((with_reducible refine gate_builtin (b := .append) (xs := #[.tmp 40, .tmp 41]) rfl ?_); (try (refine gate_guard (by rfl) ?_; dsimp only)); at_builtin; refine Kd.R_append_rows k24 (w0 := w) w.heap.size rfl (.tmp 40) (.tmp 41) 31 24 (.agg #[(.string ⟨#[]⟩), (.string ⟨#[]⟩)]) 32 rfl Tryd.underlying31 info24 rfl (by decide) (by omega) v228 y227 l0 _ _ _ (fun k_ => k_ ≠ gb204) (fun _ => False) rfl rfl ?aO ?aR (fun _ _ h => h) (fun _ h => h.elim) ?aF ?aB ?aS ?aL ?_; (case aR => repeat (first | exact (Kd.C_below HR0.out HB.out) | (with_reducible refine Kd.C_alloc ?_ _) | (with_reducible refine Kd.C_drewN ?_ _) | (with_reducible refine Kd.C_drew ?_))); (case aB => exact (by repeat (first | (with_reducible first | exact HB.out | apply below_alloc | apply pw_below_drewN | apply below_drew1 | refine below_set ?_ GE204.out) | exact HB.out))); (case aF => exact (fun k_ hk => Kd.freshB (g := gb204) (o := .cells #[.string a2_0, .string a2_1] 24 (0, 0)) (by (with_reducible repeat (first | refine blk_drewN ?_ _ | refine blk_drew ?_ | refine blk_alloc ?_ _)); exact BK204.out) k_ hk)); (case aO => exact (by (with_reducible repeat (first | apply Kd.R_alloc | apply Kd.R_drewN | apply Kd.R_drew)); exact Kd.R_mono HO229.out (fun _ hk => hk.2))); (case aS => exact (below_size (by repeat (first | (with_reducible first | exact HB.out | apply below_alloc | apply pw_below_drewN | apply below_drew1 | refine below_set ?_ GE204.out) | exact HB.out)))); (case aL => have := LMc51.out; omega); intro v231 w65 ho hb hg hat; rw [← Ny230.out] at ho; have n0_ := Aside0.mk (blk_grown (g := gb204) (o := .cells #[.string a2_0, .string a2_1] 24 (0, 0)) (by (with_reducible repeat (first | refine blk_drewN ?_ _ | refine blk_drew ?_ | refine blk_alloc ?_ _)); exact BK204.out) hg (Kd.R_away HO229.out (fun _ hk => hk.2))); have n1_ := Aside0.mk (hb); have n2_ := Aside0.mk (ho); clear BK204; clear HB; clear HO229; have BK204 := n0_; have HB := n1_; have HO232 := n2_; clear n0_ n1_ n2_; clear ho hb hg hat; obtain ⟨Ao66, co66, eo66⟩ := Kd.R_slice HO232.out; subst eo66; have p233 : 0 ≤ ((ji52) : Int) := of_decide_eq_true (by first | (with_reducible assumption) | assumption); have q233 : (ji52) < (y230.length : Int) := of_decide_eq_true (by first | (with_reducible assumption) | assumption); obtain ⟨ad233, e233, hx233_0, hx233_1⟩ := at_T24 (Kd.R_reads' HO232.out).2.2 (ji52) p233 q233; cases e233; replace p233 := eq_true p233; replace q233 := eq_true q233; have p56 : 0 ≤ ((ji52) : Int) := of_decide_eq_true (by first | (with_reducible assumption) | assumption); have q56 : ((ji52) : Int) < ((y230.length : Int) : Int) := of_decide_eq_true (by first | (with_reducible assumption) | assumption); obtain ⟨go56, co56, eo56, gb56, gl56, cl56, HG56⟩ := Kd.R_form HO232.out (by omega); (first | cases eo56 | (injection eo56 with ea_ en_ ec_; (first | subst ea_ | (injection ea_ with ea_; subst ea_)); subst ec_; clear en_)); have GB56 := Aside0.mk gb56; have GG56 := Aside0.mk HG56; clear gb56 gl56 HG56; (first | simp only [add_plain] at hx233_0 | skip); (first | simp only [add_plain] at hx233_1 | skip); obtain ⟨ce56, hcl56, hM56, hcc56, hfr56⟩ := Kd.R_elem HO232.out z24 ((ji52) : Int) p56 q56; obtain rfl := k24_openM hM56; have hx56_0 : w65.cell? ⟨go56, ((ji52) : Int).toNat * 2, none⟩ = some (.string ((rd_T24 y230 (ji52)).f0)) := hcc56 0 _ rfl; have hx56_1 : w65.cell? ⟨go56, ((ji52) : Int).toNat * 2 + 1, none⟩ = some (.string ((rd_T24 y230 (ji52)).f1)) := hcc56 1 _ rfl; have hf56_0 : w65.frozen? ⟨go56, ((ji52) : Int).toNat * 2, none⟩ = false := hfr56 0; have hf56_1 : w65.frozen? ⟨go56, ((ji52) : Int).toNat * 2 + 1, none⟩ = false := hfr56 1; clear hcl56 hcc56 hfr56 hM56; replace p56 := eq_true p56; replace q56 := eq_true q56; have HX67 := Aside0.mk (show Kd.R k24 24 w65 w.heap.size (fun k_ => k_ ≠ gb204) (.slice (some ⟨go56, 0, none⟩) y230.length co66) y230 from (by (with_reducible repeat (first | apply Kd.R_alloc | apply Kd.R_drewN | apply Kd.R_drew)); exact HO232.out)); obtain ⟨ce67, hcl67, hM67, hcc67, hfr67⟩ := Kd.R_elem HX67.out z24 ((ji52) : Int) (of_decide_eq_true (by first | (with_reducible assumption) | assumption)) (by have h_ : ((ji52) : Int) < ((y230.length : Int) : Int) := of_decide_eq_true (by first | (with_reducible assumption) | assumption); first | exact h_ | (have e_ := (Kd.R_reads' HO232.out).1; omega) | simpa using h_); obtain rfl := k24_openM hM67; have HP67 := Kd.R_seg HX67.out ((ji52) : Int) (of_decide_eq_true (by first | (with_reducible assumption) | assumption)) (by have h_ : ((ji52) : Int) < ((y230.length : Int) : Int) := of_decide_eq_true (by first | (with_reducible assumption) | assumption); first | exact h_ | (have e_ := (Kd.R_reads' HO232.out).1; omega) | simpa using h_) (seg := [.string (((rd_T24 y230 (ji52)).f1) ++ (⟨#[120]⟩ : ByteArray))]) (j := 1) hcl67 hcc67 (show 2 ≤ 2 from by decide) (x' := (⟨(rd_T24 y230 (ji52)).f0, ((rd_T24 y230 (ji52)).f1) ++ (⟨#[120]⟩ : ByteArray)⟩ : S24)) (k24_mkM _ _ _ (⟨(rd_T24 y230 (ji52)).f0, ((rd_T24 y230 (ji52)).f1) ++ (⟨#[120]⟩ : ByteArray)⟩ : S24) ) (fun _ hk => hk); have hx67_1 := hcc67 1 _ rfl; (try simp only [show (k24).sz = 2 from rfl, Nat.mul_one, Nat.add_zero] at hx67_1); have hf67_1 := hfr67 1; (try simp only [show (k24).sz = 2 from rfl, Nat.mul_one, Nat.add_zero] at hf67_1); clear hcl67 hcc67 hfr67 hM67) | ((with_reducible refine gate_store (t := 9) (p := 55) rfl ?_); refine store_event (t := 9) (p := 55) (v := ?vo_w68) (w1 := (w65.setCell ⟨go56, ((ji52) : Int).toNat * 2 + 1, none⟩ (.string (((rd_T24 y230 (ji52)).f1) ++ (⟨#[120]⟩ : ByteArray))))) ?hg ?ho ?hn ?hr ?_; (case ho => rfl); (case hg => rfl); (case hn => rfl); (case hr => first | (go_simp; done) | (go_simp; rfl)); intro w68 hw; have hg : w65.grownBy w68 (some go56) := (by rw [hw]; exact HP67.2); have hp_ : Kd.R k24 24 w68 w.heap.size (fun k_ => k_ ≠ gb204) (.slice (some ⟨go56, 0, none⟩) y230.length co66) y234 := (by rw [hw, Ny234.out]; exact HP67.1); clear HP67; have n0_ := Aside0.mk (blk_grown (g := gb204) (o := .cells #[.string a2_0, .string a2_1] 24 (0, 0)) (by (with_reducible repeat (first | refine blk_drewN ?_ _ | refine blk_drew ?_ | refine blk_alloc ?_ _)); exact BK204.out) hg (Kd.R_away HO232.out (fun _ hk => hk))); have n1_ := Aside0.mk (hp_); have n2_ := Aside0.mk ((by rw [hw]; exact below_set (HB.out) GB56.out : Below w.heap.size w w68)); clear BK204; clear HO232; clear HB; have BK204 := n0_; have HO232 := n1_; have HB := n2_; clear n0_ n1_ n2_; clear hg hw hp_) | ((with_reducible refine gate_callee (f := 32) rfl ?_); refine goesL_ (some 58) rfl rfl Tryd.func32 (by kernel_rfl) rfl #[.slice A0 l0.length c0, .slice (some ⟨go56, 0, none⟩) y234.length co66] rfl (by (try simp only [List.map_toArray, List.map_cons, List.map_nil]); first | done | (rw [show y234.length = y230.length from (Kd.R_reads' HO232.out).1.symm] <;> rfl) | rfl | (simp only [List.length_drop, List.length_take]; rfl)) ?_; (with_reducible refine (field_Same.calls kj10 _ _ l0 _ _ y234 false _ ?side1 ?side2 ?side3 ?side4 A57.out).mono ?_); (case side1 => repeat (first | exact (Kd.C_below HR0.out HB.out) | (with_reducible refine Kd.C_alloc ?_ _) | (with_reducible refine Kd.C_drewN ?_ _) | (with_reducible refine Kd.C_drew ?_))); (case side2 => exact HC0.out); (case side3 => repeat (first | exact (Kd.R_reads' HO232.out).2.2 | (with_reducible refine Kd.C_alloc ?_ _) | (with_reducible refine Kd.C_drewN ?_ _) | (with_reducible refine Kd.C_drew ?_))); (case side4 => rw [show y234.length = y230.length from (Kd.R_reads' HO232.out).1.symm]; exact (Kd.R_reads' HO232.out).2.1); rintro e w69 ⟨rfl, hb⟩; refine ⟨_, rfl, ?_⟩; have n0_ := Aside0.mk (Kd.R_below (by (with_reducible repeat (first | apply Kd.R_alloc | apply Kd.R_drewN | apply Kd.R_drew)); exact HO232.out) hb); have n1_ := Aside0.mk (blk_below (g := gb204) (o := .cells #[.string a2_0, .string a2_1] 24 (0, 0)) (by (with_reducible repeat (first | refine blk_drewN ?_ _ | refine blk_drew ?_ | refine blk_alloc ?_ _)); exact BK204.out) hb); have n2_ := Aside0.mk (below_step (by repeat (first | (with_reducible first | exact HB.out | apply below_alloc | apply pw_below_drewN | apply below_drew1 | refine below_set ?_ GE204.out) | exact HB.out)) hb); clear HO232; clear BK204; clear HB; have HO232 := n0_; have BK204 := n1_; have HB := n2_; clear n0_ n1_ n2_; (try clear hb); (try clear hb2); (try clear hk); (try clear hi); have hlx70 := (Kd.R_reads' HO232.out).1; have q70 : ((ji59) : Int) ≤ ((y230.length : Int) : Int) := of_decide_eq_true (by first | (with_reducible assumption) | assumption); obtain ⟨i070, hi070, _, hsz70, _⟩ := info_parts info24; have hroom70 : y230.length ≤ co66 := (Kd.R_reads' HO232.out).2.1; have hroomc70 : y234.length ≤ co66 := (by rw [← hlx70]; exact hroom70); have hC70 : Kd.C k24 _ (some ⟨go56, 0, none⟩) y234.length y234 := (Kd.R_reads' HO232.out).2.2; have hcut70 := cut_to (P := Tryd.prog) 31 24 .i64 Tryd.underlying31 hi070 (some ⟨go56, 0, none⟩) y230.length co66 (ji59) (of_decide_eq_true (by first | (with_reducible assumption) | assumption)) q70 hroom70; have hr70 := Kd.C_take (m := ((ji59) : Int).toNat) hC70 (by omega); have hy70 : y236.length = ((ji59) : Int).toNat := (by rw [Ny236.out, List.length_take]; omega); rw [← Ny236.out] at hr70; rw [← hy70] at hcut70; have HR239 := Aside0.mk hr70; have HC239 := Aside0.mk (show y236.length ≤ co66 from by omega); clear hr70 hC70 hroom70 hi070 hsz70 hroomc70; have KY70 := Aside0.mk hy70; clear hy70; have KE70 := Aside0.mk hlx70; have KL70 := Aside0.mk (show ((ji59) : Int).toNat ≤ y234.length from by omega); clear hlx70; replace q70 := eq_true q70) | (go_at_call 32; (with_reducible refine (field_Same.calls kj10 _ _ y236 _ _ l0 t240 _ ?side1 ?side2 ?side3 ?side4 A62.out).mono ?_); (case side1 => repeat (first | exact (by repeat (first | (with_reducible exact HR239.out) | (with_reducible refine Kd.C_alloc ?_ _) | (with_reducible refine Kd.C_drewN ?_ _) | (with_reducible refine Kd.C_drew ?_) | exact HR239.out)) | (with_reducible refine Kd.C_alloc ?_ _) | (with_reducible refine Kd.C_drewN ?_ _) | (with_reducible refine Kd.C_drew ?_))); (case side2 => exact HC239.out); (case side3 => repeat (first | exact (Kd.C_below HR0.out HB.out) | (with_reducible refine Kd.C_alloc ?_ _) | (with_reducible refine Kd.C_drewN ?_ _) | (with_reducible refine Kd.C_drew ?_))); (case side4 => exact HC0.out); rintro e w71 ⟨rfl, hb⟩; have n0_ := Aside0.mk (Kd.R_below (by (with_reducible repeat (first | apply Kd.R_alloc | apply Kd.R_drewN | apply Kd.R_drew)); exact HO232.out) hb); have n1_ := Aside0.mk (blk_below (g := gb204) (o := .cells #[.string a2_0, .string a2_1] 24 (0, 0)) (by (with_reducible repeat (first | refine blk_drewN ?_ _ | refine blk_drew ?_ | refine blk_alloc ?_ _)); exact BK204.out) hb); have n2_ := Aside0.mk (Kd.C_below (by repeat (first | (with_reducible exact HR239.out) | (with_reducible refine Kd.C_alloc ?_ _) | (with_reducible refine Kd.C_drewN ?_ _) | (with_reducible refine Kd.C_drew ?_) | exact HR239.out)) hb); have n3_ := Aside0.mk (below_step (by repeat (first | (with_reducible first | exact HB.out | apply below_alloc | apply pw_below_drewN | apply below_drew1 | refine below_set ?_ GE204.out) | exact HB.out)) hb); clear HO232; clear BK204; clear HR239; clear HB; have HO232 := n0_; have BK204 := n1_; have HR239 := n2_; have HB := n3_; clear n0_ n1_ n2_ n3_; (try clear hb); (try clear hb2); (try clear hk); (try clear hi)))
                                go_ret
                                exact ⟨by first | rfl | (simp [errW_none, errW_some] <;> rfl) | (simp only [← hji52, ← hji59]; first | rfl | (simp [errW_none, errW_some] <;> rfl)) | (simp [*, errW_none, errW_some] <;> rfl), by repeat (first | (with_reducible first | exact HB.out | apply below_alloc | apply pw_below_drewN | apply below_drew1 | refine below_set ?_ GE204.out) | exact HB.out)⟩
                              · rw [if_neg c61] at H
                                exact absurd H (by simp)
                            · rw [if_neg c60] at H
                              exact absurd H (by simp)
                        · rw [if_neg c55] at H
                          exact absurd H (by simp)
                      · rw [if_neg c54] at H
                        exact absurd H (by simp)
                    · rw [if_neg c53] at H
                      exact absurd H (by simp)
                  · rw [if_neg c51] at H
                    exact absurd H (by simp)
        · rw [if_neg c10] at H
          exact absurd H (by simp)
      · rw [if_neg c9] at H
        exact absurd H (by simp)
  · replace c5 := Bool.eq_false_iff.mpr c5
    subst c5
    have H1 : (none) = some r := by rw [if_neg (show ¬ (false = true) by decide)] at H; exact H
    clear H
    have H := H1
    clear H1
    exact absurd H (by simp)

/-- THE ONE PURE STATEMENT of tollbarlaw04_FieldSame. -/
def tollbarlaw04_FieldSame.Pure : Prop := ∀ (l0 : List (S24)) (a1 : Int) (a2 : S24), (l0.length * 32 ≤ 140737488351232 ∧ ∀ x_ ∈ l0, (x_.f0.size ≤ 140737488351232) ∧ (x_.f1.size ≤ 140737488351232)) → ((Lit.int .i64 a1).wf = true) → ((a2.f0.size ≤ 140737488351232) ∧ (a2.f1.size ≤ 140737488351232)) → ∃ k, tollbarlaw04_FieldSame.f k l0 a1 a2.f0 a2.f1 = some true

end Go.Proofs.YtijindelbagpiaaDoor.PFieldSame
