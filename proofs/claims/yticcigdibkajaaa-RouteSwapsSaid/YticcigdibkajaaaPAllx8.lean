-- Written by this session's program xprint.py over the kit's print, with contracts given by hand. Not trusted: Lean checks it.
import Derived.Test.YticcigdibkajaaaPAllx0
import Derived.Test.YticcigdibkajaaaPAllx1
import Derived.Test.YticcigdibkajaaaPAllx2
import Derived.Test.YticcigdibkajaaaPAllx7
namespace Go.Proofs.Yticcigdibkajaaa.PAll
open Go.RowKit Go.Proofs.YticcigdibkajaaaW.PrintWords Go.Proofs.YticcigdibkajaaaW.PrintLast Go.Proofs.YticcigdibkajaaaW.PrintMore
attribute [local go_sem] max2_int min2_int max_two min_two max_three min_three max_four min_four   -- for this text's walks alone
set_option linter.unusedVariables false
set_option linter.unusedSimpArgs false

/-! ### tollbarlaw11_RouteSwaps: function 5 -/
mutual
def tollbarlaw11_RouteSwaps.j0 : Nat → ByteArray → ByteArray → ByteArray → ByteArray → Bool → Option (Bool)
  | 0, _, _, _, _, _ => none
  | k + 1, x0, x1, x2, x3, x37 => if x37 = true then (some true) else (tollbarlaw11_RouteSwaps.l0 k x0 x1 x2 x3 0)
def tollbarlaw11_RouteSwaps.l0 : Nat → ByteArray → ByteArray → ByteArray → ByteArray → Int → Option (Bool)
  | 0, _, _, _, _, _ => none
  | k + 1, x0, x1, x2, x3, x10 => if x10 < (x0.size : Int) then (if 0 ≤ x10 then (if (bt x0 x10) = 63 then ((route_Fits.f x0 x0).bind fun t178 => (some (!t178))) else (tollbarlaw11_RouteSwaps.l0 k x0 x1 x2 x3 (wrap64 (x10 + 1)))) else (none)) else (if x0.size + 1 ≤ 9223372036854775807 then (if (x0 ++ (⟨#[47]⟩ : ByteArray)).size + x2.size ≤ 9223372036854775807 then (if ((x0 ++ (⟨#[47]⟩ : ByteArray)) ++ x2).size + 1 ≤ 9223372036854775807 then (if (((x0 ++ (⟨#[47]⟩ : ByteArray)) ++ x2) ++ (⟨#[63]⟩ : ByteArray)).size + x3.size ≤ 9223372036854775807 then (tollbarlaw11_RouteSwaps.l1 k x0 x1 x2 x3 ((((x0 ++ (⟨#[47]⟩ : ByteArray)) ++ x2) ++ (⟨#[63]⟩ : ByteArray)) ++ x3) 0) else (none)) else (none)) else (none)) else (none))
def tollbarlaw11_RouteSwaps.l1 : Nat → ByteArray → ByteArray → ByteArray → ByteArray → ByteArray → Int → Option (Bool)
  | 0, _, _, _, _, _, _ => none
  | k + 1, x0, x1, x2, x3, x11, x12 => if x12 < (x2.size : Int) then (if 0 ≤ x12 then (if (bt x2 x12) = 63 then (some true) else (tollbarlaw11_RouteSwaps.l1 k x0 x1 x2 x3 x11 (wrap64 (x12 + 1)))) else (none)) else ((route_Rewrite.f k x0 (⟨#[]⟩ : ByteArray) x1 x11).bind fun bt179 => (if x0.size + x2.size ≤ 9223372036854775807 then ((route_Rewrite.f k x0 (⟨#[]⟩ : ByteArray) x0 (x0 ++ x2)).bind fun bt181 => (if bt179.2 = true then (if (bt179.1.size : Int) < (x1.size : Int) then (tollbarlaw11_RouteSwaps.j3 k x0 x2 x11 bt181.1 bt181.2 true) else (if 0 ≤ (x1.size : Int) then (if (x1.size : Int) ≤ (bt179.1.size : Int) then (if (bt179.1.extract 0 x1.size).toList = x1.toList then (if 0 ≤ (wrap64 ((wrap64 ((bt179.1.size : Int) - (x3.size : Int))) - 1)) then (if (wrap64 ((wrap64 ((bt179.1.size : Int) - (x3.size : Int))) - 1)) ≤ (bt179.1.size : Int) then (if 1 + x3.size ≤ 9223372036854775807 then (tollbarlaw11_RouteSwaps.j3 k x0 x2 x11 bt181.1 bt181.2 ((bt179.1.extract ((wrap64 ((wrap64 ((bt179.1.size : Int) - (x3.size : Int))) - 1)) : Int).toNat bt179.1.size).toList != ((⟨#[63]⟩ : ByteArray) ++ x3).toList)) else (none)) else (none)) else (none)) else (tollbarlaw11_RouteSwaps.j3 k x0 x2 x11 bt181.1 bt181.2 true)) else (none)) else (none))) else (tollbarlaw11_RouteSwaps.j3 k x0 x2 x11 bt181.1 bt181.2 true))) else (none)))
def tollbarlaw11_RouteSwaps.j3 : Nat → ByteArray → ByteArray → ByteArray → ByteArray → Bool → Bool → Option (Bool)
  | 0, _, _, _, _, _, _ => none
  | k + 1, x0, x2, x11, x15, x16, x116 => if x116 = true then (some false) else (if x0.size + x2.size ≤ 9223372036854775807 then ((route_Fits.f x0 (x0 ++ x2)).bind fun t183 => (if t183 = true then (if 0 ≤ (wrap64 ((x0.size : Int) - 1)) then (if (wrap64 ((x0.size : Int) - 1)) < (x0.size : Int) then (if (bt x0 (wrap64 ((x0.size : Int) - 1))) = 47 then (if (x2.size : Int) > 0 then (if 0 < (x2.size : Int) then (tollbarlaw11_RouteSwaps.j4 k x0 x2 x11 x15 x16 ((bt x2 0) == 47)) else (none)) else (tollbarlaw11_RouteSwaps.j4 k x0 x2 x11 x15 x16 false)) else (tollbarlaw11_RouteSwaps.j4 k x0 x2 x11 x15 x16 false)) else (none)) else (none)) else ((route_Fits.f x0 x11).bind fun t189 => (if t189 = true then ((route_Match.f k (([(⟨x0, (⟨#[]⟩ : ByteArray), (⟨#[]⟩ : ByteArray)⟩ : S26)] : List (S26))) x11).bind fun t193 => (some (t193 == 0))) else (some false))))) else (none))
def tollbarlaw11_RouteSwaps.j4 : Nat → ByteArray → ByteArray → ByteArray → ByteArray → Bool → Bool → Option (Bool)
  | 0, _, _, _, _, _, _ => none
  | k + 1, x0, x2, x11, x15, x16, x17 => if x16 = true then (if x17 = true then (if 1 ≤ (x2.size : Int) then (if x0.size + (x2.size - 1 : Nat) ≤ 9223372036854775807 then (tollbarlaw11_RouteSwaps.j5 k x0 x11 (x15.toList != (x0 ++ (x2.extract 1 x2.size)).toList)) else (none)) else (none)) else (if x0.size + x2.size ≤ 9223372036854775807 then (if x15.toList = (x0 ++ x2).toList then (tollbarlaw11_RouteSwaps.j5 k x0 x11 false) else (tollbarlaw11_RouteSwaps.j5 k x0 x11 true)) else (none))) else (tollbarlaw11_RouteSwaps.j5 k x0 x11 true)
def tollbarlaw11_RouteSwaps.j5 : Nat → ByteArray → ByteArray → Bool → Option (Bool)
  | 0, _, _, _ => none
  | k + 1, x0, x11, x161 => if x161 = true then (some false) else ((route_Fits.f x0 x11).bind fun t184 => (if t184 = true then ((route_Match.f k (([(⟨x0, (⟨#[]⟩ : ByteArray), (⟨#[]⟩ : ByteArray)⟩ : S26)] : List (S26))) x11).bind fun t188 => (some (t188 == 0))) else (some false)))
end
def tollbarlaw11_RouteSwaps.f (k : Nat) (a0 : ByteArray) (a1 : ByteArray) (a2 : ByteArray) (a3 : ByteArray) : Option (Bool) := (tollbarlaw11_alive.f k).bind fun t175 => (if t175 = true then ((tollbarlaw11_RouteSwaps_1.f k a0).bind fun t176 => (if t176 = true then ((tollbarlaw11_RouteSwaps_1.f k a1).bind fun t177 => (if t177 = true then (tollbarlaw11_RouteSwaps.j0 k a0 a1 a2 a3 (decide ((wrap64 ((a2.size : Int) + (a3.size : Int))) > 300))) else (tollbarlaw11_RouteSwaps.j0 k a0 a1 a2 a3 true))) else (tollbarlaw11_RouteSwaps.j0 k a0 a1 a2 a3 true))) else (some false))
theorem tollbarlaw11_RouteSwaps.mono_l : ∀ k, (∀ y0 y1 y2 y3 y4, LeO (tollbarlaw11_RouteSwaps.j0 k y0 y1 y2 y3 y4) (tollbarlaw11_RouteSwaps.j0 (k + 1) y0 y1 y2 y3 y4)) ∧ (∀ y0 y1 y2 y3 y4, LeO (tollbarlaw11_RouteSwaps.l0 k y0 y1 y2 y3 y4) (tollbarlaw11_RouteSwaps.l0 (k + 1) y0 y1 y2 y3 y4)) ∧ (∀ y0 y1 y2 y3 y4 y5, LeO (tollbarlaw11_RouteSwaps.l1 k y0 y1 y2 y3 y4 y5) (tollbarlaw11_RouteSwaps.l1 (k + 1) y0 y1 y2 y3 y4 y5)) ∧ (∀ y0 y1 y2 y3 y4 y5, LeO (tollbarlaw11_RouteSwaps.j3 k y0 y1 y2 y3 y4 y5) (tollbarlaw11_RouteSwaps.j3 (k + 1) y0 y1 y2 y3 y4 y5)) ∧ (∀ y0 y1 y2 y3 y4 y5, LeO (tollbarlaw11_RouteSwaps.j4 k y0 y1 y2 y3 y4 y5) (tollbarlaw11_RouteSwaps.j4 (k + 1) y0 y1 y2 y3 y4 y5)) ∧ (∀ y0 y1 y2, LeO (tollbarlaw11_RouteSwaps.j5 k y0 y1 y2) (tollbarlaw11_RouteSwaps.j5 (k + 1) y0 y1 y2))
  | 0 => ⟨fun _ _ _ _ _ r h => by simp [tollbarlaw11_RouteSwaps.j0] at h, fun _ _ _ _ _ r h => by simp [tollbarlaw11_RouteSwaps.l0] at h, fun _ _ _ _ _ _ r h => by simp [tollbarlaw11_RouteSwaps.l1] at h, fun _ _ _ _ _ _ r h => by simp [tollbarlaw11_RouteSwaps.j3] at h, fun _ _ _ _ _ _ r h => by simp [tollbarlaw11_RouteSwaps.j4] at h, fun _ _ _ r h => by simp [tollbarlaw11_RouteSwaps.j5] at h⟩
  | k + 1 => by
    obtain ⟨ih0, ih1, ih2, ih3, ih4, ih5⟩ := tollbarlaw11_RouteSwaps.mono_l k
    refine ⟨?_, ?_, ?_, ?_, ?_, ?_⟩
    · intro y0 y1 y2 y3 y4
      unfold tollbarlaw11_RouteSwaps.j0
      repeat' first
      | (with_reducible exact ih0 _ _ _ _ _)
      | (with_reducible exact ih1 _ _ _ _ _)
      | (with_reducible exact ih2 _ _ _ _ _ _)
      | (with_reducible exact ih3 _ _ _ _ _ _)
      | (with_reducible exact ih4 _ _ _ _ _ _)
      | (with_reducible exact ih5 _ _ _)
      | (with_reducible exact route_Match.mono _ _ _)
      | (with_reducible exact route_Rewrite.mono _ _ _ _ _)
      | (with_reducible exact tollbarlaw11_RouteSwaps_1.mono _ _)
      | (with_reducible exact tollbarlaw11_alive.mono _)
      | (with_reducible exact LeO.refl _)
      | (with_reducible exact LeO.none _)
      | (with_reducible refine LeO.ite ?_ ?_)
      | (with_reducible refine LeO.bind ?_ (fun _ => ?_))
      | exact ih0 _ _ _ _ _
      | exact ih1 _ _ _ _ _
      | exact ih2 _ _ _ _ _ _
      | exact ih3 _ _ _ _ _ _
      | exact ih4 _ _ _ _ _ _
      | exact ih5 _ _ _
      | exact route_Match.mono _ _ _
      | exact route_Rewrite.mono _ _ _ _ _
      | exact tollbarlaw11_RouteSwaps_1.mono _ _
      | exact tollbarlaw11_alive.mono _
      | exact LeO.none _
      | refine LeO.ite ?_ ?_
      | refine LeO.bind ?_ (fun _ => ?_)
    · intro y0 y1 y2 y3 y4
      unfold tollbarlaw11_RouteSwaps.l0
      repeat' first
      | (with_reducible exact ih0 _ _ _ _ _)
      | (with_reducible exact ih1 _ _ _ _ _)
      | (with_reducible exact ih2 _ _ _ _ _ _)
      | (with_reducible exact ih3 _ _ _ _ _ _)
      | (with_reducible exact ih4 _ _ _ _ _ _)
      | (with_reducible exact ih5 _ _ _)
      | (with_reducible exact route_Match.mono _ _ _)
      | (with_reducible exact route_Rewrite.mono _ _ _ _ _)
      | (with_reducible exact tollbarlaw11_RouteSwaps_1.mono _ _)
      | (with_reducible exact tollbarlaw11_alive.mono _)
      | (with_reducible exact LeO.refl _)
      | (with_reducible exact LeO.none _)
      | (with_reducible refine LeO.ite ?_ ?_)
      | (with_reducible refine LeO.bind ?_ (fun _ => ?_))
      | exact ih0 _ _ _ _ _
      | exact ih1 _ _ _ _ _
      | exact ih2 _ _ _ _ _ _
      | exact ih3 _ _ _ _ _ _
      | exact ih4 _ _ _ _ _ _
      | exact ih5 _ _ _
      | exact route_Match.mono _ _ _
      | exact route_Rewrite.mono _ _ _ _ _
      | exact tollbarlaw11_RouteSwaps_1.mono _ _
      | exact tollbarlaw11_alive.mono _
      | exact LeO.none _
      | refine LeO.ite ?_ ?_
      | refine LeO.bind ?_ (fun _ => ?_)
    · intro y0 y1 y2 y3 y4 y5
      unfold tollbarlaw11_RouteSwaps.l1
      repeat' first
      | (with_reducible exact ih0 _ _ _ _ _)
      | (with_reducible exact ih1 _ _ _ _ _)
      | (with_reducible exact ih2 _ _ _ _ _ _)
      | (with_reducible exact ih3 _ _ _ _ _ _)
      | (with_reducible exact ih4 _ _ _ _ _ _)
      | (with_reducible exact ih5 _ _ _)
      | (with_reducible exact route_Match.mono _ _ _)
      | (with_reducible exact route_Rewrite.mono _ _ _ _ _)
      | (with_reducible exact tollbarlaw11_RouteSwaps_1.mono _ _)
      | (with_reducible exact tollbarlaw11_alive.mono _)
      | (with_reducible exact LeO.refl _)
      | (with_reducible exact LeO.none _)
      | (with_reducible refine LeO.ite ?_ ?_)
      | (with_reducible refine LeO.bind ?_ (fun _ => ?_))
      | exact ih0 _ _ _ _ _
      | exact ih1 _ _ _ _ _
      | exact ih2 _ _ _ _ _ _
      | exact ih3 _ _ _ _ _ _
      | exact ih4 _ _ _ _ _ _
      | exact ih5 _ _ _
      | exact route_Match.mono _ _ _
      | exact route_Rewrite.mono _ _ _ _ _
      | exact tollbarlaw11_RouteSwaps_1.mono _ _
      | exact tollbarlaw11_alive.mono _
      | exact LeO.none _
      | refine LeO.ite ?_ ?_
      | refine LeO.bind ?_ (fun _ => ?_)
    · intro y0 y1 y2 y3 y4 y5
      unfold tollbarlaw11_RouteSwaps.j3
      repeat' first
      | (with_reducible exact ih0 _ _ _ _ _)
      | (with_reducible exact ih1 _ _ _ _ _)
      | (with_reducible exact ih2 _ _ _ _ _ _)
      | (with_reducible exact ih3 _ _ _ _ _ _)
      | (with_reducible exact ih4 _ _ _ _ _ _)
      | (with_reducible exact ih5 _ _ _)
      | (with_reducible exact route_Match.mono _ _ _)
      | (with_reducible exact route_Rewrite.mono _ _ _ _ _)
      | (with_reducible exact tollbarlaw11_RouteSwaps_1.mono _ _)
      | (with_reducible exact tollbarlaw11_alive.mono _)
      | (with_reducible exact LeO.refl _)
      | (with_reducible exact LeO.none _)
      | (with_reducible refine LeO.ite ?_ ?_)
      | (with_reducible refine LeO.bind ?_ (fun _ => ?_))
      | exact ih0 _ _ _ _ _
      | exact ih1 _ _ _ _ _
      | exact ih2 _ _ _ _ _ _
      | exact ih3 _ _ _ _ _ _
      | exact ih4 _ _ _ _ _ _
      | exact ih5 _ _ _
      | exact route_Match.mono _ _ _
      | exact route_Rewrite.mono _ _ _ _ _
      | exact tollbarlaw11_RouteSwaps_1.mono _ _
      | exact tollbarlaw11_alive.mono _
      | exact LeO.none _
      | refine LeO.ite ?_ ?_
      | refine LeO.bind ?_ (fun _ => ?_)
    · intro y0 y1 y2 y3 y4 y5
      unfold tollbarlaw11_RouteSwaps.j4
      repeat' first
      | (with_reducible exact ih0 _ _ _ _ _)
      | (with_reducible exact ih1 _ _ _ _ _)
      | (with_reducible exact ih2 _ _ _ _ _ _)
      | (with_reducible exact ih3 _ _ _ _ _ _)
      | (with_reducible exact ih4 _ _ _ _ _ _)
      | (with_reducible exact ih5 _ _ _)
      | (with_reducible exact route_Match.mono _ _ _)
      | (with_reducible exact route_Rewrite.mono _ _ _ _ _)
      | (with_reducible exact tollbarlaw11_RouteSwaps_1.mono _ _)
      | (with_reducible exact tollbarlaw11_alive.mono _)
      | (with_reducible exact LeO.refl _)
      | (with_reducible exact LeO.none _)
      | (with_reducible refine LeO.ite ?_ ?_)
      | (with_reducible refine LeO.bind ?_ (fun _ => ?_))
      | exact ih0 _ _ _ _ _
      | exact ih1 _ _ _ _ _
      | exact ih2 _ _ _ _ _ _
      | exact ih3 _ _ _ _ _ _
      | exact ih4 _ _ _ _ _ _
      | exact ih5 _ _ _
      | exact route_Match.mono _ _ _
      | exact route_Rewrite.mono _ _ _ _ _
      | exact tollbarlaw11_RouteSwaps_1.mono _ _
      | exact tollbarlaw11_alive.mono _
      | exact LeO.none _
      | refine LeO.ite ?_ ?_
      | refine LeO.bind ?_ (fun _ => ?_)
    · intro y0 y1 y2
      unfold tollbarlaw11_RouteSwaps.j5
      repeat' first
      | (with_reducible exact ih0 _ _ _ _ _)
      | (with_reducible exact ih1 _ _ _ _ _)
      | (with_reducible exact ih2 _ _ _ _ _ _)
      | (with_reducible exact ih3 _ _ _ _ _ _)
      | (with_reducible exact ih4 _ _ _ _ _ _)
      | (with_reducible exact ih5 _ _ _)
      | (with_reducible exact route_Match.mono _ _ _)
      | (with_reducible exact route_Rewrite.mono _ _ _ _ _)
      | (with_reducible exact tollbarlaw11_RouteSwaps_1.mono _ _)
      | (with_reducible exact tollbarlaw11_alive.mono _)
      | (with_reducible exact LeO.refl _)
      | (with_reducible exact LeO.none _)
      | (with_reducible refine LeO.ite ?_ ?_)
      | (with_reducible refine LeO.bind ?_ (fun _ => ?_))
      | exact ih0 _ _ _ _ _
      | exact ih1 _ _ _ _ _
      | exact ih2 _ _ _ _ _ _
      | exact ih3 _ _ _ _ _ _
      | exact ih4 _ _ _ _ _ _
      | exact ih5 _ _ _
      | exact route_Match.mono _ _ _
      | exact route_Rewrite.mono _ _ _ _ _
      | exact tollbarlaw11_RouteSwaps_1.mono _ _
      | exact tollbarlaw11_alive.mono _
      | exact LeO.none _
      | refine LeO.ite ?_ ?_
      | refine LeO.bind ?_ (fun _ => ?_)
theorem tollbarlaw11_RouteSwaps.mono : ∀ a0 a1 a2 a3 k, LeO (tollbarlaw11_RouteSwaps.f k a0 a1 a2 a3) (tollbarlaw11_RouteSwaps.f (k + 1) a0 a1 a2 a3) := by
  intro a0 a1 a2 a3 k
  obtain ⟨ih0, ih1, ih2, ih3, ih4, ih5⟩ := tollbarlaw11_RouteSwaps.mono_l k
  unfold tollbarlaw11_RouteSwaps.f
  repeat' first
      | (with_reducible exact ih0 _ _ _ _ _)
      | (with_reducible exact ih1 _ _ _ _ _)
      | (with_reducible exact ih2 _ _ _ _ _ _)
      | (with_reducible exact ih3 _ _ _ _ _ _)
      | (with_reducible exact ih4 _ _ _ _ _ _)
      | (with_reducible exact ih5 _ _ _)
      | (with_reducible exact route_Match.mono _ _ _)
      | (with_reducible exact route_Rewrite.mono _ _ _ _ _)
      | (with_reducible exact tollbarlaw11_RouteSwaps_1.mono _ _)
      | (with_reducible exact tollbarlaw11_alive.mono _)
      | (with_reducible exact LeO.refl _)
      | (with_reducible exact LeO.none _)
      | (with_reducible refine LeO.ite ?_ ?_)
      | (with_reducible refine LeO.bind ?_ (fun _ => ?_))
      | exact ih0 _ _ _ _ _
      | exact ih1 _ _ _ _ _
      | exact ih2 _ _ _ _ _ _
      | exact ih3 _ _ _ _ _ _
      | exact ih4 _ _ _ _ _ _
      | exact ih5 _ _ _
      | exact route_Match.mono _ _ _
      | exact route_Rewrite.mono _ _ _ _ _
      | exact tollbarlaw11_RouteSwaps_1.mono _ _
      | exact tollbarlaw11_alive.mono _
      | exact LeO.none _
      | refine LeO.ite ?_ ?_
      | refine LeO.bind ?_ (fun _ => ?_)
set_option maxHeartbeats 8000000 in
set_option maxRecDepth 100000 in
theorem tollbarlaw11_RouteSwaps.calls (k : Nat) (a0 : ByteArray) (a1 : ByteArray) (a2 : ByteArray) (a3 : ByteArray) (r : Bool) (w : World) (h : tollbarlaw11_RouteSwaps.f k a0 a1 a2 a3 = some r) :
    Calls Try.prog 5 #[.string a0, .string a1, .string a2, .string a3] w fun e w' => e = .returned (.bool r) ∧ Below w.heap.size w w' := by
  have hu26 := Try.underlying26
  have HB := Aside0.mk (Below.refl w.heap.size w)
  have H : ((tollbarlaw11_alive.f k).bind fun t175 => (if t175 = true then ((tollbarlaw11_RouteSwaps_1.f k a0).bind fun t176 => (if t176 = true then ((tollbarlaw11_RouteSwaps_1.f k a1).bind fun t177 => (if t177 = true then (tollbarlaw11_RouteSwaps.j0 k a0 a1 a2 a3 (decide ((wrap64 ((a2.size : Int) + (a3.size : Int))) > 300))) else (tollbarlaw11_RouteSwaps.j0 k a0 a1 a2 a3 true))) else (tollbarlaw11_RouteSwaps.j0 k a0 a1 a2 a3 true))) else (some false))) = some r := h
  clear h
  replace H := Option.bind_eq_some_iff.mp H
  obtain ⟨t175, A50, H⟩ := H
  replace H : (if t175 = true then ((tollbarlaw11_RouteSwaps_1.f k a0).bind fun t176 => (if t176 = true then ((tollbarlaw11_RouteSwaps_1.f k a1).bind fun t177 => (if t177 = true then (tollbarlaw11_RouteSwaps.j0 k a0 a1 a2 a3 (decide ((wrap64 ((a2.size : Int) + (a3.size : Int))) > 300))) else (tollbarlaw11_RouteSwaps.j0 k a0 a1 a2 a3 true))) else (tollbarlaw11_RouteSwaps.j0 k a0 a1 a2 a3 true))) else (some false)) = some r := H
  have A5 := Aside0.mk A50
  clear A50
  by_cases c6 : t175 = true
  · subst c6
    have H1 : ((tollbarlaw11_RouteSwaps_1.f k a0).bind fun t176 => (if t176 = true then ((tollbarlaw11_RouteSwaps_1.f k a1).bind fun t177 => (if t177 = true then (tollbarlaw11_RouteSwaps.j0 k a0 a1 a2 a3 (decide ((wrap64 ((a2.size : Int) + (a3.size : Int))) > 300))) else (tollbarlaw11_RouteSwaps.j0 k a0 a1 a2 a3 true))) else (tollbarlaw11_RouteSwaps.j0 k a0 a1 a2 a3 true))) = some r := by rw [if_pos rfl] at H; exact H
    clear H
    have H := H1
    clear H1
    have HC7 := Aside0.mk H
    clear H
    go_enter Try.func5, Try.ntmps5
    go_upto_region 4 with (first | ((with_reducible refine gate_callee (f := 7) rfl ?_); refine goesL_ (some 18) rfl rfl Try.func7 (by kernel_rfl) rfl #[] rfl (by (try simp only [List.map_toArray, List.map_cons, List.map_nil]); first | done | rfl | (simp only [List.length_drop, List.length_take]; rfl)) ?_; (with_reducible refine (tollbarlaw11_alive.calls k  true _ A5.out).mono ?_); rintro e w8 ⟨rfl, hb⟩; refine ⟨_, rfl, ?_⟩; have n0_ := Aside0.mk (below_step (by repeat (first | (with_reducible first | exact HB.out | apply below_alloc | apply pw_below_drewN | apply below_drew1) | exact HB.out)) hb); clear HB; have HB := n0_; clear n0_; (try clear hb); (try clear hb2); (try clear hk); (try clear hi)))
    (try simp only [Act.put, List.setIfInBounds_toArray, List.set_cons_zero, List.set_cons_succ])
    go_cut [37] (fun v37 wc => ∃ (kq : Nat) (x37_6 : Bool), v37 = .bool x37_6 ∧ Aside0 (tollbarlaw11_RouteSwaps.j0 kq a0 a1 a2 a3 x37_6 = some r) ∧ Aside0 (kq ≤ k) ∧ Aside0 (Below w.heap.size w wc))
    case first =>
      have H := HC7.out
      clear HC7
      replace H := Option.bind_eq_some_iff.mp H
      obtain ⟨t176, A90, H⟩ := H
      replace H : (if t176 = true then ((tollbarlaw11_RouteSwaps_1.f k a1).bind fun t177 => (if t177 = true then (tollbarlaw11_RouteSwaps.j0 k a0 a1 a2 a3 (decide ((wrap64 ((a2.size : Int) + (a3.size : Int))) > 300))) else (tollbarlaw11_RouteSwaps.j0 k a0 a1 a2 a3 true))) else (tollbarlaw11_RouteSwaps.j0 k a0 a1 a2 a3 true)) = some r := H
      have A9 := Aside0.mk A90
      clear A90
      by_cases c10 : t176 = true
      · subst c10
        have H1 : ((tollbarlaw11_RouteSwaps_1.f k a1).bind fun t177 => (if t177 = true then (tollbarlaw11_RouteSwaps.j0 k a0 a1 a2 a3 (decide ((wrap64 ((a2.size : Int) + (a3.size : Int))) > 300))) else (tollbarlaw11_RouteSwaps.j0 k a0 a1 a2 a3 true))) = some r := by rw [if_pos rfl] at H; exact H
        clear H
        have H := H1
        clear H1
        replace H := Option.bind_eq_some_iff.mp H
        obtain ⟨t177, A110, H⟩ := H
        replace H : (if t177 = true then (tollbarlaw11_RouteSwaps.j0 k a0 a1 a2 a3 (decide ((wrap64 ((a2.size : Int) + (a3.size : Int))) > 300))) else (tollbarlaw11_RouteSwaps.j0 k a0 a1 a2 a3 true)) = some r := H
        have A11 := Aside0.mk A110
        clear A110
        by_cases c12 : t177 = true
        · subst c12
          have H1 : (tollbarlaw11_RouteSwaps.j0 k a0 a1 a2 a3 (decide ((wrap64 ((a2.size : Int) + (a3.size : Int))) > 300))) = some r := by rw [if_pos rfl] at H; exact H
          clear H
          have H := H1
          clear H1
          have H' := Aside0.mk H
          clear H
          go_wp2_with (first | (go_at_call 14; (with_reducible refine (tollbarlaw11_RouteSwaps_1.calls k a0 true _ A9.out).mono ?_); rintro e w' ⟨rfl, ⟨nd, rfl⟩⟩) | (go_at_call 14; (with_reducible refine (tollbarlaw11_RouteSwaps_1.calls k a1 true _ A11.out).mono ?_); rintro e w' ⟨rfl, ⟨nd, rfl⟩⟩))
          go_meet
          case rel => exact ⟨_, (decide ((wrap64 ((a2.size : Int) + (a3.size : Int))) > 300)), (by first | rfl | (simp; done) | (simp [*]; done)), H', ⟨by first | omega | exact Nat.le_refl _⟩, ⟨by repeat (first | (with_reducible first | exact HB.out | apply below_alloc | apply pw_below_drewN | apply below_drew1) | exact HB.out)⟩⟩
        · replace c12 := Bool.eq_false_iff.mpr c12
          subst c12
          have H1 : (tollbarlaw11_RouteSwaps.j0 k a0 a1 a2 a3 true) = some r := by rw [if_neg (show ¬ (false = true) by decide)] at H; exact H
          clear H
          have H := H1
          clear H1
          have H' := Aside0.mk H
          clear H
          go_wp2_with (first | (go_at_call 14; (with_reducible refine (tollbarlaw11_RouteSwaps_1.calls k a0 true _ A9.out).mono ?_); rintro e w' ⟨rfl, ⟨nd, rfl⟩⟩) | (go_at_call 14; (with_reducible refine (tollbarlaw11_RouteSwaps_1.calls k a1 false _ A11.out).mono ?_); rintro e w' ⟨rfl, ⟨nd, rfl⟩⟩))
          go_meet
          case rel => exact ⟨_, (true), (by first | rfl | (simp; done) | (simp [*]; done)), H', ⟨by first | omega | exact Nat.le_refl _⟩, ⟨by repeat (first | (with_reducible first | exact HB.out | apply below_alloc | apply pw_below_drewN | apply below_drew1) | exact HB.out)⟩⟩
      · replace c10 := Bool.eq_false_iff.mpr c10
        subst c10
        have H1 : (tollbarlaw11_RouteSwaps.j0 k a0 a1 a2 a3 true) = some r := by rw [if_neg (show ¬ (false = true) by decide)] at H; exact H
        clear H
        have H := H1
        clear H1
        have H' := Aside0.mk H
        clear H
        go_wp2_with (first | (go_at_call 14; (with_reducible refine (tollbarlaw11_RouteSwaps_1.calls k a0 false _ A9.out).mono ?_); rintro e w' ⟨rfl, ⟨nd, rfl⟩⟩))
        go_meet
        case rel => exact ⟨_, (true), (by first | rfl | (simp; done) | (simp [*]; done)), H', ⟨by first | omega | exact Nat.le_refl _⟩, ⟨by repeat (first | (with_reducible first | exact HB.out | apply below_alloc | apply pw_below_drewN | apply below_drew1) | exact HB.out)⟩⟩
    case rest =>
      clear HC7
      try clear c1
      try clear p2
      try clear c5
      try clear c6
      try clear p6
      try clear c7
      try clear c10
      try clear c12
      obtain ⟨kq, x37_6, rfl, HA, HJ6, HB⟩ := hcut
      cases kq with
      | zero => exact absurd HA.out (by simp [tollbarlaw11_RouteSwaps.j0])
      | succ kj6 =>
        have H := HA.out
        clear HA
        simp only [tollbarlaw11_RouteSwaps.j0] at H
        by_cases c13 : x37_6 = true
        · subst c13
          have H1 : (some true) = some r := by rw [if_pos rfl] at H; exact H
          clear H
          have H := H1
          clear H1
          obtain rfl := Option.some.inj H
          go_wp2
          go_ret
          exact ⟨by first | rfl | (simp [errW_none, errW_some] <;> rfl) | (simp [*, errW_none, errW_some] <;> rfl), by repeat (first | (with_reducible first | exact HB.out | apply below_alloc | apply pw_below_drewN | apply below_drew1) | exact HB.out)⟩
        · replace c13 := Bool.eq_false_iff.mpr c13
          subst c13
          have H1 : (tollbarlaw11_RouteSwaps.l0 kj6 a0 a1 a2 a3 0) = some r := by rw [if_neg (show ¬ (false = true) by decide)] at H; exact H
          clear H
          have H := H1
          clear H1
          have H' := Aside0.mk H
          clear H
          go_wp2
          go_loopg [10] kj6 (fun kq v10 w' => ∃ (x10_2 : Int), v10 = .int .i64 x10_2 ∧ Aside0 (tollbarlaw11_RouteSwaps.l0 kq a0 a1 a2 a3 x10_2 = some r) ∧ Aside0 (kq ≤ kj6) ∧ Aside0 (Below w.heap.size w w'))
          case atStart => exact ⟨(0), (by first | rfl | (simp; done) | (simp [*]; done)), H', ⟨Nat.le_refl _⟩, ⟨by repeat (first | (with_reducible first | exact HB.out | apply below_alloc | apply pw_below_drewN | apply below_drew1) | exact HB.out)⟩⟩
          case round =>
            clear H'
            try clear c1
            try clear p2
            try clear c5
            try clear c6
            try clear p6
            try clear c7
            try clear c10
            try clear c12
            try clear c13
            try clear p2
            try clear p6
            obtain ⟨x10_2, rfl, HA, HK2, HB⟩ := hrel
            cases gk with
            | zero => exact absurd HA.out (by simp [tollbarlaw11_RouteSwaps.l0])
            | succ k2 =>
              have H := HA.out
              clear HA
              simp only [tollbarlaw11_RouteSwaps.l0] at H
              by_cases c14 : x10_2 < (a0.size : Int)
              · rw [if_pos c14] at H
                have c14b0 : decide (x10_2 < (a0.size : Int)) = true := decide_eq_true c14
                try (have c14z_ := c14; simp only [xsz_app, xsz_rest, xsz_mk, List.length_cons, List.length_nil, Nat.zero_add, Int.natCast_add] at c14z_)
                clear c14
                by_cases c15 : 0 ≤ x10_2
                · rw [if_pos c15] at H
                  have c15b0 : decide (0 ≤ x10_2) = true := decide_eq_true c15
                  clear c15
                  by_cases c17 : (bt a0 x10_2) = 63
                  · rw [if_pos c17] at H
                    have c17b0 : ((bt a0 x10_2) == 63) = true := beq_iff_eq.mpr c17
                    have c17b1 : ((bt a0 x10_2) != 63) = false := bne_eq_false_iff_eq.mpr c17
                    clear c17
                    replace H := Option.bind_eq_some_iff.mp H
                    obtain ⟨t178, A180, H⟩ := H
                    replace H : (some (!t178)) = some r := H
                    have A18 := Aside0.mk A180
                    clear A180
                    obtain rfl := Option.some.inj H
                    have p16 : 0 ≤ (x10_2 : Int) := of_decide_eq_true (by first | (with_reducible assumption) | assumption)
                    have q16 : x10_2 < (a0.size : Int) := of_decide_eq_true (by first | (with_reducible assumption) | assumption)
                    have hx16 := bt_at a0 x10_2
                    replace p16 := eq_true p16
                    replace q16 := eq_true q16
                    go_wp2_with (first | ((with_reducible refine gate_callee (f := 12) rfl ?_); refine goesL_ (some 50) rfl rfl Try.func12 (by kernel_rfl) rfl #[.string a0, .string a0] rfl (by (try simp only [List.map_toArray, List.map_cons, List.map_nil]); first | done | rfl | (simp only [List.length_drop, List.length_take]; rfl)) ?_; (with_reducible refine (route_Fits.calls a0 a0 t178 _ A18.out).mono ?_); rintro e w' ⟨rfl, ⟨nd, rfl⟩⟩; refine ⟨_, rfl, ?_⟩))
                    go_ret
                    exact ⟨by first | rfl | (simp [errW_none, errW_some] <;> rfl) | (simp [*, errW_none, errW_some] <;> rfl), by repeat (first | (with_reducible first | exact HB.out | apply below_alloc | apply pw_below_drewN | apply below_drew1) | exact HB.out)⟩
                  · rw [if_neg c17] at H
                    have c17b0 : ((bt a0 x10_2) == 63) = false := beq_eq_false_iff_ne.mpr c17
                    have c17b1 : ((bt a0 x10_2) != 63) = true := bne_iff_ne.mpr c17
                    have H' := Aside0.mk H
                    clear H
                    have p16 : 0 ≤ (x10_2 : Int) := of_decide_eq_true (by first | (with_reducible assumption) | assumption)
                    have q16 : x10_2 < (a0.size : Int) := of_decide_eq_true (by first | (with_reducible assumption) | assumption)
                    have hx16 := bt_at a0 x10_2
                    replace p16 := eq_true p16
                    replace q16 := eq_true q16
                    go_wp2
                    go_roundg k2
                    case measure => have := HJ6.out; have := HK2.out; omega
                    case rel => exact ⟨(wrap64 (x10_2 + 1)), (by first | rfl | (simp; done) | (simp [*]; done)), H', ⟨by have := HJ6.out; have := HK2.out; omega⟩, ⟨by repeat (first | (with_reducible first | exact HB.out | apply below_alloc | apply pw_below_drewN | apply below_drew1) | exact HB.out)⟩⟩
                · rw [if_neg c15] at H
                  exact absurd H (by simp)
              · rw [if_neg c14] at H
                have c14b0 : decide (x10_2 < (a0.size : Int)) = false := decide_eq_false c14
                try (have c14z_ := c14; simp only [xsz_app, xsz_rest, xsz_mk, List.length_cons, List.length_nil, Nat.zero_add, Int.natCast_add] at c14z_)
                clear c14
                by_cases c19 : a0.size + 1 ≤ 9223372036854775807
                · rw [if_pos c19] at H
                  have c19b0 := eq_true c19
                  try (have c19z_ := c19; simp only [xsz_app, xsz_rest, xsz_mk, List.length_cons, List.length_nil, Nat.zero_add, Int.natCast_add] at c19z_)
                  have c19b1 : decide (a0.size + 1 ≤ 9223372036854775807) = true := decide_eq_true c19
                  try have c19b2 : (9223372036854775807 < a0.size + 1) = False := eq_false (Nat.not_lt.2 c19)
                  by_cases c20 : (a0 ++ (⟨#[47]⟩ : ByteArray)).size + a2.size ≤ 9223372036854775807
                  · rw [if_pos c20] at H
                    have c20b0 := eq_true c20
                    try (have c20z_ := c20; simp only [xsz_app, xsz_rest, xsz_mk, List.length_cons, List.length_nil, Nat.zero_add, Int.natCast_add] at c20z_)
                    have c20b1 : decide ((a0 ++ (⟨#[47]⟩ : ByteArray)).size + a2.size ≤ 9223372036854775807) = true := decide_eq_true c20
                    try have c20b2 : (9223372036854775807 < (a0 ++ (⟨#[47]⟩ : ByteArray)).size + a2.size) = False := eq_false (Nat.not_lt.2 c20)
                    by_cases c21 : ((a0 ++ (⟨#[47]⟩ : ByteArray)) ++ a2).size + 1 ≤ 9223372036854775807
                    · rw [if_pos c21] at H
                      have c21b0 := eq_true c21
                      try (have c21z_ := c21; simp only [xsz_app, xsz_rest, xsz_mk, List.length_cons, List.length_nil, Nat.zero_add, Int.natCast_add] at c21z_)
                      have c21b1 : decide (((a0 ++ (⟨#[47]⟩ : ByteArray)) ++ a2).size + 1 ≤ 9223372036854775807) = true := decide_eq_true c21
                      try have c21b2 : (9223372036854775807 < ((a0 ++ (⟨#[47]⟩ : ByteArray)) ++ a2).size + 1) = False := eq_false (Nat.not_lt.2 c21)
                      by_cases c22 : (((a0 ++ (⟨#[47]⟩ : ByteArray)) ++ a2) ++ (⟨#[63]⟩ : ByteArray)).size + a3.size ≤ 9223372036854775807
                      · rw [if_pos c22] at H
                        have c22b0 := eq_true c22
                        try (have c22z_ := c22; simp only [xsz_app, xsz_rest, xsz_mk, List.length_cons, List.length_nil, Nat.zero_add, Int.natCast_add] at c22z_)
                        have c22b1 : decide ((((a0 ++ (⟨#[47]⟩ : ByteArray)) ++ a2) ++ (⟨#[63]⟩ : ByteArray)).size + a3.size ≤ 9223372036854775807) = true := decide_eq_true c22
                        try have c22b2 : (9223372036854775807 < (((a0 ++ (⟨#[47]⟩ : ByteArray)) ++ a2) ++ (⟨#[63]⟩ : ByteArray)).size + a3.size) = False := eq_false (Nat.not_lt.2 c22)
                        have H' := Aside0.mk H
                        clear H
                        go_wp2
                        go_loopg [12] k2 (fun kq v12 w' => ∃ (x12_3 : Int), v12 = .int .i64 x12_3 ∧ Aside0 (tollbarlaw11_RouteSwaps.l1 kq a0 a1 a2 a3 ((((a0 ++ (⟨#[47]⟩ : ByteArray)) ++ a2) ++ (⟨#[63]⟩ : ByteArray)) ++ a3) x12_3 = some r) ∧ Aside0 (kq ≤ k2) ∧ Aside0 (Below w.heap.size w w'))
                        case atStart => exact ⟨(0), (by first | rfl | (simp; done) | (simp [*]; done)), H', ⟨Nat.le_refl _⟩, ⟨by repeat (first | (with_reducible first | exact HB.out | apply below_alloc | apply pw_below_drewN | apply below_drew1) | exact HB.out)⟩⟩
                        case round =>
                          clear H'
                          try clear c1
                          try clear p1
                          try clear q1
                          try clear hx1
                          try clear c2
                          try clear p2
                          try clear c5
                          try clear c6
                          try clear p6
                          try clear c7
                          try clear c10
                          try clear c12
                          try clear c13
                          try clear c14
                          try clear c14b0
                          try clear c15
                          try clear c15b0
                          try clear p16
                          try clear q16
                          try clear hx16
                          try clear c17
                          try clear c17b0
                          try clear c17b1
                          try clear c19
                          try clear c19b0
                          try clear c19b1
                          try clear c19b2
                          try clear c20
                          try clear c20b0
                          try clear c20b1
                          try clear c20b2
                          try clear c21
                          try clear c21b0
                          try clear c21b1
                          try clear c21b2
                          try clear c22
                          try clear c22b0
                          try clear c22b1
                          try clear c22b2
                          try clear p16
                          try clear p2
                          try clear p6
                          try clear q16
                          obtain ⟨x12_3, rfl, HA, HK3, HB⟩ := hrel
                          cases gk with
                          | zero => exact absurd HA.out (by simp [tollbarlaw11_RouteSwaps.l1])
                          | succ k3 =>
                            have H := HA.out
                            clear HA
                            simp only [tollbarlaw11_RouteSwaps.l1] at H
                            by_cases c23 : x12_3 < (a2.size : Int)
                            · rw [if_pos c23] at H
                              have c23b0 : decide (x12_3 < (a2.size : Int)) = true := decide_eq_true c23
                              try (have c23z_ := c23; simp only [xsz_app, xsz_rest, xsz_mk, List.length_cons, List.length_nil, Nat.zero_add, Int.natCast_add] at c23z_)
                              clear c23
                              by_cases c24 : 0 ≤ x12_3
                              · rw [if_pos c24] at H
                                have c24b0 : decide (0 ≤ x12_3) = true := decide_eq_true c24
                                clear c24
                                by_cases c26 : (bt a2 x12_3) = 63
                                · rw [if_pos c26] at H
                                  have c26b0 : ((bt a2 x12_3) == 63) = true := beq_iff_eq.mpr c26
                                  have c26b1 : ((bt a2 x12_3) != 63) = false := bne_eq_false_iff_eq.mpr c26
                                  clear c26
                                  obtain rfl := Option.some.inj H
                                  have p25 : 0 ≤ (x12_3 : Int) := of_decide_eq_true (by first | (with_reducible assumption) | assumption)
                                  have q25 : x12_3 < (a2.size : Int) := of_decide_eq_true (by first | (with_reducible assumption) | assumption)
                                  have hx25 := bt_at a2 x12_3
                                  replace p25 := eq_true p25
                                  replace q25 := eq_true q25
                                  go_wp2
                                  go_ret
                                  exact ⟨by first | rfl | (simp [errW_none, errW_some] <;> rfl) | (simp [*, errW_none, errW_some] <;> rfl), by repeat (first | (with_reducible first | exact HB.out | apply below_alloc | apply pw_below_drewN | apply below_drew1) | exact HB.out)⟩
                                · rw [if_neg c26] at H
                                  have c26b0 : ((bt a2 x12_3) == 63) = false := beq_eq_false_iff_ne.mpr c26
                                  have c26b1 : ((bt a2 x12_3) != 63) = true := bne_iff_ne.mpr c26
                                  have H' := Aside0.mk H
                                  clear H
                                  have p25 : 0 ≤ (x12_3 : Int) := of_decide_eq_true (by first | (with_reducible assumption) | assumption)
                                  have q25 : x12_3 < (a2.size : Int) := of_decide_eq_true (by first | (with_reducible assumption) | assumption)
                                  have hx25 := bt_at a2 x12_3
                                  replace p25 := eq_true p25
                                  replace q25 := eq_true q25
                                  go_wp2
                                  go_roundg k3
                                  case measure => have := HJ6.out; have := HK2.out; have := HK3.out; omega
                                  case rel => exact ⟨(wrap64 (x12_3 + 1)), (by first | rfl | (simp; done) | (simp [*]; done)), H', ⟨by have := HJ6.out; have := HK2.out; have := HK3.out; omega⟩, ⟨by repeat (first | (with_reducible first | exact HB.out | apply below_alloc | apply pw_below_drewN | apply below_drew1) | exact HB.out)⟩⟩
                              · rw [if_neg c24] at H
                                exact absurd H (by simp)
                            · rw [if_neg c23] at H
                              have c23b0 : decide (x12_3 < (a2.size : Int)) = false := decide_eq_false c23
                              try (have c23z_ := c23; simp only [xsz_app, xsz_rest, xsz_mk, List.length_cons, List.length_nil, Nat.zero_add, Int.natCast_add] at c23z_)
                              clear c23
                              replace H := Option.bind_eq_some_iff.mp H
                              obtain ⟨⟨t179, t180⟩, A270, H⟩ := H
                              replace H : (if a0.size + a2.size ≤ 9223372036854775807 then ((route_Rewrite.f k3 a0 (⟨#[]⟩ : ByteArray) a0 (a0 ++ a2)).bind fun bt181 => (if t180 = true then (if (t179.size : Int) < (a1.size : Int) then (tollbarlaw11_RouteSwaps.j3 k3 a0 a2 ((((a0 ++ (⟨#[47]⟩ : ByteArray)) ++ a2) ++ (⟨#[63]⟩ : ByteArray)) ++ a3) bt181.1 bt181.2 true) else (if 0 ≤ (a1.size : Int) then (if (a1.size : Int) ≤ (t179.size : Int) then (if (t179.extract 0 a1.size).toList = a1.toList then (if 0 ≤ (wrap64 ((wrap64 ((t179.size : Int) - (a3.size : Int))) - 1)) then (if (wrap64 ((wrap64 ((t179.size : Int) - (a3.size : Int))) - 1)) ≤ (t179.size : Int) then (if 1 + a3.size ≤ 9223372036854775807 then (tollbarlaw11_RouteSwaps.j3 k3 a0 a2 ((((a0 ++ (⟨#[47]⟩ : ByteArray)) ++ a2) ++ (⟨#[63]⟩ : ByteArray)) ++ a3) bt181.1 bt181.2 ((t179.extract ((wrap64 ((wrap64 ((t179.size : Int) - (a3.size : Int))) - 1)) : Int).toNat t179.size).toList != ((⟨#[63]⟩ : ByteArray) ++ a3).toList)) else (none)) else (none)) else (none)) else (tollbarlaw11_RouteSwaps.j3 k3 a0 a2 ((((a0 ++ (⟨#[47]⟩ : ByteArray)) ++ a2) ++ (⟨#[63]⟩ : ByteArray)) ++ a3) bt181.1 bt181.2 true)) else (none)) else (none))) else (tollbarlaw11_RouteSwaps.j3 k3 a0 a2 ((((a0 ++ (⟨#[47]⟩ : ByteArray)) ++ a2) ++ (⟨#[63]⟩ : ByteArray)) ++ a3) bt181.1 bt181.2 true))) else (none)) = some r := H
                              have A27 := Aside0.mk A270
                              clear A270
                              by_cases c28 : a0.size + a2.size ≤ 9223372036854775807
                              · rw [if_pos c28] at H
                                have c28b0 := eq_true c28
                                have c28b1 : decide (a0.size + a2.size ≤ 9223372036854775807) = true := decide_eq_true c28
                                try have c28b2 : (9223372036854775807 < a0.size + a2.size) = False := eq_false (Nat.not_lt.2 c28)
                                replace H := Option.bind_eq_some_iff.mp H
                                obtain ⟨⟨t181, t182⟩, A290, H⟩ := H
                                replace H : (if t180 = true then (if (t179.size : Int) < (a1.size : Int) then (tollbarlaw11_RouteSwaps.j3 k3 a0 a2 ((((a0 ++ (⟨#[47]⟩ : ByteArray)) ++ a2) ++ (⟨#[63]⟩ : ByteArray)) ++ a3) t181 t182 true) else (if 0 ≤ (a1.size : Int) then (if (a1.size : Int) ≤ (t179.size : Int) then (if (t179.extract 0 a1.size).toList = a1.toList then (if 0 ≤ (wrap64 ((wrap64 ((t179.size : Int) - (a3.size : Int))) - 1)) then (if (wrap64 ((wrap64 ((t179.size : Int) - (a3.size : Int))) - 1)) ≤ (t179.size : Int) then (if 1 + a3.size ≤ 9223372036854775807 then (tollbarlaw11_RouteSwaps.j3 k3 a0 a2 ((((a0 ++ (⟨#[47]⟩ : ByteArray)) ++ a2) ++ (⟨#[63]⟩ : ByteArray)) ++ a3) t181 t182 ((t179.extract ((wrap64 ((wrap64 ((t179.size : Int) - (a3.size : Int))) - 1)) : Int).toNat t179.size).toList != ((⟨#[63]⟩ : ByteArray) ++ a3).toList)) else (none)) else (none)) else (none)) else (tollbarlaw11_RouteSwaps.j3 k3 a0 a2 ((((a0 ++ (⟨#[47]⟩ : ByteArray)) ++ a2) ++ (⟨#[63]⟩ : ByteArray)) ++ a3) t181 t182 true)) else (none)) else (none))) else (tollbarlaw11_RouteSwaps.j3 k3 a0 a2 ((((a0 ++ (⟨#[47]⟩ : ByteArray)) ++ a2) ++ (⟨#[63]⟩ : ByteArray)) ++ a3) t181 t182 true)) = some r := H
                                have A29 := Aside0.mk A290
                                clear A290
                                have HC30 := Aside0.mk H
                                clear H
                                go_upto_region 19 with (first | ((with_reducible refine gate_callee (f := 10) rfl ?_); refine goesL_ (some 74) rfl rfl Try.func10 (by kernel_rfl) rfl #[.agg #[.string a0, .string (⟨#[]⟩ : ByteArray), .string a1], .string ((((a0 ++ (⟨#[47]⟩ : ByteArray)) ++ a2) ++ (⟨#[63]⟩ : ByteArray)) ++ a3)] rfl (by (try simp only [List.map_toArray, List.map_cons, List.map_nil]); first | done | rfl | (simp only [List.length_drop, List.length_take]; rfl)) ?_; (with_reducible refine (route_Rewrite.calls k3 a0 (⟨#[]⟩ : ByteArray) a1 ((((a0 ++ (⟨#[47]⟩ : ByteArray)) ++ a2) ++ (⟨#[63]⟩ : ByteArray)) ++ a3) t179 t180 _ A27.out).mono ?_); rintro e w31 ⟨rfl, hb⟩; refine ⟨_, rfl, ?_⟩; have n0_ := Aside0.mk (below_step (by repeat (first | (with_reducible first | exact HB.out | apply below_alloc | apply pw_below_drewN | apply below_drew1) | exact HB.out)) hb); clear HB; have HB := n0_; clear n0_; (try clear hb); (try clear hb2); (try clear hk); (try clear hi)) | ((with_reducible refine gate_callee (f := 10) rfl ?_); refine goesL_ (some 84) rfl rfl Try.func10 (by kernel_rfl) rfl #[.agg #[.string a0, .string (⟨#[]⟩ : ByteArray), .string a0], .string (a0 ++ a2)] rfl (by (try simp only [List.map_toArray, List.map_cons, List.map_nil]); first | done | rfl | (simp only [List.length_drop, List.length_take]; rfl)) ?_; (with_reducible refine (route_Rewrite.calls k3 a0 (⟨#[]⟩ : ByteArray) a0 (a0 ++ a2) t181 t182 _ A29.out).mono ?_); rintro e w32 ⟨rfl, hb⟩; refine ⟨_, rfl, ?_⟩; have n0_ := Aside0.mk (below_step (by repeat (first | (with_reducible first | exact HB.out | apply below_alloc | apply pw_below_drewN | apply below_drew1) | exact HB.out)) hb); clear HB; have HB := n0_; clear n0_; (try clear hb); (try clear hb2); (try clear hk); (try clear hi)))
                                (try simp only [Act.put, List.setIfInBounds_toArray, List.set_cons_zero, List.set_cons_succ])
                                go_cut [116] (fun v116 wc => ∃ (kq : Nat) (x116_29 : Bool), v116 = .bool x116_29 ∧ Aside0 (tollbarlaw11_RouteSwaps.j3 kq a0 a2 ((((a0 ++ (⟨#[47]⟩ : ByteArray)) ++ a2) ++ (⟨#[63]⟩ : ByteArray)) ++ a3) t181 t182 x116_29 = some r) ∧ Aside0 (kq ≤ k3) ∧ Aside0 (Below w.heap.size w wc))
                                case first =>
                                  have H := HC30.out
                                  clear HC30
                                  by_cases c33 : t180 = true
                                  · subst c33
                                    have H1 : (if (t179.size : Int) < (a1.size : Int) then (tollbarlaw11_RouteSwaps.j3 k3 a0 a2 ((((a0 ++ (⟨#[47]⟩ : ByteArray)) ++ a2) ++ (⟨#[63]⟩ : ByteArray)) ++ a3) t181 t182 true) else (if 0 ≤ (a1.size : Int) then (if (a1.size : Int) ≤ (t179.size : Int) then (if (t179.extract 0 a1.size).toList = a1.toList then (if 0 ≤ (wrap64 ((wrap64 ((t179.size : Int) - (a3.size : Int))) - 1)) then (if (wrap64 ((wrap64 ((t179.size : Int) - (a3.size : Int))) - 1)) ≤ (t179.size : Int) then (if 1 + a3.size ≤ 9223372036854775807 then (tollbarlaw11_RouteSwaps.j3 k3 a0 a2 ((((a0 ++ (⟨#[47]⟩ : ByteArray)) ++ a2) ++ (⟨#[63]⟩ : ByteArray)) ++ a3) t181 t182 ((t179.extract ((wrap64 ((wrap64 ((t179.size : Int) - (a3.size : Int))) - 1)) : Int).toNat t179.size).toList != ((⟨#[63]⟩ : ByteArray) ++ a3).toList)) else (none)) else (none)) else (none)) else (tollbarlaw11_RouteSwaps.j3 k3 a0 a2 ((((a0 ++ (⟨#[47]⟩ : ByteArray)) ++ a2) ++ (⟨#[63]⟩ : ByteArray)) ++ a3) t181 t182 true)) else (none)) else (none))) = some r := by rw [if_pos rfl] at H; exact H
                                    clear H
                                    have H := H1
                                    clear H1
                                    by_cases c34 : (t179.size : Int) < (a1.size : Int)
                                    · rw [if_pos c34] at H
                                      have c34b0 : decide ((t179.size : Int) < (a1.size : Int)) = true := decide_eq_true c34
                                      try (have c34z_ := c34; simp only [xsz_app, xsz_rest, xsz_mk, List.length_cons, List.length_nil, Nat.zero_add, Int.natCast_add] at c34z_)
                                      have c34b1 : decide (t179.size < a1.size) = true := decide_eq_true (Int.ofNat_lt.mp c34)
                                      clear c34
                                      (first | rw [c34b0] | (simp only [i64_w, i32_w]; rw [c34b0]) | skip)
                                      have H' := Aside0.mk H
                                      clear H
                                      go_wp2
                                      go_meet
                                      case rel => exact ⟨_, (true), (by first | rfl | (simp; done) | (simp [*]; done)), H', ⟨by have := HJ6.out; have := HK2.out; have := HK3.out; first | omega | exact Nat.le_refl _⟩, ⟨by repeat (first | (with_reducible first | exact HB.out | apply below_alloc | apply pw_below_drewN | apply below_drew1) | exact HB.out)⟩⟩
                                    · rw [if_neg c34] at H
                                      have c34b0 : decide ((t179.size : Int) < (a1.size : Int)) = false := decide_eq_false c34
                                      try (have c34z_ := c34; simp only [xsz_app, xsz_rest, xsz_mk, List.length_cons, List.length_nil, Nat.zero_add, Int.natCast_add] at c34z_)
                                      have c34b1 : decide (t179.size < a1.size) = false := decide_eq_false (fun h => c34 (Int.ofNat_lt.mpr h))
                                      clear c34
                                      (first | rw [c34b0] | (simp only [i64_w, i32_w]; rw [c34b0]) | skip)
                                      by_cases c35 : 0 ≤ (a1.size : Int)
                                      · rw [if_pos c35] at H
                                        have c35b0 := eq_true c35
                                        have c35b1 : decide (0 ≤ (a1.size : Int)) = true := decide_eq_true c35
                                        clear c35
                                        by_cases c36 : (a1.size : Int) ≤ (t179.size : Int)
                                        · rw [if_pos c36] at H
                                          have c36b0 := eq_true c36
                                          have c36b1 : decide ((a1.size : Int) ≤ (t179.size : Int)) = true := decide_eq_true c36
                                          clear c36
                                          by_cases c37 : (t179.extract 0 a1.size).toList = a1.toList
                                          · rw [if_pos c37] at H
                                            have c37b0 : ((t179.extract 0 a1.size).toList == a1.toList) = true := beq_iff_eq.mpr c37
                                            try (have c37z_ := c37; simp only [xsz_app, xsz_rest, xsz_mk, List.length_cons, List.length_nil, Nat.zero_add, Int.natCast_add] at c37z_)
                                            have c37b1 : ((t179.extract 0 a1.size).toList != a1.toList) = false := bne_eq_false_iff_eq.mpr c37
                                            clear c37
                                            obtain ⟨ji38, hji38⟩ : ∃ j_ : Int, (wrap64 ((wrap64 ((t179.size : Int) - (a3.size : Int))) - 1)) = j_ := ⟨_, rfl⟩
                                            replace H : (if 0 ≤ (ji38) then (if (ji38) ≤ (t179.size : Int) then (if 1 + a3.size ≤ 9223372036854775807 then (tollbarlaw11_RouteSwaps.j3 k3 a0 a2 ((((a0 ++ (⟨#[47]⟩ : ByteArray)) ++ a2) ++ (⟨#[63]⟩ : ByteArray)) ++ a3) t181 t182 ((t179.extract ((ji38) : Int).toNat t179.size).toList != ((⟨#[63]⟩ : ByteArray) ++ a3).toList)) else (none)) else (none)) else (none)) = some r := by first | (rw [hji38] at H; exact H) | (simp only [hji38] at H ⊢; exact H)
                                            have hji38w : (IntKind.i64.wrap ((wrap64 ((t179.size : Int) - (a3.size : Int))) - 1)) = ji38 := (i64_w _).trans hji38
                                            by_cases c39 : 0 ≤ (ji38)
                                            · rw [if_pos c39] at H
                                              have c39b0 := eq_true c39
                                              have c39b1 : decide (0 ≤ (ji38)) = true := decide_eq_true c39
                                              clear c39
                                              by_cases c40 : (ji38) ≤ (t179.size : Int)
                                              · rw [if_pos c40] at H
                                                have c40b0 := eq_true c40
                                                have c40b1 : decide ((ji38) ≤ (t179.size : Int)) = true := decide_eq_true c40
                                                clear c40
                                                by_cases c41 : 1 + a3.size ≤ 9223372036854775807
                                                · rw [if_pos c41] at H
                                                  have c41b0 := eq_true c41
                                                  have c41b1 : decide (1 + a3.size ≤ 9223372036854775807) = true := decide_eq_true c41
                                                  try have c41b2 : (9223372036854775807 < 1 + a3.size) = False := eq_false (Nat.not_lt.2 c41)
                                                  have H' := Aside0.mk H
                                                  clear H
                                                  go_wp2
                                                  go_meet
                                                  case rel => exact ⟨_, (((t179.extract ((ji38) : Int).toNat t179.size).toList != ((⟨#[63]⟩ : ByteArray) ++ a3).toList)), (by first | rfl | (simp; done) | (simp only [← hji38] <;> (first | rfl | simp)) | (simp [*]; done)), H', ⟨by have := HJ6.out; have := HK2.out; have := HK3.out; first | omega | exact Nat.le_refl _⟩, ⟨by repeat (first | (with_reducible first | exact HB.out | apply below_alloc | apply pw_below_drewN | apply below_drew1) | exact HB.out)⟩⟩
                                                · rw [if_neg c41] at H
                                                  exact absurd H (by simp)
                                              · rw [if_neg c40] at H
                                                exact absurd H (by simp)
                                            · rw [if_neg c39] at H
                                              exact absurd H (by simp)
                                          · rw [if_neg c37] at H
                                            have c37b0 : ((t179.extract 0 a1.size).toList == a1.toList) = false := beq_eq_false_iff_ne.mpr c37
                                            try (have c37z_ := c37; simp only [xsz_app, xsz_rest, xsz_mk, List.length_cons, List.length_nil, Nat.zero_add, Int.natCast_add] at c37z_)
                                            have c37b1 : ((t179.extract 0 a1.size).toList != a1.toList) = true := bne_iff_ne.mpr c37
                                            have H' := Aside0.mk H
                                            clear H
                                            go_wp2
                                            go_meet
                                            case rel => exact ⟨_, (true), (by first | rfl | (simp; done) | (simp [*]; done)), H', ⟨by have := HJ6.out; have := HK2.out; have := HK3.out; first | omega | exact Nat.le_refl _⟩, ⟨by repeat (first | (with_reducible first | exact HB.out | apply below_alloc | apply pw_below_drewN | apply below_drew1) | exact HB.out)⟩⟩
                                        · rw [if_neg c36] at H
                                          exact absurd H (by simp)
                                      · rw [if_neg c35] at H
                                        exact absurd H (by simp)
                                  · replace c33 := Bool.eq_false_iff.mpr c33
                                    subst c33
                                    have H1 : (tollbarlaw11_RouteSwaps.j3 k3 a0 a2 ((((a0 ++ (⟨#[47]⟩ : ByteArray)) ++ a2) ++ (⟨#[63]⟩ : ByteArray)) ++ a3) t181 t182 true) = some r := by rw [if_neg (show ¬ (false = true) by decide)] at H; exact H
                                    clear H
                                    have H := H1
                                    clear H1
                                    have H' := Aside0.mk H
                                    clear H
                                    go_wp2
                                    go_meet
                                    case rel => exact ⟨_, (true), (by first | rfl | (simp; done) | (simp [*]; done)), H', ⟨by have := HJ6.out; have := HK2.out; have := HK3.out; first | omega | exact Nat.le_refl _⟩, ⟨by repeat (first | (with_reducible first | exact HB.out | apply below_alloc | apply pw_below_drewN | apply below_drew1) | exact HB.out)⟩⟩
                                case rest =>
                                  clear HC30
                                  try clear c1
                                  try clear p1
                                  try clear q1
                                  try clear hx1
                                  try clear c2
                                  try clear p2
                                  try clear q2
                                  try clear hx2
                                  try clear c3
                                  try clear c4
                                  try clear c5
                                  try clear c6
                                  try clear p6
                                  try clear c7
                                  try clear c10
                                  try clear c12
                                  try clear c13
                                  try clear c14
                                  try clear c14b0
                                  try clear c15
                                  try clear c15b0
                                  try clear p16
                                  try clear q16
                                  try clear hx16
                                  try clear c17
                                  try clear c17b0
                                  try clear c17b1
                                  try clear c19
                                  try clear c19b0
                                  try clear c19b1
                                  try clear c19b2
                                  try clear c20
                                  try clear c20b0
                                  try clear c20b1
                                  try clear c20b2
                                  try clear c21
                                  try clear c21b0
                                  try clear c21b1
                                  try clear c21b2
                                  try clear c22
                                  try clear c22b0
                                  try clear c22b1
                                  try clear c22b2
                                  try clear c23
                                  try clear c23b0
                                  try clear c24
                                  try clear c24b0
                                  try clear p25
                                  try clear q25
                                  try clear hx25
                                  try clear c26
                                  try clear c26b0
                                  try clear c26b1
                                  try clear c28
                                  try clear c28b0
                                  try clear c28b1
                                  try clear c28b2
                                  try clear c33
                                  try clear c34
                                  try clear c34b0
                                  try clear c34b1
                                  try clear c35
                                  try clear c35b0
                                  try clear c35b1
                                  try clear c36
                                  try clear c36b0
                                  try clear c36b1
                                  try clear c37
                                  try clear c37b0
                                  try clear c37b1
                                  try clear c39
                                  try clear c39b0
                                  try clear c39b1
                                  try clear c40
                                  try clear c40b0
                                  try clear c40b1
                                  try clear c41
                                  try clear c41b0
                                  try clear c41b1
                                  try clear c41b2
                                  try clear p1
                                  try clear p16
                                  try clear p2
                                  try clear p25
                                  try clear p6
                                  try clear q1
                                  try clear q16
                                  try clear q25
                                  obtain ⟨kq, x116_29, rfl, HA, HJ29, HB⟩ := hcut
                                  cases kq with
                                  | zero => exact absurd HA.out (by simp [tollbarlaw11_RouteSwaps.j3])
                                  | succ kj29 =>
                                    have H := HA.out
                                    clear HA
                                    simp only [tollbarlaw11_RouteSwaps.j3] at H
                                    by_cases c42 : x116_29 = true
                                    · subst c42
                                      have H1 : (some false) = some r := by rw [if_pos rfl] at H; exact H
                                      clear H
                                      have H := H1
                                      clear H1
                                      obtain rfl := Option.some.inj H
                                      go_wp2
                                      go_ret
                                      exact ⟨by first | rfl | (simp [errW_none, errW_some] <;> rfl) | (simp [*, errW_none, errW_some] <;> rfl), by repeat (first | (with_reducible first | exact HB.out | apply below_alloc | apply pw_below_drewN | apply below_drew1) | exact HB.out)⟩
                                    · replace c42 := Bool.eq_false_iff.mpr c42
                                      subst c42
                                      have H1 : (if a0.size + a2.size ≤ 9223372036854775807 then ((route_Fits.f a0 (a0 ++ a2)).bind fun t183 => (if t183 = true then (if 0 ≤ (wrap64 ((a0.size : Int) - 1)) then (if (wrap64 ((a0.size : Int) - 1)) < (a0.size : Int) then (if (bt a0 (wrap64 ((a0.size : Int) - 1))) = 47 then (if (a2.size : Int) > 0 then (if 0 < (a2.size : Int) then (tollbarlaw11_RouteSwaps.j4 kj29 a0 a2 ((((a0 ++ (⟨#[47]⟩ : ByteArray)) ++ a2) ++ (⟨#[63]⟩ : ByteArray)) ++ a3) t181 t182 ((bt a2 0) == 47)) else (none)) else (tollbarlaw11_RouteSwaps.j4 kj29 a0 a2 ((((a0 ++ (⟨#[47]⟩ : ByteArray)) ++ a2) ++ (⟨#[63]⟩ : ByteArray)) ++ a3) t181 t182 false)) else (tollbarlaw11_RouteSwaps.j4 kj29 a0 a2 ((((a0 ++ (⟨#[47]⟩ : ByteArray)) ++ a2) ++ (⟨#[63]⟩ : ByteArray)) ++ a3) t181 t182 false)) else (none)) else (none)) else ((route_Fits.f a0 ((((a0 ++ (⟨#[47]⟩ : ByteArray)) ++ a2) ++ (⟨#[63]⟩ : ByteArray)) ++ a3)).bind fun t189 => (if t189 = true then ((route_Match.f kj29 (([(⟨a0, (⟨#[]⟩ : ByteArray), (⟨#[]⟩ : ByteArray)⟩ : S26)] : List (S26))) ((((a0 ++ (⟨#[47]⟩ : ByteArray)) ++ a2) ++ (⟨#[63]⟩ : ByteArray)) ++ a3)).bind fun t193 => (some (t193 == 0))) else (some false))))) else (none)) = some r := by rw [if_neg (show ¬ (false = true) by decide)] at H; exact H
                                      clear H
                                      have H := H1
                                      clear H1
                                      by_cases c43 : a0.size + a2.size ≤ 9223372036854775807
                                      · rw [if_pos c43] at H
                                        have c43b0 := eq_true c43
                                        have c43b1 : decide (a0.size + a2.size ≤ 9223372036854775807) = true := decide_eq_true c43
                                        try have c43b2 : (9223372036854775807 < a0.size + a2.size) = False := eq_false (Nat.not_lt.2 c43)
                                        replace H := Option.bind_eq_some_iff.mp H
                                        obtain ⟨t183, A440, H⟩ := H
                                        replace H : (if t183 = true then (if 0 ≤ (wrap64 ((a0.size : Int) - 1)) then (if (wrap64 ((a0.size : Int) - 1)) < (a0.size : Int) then (if (bt a0 (wrap64 ((a0.size : Int) - 1))) = 47 then (if (a2.size : Int) > 0 then (if 0 < (a2.size : Int) then (tollbarlaw11_RouteSwaps.j4 kj29 a0 a2 ((((a0 ++ (⟨#[47]⟩ : ByteArray)) ++ a2) ++ (⟨#[63]⟩ : ByteArray)) ++ a3) t181 t182 ((bt a2 0) == 47)) else (none)) else (tollbarlaw11_RouteSwaps.j4 kj29 a0 a2 ((((a0 ++ (⟨#[47]⟩ : ByteArray)) ++ a2) ++ (⟨#[63]⟩ : ByteArray)) ++ a3) t181 t182 false)) else (tollbarlaw11_RouteSwaps.j4 kj29 a0 a2 ((((a0 ++ (⟨#[47]⟩ : ByteArray)) ++ a2) ++ (⟨#[63]⟩ : ByteArray)) ++ a3) t181 t182 false)) else (none)) else (none)) else ((route_Fits.f a0 ((((a0 ++ (⟨#[47]⟩ : ByteArray)) ++ a2) ++ (⟨#[63]⟩ : ByteArray)) ++ a3)).bind fun t189 => (if t189 = true then ((route_Match.f kj29 (([(⟨a0, (⟨#[]⟩ : ByteArray), (⟨#[]⟩ : ByteArray)⟩ : S26)] : List (S26))) ((((a0 ++ (⟨#[47]⟩ : ByteArray)) ++ a2) ++ (⟨#[63]⟩ : ByteArray)) ++ a3)).bind fun t193 => (some (t193 == 0))) else (some false)))) = some r := H
                                        have A44 := Aside0.mk A440
                                        clear A440
                                        by_cases c45 : t183 = true
                                        · subst c45
                                          have H1 : (if 0 ≤ (wrap64 ((a0.size : Int) - 1)) then (if (wrap64 ((a0.size : Int) - 1)) < (a0.size : Int) then (if (bt a0 (wrap64 ((a0.size : Int) - 1))) = 47 then (if (a2.size : Int) > 0 then (if 0 < (a2.size : Int) then (tollbarlaw11_RouteSwaps.j4 kj29 a0 a2 ((((a0 ++ (⟨#[47]⟩ : ByteArray)) ++ a2) ++ (⟨#[63]⟩ : ByteArray)) ++ a3) t181 t182 ((bt a2 0) == 47)) else (none)) else (tollbarlaw11_RouteSwaps.j4 kj29 a0 a2 ((((a0 ++ (⟨#[47]⟩ : ByteArray)) ++ a2) ++ (⟨#[63]⟩ : ByteArray)) ++ a3) t181 t182 false)) else (tollbarlaw11_RouteSwaps.j4 kj29 a0 a2 ((((a0 ++ (⟨#[47]⟩ : ByteArray)) ++ a2) ++ (⟨#[63]⟩ : ByteArray)) ++ a3) t181 t182 false)) else (none)) else (none)) = some r := by rw [if_pos rfl] at H; exact H
                                          clear H
                                          have H := H1
                                          clear H1
                                          have HC46 := Aside0.mk H
                                          clear H
                                          go_upto_region 22 with (first | ((with_reducible refine gate_callee (f := 12) rfl ?_); refine goesL_ (some 121) rfl rfl Try.func12 (by kernel_rfl) rfl #[.string a0, .string (a0 ++ a2)] rfl (by (try simp only [List.map_toArray, List.map_cons, List.map_nil]); first | done | rfl | (simp only [List.length_drop, List.length_take]; rfl)) ?_; (with_reducible refine (route_Fits.calls a0 (a0 ++ a2) true _ A44.out).mono ?_); rintro e w' ⟨rfl, ⟨nd, rfl⟩⟩; refine ⟨_, rfl, ?_⟩))
                                          (try simp only [Act.put, List.setIfInBounds_toArray, List.set_cons_zero, List.set_cons_succ])
                                          go_cut [17] (fun v17 wc => ∃ (kq : Nat) (x17_45 : Bool), v17 = .bool x17_45 ∧ Aside0 (tollbarlaw11_RouteSwaps.j4 kq a0 a2 ((((a0 ++ (⟨#[47]⟩ : ByteArray)) ++ a2) ++ (⟨#[63]⟩ : ByteArray)) ++ a3) t181 t182 x17_45 = some r) ∧ Aside0 (kq ≤ kj29) ∧ Aside0 (Below w.heap.size w wc))
                                          case first =>
                                            have H := HC46.out
                                            clear HC46
                                            obtain ⟨ji47, hji47⟩ : ∃ j_ : Int, (wrap64 ((a0.size : Int) - 1)) = j_ := ⟨_, rfl⟩
                                            replace H : (if 0 ≤ (ji47) then (if (ji47) < (a0.size : Int) then (if (bt a0 (ji47)) = 47 then (if (a2.size : Int) > 0 then (if 0 < (a2.size : Int) then (tollbarlaw11_RouteSwaps.j4 kj29 a0 a2 ((((a0 ++ (⟨#[47]⟩ : ByteArray)) ++ a2) ++ (⟨#[63]⟩ : ByteArray)) ++ a3) t181 t182 ((bt a2 0) == 47)) else (none)) else (tollbarlaw11_RouteSwaps.j4 kj29 a0 a2 ((((a0 ++ (⟨#[47]⟩ : ByteArray)) ++ a2) ++ (⟨#[63]⟩ : ByteArray)) ++ a3) t181 t182 false)) else (tollbarlaw11_RouteSwaps.j4 kj29 a0 a2 ((((a0 ++ (⟨#[47]⟩ : ByteArray)) ++ a2) ++ (⟨#[63]⟩ : ByteArray)) ++ a3) t181 t182 false)) else (none)) else (none)) = some r := by first | (rw [hji47] at H; exact H) | (simp only [hji47] at H ⊢; exact H)
                                            have hji47w : (IntKind.i64.wrap ((a0.size : Int) - 1)) = ji47 := (i64_w _).trans hji47
                                            by_cases c48 : 0 ≤ (ji47)
                                            · rw [if_pos c48] at H
                                              have c48b0 : decide (0 ≤ (ji47)) = true := decide_eq_true c48
                                              clear c48
                                              (first | rw [c48b0] | (simp only [i64_w, i32_w]; rw [c48b0]) | skip)
                                              by_cases c49 : (ji47) < (a0.size : Int)
                                              · rw [if_pos c49] at H
                                                have c49b0 : decide ((ji47) < (a0.size : Int)) = true := decide_eq_true c49
                                                try (have c49z_ := c49; simp only [xsz_app, xsz_rest, xsz_mk, List.length_cons, List.length_nil, Nat.zero_add, Int.natCast_add] at c49z_)
                                                clear c49
                                                by_cases c51 : (bt a0 (ji47)) = 47
                                                · rw [if_pos c51] at H
                                                  have c51b0 : ((bt a0 (ji47)) == 47) = true := beq_iff_eq.mpr c51
                                                  have c51b1 : ((bt a0 (ji47)) != 47) = false := bne_eq_false_iff_eq.mpr c51
                                                  clear c51
                                                  by_cases c52 : (a2.size : Int) > 0
                                                  · rw [if_pos c52] at H
                                                    have c52b0 : decide (0 < (a2.size : Int)) = true := decide_eq_true c52
                                                    try (have c52z_ := c52; simp only [xsz_app, xsz_rest, xsz_mk, List.length_cons, List.length_nil, Nat.zero_add, Int.natCast_add] at c52z_)
                                                    have c52b1 : decide (0 < a2.size) = true := decide_eq_true (by omega)
                                                    clear c52
                                                    by_cases c53 : 0 < (a2.size : Int)
                                                    · rw [if_pos c53] at H
                                                      have c53b0 : decide (0 < (a2.size : Int)) = true := decide_eq_true c53
                                                      try (have c53z_ := c53; simp only [xsz_app, xsz_rest, xsz_mk, List.length_cons, List.length_nil, Nat.zero_add, Int.natCast_add] at c53z_)
                                                      have c53b1 : decide (0 < a2.size) = true := decide_eq_true (by omega)
                                                      clear c53
                                                      have H' := Aside0.mk H
                                                      clear H
                                                      have p50 : 0 ≤ ((ji47) : Int) := of_decide_eq_true (by first | (with_reducible assumption) | assumption)
                                                      have q50 : (ji47) < (a0.size : Int) := of_decide_eq_true (by first | (with_reducible assumption) | assumption)
                                                      have hx50 := bt_at a0 (ji47)
                                                      replace p50 := eq_true p50
                                                      replace q50 := eq_true q50
                                                      have p54 : 0 ≤ (0 : Int) := (by omega)
                                                      have q54 : 0 < a2.size := (by have : (0 : Int) < (a2.size : Int) := of_decide_eq_true (by first | (with_reducible assumption) | assumption); omega)
                                                      have hx54 : ∀ h : 0 < a2.size, ((a2[0]'h).toNat : Int) = bt a2 0 := bt_at a2 0
                                                      clear p54
                                                      have qi54 : (0 < (a2.size : Int)) = True := eq_true (of_decide_eq_true (by first | (with_reducible assumption) | assumption))
                                                      replace q54 := eq_true q54
                                                      go_wp2
                                                      go_meet
                                                      case rel => exact ⟨_, (((bt a2 0) == 47)), (by first | rfl | (simp; done) | (simp [*]; done)), H', ⟨by have := HJ6.out; have := HK2.out; have := HK3.out; have := HJ29.out; first | omega | exact Nat.le_refl _⟩, ⟨by repeat (first | (with_reducible first | exact HB.out | apply below_alloc | apply pw_below_drewN | apply below_drew1) | exact HB.out)⟩⟩
                                                    · rw [if_neg c53] at H
                                                      exact absurd H (by simp)
                                                  · rw [if_neg c52] at H
                                                    have c52b0 : decide (0 < (a2.size : Int)) = false := decide_eq_false c52
                                                    try (have c52z_ := c52; simp only [xsz_app, xsz_rest, xsz_mk, List.length_cons, List.length_nil, Nat.zero_add, Int.natCast_add] at c52z_)
                                                    have c52b1 : decide (0 < a2.size) = false := decide_eq_false (by omega)
                                                    clear c52
                                                    have H' := Aside0.mk H
                                                    clear H
                                                    have p50 : 0 ≤ ((ji47) : Int) := of_decide_eq_true (by first | (with_reducible assumption) | assumption)
                                                    have q50 : (ji47) < (a0.size : Int) := of_decide_eq_true (by first | (with_reducible assumption) | assumption)
                                                    have hx50 := bt_at a0 (ji47)
                                                    replace p50 := eq_true p50
                                                    replace q50 := eq_true q50
                                                    go_wp2
                                                    go_meet
                                                    case rel => exact ⟨_, (false), (by first | rfl | (simp; done) | (simp [*]; done)), H', ⟨by have := HJ6.out; have := HK2.out; have := HK3.out; have := HJ29.out; first | omega | exact Nat.le_refl _⟩, ⟨by repeat (first | (with_reducible first | exact HB.out | apply below_alloc | apply pw_below_drewN | apply below_drew1) | exact HB.out)⟩⟩
                                                · rw [if_neg c51] at H
                                                  have c51b0 : ((bt a0 (ji47)) == 47) = false := beq_eq_false_iff_ne.mpr c51
                                                  have c51b1 : ((bt a0 (ji47)) != 47) = true := bne_iff_ne.mpr c51
                                                  have H' := Aside0.mk H
                                                  clear H
                                                  have p50 : 0 ≤ ((ji47) : Int) := of_decide_eq_true (by first | (with_reducible assumption) | assumption)
                                                  have q50 : (ji47) < (a0.size : Int) := of_decide_eq_true (by first | (with_reducible assumption) | assumption)
                                                  have hx50 := bt_at a0 (ji47)
                                                  replace p50 := eq_true p50
                                                  replace q50 := eq_true q50
                                                  go_wp2
                                                  go_meet
                                                  case rel => exact ⟨_, (false), (by first | rfl | (simp; done) | (simp [*]; done)), H', ⟨by have := HJ6.out; have := HK2.out; have := HK3.out; have := HJ29.out; first | omega | exact Nat.le_refl _⟩, ⟨by repeat (first | (with_reducible first | exact HB.out | apply below_alloc | apply pw_below_drewN | apply below_drew1) | exact HB.out)⟩⟩
                                              · rw [if_neg c49] at H
                                                exact absurd H (by simp)
                                            · rw [if_neg c48] at H
                                              exact absurd H (by simp)
                                          case rest =>
                                            clear HC46
                                            try clear c1
                                            try clear p1
                                            try clear q1
                                            try clear hx1
                                            try clear c2
                                            try clear p2
                                            try clear q2
                                            try clear hx2
                                            try clear c3
                                            try clear c4
                                            try clear c5
                                            try clear p5
                                            try clear q5
                                            try clear hx5
                                            try clear qi5
                                            try clear c6
                                            try clear p6
                                            try clear c7
                                            try clear c10
                                            try clear c12
                                            try clear c13
                                            try clear c14
                                            try clear c14b0
                                            try clear c15
                                            try clear c15b0
                                            try clear p16
                                            try clear q16
                                            try clear hx16
                                            try clear c17
                                            try clear c17b0
                                            try clear c17b1
                                            try clear c19
                                            try clear c19b0
                                            try clear c19b1
                                            try clear c19b2
                                            try clear c20
                                            try clear c20b0
                                            try clear c20b1
                                            try clear c20b2
                                            try clear c21
                                            try clear c21b0
                                            try clear c21b1
                                            try clear c21b2
                                            try clear c22
                                            try clear c22b0
                                            try clear c22b1
                                            try clear c22b2
                                            try clear c23
                                            try clear c23b0
                                            try clear c24
                                            try clear c24b0
                                            try clear p25
                                            try clear q25
                                            try clear hx25
                                            try clear c26
                                            try clear c26b0
                                            try clear c26b1
                                            try clear c28
                                            try clear c28b0
                                            try clear c28b1
                                            try clear c28b2
                                            try clear c33
                                            try clear c34
                                            try clear c34b0
                                            try clear c34b1
                                            try clear c35
                                            try clear c35b0
                                            try clear c35b1
                                            try clear c36
                                            try clear c36b0
                                            try clear c36b1
                                            try clear c37
                                            try clear c37b0
                                            try clear c37b1
                                            try clear c39
                                            try clear c39b0
                                            try clear c39b1
                                            try clear c40
                                            try clear c40b0
                                            try clear c40b1
                                            try clear c41
                                            try clear c41b0
                                            try clear c41b1
                                            try clear c41b2
                                            try clear c42
                                            try clear c43
                                            try clear c43b0
                                            try clear c43b1
                                            try clear c43b2
                                            try clear c45
                                            try clear c48
                                            try clear c48b0
                                            try clear c49
                                            try clear c49b0
                                            try clear p50
                                            try clear q50
                                            try clear hx50
                                            try clear c51
                                            try clear c51b0
                                            try clear c51b1
                                            try clear c52
                                            try clear c52b0
                                            try clear c52b1
                                            try clear c53
                                            try clear c53b0
                                            try clear c53b1
                                            try clear p54
                                            try clear q54
                                            try clear hx54
                                            try clear qi54
                                            try clear p1
                                            try clear p16
                                            try clear p2
                                            try clear p25
                                            try clear p50
                                            try clear p54
                                            try clear p6
                                            try clear q1
                                            try clear q16
                                            try clear q2
                                            try clear q25
                                            try clear q50
                                            try clear q54
                                            obtain ⟨kq, x17_45, rfl, HA, HJ45, HB⟩ := hcut
                                            cases kq with
                                            | zero => exact absurd HA.out (by simp [tollbarlaw11_RouteSwaps.j4])
                                            | succ kj45 =>
                                              have H := HA.out
                                              clear HA
                                              simp only [tollbarlaw11_RouteSwaps.j4] at H
                                              have HC55 := Aside0.mk H
                                              clear H
                                              go_upto_region 23 with (fail)
                                              go_cut [161] (fun v161 wc => ∃ (kq : Nat) (x161_54 : Bool), v161 = .bool x161_54 ∧ Aside0 (tollbarlaw11_RouteSwaps.j5 kq a0 ((((a0 ++ (⟨#[47]⟩ : ByteArray)) ++ a2) ++ (⟨#[63]⟩ : ByteArray)) ++ a3) x161_54 = some r) ∧ Aside0 (kq ≤ kj45) ∧ Aside0 (Below w.heap.size w wc))
                                              case first =>
                                                have H := HC55.out
                                                clear HC55
                                                by_cases c56 : t182 = true
                                                · subst c56
                                                  have H1 : (if x17_45 = true then (if 1 ≤ (a2.size : Int) then (if a0.size + (a2.size - 1 : Nat) ≤ 9223372036854775807 then (tollbarlaw11_RouteSwaps.j5 kj45 a0 ((((a0 ++ (⟨#[47]⟩ : ByteArray)) ++ a2) ++ (⟨#[63]⟩ : ByteArray)) ++ a3) (t181.toList != (a0 ++ (a2.extract 1 a2.size)).toList)) else (none)) else (none)) else (if a0.size + a2.size ≤ 9223372036854775807 then (if t181.toList = (a0 ++ a2).toList then (tollbarlaw11_RouteSwaps.j5 kj45 a0 ((((a0 ++ (⟨#[47]⟩ : ByteArray)) ++ a2) ++ (⟨#[63]⟩ : ByteArray)) ++ a3) false) else (tollbarlaw11_RouteSwaps.j5 kj45 a0 ((((a0 ++ (⟨#[47]⟩ : ByteArray)) ++ a2) ++ (⟨#[63]⟩ : ByteArray)) ++ a3) true)) else (none))) = some r := by rw [if_pos rfl] at H; exact H
                                                  clear H
                                                  have H := H1
                                                  clear H1
                                                  by_cases c57 : x17_45 = true
                                                  · subst c57
                                                    have H1 : (if 1 ≤ (a2.size : Int) then (if a0.size + (a2.size - 1 : Nat) ≤ 9223372036854775807 then (tollbarlaw11_RouteSwaps.j5 kj45 a0 ((((a0 ++ (⟨#[47]⟩ : ByteArray)) ++ a2) ++ (⟨#[63]⟩ : ByteArray)) ++ a3) (t181.toList != (a0 ++ (a2.extract 1 a2.size)).toList)) else (none)) else (none)) = some r := by rw [if_pos rfl] at H; exact H
                                                    clear H
                                                    have H := H1
                                                    clear H1
                                                    by_cases c58 : 1 ≤ (a2.size : Int)
                                                    · rw [if_pos c58] at H
                                                      have c58b0 := eq_true c58
                                                      have c58b1 : decide (1 ≤ (a2.size : Int)) = true := decide_eq_true c58
                                                      clear c58
                                                      by_cases c59 : a0.size + (a2.size - 1 : Nat) ≤ 9223372036854775807
                                                      · rw [if_pos c59] at H
                                                        have c59b0 := eq_true c59
                                                        have c59b1 : decide (a0.size + (a2.size - 1 : Nat) ≤ 9223372036854775807) = true := decide_eq_true c59
                                                        try have c59b2 : (9223372036854775807 < a0.size + (a2.size - 1 : Nat)) = False := eq_false (Nat.not_lt.2 c59)
                                                        have H' := Aside0.mk H
                                                        clear H
                                                        go_wp2
                                                        go_meet
                                                        case rel => exact ⟨_, ((t181.toList != (a0 ++ (a2.extract 1 a2.size)).toList)), (by first | rfl | (simp; done) | (simp [*]; done)), H', ⟨by have := HJ6.out; have := HK2.out; have := HK3.out; have := HJ29.out; have := HJ45.out; first | omega | exact Nat.le_refl _⟩, ⟨by repeat (first | (with_reducible first | exact HB.out | apply below_alloc | apply pw_below_drewN | apply below_drew1) | exact HB.out)⟩⟩
                                                      · rw [if_neg c59] at H
                                                        exact absurd H (by simp)
                                                    · rw [if_neg c58] at H
                                                      exact absurd H (by simp)
                                                  · replace c57 := Bool.eq_false_iff.mpr c57
                                                    subst c57
                                                    have H1 : (if a0.size + a2.size ≤ 9223372036854775807 then (if t181.toList = (a0 ++ a2).toList then (tollbarlaw11_RouteSwaps.j5 kj45 a0 ((((a0 ++ (⟨#[47]⟩ : ByteArray)) ++ a2) ++ (⟨#[63]⟩ : ByteArray)) ++ a3) false) else (tollbarlaw11_RouteSwaps.j5 kj45 a0 ((((a0 ++ (⟨#[47]⟩ : ByteArray)) ++ a2) ++ (⟨#[63]⟩ : ByteArray)) ++ a3) true)) else (none)) = some r := by rw [if_neg (show ¬ (false = true) by decide)] at H; exact H
                                                    clear H
                                                    have H := H1
                                                    clear H1
                                                    by_cases c60 : a0.size + a2.size ≤ 9223372036854775807
                                                    · rw [if_pos c60] at H
                                                      have c60b0 := eq_true c60
                                                      have c60b1 : decide (a0.size + a2.size ≤ 9223372036854775807) = true := decide_eq_true c60
                                                      try have c60b2 : (9223372036854775807 < a0.size + a2.size) = False := eq_false (Nat.not_lt.2 c60)
                                                      by_cases c61 : t181.toList = (a0 ++ a2).toList
                                                      · rw [if_pos c61] at H
                                                        have c61b0 : (t181.toList == (a0 ++ a2).toList) = true := beq_iff_eq.mpr c61
                                                        have c61b1 : (t181.toList != (a0 ++ a2).toList) = false := bne_eq_false_iff_eq.mpr c61
                                                        clear c61
                                                        (first | rw [c61b0] | (simp only [i64_w, i32_w]; rw [c61b0]) | skip)
                                                        have H' := Aside0.mk H
                                                        clear H
                                                        go_wp2
                                                        go_meet
                                                        case rel => exact ⟨_, (false), (by first | rfl | (simp; done) | (simp [*]; done)), H', ⟨by have := HJ6.out; have := HK2.out; have := HK3.out; have := HJ29.out; have := HJ45.out; first | omega | exact Nat.le_refl _⟩, ⟨by repeat (first | (with_reducible first | exact HB.out | apply below_alloc | apply pw_below_drewN | apply below_drew1) | exact HB.out)⟩⟩
                                                      · rw [if_neg c61] at H
                                                        have c61b0 : (t181.toList == (a0 ++ a2).toList) = false := beq_eq_false_iff_ne.mpr c61
                                                        have c61b1 : (t181.toList != (a0 ++ a2).toList) = true := bne_iff_ne.mpr c61
                                                        (first | rw [c61b0] | (simp only [i64_w, i32_w]; rw [c61b0]) | skip)
                                                        have H' := Aside0.mk H
                                                        clear H
                                                        go_wp2
                                                        go_meet
                                                        case rel => exact ⟨_, (true), (by first | rfl | (simp; done) | (simp [*]; done)), H', ⟨by have := HJ6.out; have := HK2.out; have := HK3.out; have := HJ29.out; have := HJ45.out; first | omega | exact Nat.le_refl _⟩, ⟨by repeat (first | (with_reducible first | exact HB.out | apply below_alloc | apply pw_below_drewN | apply below_drew1) | exact HB.out)⟩⟩
                                                    · rw [if_neg c60] at H
                                                      exact absurd H (by simp)
                                                · replace c56 := Bool.eq_false_iff.mpr c56
                                                  subst c56
                                                  have H1 : (tollbarlaw11_RouteSwaps.j5 kj45 a0 ((((a0 ++ (⟨#[47]⟩ : ByteArray)) ++ a2) ++ (⟨#[63]⟩ : ByteArray)) ++ a3) true) = some r := by rw [if_neg (show ¬ (false = true) by decide)] at H; exact H
                                                  clear H
                                                  have H := H1
                                                  clear H1
                                                  have H' := Aside0.mk H
                                                  clear H
                                                  go_wp2
                                                  go_meet
                                                  case rel => exact ⟨_, (true), (by first | rfl | (simp; done) | (simp [*]; done)), H', ⟨by have := HJ6.out; have := HK2.out; have := HK3.out; have := HJ29.out; have := HJ45.out; first | omega | exact Nat.le_refl _⟩, ⟨by repeat (first | (with_reducible first | exact HB.out | apply below_alloc | apply pw_below_drewN | apply below_drew1) | exact HB.out)⟩⟩
                                              case rest =>
                                                clear HC55
                                                try clear c1
                                                try clear p1
                                                try clear q1
                                                try clear hx1
                                                try clear c2
                                                try clear p2
                                                try clear q2
                                                try clear hx2
                                                try clear c3
                                                try clear c4
                                                try clear c5
                                                try clear p5
                                                try clear q5
                                                try clear hx5
                                                try clear qi5
                                                try clear c6
                                                try clear p6
                                                try clear c7
                                                try clear c10
                                                try clear c12
                                                try clear c13
                                                try clear c14
                                                try clear c14b0
                                                try clear c15
                                                try clear c15b0
                                                try clear p16
                                                try clear q16
                                                try clear hx16
                                                try clear c17
                                                try clear c17b0
                                                try clear c17b1
                                                try clear c19
                                                try clear c19b0
                                                try clear c19b1
                                                try clear c19b2
                                                try clear c20
                                                try clear c20b0
                                                try clear c20b1
                                                try clear c20b2
                                                try clear c21
                                                try clear c21b0
                                                try clear c21b1
                                                try clear c21b2
                                                try clear c22
                                                try clear c22b0
                                                try clear c22b1
                                                try clear c22b2
                                                try clear c23
                                                try clear c23b0
                                                try clear c24
                                                try clear c24b0
                                                try clear p25
                                                try clear q25
                                                try clear hx25
                                                try clear c26
                                                try clear c26b0
                                                try clear c26b1
                                                try clear c28
                                                try clear c28b0
                                                try clear c28b1
                                                try clear c28b2
                                                try clear c33
                                                try clear c34
                                                try clear c34b0
                                                try clear c34b1
                                                try clear c35
                                                try clear c35b0
                                                try clear c35b1
                                                try clear c36
                                                try clear c36b0
                                                try clear c36b1
                                                try clear c37
                                                try clear c37b0
                                                try clear c37b1
                                                try clear c39
                                                try clear c39b0
                                                try clear c39b1
                                                try clear c40
                                                try clear c40b0
                                                try clear c40b1
                                                try clear c41
                                                try clear c41b0
                                                try clear c41b1
                                                try clear c41b2
                                                try clear c42
                                                try clear c43
                                                try clear c43b0
                                                try clear c43b1
                                                try clear c43b2
                                                try clear c45
                                                try clear c48
                                                try clear c48b0
                                                try clear c49
                                                try clear c49b0
                                                try clear p50
                                                try clear q50
                                                try clear hx50
                                                try clear c51
                                                try clear c51b0
                                                try clear c51b1
                                                try clear c52
                                                try clear c52b0
                                                try clear c52b1
                                                try clear c53
                                                try clear c53b0
                                                try clear c53b1
                                                try clear p54
                                                try clear q54
                                                try clear hx54
                                                try clear qi54
                                                try clear c56
                                                try clear c57
                                                try clear c58
                                                try clear c58b0
                                                try clear c58b1
                                                try clear c59
                                                try clear c59b0
                                                try clear c59b1
                                                try clear c59b2
                                                try clear c60
                                                try clear c60b0
                                                try clear c60b1
                                                try clear c60b2
                                                try clear c61
                                                try clear c61b0
                                                try clear c61b1
                                                try clear p1
                                                try clear p16
                                                try clear p2
                                                try clear p25
                                                try clear p5
                                                try clear p50
                                                try clear p54
                                                try clear p6
                                                try clear q1
                                                try clear q16
                                                try clear q2
                                                try clear q25
                                                try clear q5
                                                try clear q50
                                                try clear q54
                                                obtain ⟨kq, x161_54, rfl, HA, HJ54, HB⟩ := hcut
                                                cases kq with
                                                | zero => exact absurd HA.out (by simp [tollbarlaw11_RouteSwaps.j5])
                                                | succ kj54 =>
                                                  have H := HA.out
                                                  clear HA
                                                  simp only [tollbarlaw11_RouteSwaps.j5] at H
                                                  by_cases c62 : x161_54 = true
                                                  · subst c62
                                                    have H1 : (some false) = some r := by rw [if_pos rfl] at H; exact H
                                                    clear H
                                                    have H := H1
                                                    clear H1
                                                    obtain rfl := Option.some.inj H
                                                    go_wp2
                                                    go_ret
                                                    exact ⟨by first | rfl | (simp [errW_none, errW_some] <;> rfl) | (simp [*, errW_none, errW_some] <;> rfl), by repeat (first | (with_reducible first | exact HB.out | apply below_alloc | apply pw_below_drewN | apply below_drew1) | exact HB.out)⟩
                                                  · replace c62 := Bool.eq_false_iff.mpr c62
                                                    subst c62
                                                    have H1 : ((route_Fits.f a0 ((((a0 ++ (⟨#[47]⟩ : ByteArray)) ++ a2) ++ (⟨#[63]⟩ : ByteArray)) ++ a3)).bind fun t184 => (if t184 = true then ((route_Match.f kj54 (([(⟨a0, (⟨#[]⟩ : ByteArray), (⟨#[]⟩ : ByteArray)⟩ : S26)] : List (S26))) ((((a0 ++ (⟨#[47]⟩ : ByteArray)) ++ a2) ++ (⟨#[63]⟩ : ByteArray)) ++ a3)).bind fun t188 => (some (t188 == 0))) else (some false))) = some r := by rw [if_neg (show ¬ (false = true) by decide)] at H; exact H
                                                    clear H
                                                    have H := H1
                                                    clear H1
                                                    replace H := Option.bind_eq_some_iff.mp H
                                                    obtain ⟨t184, A630, H⟩ := H
                                                    replace H : (if t184 = true then ((route_Match.f kj54 (([(⟨a0, (⟨#[]⟩ : ByteArray), (⟨#[]⟩ : ByteArray)⟩ : S26)] : List (S26))) ((((a0 ++ (⟨#[47]⟩ : ByteArray)) ++ a2) ++ (⟨#[63]⟩ : ByteArray)) ++ a3)).bind fun t188 => (some (t188 == 0))) else (some false)) = some r := H
                                                    have A63 := Aside0.mk A630
                                                    clear A630
                                                    by_cases c64 : t184 = true
                                                    · subst c64
                                                      have H1 : ((route_Match.f kj54 (([(⟨a0, (⟨#[]⟩ : ByteArray), (⟨#[]⟩ : ByteArray)⟩ : S26)] : List (S26))) ((((a0 ++ (⟨#[47]⟩ : ByteArray)) ++ a2) ++ (⟨#[63]⟩ : ByteArray)) ++ a3)).bind fun t188 => (some (t188 == 0))) = some r := by rw [if_pos rfl] at H; exact H
                                                      clear H
                                                      have H := H1
                                                      clear H1
                                                      obtain ⟨y185, hy185⟩ : ∃ y_ : List (S26), y_ = (([(⟨a0, (⟨#[]⟩ : ByteArray), (⟨#[]⟩ : ByteArray)⟩ : S26)] : List (S26))) := ⟨_, rfl⟩
                                                      replace H : ((route_Match.f kj54 y185 ((((a0 ++ (⟨#[47]⟩ : ByteArray)) ++ a2) ++ (⟨#[63]⟩ : ByteArray)) ++ a3)).bind fun t188 => (some (t188 == 0))) = some r := by first | (rw [hy185]; with_reducible exact H) | (have H2_ := (Option.bind_some _ _).symm.trans H; rw [hy185]; with_reducible exact H2_) | (have H2_ := (Option.bind_some _ _).symm.trans H; with_reducible exact H2_) | with_reducible exact H | (rw [hy185]; exact H) | exact H
                                                      have Ny185 := Aside0.mk hy185
                                                      clear hy185
                                                      replace H := Option.bind_eq_some_iff.mp H
                                                      obtain ⟨t188, A650, H⟩ := H
                                                      replace H : (some (t188 == 0)) = some r := H
                                                      have A65 := Aside0.mk A650
                                                      clear A650
                                                      obtain rfl := Option.some.inj H
                                                      go_wp2_with (first | ((with_reducible refine gate_callee (f := 12) rfl ?_); refine goesL_ (some 164) rfl rfl Try.func12 (by kernel_rfl) rfl #[.string a0, .string ((((a0 ++ (⟨#[47]⟩ : ByteArray)) ++ a2) ++ (⟨#[63]⟩ : ByteArray)) ++ a3)] rfl (by (try simp only [List.map_toArray, List.map_cons, List.map_nil]); first | done | rfl | (simp only [List.length_drop, List.length_take]; rfl)) ?_; (with_reducible refine (route_Fits.calls a0 ((((a0 ++ (⟨#[47]⟩ : ByteArray)) ++ a2) ++ (⟨#[63]⟩ : ByteArray)) ++ a3) true _ A63.out).mono ?_); rintro e w' ⟨rfl, ⟨nd, rfl⟩⟩; refine ⟨_, rfl, ?_⟩) | ((with_reducible refine gate_dst (N := 168) rfl ?_); (try (refine gate_guard (by rfl) ?_; dsimp only)); refine Kd.R_lit k26 _ 26 ?hg (N := 168) ?hd (xs := ([(⟨a0, (⟨#[]⟩ : ByteArray), (⟨#[]⟩ : ByteArray)⟩ : S26)] : List (S26))) (inner := [.string a0, .string (⟨#[]⟩ : ByteArray), .string (⟨#[]⟩ : ByteArray)]) (ok := fun _ => True) (okp := fun _ => True) ?hr ?hp (fun _ hk => hk) trivial (Below.refl _ _) (Nat.le_refl _) (by simp) ?_; (case hd => rfl); (case hg => rfl); (case hr => first | (go_simp; done) | (go_simp; rfl)); (case hp => exact (Reps.c3 (show Kd.M k26 _ _ _ (⟨a0, (⟨#[]⟩ : ByteArray), (⟨#[]⟩ : ByteArray)⟩ : S26) [.string a0, .string (⟨#[]⟩ : ByteArray), .string (⟨#[]⟩ : ByteArray)] from (k26_mkM _ _ _ (⟨a0, (⟨#[]⟩ : ByteArray), (⟨#[]⟩ : ByteArray)⟩ : S26) )) (Reps.none _ _))); intro v186 w66 ho67 hb hg_ hnew_; clear hg_ hnew_; (first | rw [← Ny185.out] at ho67 | (simp only [Int.reduceToNat] at ho67; rw [← Ny185.out] at ho67)); have n0_ := Aside0.mk (Kd.R_lower ho67 (below_size (by repeat (first | (with_reducible first | exact HB.out | apply below_alloc | apply pw_below_drewN | apply below_drew1) | exact HB.out)))); have n1_ := Aside0.mk (below_step (by repeat (first | (with_reducible first | exact HB.out | apply below_alloc | apply pw_below_drewN | apply below_drew1) | exact HB.out)) hb); clear HB; have HO187 := n0_; have HB := n1_; clear n0_ n1_; clear hb ho67; obtain ⟨Ao68, co68, eo68⟩ := Kd.R_slice HO187.out; subst eo68) | (go_at_call 8; (with_reducible refine (route_Match.calls kj54 _ _ y185 ((((a0 ++ (⟨#[47]⟩ : ByteArray)) ++ a2) ++ (⟨#[63]⟩ : ByteArray)) ++ a3) t188 _ ?side1 ?side2 A65.out).mono ?_); (case side1 => repeat (first | exact (Kd.R_reads' HO187.out).2.2 | (with_reducible refine Kd.C_alloc ?_ _) | (with_reducible refine Kd.C_drewN ?_ _) | (with_reducible refine Kd.C_drew ?_))); (case side2 => exact (Kd.R_reads' HO187.out).2.1); rintro e w69 ⟨rfl, hb⟩; have n0_ := Aside0.mk (Kd.R_below (by (with_reducible repeat (first | apply Kd.R_alloc | apply Kd.R_drewN | apply Kd.R_drew)); exact HO187.out) hb); have n1_ := Aside0.mk (below_step (by repeat (first | (with_reducible first | exact HB.out | apply below_alloc | apply pw_below_drewN | apply below_drew1) | exact HB.out)) hb); clear HO187; clear HB; have HO187 := n0_; have HB := n1_; clear n0_ n1_; (try clear hb); (try clear hb2); (try clear hk); (try clear hi)))
                                                      go_ret
                                                      exact ⟨by first | rfl | (simp [errW_none, errW_some] <;> rfl) | (simp [*, errW_none, errW_some] <;> rfl), by repeat (first | (with_reducible first | exact HB.out | apply below_alloc | apply pw_below_drewN | apply below_drew1) | exact HB.out)⟩
                                                    · replace c64 := Bool.eq_false_iff.mpr c64
                                                      subst c64
                                                      have H1 : (some false) = some r := by rw [if_neg (show ¬ (false = true) by decide)] at H; exact H
                                                      clear H
                                                      have H := H1
                                                      clear H1
                                                      obtain rfl := Option.some.inj H
                                                      go_wp2_with (first | ((with_reducible refine gate_callee (f := 12) rfl ?_); refine goesL_ (some 164) rfl rfl Try.func12 (by kernel_rfl) rfl #[.string a0, .string ((((a0 ++ (⟨#[47]⟩ : ByteArray)) ++ a2) ++ (⟨#[63]⟩ : ByteArray)) ++ a3)] rfl (by (try simp only [List.map_toArray, List.map_cons, List.map_nil]); first | done | rfl | (simp only [List.length_drop, List.length_take]; rfl)) ?_; (with_reducible refine (route_Fits.calls a0 ((((a0 ++ (⟨#[47]⟩ : ByteArray)) ++ a2) ++ (⟨#[63]⟩ : ByteArray)) ++ a3) false _ A63.out).mono ?_); rintro e w' ⟨rfl, ⟨nd, rfl⟩⟩; refine ⟨_, rfl, ?_⟩))
                                                      go_ret
                                                      exact ⟨by first | rfl | (simp [errW_none, errW_some] <;> rfl) | (simp [*, errW_none, errW_some] <;> rfl), by repeat (first | (with_reducible first | exact HB.out | apply below_alloc | apply pw_below_drewN | apply below_drew1) | exact HB.out)⟩
                                        · replace c45 := Bool.eq_false_iff.mpr c45
                                          subst c45
                                          have H1 : ((route_Fits.f a0 ((((a0 ++ (⟨#[47]⟩ : ByteArray)) ++ a2) ++ (⟨#[63]⟩ : ByteArray)) ++ a3)).bind fun t189 => (if t189 = true then ((route_Match.f kj29 (([(⟨a0, (⟨#[]⟩ : ByteArray), (⟨#[]⟩ : ByteArray)⟩ : S26)] : List (S26))) ((((a0 ++ (⟨#[47]⟩ : ByteArray)) ++ a2) ++ (⟨#[63]⟩ : ByteArray)) ++ a3)).bind fun t193 => (some (t193 == 0))) else (some false))) = some r := by rw [if_neg (show ¬ (false = true) by decide)] at H; exact H
                                          clear H
                                          have H := H1
                                          clear H1
                                          replace H := Option.bind_eq_some_iff.mp H
                                          obtain ⟨t189, A700, H⟩ := H
                                          replace H : (if t189 = true then ((route_Match.f kj29 (([(⟨a0, (⟨#[]⟩ : ByteArray), (⟨#[]⟩ : ByteArray)⟩ : S26)] : List (S26))) ((((a0 ++ (⟨#[47]⟩ : ByteArray)) ++ a2) ++ (⟨#[63]⟩ : ByteArray)) ++ a3)).bind fun t193 => (some (t193 == 0))) else (some false)) = some r := H
                                          have A70 := Aside0.mk A700
                                          clear A700
                                          by_cases c71 : t189 = true
                                          · subst c71
                                            have H1 : ((route_Match.f kj29 (([(⟨a0, (⟨#[]⟩ : ByteArray), (⟨#[]⟩ : ByteArray)⟩ : S26)] : List (S26))) ((((a0 ++ (⟨#[47]⟩ : ByteArray)) ++ a2) ++ (⟨#[63]⟩ : ByteArray)) ++ a3)).bind fun t193 => (some (t193 == 0))) = some r := by rw [if_pos rfl] at H; exact H
                                            clear H
                                            have H := H1
                                            clear H1
                                            obtain ⟨y190, hy190⟩ : ∃ y_ : List (S26), y_ = (([(⟨a0, (⟨#[]⟩ : ByteArray), (⟨#[]⟩ : ByteArray)⟩ : S26)] : List (S26))) := ⟨_, rfl⟩
                                            replace H : ((route_Match.f kj29 y190 ((((a0 ++ (⟨#[47]⟩ : ByteArray)) ++ a2) ++ (⟨#[63]⟩ : ByteArray)) ++ a3)).bind fun t193 => (some (t193 == 0))) = some r := by first | (rw [hy190]; with_reducible exact H) | (have H2_ := (Option.bind_some _ _).symm.trans H; rw [hy190]; with_reducible exact H2_) | (have H2_ := (Option.bind_some _ _).symm.trans H; with_reducible exact H2_) | with_reducible exact H | (rw [hy190]; exact H) | exact H
                                            have Ny190 := Aside0.mk hy190
                                            clear hy190
                                            replace H := Option.bind_eq_some_iff.mp H
                                            obtain ⟨t193, A720, H⟩ := H
                                            replace H : (some (t193 == 0)) = some r := H
                                            have A72 := Aside0.mk A720
                                            clear A720
                                            obtain rfl := Option.some.inj H
                                            go_wp2_with (first | ((with_reducible refine gate_callee (f := 12) rfl ?_); refine goesL_ (some 121) rfl rfl Try.func12 (by kernel_rfl) rfl #[.string a0, .string (a0 ++ a2)] rfl (by (try simp only [List.map_toArray, List.map_cons, List.map_nil]); first | done | rfl | (simp only [List.length_drop, List.length_take]; rfl)) ?_; (with_reducible refine (route_Fits.calls a0 (a0 ++ a2) false _ A44.out).mono ?_); rintro e w' ⟨rfl, ⟨nd, rfl⟩⟩; refine ⟨_, rfl, ?_⟩) | ((with_reducible refine gate_callee (f := 12) rfl ?_); refine goesL_ (some 164) rfl rfl Try.func12 (by kernel_rfl) rfl #[.string a0, .string ((((a0 ++ (⟨#[47]⟩ : ByteArray)) ++ a2) ++ (⟨#[63]⟩ : ByteArray)) ++ a3)] rfl (by (try simp only [List.map_toArray, List.map_cons, List.map_nil]); first | done | rfl | (simp only [List.length_drop, List.length_take]; rfl)) ?_; (with_reducible refine (route_Fits.calls a0 ((((a0 ++ (⟨#[47]⟩ : ByteArray)) ++ a2) ++ (⟨#[63]⟩ : ByteArray)) ++ a3) true _ A70.out).mono ?_); rintro e w' ⟨rfl, ⟨nd, rfl⟩⟩; refine ⟨_, rfl, ?_⟩) | ((with_reducible refine gate_dst (N := 168) rfl ?_); (try (refine gate_guard (by rfl) ?_; dsimp only)); refine Kd.R_lit k26 _ 26 ?hg (N := 168) ?hd (xs := ([(⟨a0, (⟨#[]⟩ : ByteArray), (⟨#[]⟩ : ByteArray)⟩ : S26)] : List (S26))) (inner := [.string a0, .string (⟨#[]⟩ : ByteArray), .string (⟨#[]⟩ : ByteArray)]) (ok := fun _ => True) (okp := fun _ => True) ?hr ?hp (fun _ hk => hk) trivial (Below.refl _ _) (Nat.le_refl _) (by simp) ?_; (case hd => rfl); (case hg => rfl); (case hr => first | (go_simp; done) | (go_simp; rfl)); (case hp => exact (Reps.c3 (show Kd.M k26 _ _ _ (⟨a0, (⟨#[]⟩ : ByteArray), (⟨#[]⟩ : ByteArray)⟩ : S26) [.string a0, .string (⟨#[]⟩ : ByteArray), .string (⟨#[]⟩ : ByteArray)] from (k26_mkM _ _ _ (⟨a0, (⟨#[]⟩ : ByteArray), (⟨#[]⟩ : ByteArray)⟩ : S26) )) (Reps.none _ _))); intro v191 w73 ho74 hb hg_ hnew_; clear hg_ hnew_; (first | rw [← Ny190.out] at ho74 | (simp only [Int.reduceToNat] at ho74; rw [← Ny190.out] at ho74)); have n0_ := Aside0.mk (Kd.R_lower ho74 (below_size (by repeat (first | (with_reducible first | exact HB.out | apply below_alloc | apply pw_below_drewN | apply below_drew1) | exact HB.out)))); have n1_ := Aside0.mk (below_step (by repeat (first | (with_reducible first | exact HB.out | apply below_alloc | apply pw_below_drewN | apply below_drew1) | exact HB.out)) hb); clear HB; have HO192 := n0_; have HB := n1_; clear n0_ n1_; clear hb ho74; obtain ⟨Ao75, co75, eo75⟩ := Kd.R_slice HO192.out; subst eo75) | (go_at_call 8; (with_reducible refine (route_Match.calls kj29 _ _ y190 ((((a0 ++ (⟨#[47]⟩ : ByteArray)) ++ a2) ++ (⟨#[63]⟩ : ByteArray)) ++ a3) t193 _ ?side1 ?side2 A72.out).mono ?_); (case side1 => repeat (first | exact (Kd.R_reads' HO192.out).2.2 | (with_reducible refine Kd.C_alloc ?_ _) | (with_reducible refine Kd.C_drewN ?_ _) | (with_reducible refine Kd.C_drew ?_))); (case side2 => exact (Kd.R_reads' HO192.out).2.1); rintro e w76 ⟨rfl, hb⟩; have n0_ := Aside0.mk (Kd.R_below (by (with_reducible repeat (first | apply Kd.R_alloc | apply Kd.R_drewN | apply Kd.R_drew)); exact HO192.out) hb); have n1_ := Aside0.mk (below_step (by repeat (first | (with_reducible first | exact HB.out | apply below_alloc | apply pw_below_drewN | apply below_drew1) | exact HB.out)) hb); clear HO192; clear HB; have HO192 := n0_; have HB := n1_; clear n0_ n1_; (try clear hb); (try clear hb2); (try clear hk); (try clear hi)))
                                            go_ret
                                            exact ⟨by first | rfl | (simp [errW_none, errW_some] <;> rfl) | (simp [*, errW_none, errW_some] <;> rfl), by repeat (first | (with_reducible first | exact HB.out | apply below_alloc | apply pw_below_drewN | apply below_drew1) | exact HB.out)⟩
                                          · replace c71 := Bool.eq_false_iff.mpr c71
                                            subst c71
                                            have H1 : (some false) = some r := by rw [if_neg (show ¬ (false = true) by decide)] at H; exact H
                                            clear H
                                            have H := H1
                                            clear H1
                                            obtain rfl := Option.some.inj H
                                            go_wp2_with (first | ((with_reducible refine gate_callee (f := 12) rfl ?_); refine goesL_ (some 121) rfl rfl Try.func12 (by kernel_rfl) rfl #[.string a0, .string (a0 ++ a2)] rfl (by (try simp only [List.map_toArray, List.map_cons, List.map_nil]); first | done | rfl | (simp only [List.length_drop, List.length_take]; rfl)) ?_; (with_reducible refine (route_Fits.calls a0 (a0 ++ a2) false _ A44.out).mono ?_); rintro e w' ⟨rfl, ⟨nd, rfl⟩⟩; refine ⟨_, rfl, ?_⟩) | ((with_reducible refine gate_callee (f := 12) rfl ?_); refine goesL_ (some 164) rfl rfl Try.func12 (by kernel_rfl) rfl #[.string a0, .string ((((a0 ++ (⟨#[47]⟩ : ByteArray)) ++ a2) ++ (⟨#[63]⟩ : ByteArray)) ++ a3)] rfl (by (try simp only [List.map_toArray, List.map_cons, List.map_nil]); first | done | rfl | (simp only [List.length_drop, List.length_take]; rfl)) ?_; (with_reducible refine (route_Fits.calls a0 ((((a0 ++ (⟨#[47]⟩ : ByteArray)) ++ a2) ++ (⟨#[63]⟩ : ByteArray)) ++ a3) false _ A70.out).mono ?_); rintro e w' ⟨rfl, ⟨nd, rfl⟩⟩; refine ⟨_, rfl, ?_⟩))
                                            go_ret
                                            exact ⟨by first | rfl | (simp [errW_none, errW_some] <;> rfl) | (simp [*, errW_none, errW_some] <;> rfl), by repeat (first | (with_reducible first | exact HB.out | apply below_alloc | apply pw_below_drewN | apply below_drew1) | exact HB.out)⟩
                                      · rw [if_neg c43] at H
                                        exact absurd H (by simp)
                              · rw [if_neg c28] at H
                                exact absurd H (by simp)
                      · rw [if_neg c22] at H
                        exact absurd H (by simp)
                    · rw [if_neg c21] at H
                      exact absurd H (by simp)
                  · rw [if_neg c20] at H
                    exact absurd H (by simp)
                · rw [if_neg c19] at H
                  exact absurd H (by simp)
  · replace c6 := Bool.eq_false_iff.mpr c6
    subst c6
    have H1 : (some false) = some r := by rw [if_neg (show ¬ (false = true) by decide)] at H; exact H
    clear H
    have H := H1
    clear H1
    obtain rfl := Option.some.inj H
    go_enter Try.func5, Try.ntmps5
    go_wp2_with (first | ((with_reducible refine gate_callee (f := 7) rfl ?_); refine goesL_ (some 18) rfl rfl Try.func7 (by kernel_rfl) rfl #[] rfl (by (try simp only [List.map_toArray, List.map_cons, List.map_nil]); first | done | rfl | (simp only [List.length_drop, List.length_take]; rfl)) ?_; (with_reducible refine (tollbarlaw11_alive.calls k  false _ A5.out).mono ?_); rintro e w77 ⟨rfl, hb⟩; refine ⟨_, rfl, ?_⟩; have n0_ := Aside0.mk (below_step (by repeat (first | (with_reducible first | exact HB.out | apply below_alloc | apply pw_below_drewN | apply below_drew1) | exact HB.out)) hb); clear HB; have HB := n0_; clear n0_; (try clear hb); (try clear hb2); (try clear hk); (try clear hi)))
    go_ret
    exact ⟨by first | rfl | (simp [errW_none, errW_some] <;> rfl) | (simp [*, errW_none, errW_some] <;> rfl), by repeat (first | (with_reducible first | exact HB.out | apply below_alloc | apply pw_below_drewN | apply below_drew1) | exact HB.out)⟩

/-- THE ONE PURE STATEMENT of tollbarlaw11_RouteSwaps. -/
def tollbarlaw11_RouteSwaps.Pure : Prop := ∀ (a0 : ByteArray) (a1 : ByteArray) (a2 : ByteArray) (a3 : ByteArray), (a0.size ≤ 140737488351232) → (a1.size ≤ 140737488351232) → (a2.size ≤ 140737488351232) → (a3.size ≤ 140737488351232) → ∃ k, tollbarlaw11_RouteSwaps.f k a0 a1 a2 a3 = some true

end Go.Proofs.Yticcigdibkajaaa.PAll
