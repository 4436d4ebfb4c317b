/- caring: a health is alive. -/
import Derived.Test.YtffockklleanmaaXHealthW
namespace Go.Proofs.Ytffockklleanmaa.X
open Go.RowKit Go.MapKept Go.ChangeMaps Go.Proofs.YtffockklleanmaaW.PrintWords Go.Proofs.YtffockklleanmaaW.PrintLast Go.Proofs.YtffockklleanmaaW.PrintMore
attribute [local go_sem] max2_int min2_int max_two min_two max_three min_three max_four min_four
set_option linter.unusedVariables false


theorem C_lit {w : World} {g : Nat} {t : TypeId} {fr : Nat × Nat} (xs : List ByteArray) (h : w.heap[g]? = some (.cells (xs.map Value.string).toArray t fr)) (hm : xs.length ≤ 9223372036854775807) : Kd.C Kd.string w (some ⟨g, 0, none⟩) xs.length xs := by
  refine Kd.C_of_reads (enc := Value.string) (d := ByteArray.empty) ⟨rfl, hm, fun _ => ⟨_, rfl, fun j hj => ?_⟩⟩
  rw [add_plain, cell_of_row w g j _ _ _ h]
  simp [List.getElem?_eq_getElem hj]
abbrev sA : ByteArray := ⟨#[97]⟩
abbrev sB : ByteArray := ⟨#[98]⟩
abbrev sU : ByteArray := ⟨#[117]⟩
def st0 : HSt := ⟨[], [], []⟩
def st1 : HSt := ⟨[(sU, 1)], [], []⟩
def st2 : HSt := ⟨[(sU, 1)], [(sB, 1)], []⟩
def st3 : HSt := ⟨[(sU, 1)], [], [(sB, 8)]⟩
theorem p1 : pickM st0 sU [sA, sB] 0 [sA, sB].length 0 = some (st1, sA, 0) := by kernel_rfl
theorem b1 : badM st1 sB 5 2 3 = (st2, false) := by kernel_rfl
theorem b2 : badM st2 sB 5 2 3 = (st3, true) := by kernel_rfl
theorem s1 : sickM st3 sB 7 = true := by kernel_rfl
theorem s2 : sickM st3 sB 8 = false := by kernel_rfl
theorem p2 : pickM st3 sU [sA, sB] 6 [sA, sB].length 0 = some (st3, sA, 0) := by kernel_rfl

/-- what holds all along -/
structure CInv (w W : World) (n p : Nat) (s : HSt) : Prop where
  le : w.heap.size ≤ n
  at_ : HAt W (fun k => w.heap.size ≤ k ∧ k < n) p s
  aims : W.heap[n]? = some (.cells #[.string sA, .string sB] 9 (0, 0))
  up : W.heap[n + 1]? = some (.cells #[.string sU, .slice (some ⟨n, 0, none⟩) 2 2] 32 (0, 0))
  below : Below w.heap.size w W
theorem CInv.next {w W W' : World} {n p : Nat} {s s' : HSt} (h : CInv w W n p s) (ha : HAt W' (fun k => w.heap.size ≤ k ∧ k < n) p s') (hc : Chg (fun k => w.heap.size ≤ k ∧ k < n) W W') : CInv w W' n p s' :=
  ⟨h.le, ha, hc.blk h.aims (by omega), hc.blk h.up (by omega), h.below.trans (hc.below (fun k hk => hk.1) h.below.size)⟩
theorem CInv.same {w W W' : World} {n p : Nat} {s : HSt} (h : CInv w W n p s) (e : W' = W) : CInv w W' n p s := e ▸ h
theorem CInv.pick {w W : World} {n p : Nat} {s s' : HSt} {r : ByteArray} {e now : Int} (h : CInv w W n p s) (hp : pickM s sU [sA, sB] now [sA, sB].length 0 = some (s', r, e)) :
    Calls Try.prog 12 #[.pointer (some ⟨p, 0, none⟩), .agg #[.string { data := #[117] }, .slice (some ⟨n, 0, none⟩) 2 2], .int .i64 now] W fun ed W' => ed = .returned (.tuple #[.string r, .int .i64 e]) ∧ CInv w W' n p s' := by
  refine (pick_calls _ p s sU (some ⟨n, 0, none⟩) 2 [sA, sB] now s' r e W h.at_ (C_lit [sA, sB] h.aims (by simp)) hp).mono ?_
  rintro ed W' ⟨h1, h2, h3⟩
  exact ⟨h1, h.next h2 h3⟩
theorem CInv.bad {w W : World} {n p : Nat} {s s' : HSt} {b : Bool} {now fails cool : Int} (h : CInv w W n p s) (hp : badM s sB now fails cool = (s', b)) :
    Calls Try.prog 14 #[.pointer (some ⟨p, 0, none⟩), .string { data := #[98] }, .int .i64 now, .agg #[.slice none 0 0, .slice none 0 0, .slice none 0 0, .slice none 0 0, .int .i64 0, .int .i64 0, .int .i64 fails, .int .i64 cool]] W fun ed W' => ed = .returned (.bool b) ∧ CInv w W' n p s' := by
  refine (bad_calls _ p s sB now fails cool _ _ _ _ 0 0 W h.at_).mono ?_
  rintro ed W' ⟨h1, h2, h3⟩
  rw [hp] at h1 h2
  exact ⟨h1, h.next h2 h3⟩
theorem CInv.good {w W : World} {n p : Nat} {s : HSt} (h : CInv w W n p s) :
    Calls Try.prog 15 #[.pointer (some ⟨p, 0, none⟩), .string { data := #[98] }] W fun ed W' => ed = .returned (.tuple #[]) ∧ CInv w W' n p (goodM s sB) := by
  refine (good_calls _ p s sB W h.at_).mono ?_
  rintro ed W' ⟨h1, h2, h3⟩
  exact ⟨h1, h.next h2 h3⟩
theorem CInv.sick {w W : World} {n p : Nat} {s : HSt} {b : Bool} {now : Int} (h : CInv w W n p s) (hp : sickM s sB now = b) :
    Calls Try.prog 17 #[.pointer (some ⟨p, 0, none⟩), .string { data := #[98] }, .int .i64 now] W fun ed W' => ed = .returned (.bool b) ∧ W' = W := by
  rw [← hp]
  exact sick_calls _ p s sB now W h.at_
theorem CInv.up0 {w W : World} {n p : Nat} {s : HSt} (h : CInv w W n p s) : W.cell? ⟨n + 1, 0, none⟩ = some (.string sU) ∧ W.cell? ⟨n + 1, 1, none⟩ = some (.slice (some ⟨n, 0, none⟩) 2 2) := ⟨(blk_cell h.up 0).trans rfl, (blk_cell h.up 1).trans rfl⟩

set_option maxHeartbeats 4000000 in
set_option maxRecDepth 100000 in
theorem caring_calls (w : World) : Calls Try.prog 10 #[] w fun e w' => e = .returned (.bool true) ∧ Below w.heap.size w w' := by
  go_enter Try.func10, Try.ntmps10
  go_wp2_with (first | (go_at_call 9; (with_reducible refine (newHealth_calls _).mono ?_); rintro e w1 ⟨p, rfl, hh, hb⟩; have HH := Aside0.mk hh; have HW := Aside0.mk hb; clear hh hb))
  have hB := below_alloc (below_alloc (Below.refl w1.heap.size w1) (.cells #[.string sA, .string sB] 9)) (.cells #[.string sU, .slice (some ⟨w1.heap.size, 0, none⟩) 2 2] 32)
  have hI0 : CInv w ((w1.alloc (.cells #[.string sA, .string sB] 9)).alloc (.cells #[.string sU, .slice (some ⟨w1.heap.size, 0, none⟩) 2 2] 32)) w1.heap.size p st0 :=
    ⟨HW.out.size, HH.out.below hB, blk_alloc (heap_alloc_new w1 _) _, (by have h := heap_alloc_new (w1.alloc (.cells #[.string sA, .string sB] 9)) (.cells #[.string sU, .slice (some ⟨w1.heap.size, 0, none⟩) 2 2] 32); simpa using h), below_step HW.out hB⟩
  refine (hI0.pick p1).mono ?_
  rintro e W ⟨rfl, hi⟩
  have HI := Aside0.mk hi
  clear hI0 hB HH HW hi
  simp only []
  go_wp2_with (first | (go_at_call 14; (with_reducible refine (HI.out.bad b1).mono ?_); rintro e W1 ⟨rfl, h1⟩; have H1 := Aside0.mk h1) | (go_at_call 14; (with_reducible refine (H1.out.bad b2).mono ?_); rintro e W2 ⟨rfl, h2⟩; have H2 := Aside0.mk h2; obtain ⟨u0, u1⟩ := h2.up0) | (go_at_call 17; (with_reducible refine (H2.out.sick s1).mono ?_); rintro e W3 ⟨rfl, rfl⟩) | (go_at_call 17; (with_reducible refine (H2.out.sick s2).mono ?_); rintro e W3 ⟨rfl, rfl⟩) | (go_at_call 12; (with_reducible refine (H2.out.pick p2).mono ?_); rintro e W4 ⟨rfl, h4⟩; have H4 := Aside0.mk h4) | (go_at_call 15; (with_reducible refine (H4.out.good).mono ?_); rintro e W5 ⟨rfl, h5⟩; have H5 := Aside0.mk h5))
  go_ret
  exact ⟨rfl, H5.out.below⟩
end Go.Proofs.Ytffockklleanmaa.X
