-- Written by this session's program xprint.py over the kit's print, with contracts given by hand. Not trusted: Lean checks it.
import Derived.Test.YtijindelbagpiaaDoorPFrameNonex0
import Derived.Test.YtijindelbagpiaaDoorPFrameNonex3
namespace Go.Proofs.YtijindelbagpiaaDoor.PFrameNone
open Go.RowKit Go.Proofs.YtijindelbagpiaaDoorW.PrintWords Go.Proofs.YtijindelbagpiaaDoorW.PrintLast Go.Proofs.YtijindelbagpiaaDoorW.PrintMore
attribute [local go_sem] max2_int min2_int max_two min_two max_three min_three max_four min_four   -- for this text's walks alone
set_option linter.unusedVariables false
set_option linter.unusedSimpArgs false

/-! ### tollbarlaw07_FrameNone: function 13 -/

def tollbarlaw07_FrameNone.f (k : Nat) (l0 : List S24) (a1 : ByteArray) (a2 : Int) : Option Bool := if tollbarlaw07_alive.f k = some true ∧ ((l0.length : Int) > 100 ∨ (frame_Response.f k a1 204 (⟨#[]⟩ : ByteArray) 0 l0 [] = some ((0, 0, true) : Int × Int × Bool) ∧ frame_Response.f k a1 304 (⟨#[]⟩ : ByteArray) 1 l0 [] = some ((0, 0, true) : Int × Int × Bool) ∧ frame_Response.f k a1 (100 + a2 % 64) (⟨#[]⟩ : ByteArray) 0 l0 [] = some ((0, 0, true) : Int × Int × Bool) ∧ frame_Response.f k (⟨#[72, 69, 65, 68]⟩ : ByteArray) a2 (⟨#[]⟩ : ByteArray) 0 l0 [] = some ((0, 0, true) : Int × Int × Bool) ∧ frame_Request.f k [(⟨(⟨#[88]⟩ : ByteArray), (⟨#[53]⟩ : ByteArray)⟩ : S24)] a2 = some ((0, false, 0) : Int × Bool × Int) ∧ frame_Response.f k (⟨#[71, 69, 84]⟩ : ByteArray) 200 (⟨#[]⟩ : ByteArray) (a2 % 2) ([] : List S24) [] = some ((3, 0, true) : Int × Int × Bool))) then some true else none
theorem tollbarlaw07_FrameNone.rsp {k : Nat} {A : Option Addr} {c : Nat} {l0 : List S24} {a b : ByteArray} {code minor r1 r2 : Int} {r3 : Bool} {w W : World} (hC : Kd.C k24 w A l0.length l0) (hb : Below w.heap.size w W) (hc : l0.length ≤ c) (h : frame_Response.f k a code b minor l0 [] = some (r1, r2, r3)) :
    Calls Tryd.prog 39 #[.string a, .agg #[.int .i64 code, .string b, .int .i64 minor, .slice A l0.length c, .slice none 0 0]] W fun e w' => e = .returned (.tuple #[.int .i64 r1, .int .i64 r2, .bool r3]) ∧ Below W.heap.size W w' := frame_Response.calls k a code b minor A c l0 none 0 [] r1 r2 r3 W (Kd.C_below hC hb) hc (Kd.C_nil _ _) (Nat.le_refl _) h
theorem tollbarlaw07_FrameNone.rsp0 {k : Nat} {a b : ByteArray} {code minor r1 r2 : Int} {r3 : Bool} {W : World} (h : frame_Response.f k a code b minor ([] : List S24) [] = some (r1, r2, r3)) :
    Calls Tryd.prog 39 #[.string a, .agg #[.int .i64 code, .string b, .int .i64 minor, .slice none 0 0, .slice none 0 0]] W fun e w' => e = .returned (.tuple #[.int .i64 r1, .int .i64 r2, .bool r3]) ∧ Below W.heap.size W w' := frame_Response.calls k a code b minor none 0 [] none 0 [] r1 r2 r3 W (Kd.C_nil _ _) (Nat.le_refl _) (Kd.C_nil _ _) (Nat.le_refl _) h

set_option maxHeartbeats 8000000 in
set_option maxRecDepth 100000 in
theorem tollbarlaw07_FrameNone.calls (k : Nat) (A0 : Option Addr) (c0 : Nat) (l0 : List S24) (a1 : ByteArray) (a2 : Int) (r : Bool) (w : World) (hr0 : Kd.C k24 w A0 l0.length l0) (hc0 : l0.length ≤ c0) (h : tollbarlaw07_FrameNone.f k l0 a1 a2 = some r) :
    Calls Tryd.prog 13 #[.slice A0 l0.length c0, .string a1, .int .i64 a2] w fun e w' => e = .returned (.bool r) ∧ Below w.heap.size w w' := by
  unfold tollbarlaw07_FrameNone.f at h
  split at h
  · rename_i hh
    obtain ⟨ha, hh⟩ := hh
    cases h
    have HA := Aside0.mk ha
    have HR := Aside0.mk hr0
    have HC := Aside0.mk hc0
    have hx1 := X.and63 a2
    have hx2 := X.and1 a2
    have hm0 : 0 ≤ a2 % 64 ∧ a2 % 64 ≤ 63 := by omega
    clear ha hr0 hc0
    by_cases hl : (l0.length : Int) > 100
    · clear hh
      go_enter Tryd.func13, Tryd.ntmps13
      go_wp2_with (go_at_call 34; (with_reducible refine (tollbarlaw07_alive.calls k true _ HA.out).mono ?_); rintro e w1 ⟨rfl, hb⟩; have HB := Aside0.mk hb; clear hb)
      go_ret
      exact ⟨rfl, HB.out⟩
    · obtain ⟨h1, h2, h3, h4, h5, h6⟩ := hh.resolve_left hl
      have H1 := Aside0.mk h1
      have H2 := Aside0.mk h2
      have H3 := Aside0.mk h3
      have H4 := Aside0.mk h4
      have H5 := Aside0.mk h5
      have H6 := Aside0.mk h6
      clear hh h1 h2 h3 h4 h5 h6
      go_enter Tryd.func13, Tryd.ntmps13
      go_wp2_with (go_at_call 34; (with_reducible refine (tollbarlaw07_alive.calls k true _ HA.out).mono ?_); rintro e w1 ⟨rfl, hb⟩; have HB0 := Aside0.mk hb; clear hb)
      have HG := Aside0.mk (heap_alloc_new w1 (.cells #[.int .i64 204, .string ⟨#[]⟩, .int .i64 0, .slice A0 l0.length c0, .slice none 0 0, .int .i64 304, .string ⟨#[]⟩, .int .i64 1, .slice A0 l0.length c0, .slice none 0 0, .int .i64 (100 + a2 % 64), .string ⟨#[]⟩, .int .i64 0, .slice A0 l0.length c0, .slice none 0 0] 53))
      have HGL : Aside0 (w1.heap.size < (w1.alloc (.cells #[.int .i64 204, .string ⟨#[]⟩, .int .i64 0, .slice A0 l0.length c0, .slice none 0 0, .int .i64 304, .string ⟨#[]⟩, .int .i64 1, .slice A0 l0.length c0, .slice none 0 0, .int .i64 (100 + a2 % 64), .string ⟨#[]⟩, .int .i64 0, .slice A0 l0.length c0, .slice none 0 0] 53)).heap.size) := ⟨by simp⟩
      replace HB0 := Aside0.mk (below_alloc HB0.out (.cells #[.int .i64 204, .string ⟨#[]⟩, .int .i64 0, .slice A0 l0.length c0, .slice none 0 0, .int .i64 304, .string ⟨#[]⟩, .int .i64 1, .slice A0 l0.length c0, .slice none 0 0, .int .i64 (100 + a2 % 64), .string ⟨#[]⟩, .int .i64 0, .slice A0 l0.length c0, .slice none 0 0] 53))
      generalize w1.alloc (.cells #[.int .i64 204, .string ⟨#[]⟩, .int .i64 0, .slice A0 l0.length c0, .slice none 0 0, .int .i64 304, .string ⟨#[]⟩, .int .i64 1, .slice A0 l0.length c0, .slice none 0 0, .int .i64 (100 + a2 % 64), .string ⟨#[]⟩, .int .i64 0, .slice A0 l0.length c0, .slice none 0 0] 53) = W0 at *
      generalize w1.heap.size = g at *
      go_loopw [37] (fun v37 wr => ∃ j : Nat, j ≤ 3 ∧ v37 = .int .i64 j ∧ Aside0 (Below W0.heap.size W0 wr)) (fun v37 _ => 3 - (intOf v37).toNat)
      case atStart => exact ⟨0, by omega, rfl, ⟨Below.refl _ _⟩⟩
      case round =>
      obtain ⟨j, hj, rfl, HB⟩ := hrel
      match j, hj with
      | 0, _ =>
        have hH := (HB.out.block g HGL.out).trans HG.out
        have d0 : wr.cell? ⟨g, 0, none⟩ = some (.int .i64 204) := (blk_cell hH 0).trans rfl
        have d1 : wr.cell? ⟨g, 1, none⟩ = some (.string ⟨#[]⟩) := (blk_cell hH 1).trans rfl
        have d2 : wr.cell? ⟨g, 2, none⟩ = some (.int .i64 0) := (blk_cell hH 2).trans rfl
        have d3 : wr.cell? ⟨g, 3, none⟩ = some (.slice A0 l0.length c0) := (blk_cell hH 3).trans rfl
        have d4 : wr.cell? ⟨g, 4, none⟩ = some (.slice none 0 0) := (blk_cell hH 4).trans rfl
        clear hH
        go_wp2_with (go_at_call 39; (with_reducible refine (tollbarlaw07_FrameNone.rsp (k := k) HR.out (below_alloc (below_step HB0.out HB.out) _) HC.out H1.out).mono ?_); rintro e w1 ⟨rfl, hb⟩; have HB2 := Aside0.mk (below_step (below_alloc HB.out _) hb); clear hb)
        go_roundw
        case rel => exact ⟨1, by omega, by go_num, HB2⟩
        case measure => simp [intOf]
      | 1, _ =>
        have hH := (HB.out.block g HGL.out).trans HG.out
        have d0 : wr.cell? ⟨g, 5, none⟩ = some (.int .i64 304) := (blk_cell hH 5).trans rfl
        have d1 : wr.cell? ⟨g, 6, none⟩ = some (.string ⟨#[]⟩) := (blk_cell hH 6).trans rfl
        have d2 : wr.cell? ⟨g, 7, none⟩ = some (.int .i64 1) := (blk_cell hH 7).trans rfl
        have d3 : wr.cell? ⟨g, 8, none⟩ = some (.slice A0 l0.length c0) := (blk_cell hH 8).trans rfl
        have d4 : wr.cell? ⟨g, 9, none⟩ = some (.slice none 0 0) := (blk_cell hH 9).trans rfl
        clear hH
        go_wp2_with (go_at_call 39; (with_reducible refine (tollbarlaw07_FrameNone.rsp (k := k) HR.out (below_alloc (below_step HB0.out HB.out) _) HC.out H2.out).mono ?_); rintro e w1 ⟨rfl, hb⟩; have HB2 := Aside0.mk (below_step (below_alloc HB.out _) hb); clear hb)
        go_roundw
        case rel => exact ⟨2, by omega, by go_num, HB2⟩
        case measure => simp [intOf]
      | 2, _ =>
        have hH := (HB.out.block g HGL.out).trans HG.out
        have d0 : wr.cell? ⟨g, 10, none⟩ = some (.int .i64 (100 + a2 % 64)) := (blk_cell hH 10).trans rfl
        have d1 : wr.cell? ⟨g, 11, none⟩ = some (.string ⟨#[]⟩) := (blk_cell hH 11).trans rfl
        have d2 : wr.cell? ⟨g, 12, none⟩ = some (.int .i64 0) := (blk_cell hH 12).trans rfl
        have d3 : wr.cell? ⟨g, 13, none⟩ = some (.slice A0 l0.length c0) := (blk_cell hH 13).trans rfl
        have d4 : wr.cell? ⟨g, 14, none⟩ = some (.slice none 0 0) := (blk_cell hH 14).trans rfl
        clear hH
        go_wp2_with (go_at_call 39; (with_reducible refine (tollbarlaw07_FrameNone.rsp (k := k) HR.out (below_alloc (below_step HB0.out HB.out) _) HC.out H3.out).mono ?_); rintro e w1 ⟨rfl, hb⟩; have HB2 := Aside0.mk (below_step (below_alloc HB.out _) hb); clear hb)
        go_roundw
        case rel => exact ⟨3, by omega, by go_num, HB2⟩
        case measure => simp [intOf]
      | 3, _ =>
        have HB3 := Aside0.mk (below_step HB0.out HB.out)
        clear HB HB0 HG HGL
        have HB := HB3
        clear HB3
        go_wp2_with (first | (go_at_call 39; (with_reducible refine (tollbarlaw07_FrameNone.rsp (k := k) HR.out HB.out HC.out H4.out).mono ?_); rintro e w1 ⟨rfl, hb⟩; replace HB := Aside0.mk (below_step HB.out hb); clear hb) | (go_at_call 39; (with_reducible refine (tollbarlaw07_FrameNone.rsp0 (k := k) H6.out).mono ?_); rintro e w1 ⟨rfl, hb⟩; replace HB := Aside0.mk (below_step HB.out hb); clear hb) | (go_at_call 42; (with_reducible refine (tollbarlaw07_alive.of1 _ _ _).mono ?_); rintro e w1 ⟨A1, c1, rfl, hc, hC, hb⟩; have HO := Aside0.mk hC; have HQ := Aside0.mk hc; replace HB := Aside0.mk (below_step HB.out hb); clear hC hc hb) | (go_at_call 35; (with_reducible refine (tollbarlaw07_alive.rq HO.out HQ.out H5.out).mono ?_); rintro e w1 ⟨rfl, hb⟩; replace HB := Aside0.mk (below_step HB.out hb); clear hb))
        go_ret
        exact ⟨rfl, HB.out⟩
  · cases h


/-- THE ONE PURE STATEMENT of tollbarlaw07_FrameNone. -/
def tollbarlaw07_FrameNone.Pure : Prop := ∀ (l0 : List (S24)) (a1 : ByteArray) (a2 : Int), (l0.length * 32 ≤ 140737488351232 ∧ ∀ x_ ∈ l0, (x_.f0.size ≤ 140737488351232) ∧ (x_.f1.size ≤ 140737488351232)) → (a1.size ≤ 140737488351232) → ((Lit.int .i64 a2).wf = true) → ∃ k, tollbarlaw07_FrameNone.f k l0 a1 a2 = some true

end Go.Proofs.YtijindelbagpiaaDoor.PFrameNone
