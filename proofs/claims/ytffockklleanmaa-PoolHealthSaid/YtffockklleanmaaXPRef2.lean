/- The document's health: good, bad, pick, walked. -/
import Derived.Test.YtffockklleanmaaXPRef
import Derived.Test.YtffockklleanmaaProg
import Derived.Below
import Derived.Deep.Draws
import Derived.Deep.AppendLies
import Derived.Maps.AppendAt
import Derived.OwnWalk
import Derived.Laws.BytesArg
import Derived.Laws.MakeOwn
import Derived.Laws.OwnMore
import Derived.Deep.OwnRows
import Derived.Tactics
import Derived.Lib.ConvBytes
import Derived.Laws.Slices
import Derived.WalkKit
import Derived.KernelRfl
import Derived.RowKit3
import Derived.Deep.LoopGhost
import Derived.Deep.QuietTactic
import Derived.BigQuiet
import Derived.StillTailTactics
import Derived.WideLaws
import Derived.Deep.DeepCutAuto
import Derived.Deep.CutBlock
import Derived.Deep.RegionHeld3
import Derived.Laws.Rows
import Derived.Lib.AppendStr
import Derived.ArgAppend
import Derived.Laws.IdiomCopy
import Derived.OrdersHeld
import Derived.Laws.BitsLemmas
import Derived.RowKit
import Derived.Test.YtffockklleanmaaWWords
import Derived.Test.YtffockklleanmaaWLast
import Derived.Test.YtffockklleanmaaWTab
import Derived.Test.YtffockklleanmaaWFour
import Derived.Test.YtffockklleanmaaWQPut
import Derived.Test.YtffockklleanmaaWApart
import Derived.Test.YtffockklleanmaaWArr
import Derived.Test.YtffockklleanmaaWZeros
import Derived.Test.YtffockklleanmaaWFoot
import Derived.Test.YtffockklleanmaaWKept
import Derived.Test.YtffockklleanmaaWShare
import Derived.Test.YtffockklleanmaaWN
import Derived.Test.YtffockklleanmaaWFootNe
import Derived.Test.YtffockklleanmaaWAt
import Derived.Test.YtffockklleanmaaWEqStruct
import Derived.Test.YtffockklleanmaaWRepsOne
import Derived.Test.YtffockklleanmaaWInv
import Derived.Test.YtffockklleanmaaWInvWords
import Derived.Test.YtffockklleanmaaWGuard
import Derived.Test.YtffockklleanmaaWNEv
import Derived.Test.YtffockklleanmaaWMore
namespace Go.Proofs.Ytffockklleanmaa.X
open Go.RowKit Go.MapKept Go.ChangeMaps Go.Proofs.YtffockklleanmaaW.PrintWords Go.Proofs.YtffockklleanmaaW.PrintLast Go.Proofs.YtffockklleanmaaW.PrintMore
attribute [local go_sem] max2_int min2_int max_two min_two max_three min_three max_four min_four
set_option linter.unusedVariables false

macro "go_put " t:term ", " p:num ", " w1:term " => " w:ident E:ident : tactic => `(tactic| ((with_reducible refine gate_store (t := $t) (p := $p) rfl ?_); refine store_event (t := $t) (p := $p) (v := ?vo) (w1 := $w1) ?hg ?ho ?hn ?hr ?_; (case ho => rfl); (case hg => rfl); (case hn => rfl); (case hr => first | (go_simp; done) | (go_simp; rfl)); intro $w:ident hw_; have $E:ident := Aside0.mk hw_; clear hw_))
theorem put_calls' (A B : Option Addr) (c n d : Nat) (l : List Mk) (m1 : ByteArray) (m2 m3 : Int) (w : World) (hr : Kd.C kM w A l.length l) (hl : l.length ≤ 10000) :
    Calls Try.prog 36 #[.agg #[.slice A l.length c, .slice B n d], .agg #[.string m1, .int .i64 m2, .int .i64 m3]] w fun e w' => ∃ v, e = .returned (.agg #[v, .slice B n d]) ∧ Kd.R kM 88 w' w.heap.size (fun _ => True) v (putM l (m1, m2, m3)) ∧ Below w.heap.size w w' :=
  put_calls A B c n d l (m1, m2, m3) w hr hl
theorem R_out2 {α : Type} {kd : Kd α} {e : Nat} {w W W' : World} {g : Nat} {ok : Nat → Prop} {v : Value} {xs : List α} (h : kd.R e W' W.heap.size ok v xs) (hg : g < W.heap.size) (hle : w.heap.size ≤ W.heap.size) (x y : Value) : kd.R e ((W'.setCell ⟨g, 0, none⟩ x).setCell ⟨g, 1, none⟩ y) w.heap.size (fun _ => True) v xs := by
  have h1 : kd.R e W' W.heap.size (fun k => k ≠ g) v xs := Kd.R_mono (Kd.R_bound h) (fun k hk => by have := hk.2.1; omega)
  exact Kd.R_lower (Kd.R_mono (Kd.R_far (p := ⟨g, 1, none⟩) (Kd.R_far (p := ⟨g, 0, none⟩) h1 (fun k hk => hk) _) (fun k hk => hk) _) (fun _ _ => trivial)) hle
def goodR (l : List Mk) (a : ByteArray) : List Mk := putM l ((markM l a).1, 0, (markM l a).2.2)
def badR (l : List Mk) (a : ByteArray) (now fails cool : Int) : List Mk × Bool :=
  if wrap64 ((markM l a).2.1 + 1) < fails then (putM l ((markM l a).1, wrap64 ((markM l a).2.1 + 1), (markM l a).2.2), false)
  else (putM l ((markM l a).1, 0, wrap64 (now + cool)), true)

set_option maxHeartbeats 2000000 in
set_option maxRecDepth 100000 in
theorem goodR_calls (A B : Option Addr) (c n d : Nat) (l : List Mk) (a : ByteArray) (w : World) (hr : Kd.C kM w A l.length l) (hl : l.length ≤ 10000) :
    Calls Try.prog 16 #[.agg #[.slice A l.length c, .slice B n d], .string a] w fun e w' => ∃ v, e = .returned (.agg #[v, .slice B n d]) ∧ Kd.R kM 88 w' w.heap.size (fun _ => True) v (goodR l a) ∧ Below w.heap.size w w' := by
  have hu29 := Try.underlying29
  have hu88 := Try.underlying88
  have HR := Aside0.mk hr
  clear hr
  unfold goodR
  obtain ⟨⟨r1, r2, r3⟩, hm⟩ : ∃ r, markM l a = r := ⟨_, rfl⟩
  rw [hm]
  have HM := Aside0.mk hm
  clear hm
  simp only []
  go_enter Try.func16, Try.ntmps16
  go_wp2_with (first | (go_box 2, #[.slice A l.length c, .slice B n d], 29 => g1 w1 G1 X1 B1) | (go_box 4, #[.slice none 0 0, .slice none 0 0], 29 => g2 w2 G2 X2 B2; have HR2 := Aside0.mk (Kd.C_below HR.out (below_step B1.out B2.out)); have q0 : w2.cell? ⟨g1, 0, none⟩ = some (.slice A l.length c) := (blk_cell (blk_below X1.out B2.out) 0).trans rfl; have q1 : w2.cell? ⟨g1, 1, none⟩ = some (.slice B n d) := (blk_cell (blk_below X1.out B2.out) 1).trans rfl) | (go_at_call 35; (with_reducible refine (mark_calls' A B c n d l a r1 r2 r3 _ HR2.out HM.out).mono ?_); rintro e w3 ⟨rfl, hb3⟩; have B3 := Aside0.mk hb3; clear hb3 q0 q1) | (go_box 5, #[.string (⟨#[]⟩ : ByteArray), .int .i64 0, .int .i64 0], 88 => g4 w4 G4 X4 B4; have e40 := blk_frozen X4.out 0; have e41 := blk_frozen X4.out 1; have e42 := blk_frozen X4.out 2; have z0 : w4.cell? ⟨g4, 0, none⟩ = some (.string ⟨#[]⟩) := (blk_cell X4.out 0).trans rfl; have z1 : w4.cell? ⟨g4, 1, none⟩ = some (.int .i64 0) := (blk_cell X4.out 1).trans rfl; have z2 : w4.cell? ⟨g4, 2, none⟩ = some (.int .i64 0) := (blk_cell X4.out 2).trans rfl; have q0 : w4.cell? ⟨g1, 0, none⟩ = some (.slice A l.length c) := (blk_cell (blk_below (blk_below (blk_below X1.out B2.out) B3.out) B4.out) 0).trans rfl; have q1 : w4.cell? ⟨g1, 1, none⟩ = some (.slice B n d) := (blk_cell (blk_below (blk_below (blk_below X1.out B2.out) B3.out) B4.out) 1).trans rfl; have n14 : g1 ≠ g4 := (by rw [G4.out]; exact Nat.ne_of_lt (blk_lt (blk_below (blk_below X1.out B2.out) B3.out))); have N24 : Aside0 (g2 ≠ g4) := ⟨by rw [G4.out]; exact Nat.ne_of_lt (blk_lt (blk_below X2.out B3.out))⟩; have LE : Aside0 (w.heap.size ≤ g4 ∧ w.heap.size ≤ g2) := ⟨by have := B1.out.size; have := B2.out.size; have := B3.out.size; have := G4.out; have := G2.out; omega⟩; have BB := Aside0.mk (below_set (below_set (below_set (below_set (below_step (below_step (below_step B1.out B2.out) B3.out) B4.out) LE.out.1 (j := 0) (v := .string r1)) LE.out.1 (j := 1) (v := .int .i64 r2)) LE.out.1 (j := 2) (v := .int .i64 r3)) LE.out.1 (j := 1) (v := .int .i64 0)); have HR4 := Aside0.mk (Kd.C_below HR.out BB.out); have X4' := blk_put (cs' := #[.string r1, .int .i64 0, .int .i64 r3]) (set3 (x := .string r1) (y := .int .i64 r2) (z := .int .i64 r3) X4.out) 1 (.int .i64 0) rfl; have c40 := (blk_cell X4' 0).trans (show _ = some (.string r1) from rfl); have c41 := (blk_cell X4' 1).trans (show _ = some (.int .i64 0) from rfl); have c42 := (blk_cell X4' 2).trans (show _ = some (.int .i64 r3) from rfl); clear X4'; have X24 := Aside0.mk (blk_far (p := ⟨g4, 1, none⟩) (blk_far (p := ⟨g4, 2, none⟩) (blk_far (p := ⟨g4, 1, none⟩) (blk_far (p := ⟨g4, 0, none⟩) (blk_below (blk_below X2.out B3.out) B4.out) N24.out (.string r1)) N24.out (.int .i64 r2)) N24.out (.int .i64 r3)) N24.out (.int .i64 0))) | (go_at_call 36; (with_reducible refine (put_calls' A B c n d l r1 0 r3 _ HR4.out hl).mono ?_); rintro e w5 ⟨v5, rfl, ho5, hb5⟩; obtain ⟨A5, c5, rfl⟩ := Kd.R_slice ho5; have O5 := Aside0.mk ho5; have B5 := Aside0.mk hb5; clear ho5 hb5 z0 z1 z2 q0 q1 e40 e41 e42 c40 c41 c42; have y0 : w5.cell? ⟨g2, 0, none⟩ = some (.slice none 0 0) := (blk_cell (blk_below X24.out B5.out) 0).trans rfl; have y1 : w5.cell? ⟨g2, 1, none⟩ = some (.slice none 0 0) := (blk_cell (blk_below X24.out B5.out) 1).trans rfl; have f0 := blk_frozen (blk_below X24.out B5.out) 0; have f1 := blk_frozen (blk_below X24.out B5.out) 1))
  refine bodyPost_ret (results_cell_row rfl _ _ g2 29 #[.slice A5 (putM l (r1, 0, r3)).length c5, .slice B n d] (0, 0) _ rfl (set2 (blk_below X24.out B5.out)) Try.underlying29 rfl (by kernel_rfl)) rfl ?_
  exact ⟨_, rfl, R_out2 O5.out (blk_lt X24.out) BB.out.size _ _, below_set (below_set (below_step BB.out B5.out) LE.out.2) LE.out.2⟩
abbrev confR (f c : Int) : Value := .agg #[.slice none 0 0, .slice none 0 0, .slice none 0 0, .slice none 0 0, .int .i64 0, .int .i64 0, .int .i64 f, .int .i64 c]
/-- what holds in Bad -/
structure BadW (w W : World) (g1 g2 g3 g4 : Nat) (A B : Option Addr) (c n d k : Nat) (fails cool : Int) (m : Mk) : Prop where
  below : Below w.heap.size w W
  b1 : W.heap[g1]? = some (.cells #[.slice A k c, .slice B n d] 29 (0, 0))
  b2 : W.heap[g2]? = some (.cells #[.slice none 0 0, .slice none 0 0] 29 (0, 0))
  b3 : W.heap[g3]? = some (.cells #[.slice none 0 0, .slice none 0 0, .slice none 0 0, .slice none 0 0, .int .i64 0, .int .i64 0, .int .i64 fails, .int .i64 cool] 39 (0, 0))
  b4 : W.heap[g4]? = some (.cells #[.string m.1, .int .i64 m.2.1, .int .i64 m.2.2] 88 (0, 0))
  le2 : w.heap.size ≤ g2
  le4 : w.heap.size ≤ g4
  n1 : g1 ≠ g4
  n2 : g2 ≠ g4
  n3 : g3 ≠ g4
section
variable {w W : World} {g1 g2 g3 g4 : Nat} {A B : Option Addr} {c n d k : Nat} {fails cool : Int} {m : Mk}
theorem BadW.put (h : BadW w W g1 g2 g3 g4 A B c n d k fails cool m) {m' : Mk} (j : Nat) (u : Value) (hm : (#[.string m.1, .int .i64 m.2.1, .int .i64 m.2.2] : Array Value).setIfInBounds j u = #[.string m'.1, .int .i64 m'.2.1, .int .i64 m'.2.2]) : BadW w (W.setCell ⟨g4, j, none⟩ u) g1 g2 g3 g4 A B c n d k fails cool m' :=
  ⟨below_set h.below h.le4, blk_far (p := ⟨g4, j, none⟩) h.b1 h.n1 u, blk_far (p := ⟨g4, j, none⟩) h.b2 h.n2 u, blk_far (p := ⟨g4, j, none⟩) h.b3 h.n3 u, blk_put h.b4 j u hm, h.le2, h.le4, h.n1, h.n2, h.n3⟩
theorem BadW.cells (h : BadW w W g1 g2 g3 g4 A B c n d k fails cool m) : (W.cell? ⟨g1, 0, none⟩ = some (.slice A k c) ∧ W.cell? ⟨g1, 1, none⟩ = some (.slice B n d)) ∧ (W.cell? ⟨g3, 6, none⟩ = some (.int .i64 fails) ∧ W.cell? ⟨g3, 7, none⟩ = some (.int .i64 cool)) ∧ (W.cell? ⟨g4, 0, none⟩ = some (.string m.1) ∧ W.cell? ⟨g4, 1, none⟩ = some (.int .i64 m.2.1) ∧ W.cell? ⟨g4, 2, none⟩ = some (.int .i64 m.2.2)) ∧ (W.frozen? ⟨g4, 0, none⟩ = false ∧ W.frozen? ⟨g4, 1, none⟩ = false ∧ W.frozen? ⟨g4, 2, none⟩ = false) :=
  ⟨⟨(blk_cell h.b1 0).trans rfl, (blk_cell h.b1 1).trans rfl⟩, ⟨(blk_cell h.b3 6).trans rfl, (blk_cell h.b3 7).trans rfl⟩, ⟨(blk_cell h.b4 0).trans rfl, (blk_cell h.b4 1).trans rfl, (blk_cell h.b4 2).trans rfl⟩, ⟨blk_frozen h.b4 0, blk_frozen h.b4 1, blk_frozen h.b4 2⟩⟩
theorem BadW.start {w1 w3 w2 w5 w4 w6 : World} (B1 : Below w.heap.size w w1) (B3 : Below w1.heap.size w1 w3) (B2 : Below w3.heap.size w3 w2) (B5 : Below w2.heap.size w2 w5) (B4 : Below w5.heap.size w5 w4)
    (X1 : w1.heap[g1]? = some (.cells #[.slice A k c, .slice B n d] 29 (0, 0)))
    (X3 : w3.heap[g3]? = some (.cells #[.slice none 0 0, .slice none 0 0, .slice none 0 0, .slice none 0 0, .int .i64 0, .int .i64 0, .int .i64 fails, .int .i64 cool] 39 (0, 0)))
    (X2 : w2.heap[g2]? = some (.cells #[.slice none 0 0, .slice none 0 0] 29 (0, 0)))
    (X4 : w4.heap[g4]? = some (.cells #[.string ⟨#[]⟩, .int .i64 0, .int .i64 0] 88 (0, 0)))
    (G1 : g1 = w.heap.size) (G3 : g3 = w1.heap.size) (G2 : g2 = w3.heap.size) (G4 : g4 = w5.heap.size) (r1 : ByteArray) (r2 r3 : Int)
    (E6 : w6 = (((w4.setCell ⟨g4, 0, none⟩ (.string r1)).setCell ⟨g4, 1, none⟩ (.int .i64 r2)).setCell ⟨g4, 2, none⟩ (.int .i64 r3))) : BadW w w6 g1 g2 g3 g4 A B c n d k fails cool (r1, r2, r3) := by
  have s1 := B1.size
  have s2 := B2.size
  have s3 := B3.size
  have s4 := B5.size
  have l1 := blk_lt X1
  have l2 := blk_lt X2
  have l3 := blk_lt X3
  have h4 : BadW w w4 g1 g2 g3 g4 A B c n d k fails cool (⟨#[]⟩, 0, 0) := ⟨below_step (below_step (below_step (below_step B1 B3) B2) B5) B4, blk_below (blk_below (blk_below (blk_below X1 B3) B2) B5) B4, blk_below (blk_below X2 B5) B4, blk_below (blk_below (blk_below X3 B2) B5) B4, X4, by omega, by omega, by omega, by omega, by omega⟩
  rw [E6]
  exact (((h4.put (m' := (r1, 0, 0)) 0 (.string r1) rfl).put (m' := (r1, r2, 0)) 1 (.int .i64 r2) rfl).put (m' := (r1, r2, r3)) 2 (.int .i64 r3) rfl)
end
set_option maxHeartbeats 2000000 in
set_option maxRecDepth 100000 in
theorem badR_calls (A B : Option Addr) (c n d : Nat) (l : List Mk) (a : ByteArray) (now fails cool : Int) (w : World) (hr : Kd.C kM w A l.length l) (hl : l.length ≤ 10000) :
    Calls Try.prog 13 #[.agg #[.slice A l.length c, .slice B n d], .string a, .int .i64 now, confR fails cool] w fun e w' => ∃ v, e = .returned (.tuple #[.agg #[v, .slice B n d], .bool (badR l a now fails cool).2]) ∧ Kd.R kM 88 w' w.heap.size (fun _ => True) v (badR l a now fails cool).1 ∧ Below w.heap.size w w' := by
  have hu29 := Try.underlying29
  have hu88 := Try.underlying88
  have hu39 := Try.underlying39
  have HR := Aside0.mk hr
  clear hr
  unfold badR
  obtain ⟨⟨r1, r2, r3⟩, hm⟩ : ∃ r, markM l a = r := ⟨_, rfl⟩
  rw [hm]
  have HM := Aside0.mk hm
  clear hm
  simp only []
  go_enter Try.func13, Try.ntmps13
  go_wp2_with (first | (go_box 4, #[.slice A l.length c, .slice B n d], 29 => g1 w1 G1 X1 B1) | (go_box 7, #[.slice none 0 0, .slice none 0 0, .slice none 0 0, .slice none 0 0, .int .i64 0, .int .i64 0, .int .i64 fails, .int .i64 cool], 39 => g3 w3 G3 X3 B3) | (go_box 8, #[.slice none 0 0, .slice none 0 0], 29 => g2 w2 G2 X2 B2; have HR2 := Aside0.mk (Kd.C_below HR.out (below_step (below_step B1.out B3.out) B2.out)); have q0 : w2.cell? ⟨g1, 0, none⟩ = some (.slice A l.length c) := (blk_cell (blk_below (blk_below X1.out B3.out) B2.out) 0).trans rfl; have q1 : w2.cell? ⟨g1, 1, none⟩ = some (.slice B n d) := (blk_cell (blk_below (blk_below X1.out B3.out) B2.out) 1).trans rfl) | (go_at_call 35; (with_reducible refine (mark_calls' A B c n d l a r1 r2 r3 _ HR2.out HM.out).mono ?_); rintro e w5 ⟨rfl, hb5⟩; have B5 := Aside0.mk hb5; clear hb5 q0 q1) | (go_box 10, #[.string (⟨#[]⟩ : ByteArray), .int .i64 0, .int .i64 0], 88 => g4 w4 G4 X4 B4; have e40 := blk_frozen X4.out 0; have e41 := blk_frozen X4.out 1; have e42 := blk_frozen X4.out 2; have z0 : w4.cell? ⟨g4, 0, none⟩ = some (.string ⟨#[]⟩) := (blk_cell X4.out 0).trans rfl; have z1 : w4.cell? ⟨g4, 1, none⟩ = some (.int .i64 0) := (blk_cell X4.out 1).trans rfl; have z2 : w4.cell? ⟨g4, 2, none⟩ = some (.int .i64 0) := (blk_cell X4.out 2).trans rfl) | (go_put 88, 10, (((w4.setCell ⟨g4, 0, none⟩ (.string r1)).setCell ⟨g4, 1, none⟩ (.int .i64 r2)).setCell ⟨g4, 2, none⟩ (.int .i64 r3)) => w6 E6; have HI := Aside0.mk (BadW.start B1.out B3.out B2.out B5.out B4.out X1.out X3.out X2.out X4.out G1.out G3.out G2.out G4.out r1 r2 r3 E6.out); clear z0 z1 z2; obtain ⟨⟨q0, q1⟩, ⟨q6, q7⟩, ⟨z0, z1, z2⟩, ⟨y0, y1, y2⟩⟩ := HI.out.cells; clear e40 e41 e42 B1 B2 B3 B5 B4 G1 G2 G3 G4 X1 X2 X3 X4 E6) | (go_put 3, 17, (w6.setCell ⟨g4, 1, none⟩ (.int .i64 (wrap64 (r2 + 1)))) => w7 E7; have HI2 : Aside0 (BadW w w7 g1 g2 g3 g4 A B c n d l.length fails cool (r1, wrap64 (r2 + 1), r3)) := ⟨by rw [E7.out]; exact HI.out.put 1 _ rfl⟩; clear q0 q1 q6 q7 z0 z1 z2 y0 y1 y2 HI E7; obtain ⟨⟨q0, q1⟩, ⟨q6, q7⟩, ⟨z0, z1, z2⟩, ⟨y0, y1, y2⟩⟩ := HI2.out.cells) | (go_put 3, 26, (w7.setCell ⟨g4, 1, none⟩ (.int .i64 0)) => w8 E8; have HI3 : Aside0 (BadW w w8 g1 g2 g3 g4 A B c n d l.length fails cool (r1, 0, r3)) := ⟨by rw [E8.out]; exact HI2.out.put 1 _ rfl⟩; clear q0 q1 q6 q7 z0 z1 z2 y0 y1 y2 HI2 E8; obtain ⟨⟨q0, q1⟩, ⟨q6, q7⟩, ⟨z0, z1, z2⟩, ⟨y0, y1, y2⟩⟩ := HI3.out.cells) | (go_put 2, 31, (w8.setCell ⟨g4, 2, none⟩ (.int .i64 (wrap64 (now + cool)))) => w9 E9; have HI4 : Aside0 (BadW w w9 g1 g2 g3 g4 A B c n d l.length fails cool (r1, 0, wrap64 (now + cool))) := ⟨by rw [E9.out]; exact HI3.out.put 2 _ rfl⟩; clear q0 q1 q6 q7 z0 z1 z2 y0 y1 y2 HI3 E9; obtain ⟨⟨q0, q1⟩, ⟨q6, q7⟩, ⟨z0, z1, z2⟩, ⟨y0, y1, y2⟩⟩ := HI4.out.cells) | (go_at_call 36; (with_reducible refine (put_calls' A B c n d l r1 (wrap64 (r2 + 1)) r3 _ (Kd.C_below HR.out HI2.out.below) hl).mono ?_); rintro e wp ⟨vp, rfl, hop, hbp⟩; obtain ⟨Ap, cp, rfl⟩ := Kd.R_slice hop; have OP := Aside0.mk hop; have BP := Aside0.mk hbp; clear hop hbp q0 q1 q6 q7 z0 z1 z2 y0 y1 y2; have u0 : wp.cell? ⟨g2, 0, none⟩ = some (.slice none 0 0) := (blk_cell (blk_below HI2.out.b2 BP.out) 0).trans rfl; have u1 : wp.cell? ⟨g2, 1, none⟩ = some (.slice none 0 0) := (blk_cell (blk_below HI2.out.b2 BP.out) 1).trans rfl; have f0 := blk_frozen (blk_below HI2.out.b2 BP.out) 0; have f1 := blk_frozen (blk_below HI2.out.b2 BP.out) 1) | (go_at_call 36; (with_reducible refine (put_calls' A B c n d l r1 0 (wrap64 (now + cool)) _ (Kd.C_below HR.out HI4.out.below) hl).mono ?_); rintro e wp ⟨vp, rfl, hop, hbp⟩; obtain ⟨Ap, cp, rfl⟩ := Kd.R_slice hop; have OP := Aside0.mk hop; have BP := Aside0.mk hbp; clear hop hbp q0 q1 q6 q7 z0 z1 z2 y0 y1 y2; have u0 : wp.cell? ⟨g2, 0, none⟩ = some (.slice none 0 0) := (blk_cell (blk_below HI4.out.b2 BP.out) 0).trans rfl; have u1 : wp.cell? ⟨g2, 1, none⟩ = some (.slice none 0 0) := (blk_cell (blk_below HI4.out.b2 BP.out) 1).trans rfl; have f0 := blk_frozen (blk_below HI4.out.b2 BP.out) 0; have f1 := blk_frozen (blk_below HI4.out.b2 BP.out) 1))
  · rename_i hlt
    refine bodyPost_ret (results_ct rfl _ _ g2 29 #[.slice Ap (putM l (r1, wrap64 (r2 + 1), r3)).length cp, .slice B n d] (0, 0) _ rfl (set2 (blk_below HI2.out.b2 BP.out)) Try.underlying29 rfl (by kernel_rfl)) rfl ?_
    exact ⟨_, rfl, R_out2 OP.out (blk_lt HI2.out.b2) HI2.out.below.size _ _, below_set (below_set (below_step HI2.out.below BP.out) HI2.out.le2) HI2.out.le2⟩
  · rename_i hlt
    refine bodyPost_ret (results_ct rfl _ _ g2 29 #[.slice Ap (putM l (r1, 0, wrap64 (now + cool))).length cp, .slice B n d] (0, 0) _ rfl (set2 (blk_below HI4.out.b2 BP.out)) Try.underlying29 rfl (by kernel_rfl)) rfl ?_
    exact ⟨_, rfl, R_out2 OP.out (blk_lt HI4.out.b2) HI4.out.below.size _ _, below_set (below_set (below_step HI4.out.below BP.out) HI4.out.le2) HI4.out.le2⟩
end Go.Proofs.Ytffockklleanmaa.X
