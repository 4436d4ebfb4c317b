/- The document's health: what its functions compute, walked. Its rows are read; what they give is new, or what they read. -/
import Derived.Test.YtffockklleanmaaXHealth
import Derived.Test.YtffockklleanmaaXBytes
import Derived.Test.YtffockklleanmaaXOpen
import Derived.Test.YtffockklleanmaaProg
import Derived.Below
import Derived.Deep.Draws
import Derived.Deep.AppendLies
import Derived.Maps.AppendAt
import Derived.OwnWalk
import Derived.Laws.BytesArg
import Derived.Laws.MakeOwn
import Derived.Laws.OwnMore
import Derived.Deep.OwnRows
import Derived.Tactics
import Derived.Lib.ConvBytes
import Derived.Laws.Slices
import Derived.WalkKit
import Derived.KernelRfl
import Derived.RowKit3
import Derived.Deep.LoopGhost
import Derived.Deep.QuietTactic
import Derived.BigQuiet
import Derived.StillTailTactics
import Derived.WideLaws
import Derived.Deep.DeepCutAuto
import Derived.Deep.CutBlock
import Derived.Deep.RegionHeld3
import Derived.Laws.Rows
import Derived.Lib.AppendStr
import Derived.ArgAppend
import Derived.Laws.IdiomCopy
import Derived.OrdersHeld
import Derived.Laws.BitsLemmas
import Derived.RowKit
import Derived.Test.YtffockklleanmaaWWords
import Derived.Test.YtffockklleanmaaWLast
import Derived.Test.YtffockklleanmaaWTab
import Derived.Test.YtffockklleanmaaWFour
import Derived.Test.YtffockklleanmaaWQPut
import Derived.Test.YtffockklleanmaaWApart
import Derived.Test.YtffockklleanmaaWArr
import Derived.Test.YtffockklleanmaaWZeros
import Derived.Test.YtffockklleanmaaWFoot
import Derived.Test.YtffockklleanmaaWKept
import Derived.Test.YtffockklleanmaaWShare
import Derived.Test.YtffockklleanmaaWN
import Derived.Test.YtffockklleanmaaWFootNe
import Derived.Test.YtffockklleanmaaWAt
import Derived.Test.YtffockklleanmaaWEqStruct
import Derived.Test.YtffockklleanmaaWRepsOne
import Derived.Test.YtffockklleanmaaWInv
import Derived.Test.YtffockklleanmaaWInvWords
import Derived.Test.YtffockklleanmaaWGuard
import Derived.Test.YtffockklleanmaaWNEv
import Derived.Test.YtffockklleanmaaWMore
namespace Go.Proofs.Ytffockklleanmaa.X
open Go.RowKit Go.MapKept Go.ChangeMaps Go.Proofs.YtffockklleanmaaW.PrintWords Go.Proofs.YtffockklleanmaaW.PrintLast Go.Proofs.YtffockklleanmaaW.PrintMore
attribute [local go_sem] max2_int min2_int max_two min_two max_three min_three max_four min_four
set_option linter.unusedVariables false

macro "go_box " N:num ", " cs:term ", " t:term " => " g:ident w:ident G:ident X:ident Bq:ident : tactic => `(tactic| ((with_reducible refine gate_dst (N := $N) rfl ?_); refine box_event ?hg (N := $N) ?hd (cs := $cs) (t := $t) ?hr ?_; (case hd => rfl); (case hg => rfl); (case hr => first | (go_simp; done) | (go_simp; rfl)); intro $g:ident hg_ $w:ident hx_ hb_; have $G:ident := Aside0.mk hg_; have $X:ident := Aside0.mk hx_; have $Bq:ident := Aside0.mk hb_; clear hg_ hx_ hb_))
abbrev Mk := ByteArray × Int × Int
abbrev Tn := ByteArray × Int
def kM : Kd Mk := Kd.pair Kd.string (Kd.pair (Kd.int .i64) (Kd.int .i64))
def kT : Kd Tn := Kd.pair Kd.string (Kd.int .i64)
def zM : Mk := (⟨#[]⟩, 0, 0)
def zT : Tn := (⟨#[]⟩, 0)
theorem kM_open {w : World} {x : Mk} {cs : List Value} (h : kM.K w x cs) : cs = [.string x.1, .int .i64 x.2.1, .int .i64 x.2.2] := by
  obtain ⟨_, _, rfl, rfl, ⟨_, _, rfl, rfl, rfl⟩⟩ := h
  exact rfl
theorem kM_mkM (w : World) (base : Nat) (ok : Nat → Prop) (x : Mk) : kM.M w base ok x [.string x.1, .int .i64 x.2.1, .int .i64 x.2.2] := ⟨[.string x.1], [.int .i64 x.2.1, .int .i64 x.2.2], rfl, rfl, ⟨[.int .i64 x.2.1], [.int .i64 x.2.2], rfl, rfl, rfl⟩⟩
theorem kT_open {w : World} {x : Tn} {cs : List Value} (h : kT.K w x cs) : cs = [.string x.1, .int .i64 x.2] := by
  obtain ⟨_, _, rfl, rfl, rfl⟩ := h
  exact rfl
theorem kT_mkM (w : World) (base : Nat) (ok : Nat → Prop) (x : Tn) : kT.M w base ok x [.string x.1, .int .i64 x.2] := ⟨[.string x.1], [.int .i64 x.2], rfl, rfl, rfl⟩
theorem at_M {w : World} {A : Option Addr} {n : Nat} {xs : List Mk} (h : Kd.C kM w A n xs) (i : Int) (h0 : 0 ≤ i) (h1 : i < n) : ∃ ad , A = some ad ∧ w.cell? (ad.add (i.toNat * 3)) = some (.string (xs.getD i.toNat zM).1) ∧ w.cell? ⟨(ad.add (i.toNat * 3)).block, (ad.add (i.toNat * 3)).off + 1, none⟩ = some (.int .i64 (xs.getD i.toNat zM).2.1) ∧ w.cell? ⟨(ad.add (i.toNat * 3)).block, (ad.add (i.toNat * 3)).off + 2, none⟩ = some (.int .i64 (xs.getD i.toNat zM).2.2) := by
  obtain ⟨ad, c, e, _, hK, hc0⟩ := Kd.C_get h zM i h0 h1
  have hc : ∀ j u, c[j]? = some u → w.cell? (ad.add (i.toNat * 3 + j)) = some u := hc0
  obtain rfl := kM_open hK
  exact ⟨ad, e, hc 0 _ rfl, by rw [← add_field _ _ 1 (by omega)]; exact hc 1 _ rfl, by rw [← add_field _ _ 2 (by omega)]; exact hc 2 _ rfl⟩
theorem at_T {w : World} {A : Option Addr} {n : Nat} {xs : List Tn} (h : Kd.C kT w A n xs) (i : Int) (h0 : 0 ≤ i) (h1 : i < n) : ∃ ad , A = some ad ∧ w.cell? (ad.add (i.toNat * 2)) = some (.string (xs.getD i.toNat zT).1) ∧ w.cell? ⟨(ad.add (i.toNat * 2)).block, (ad.add (i.toNat * 2)).off + 1, none⟩ = some (.int .i64 (xs.getD i.toNat zT).2) := by
  obtain ⟨ad, c, e, _, hK, hc0⟩ := Kd.C_get h zT i h0 h1
  have hc : ∀ j u, c[j]? = some u → w.cell? (ad.add (i.toNat * 2 + j)) = some u := hc0
  obtain rfl := kT_open hK
  exact ⟨ad, e, hc 0 _ rfl, by rw [← add_field _ _ 1 (by omega)]; exact hc 1 _ rfl⟩
theorem tl_inj {a b : ByteArray} : a.toList = b.toList ↔ a = b := ⟨fun e => by rw [Lib.toList_data, Lib.toList_data] at e; exact L_inj e, fun e => by rw [e]⟩
theorem drop_get {α : Type} (l : List α) (z : α) (i : Nat) (h : i < l.length) : l.drop i = l.getD i z :: l.drop (i + 1) := by
  rw [List.drop_eq_getElem_cons h]; simp [List.getElem?_eq_getElem h]
theorem take_get {α : Type} (l : List α) (z : α) (i : Nat) (h : i < l.length) : l.take (i + 1) = l.take i ++ [l.getD i z] := by
  rw [List.take_add_one, List.getD_eq_getElem?_getD]; simp [List.getElem?_eq_getElem h]

theorem set2 {w : World} {g : Nat} {t : TypeId} {a b x y : Value} (h : w.heap[g]? = some (.cells #[a, b] t (0, 0))) : ((w.setCell ⟨g, 0, none⟩ x).setCell ⟨g, 1, none⟩ y).heap[g]? = some (.cells #[x, y] t (0, 0)) :=
  blk_put (blk_put h 0 x (cs' := #[x, b]) rfl) 1 y rfl
theorem set3 {w : World} {g : Nat} {t : TypeId} {a b c x y z : Value} (h : w.heap[g]? = some (.cells #[a, b, c] t (0, 0))) : (((w.setCell ⟨g, 0, none⟩ x).setCell ⟨g, 1, none⟩ y).setCell ⟨g, 2, none⟩ z).heap[g]? = some (.cells #[x, y, z] t (0, 0)) :=
  blk_put (blk_put (blk_put h 0 x (cs' := #[x, b, c]) rfl) 1 y (cs' := #[x, y, c]) rfl) 2 z rfl
def markM : List Mk → ByteArray → Mk
  | [], a => (a, 0, 0)
  | p :: l, a => if p.1 = a then p else markM l a
def putM (l : List Mk) (m : Mk) : List Mk := m :: l.filter (fun p => decide (p.1 ≠ m.1))

set_option maxHeartbeats 1000000 in
set_option maxRecDepth 100000 in
theorem mark_calls (A B : Option Addr) (c n d : Nat) (l : List Mk) (a : ByteArray) (w : World) (hr : Kd.C kM w A l.length l) :
    Calls Try.prog 35 #[.agg #[.slice A l.length c, .slice B n d], .string a] w fun e w' => e = .returned (.agg #[.string (markM l a).1, .int .i64 (markM l a).2.1, .int .i64 (markM l a).2.2]) ∧ Below w.heap.size w w' := by
  have hu29 := Try.underlying29
  have hu88 := Try.underlying88
  have hm : l.length ≤ 9223372036854775807 := hr.2.1
  have HR := Aside0.mk hr
  clear hr
  go_enter Try.func35, Try.ntmps35
  go_wp2_with (first | go_box 2, #[.slice A l.length c, .slice B n d], 29 => g1 w1 G1 X1 B1 | go_box 4, #[.string (⟨#[]⟩ : ByteArray), .int .i64 0, .int .i64 0], 88 => g2 w2 G2 X2 B2)
  have HB : Aside0 (Below w.heap.size w w2) := ⟨below_step B1.out B2.out⟩
  have HR2 := Aside0.mk (Kd.C_below HR.out HB.out)
  have HX1 := Aside0.mk (blk_below X1.out B2.out)
  have q0 : w2.cell? ⟨g1, 0, none⟩ = some (.slice A l.length c) := (blk_cell HX1.out 0).trans rfl
  have q1 : w2.cell? ⟨g1, 1, none⟩ = some (.slice B n d) := (blk_cell HX1.out 1).trans rfl
  have HG : Aside0 (w.heap.size ≤ g2) := ⟨by have := B1.out.size; have := G2.out; omega⟩
  clear B1 B2 X1 HR G1 G2
  go_loopw [5] (fun v5 wr => ∃ i : Nat, i ≤ l.length ∧ v5 = .int .i64 i ∧ Aside0 (markM (l.drop i) a = markM l a) ∧ Aside0 (w2 = wr)) (fun v5 _ => l.length - (intOf v5).toNat)
  case atStart => exact ⟨0, Nat.zero_le _, rfl, ⟨rfl⟩, ⟨rfl⟩⟩
  case round =>
    obtain ⟨i, hi, rfl, HK, HW⟩ := hrel
    have hw := HW.out
    subst hw
    have z0 := (blk_cell X2.out 0).trans rfl
    have z1 := (blk_cell X2.out 1).trans rfl
    have z2 := (blk_cell X2.out 2).trans rfl
    have f0 := blk_frozen X2.out 0
    have f1 := blk_frozen X2.out 1
    have f2 := blk_frozen X2.out 2
    by_cases hlt : i < l.length
    · obtain ⟨ad, rfl, x0, x1, x2⟩ := at_M HR2.out (i : Int) (by omega) (by omega)
      by_cases hq : (l.getD i zM).1 = a
      · have hq2 : ((l.getD i zM).1.toList == a.toList) = true := beq_iff_eq.mpr (tl_inj.2 hq)
        have hK : markM l a = l.getD i zM := by
          rw [← HK.out, drop_get l zM i hlt, markM, if_pos hq]
        have HK2 := Aside0.mk hK
        have HQ := Aside0.mk hq
        clear hK hq
        simp only [Int.toNat_natCast] at x0 x1 x2
        generalize l.getD i zM = p at *
        go_wp2
        refine bodyPost_ret (results_cell_row rfl _ _ g2 88 #[.string p.1, .int .i64 p.2.1, .int .i64 p.2.2] (0, 0) _ rfl (set3 X2.out) Try.underlying88 rfl (by kernel_rfl)) rfl ?_
        exact ⟨by rw [HK2.out], below_set (below_set (below_set HB.out HG.out) HG.out) HG.out⟩
      · have hq2 : ((l.getD i zM).1.toList == a.toList) = false := beq_eq_false_iff_ne.mpr (fun e => hq (tl_inj.1 e))
        have hK : markM (l.drop (i + 1)) a = markM l a := by
          rw [← HK.out, drop_get l zM i hlt, markM, if_neg hq]
        have HK2 := Aside0.mk hK
        clear hK hq
        simp only [Int.toNat_natCast] at x0 x1 x2
        generalize l.getD i zM = p at *
        go_wp2
        go_roundw
        case rel => exact ⟨i + 1, by omega, by go_num, HK2, ⟨trivial⟩⟩
        case measure => simp [intOf]; omega
    · have hK : markM l a = (a, 0, 0) := by
        rw [← HK.out, List.drop_eq_nil_of_le (by omega)]; rfl
      have HK2 := Aside0.mk hK
      clear hK
      go_wp2
      refine bodyPost_ret (results_cell_row rfl _ _ g2 88 #[.string a, .int .i64 0, .int .i64 0] (0, 0) _ rfl (set3 X2.out) Try.underlying88 rfl (by kernel_rfl)) rfl ?_
      exact ⟨by rw [HK2.out], below_set (below_set (below_set HB.out HG.out) HG.out) HG.out⟩

theorem mark_calls' (A B : Option Addr) (c n d : Nat) (l : List Mk) (a r1 : ByteArray) (r2 r3 : Int) (w : World) (hr : Kd.C kM w A l.length l) (h : markM l a = (r1, r2, r3)) :
    Calls Try.prog 35 #[.agg #[.slice A l.length c, .slice B n d], .string a] w fun e w' => e = .returned (.agg #[.string r1, .int .i64 r2, .int .i64 r3]) ∧ Below w.heap.size w w' := by
  have hh := mark_calls A B c n d l a w hr
  rw [h] at hh
  exact hh
def sickR (l : List Mk) (a : ByteArray) (now : Int) : Bool := decide (now < (markM l a).2.2)
set_option maxHeartbeats 1000000 in
set_option maxRecDepth 100000 in
theorem sickR_calls (A B : Option Addr) (c n d : Nat) (l : List Mk) (a : ByteArray) (now : Int) (w : World) (hr : Kd.C kM w A l.length l) :
    Calls Try.prog 18 #[.agg #[.slice A l.length c, .slice B n d], .string a, .int .i64 now] w fun e w' => e = .returned (.bool (sickR l a now)) ∧ Below w.heap.size w w' := by
  have hu29 := Try.underlying29
  have HR := Aside0.mk hr
  clear hr
  unfold sickR
  obtain ⟨⟨r1, r2, r3⟩, hm⟩ : ∃ r, markM l a = r := ⟨_, rfl⟩
  rw [hm]
  have HM := Aside0.mk hm
  clear hm
  simp only []
  have hfd : ∀ w : World, (Instr.field 88 (.agg #[.string r1, .int .i64 r2, .int .i64 r3]) 2).run Try.prog w = .ok (.int .i64 r3) w := fun _ => by kernel_rfl
  go_enter Try.func18, Try.ntmps18
  go_wp2_with (first | (go_box 3, #[.slice A l.length c, .slice B n d], 29 => g1 w1 G1 X1 B1; have q0 : w1.cell? ⟨g1, 0, none⟩ = some (.slice A l.length c) := (blk_cell X1.out 0).trans rfl; have q1 : w1.cell? ⟨g1, 1, none⟩ = some (.slice B n d) := (blk_cell X1.out 1).trans rfl; have HR1 := Aside0.mk (Kd.C_below HR.out B1.out)) | (go_at_call 35; (with_reducible refine (mark_calls' A B c n d l a r1 r2 r3 _ HR1.out HM.out).mono ?_); rintro e w2 ⟨rfl, hb2⟩; have B2 := Aside0.mk hb2; clear hb2))
  go_ret
  exact ⟨rfl, below_step B1.out B2.out⟩

theorem info_M : (Try.prog.info? 88).map (fun i => (i.zero, i.size, i.bytes)) = some (some (.agg #[(.string ⟨#[]⟩), (.int .i64 0), (.int .i64 0)]), 3, 32) := by kernel_rfl
theorem info_T : (Try.prog.info? 86).map (fun i => (i.zero, i.size, i.bytes)) = some (some (.agg #[(.string ⟨#[]⟩), (.int .i64 0)]), 2, 24) := by kernel_rfl
/-- what holds in put -/
structure PutW (w W : World) (g1 g2 g3 : Nat) (A B : Option Addr) (c n d k : Nat) (m : Mk) (v : Value) (xs : List Mk) : Prop where
  below : Below w.heap.size w W
  b1 : W.heap[g1]? = some (.cells #[.slice A k c, .slice B n d] 29 (0, 0))
  b2 : W.heap[g2]? = some (.cells #[.string m.1, .int .i64 m.2.1, .int .i64 m.2.2] 88 (0, 0))
  b3 : W.heap[g3]? = some (.cells #[.slice none 0 0, .slice none 0 0] 29 (0, 0))
  le1 : w.heap.size ≤ g1
  le3 : w.heap.size ≤ g3
  ne : g1 ≠ g3
  row : Kd.R kM 88 W w.heap.size (fun k => k ≠ g1 ∧ k ≠ g2 ∧ k ≠ g3) v xs
theorem PutW.drewN {w W : World} {g1 g2 g3 : Nat} {A B : Option Addr} {c n d k : Nat} {m : Mk} {v : Value} {xs : List Mk} (h : PutW w W g1 g2 g3 A B c n d k m v xs) (q : Nat) : PutW w (W.drewN q) g1 g2 g3 A B c n d k m v xs :=
  ⟨pw_below_drewN h.below q, h.b1, h.b2, h.b3, h.le1, h.le3, h.ne, Kd.R_drewN h.row q⟩
theorem PutW.grown {w W W' : World} {g1 g2 g3 : Nat} {A B : Option Addr} {c n d k : Nat} {m : Mk} {v v' : Value} {xs xs' : List Mk} (h : PutW w W g1 g2 g3 A B c n d k m v xs) (hb : Below w.heap.size w W') (hg : W.grownBy W' v.ownBlock) (hr : Kd.R kM 88 W' w.heap.size (fun k => k ≠ g1 ∧ k ≠ g2 ∧ k ≠ g3) v' xs') : PutW w W' g1 g2 g3 A B c n d k m v' xs' :=
  ⟨hb, blk_grown h.b1 hg (Kd.R_away h.row (fun k hk => hk.1)), blk_grown h.b2 hg (Kd.R_away h.row (fun k hk => hk.2.1)), blk_grown h.b3 hg (Kd.R_away h.row (fun k hk => hk.2.2)), h.le1, h.le3, h.ne, hr⟩
theorem PutW.cells {w W : World} {g1 g2 g3 : Nat} {A B : Option Addr} {c n d k : Nat} {m : Mk} {v : Value} {xs : List Mk} (h : PutW w W g1 g2 g3 A B c n d k m v xs) :
    W.cell? ⟨g1, 0, none⟩ = some (.slice A k c) ∧ W.cell? ⟨g1, 1, none⟩ = some (.slice B n d) ∧ W.cell? ⟨g2, 0, none⟩ = some (.string m.1) ∧ W.cell? ⟨g2, 1, none⟩ = some (.int .i64 m.2.1) ∧ W.cell? ⟨g2, 2, none⟩ = some (.int .i64 m.2.2) :=
  ⟨(blk_cell h.b1 0).trans rfl, (blk_cell h.b1 1).trans rfl, (blk_cell h.b2 0).trans rfl, (blk_cell h.b2 1).trans rfl, (blk_cell h.b2 2).trans rfl⟩
theorem putM_take (l : List Mk) (m : Mk) (i : Nat) (h : i < l.length) : putM (l.take (i + 1)) m = putM (l.take i) m ++ (if (l.getD i zM).1 = m.1 then [] else [l.getD i zM]) := by
  unfold putM
  rw [take_get l zM i h, List.filter_append, List.cons_append]
  congr 2
  by_cases hq : (l.getD i zM).1 = m.1
  · rw [if_pos hq]; generalize l.getD i zM = p at *; simp [hq]
  · rw [if_neg hq]; generalize l.getD i zM = p at *; simp [hq]
theorem putM_len (l : List Mk) (m : Mk) : (putM l m).length ≤ l.length + 1 := by
  unfold putM; simp only [List.length_cons]; have := List.length_filter_le (fun p : Mk => decide (p.1 ≠ m.1)) l; omega

set_option maxHeartbeats 2000000 in
set_option maxRecDepth 100000 in
theorem put_calls (A B : Option Addr) (c n d : Nat) (l : List Mk) (m : Mk) (w : World) (hr : Kd.C kM w A l.length l) (hl : l.length ≤ 10000) :
    Calls Try.prog 36 #[.agg #[.slice A l.length c, .slice B n d], .agg #[.string m.1, .int .i64 m.2.1, .int .i64 m.2.2]] w fun e w' => ∃ v, e = .returned (.agg #[v, .slice B n d]) ∧ Kd.R kM 88 w' w.heap.size (fun _ => True) v (putM l m) ∧ Below w.heap.size w w' := by
  have hu29 := Try.underlying29
  have hu88 := Try.underlying88
  have HR := Aside0.mk hr
  clear hr
  go_enter Try.func36, Try.ntmps36
  go_wp2_with (first | go_box 2, #[.slice A l.length c, .slice B n d], 29 => g1 w1 G1 X1 B1 | (go_box 3, #[.string m.1, .int .i64 m.2.1, .int .i64 m.2.2], 88 => g2 w2 G2 X2 B2) | (go_box 4, #[.slice none 0 0, .slice none 0 0], 29 => g3 w3 G3 X3 B3; have z0 : w3.cell? ⟨g2, 0, none⟩ = some (.string m.1) := (blk_cell (blk_below X2.out B3.out) 0).trans rfl; have z1 : w3.cell? ⟨g2, 1, none⟩ = some (.int .i64 m.2.1) := (blk_cell (blk_below X2.out B3.out) 1).trans rfl; have z2 : w3.cell? ⟨g2, 2, none⟩ = some (.int .i64 m.2.2) := (blk_cell (blk_below X2.out B3.out) 2).trans rfl; have BB := Aside0.mk (below_step (below_step B1.out B2.out) B3.out); have GG : Aside0 (g1 < w3.heap.size ∧ g2 < w3.heap.size ∧ g3 < w3.heap.size) := ⟨⟨blk_lt (blk_below (blk_below X1.out B2.out) B3.out), blk_lt (blk_below X2.out B3.out), blk_lt X3.out⟩⟩) | ((with_reducible refine gate_dst (N := 8) rfl ?_); refine Kd.R_lit kM w.heap.size 88 (w0 := w) ?hg (N := 8) ?hd (xs := [m]) (inner := [.string m.1, .int .i64 m.2.1, .int .i64 m.2.2]) (ok := fun k => k ≠ g1 ∧ k ≠ g2 ∧ k ≠ g3) (okp := fun _ => False) ?hr ?hp (fun _ hk => hk.elim) ?hf BB.out BB.out.size (by simp) ?_; (case hd => rfl); (case hg => rfl); (case hr => first | (go_simp; done) | (go_simp; rfl)); (case hp => exact (Reps.c3 (kM_mkM _ _ _ m) (Reps.none _ _))); (case hf => have := GG.out; refine ⟨?_, ?_, ?_⟩ <;> omega); intro v8 w8 ho8 hb8 hg8 hn8; have O8 := Aside0.mk ho8; have B8 := Aside0.mk hb8; have N8 := Aside0.mk hg8; clear ho8 hb8 hg8 hn8 z0 z1 z2))
  have HI : Aside0 (PutW w w8 g1 g2 g3 A B c n d l.length m v8 (putM (l.take 0) m)) := ⟨⟨B8.out, blk_grown (blk_below (blk_below X1.out B2.out) B3.out) N8.out (by simp), blk_grown (blk_below X2.out B3.out) N8.out (by simp), blk_grown X3.out N8.out (by simp), Nat.le_of_eq G1.out.symm, by have := G3.out; have := B1.out.size; have := B2.out.size; omega, by have := G3.out; have := G1.out; have h1 := blk_lt X1.out; have := B2.out.size; omega, by have := O8.out; unfold putM; exact this⟩⟩
  clear B1 B2 B3 X1 X2 X3 G1 G2 G3 BB GG O8 B8 N8
  go_loopw [5, 6] (fun v5 v6 wr => ∃ i : Nat, i ≤ l.length ∧ v6 = .int .i64 i ∧ Aside0 (PutW w wr g1 g2 g3 A B c n d l.length m v5 (putM (l.take i) m))) (fun _ v6 _ => l.length - (intOf v6).toNat)
  case atStart => exact ⟨0, Nat.zero_le _, rfl, HI⟩
  case round =>
    obtain ⟨i, hi, rfl, HK⟩ := hrel
    by_cases hlt : i < l.length
    · obtain ⟨q0, q1, q2, q3, q4⟩ := HK.out.cells
      obtain ⟨ad, rfl, x0, x1, x2⟩ := at_M (Kd.C_below HR.out HK.out.below) (i : Int) (by omega) (by omega)
      simp only [Int.toNat_natCast] at x0 x1 x2
      by_cases hq : (l.getD i zM).1 = m.1
      · have hq2 : ((l.getD i zM).1.toList == m.1.toList) = true := beq_iff_eq.mpr (tl_inj.2 hq)
        have hK : putM (l.take (i + 1)) m = putM (l.take i) m := by rw [putM_take l m i hlt, if_pos hq]; simp
        have HP := Aside0.mk hK
        clear hK hq
        generalize l.getD i zM = p at *
        go_wp2
        go_quiet (fail)
        go_wp2
        go_roundw
        case rel => exact ⟨i + 1, by omega, by go_num, ⟨by rw [HP.out]; exact HK.out.drewN _⟩⟩
        case measure => simp [intOf]; omega
      · have hq2 : ((l.getD i zM).1.toList == m.1.toList) = false := beq_eq_false_iff_ne.mpr (fun e => hq (tl_inj.1 e))
        have hK : putM (l.take (i + 1)) m = putM (l.take i) m ++ [l.getD i zM] := by rw [putM_take l m i hlt, if_neg hq]
        have HP := Aside0.mk hK
        have HL : Aside0 ((putM (l.take i) m).length ≤ 10001) := ⟨by have := putM_len (l.take i) m; rw [List.length_take] at this; omega⟩
        clear hK hq
        generalize l.getD i zM = p at *
        go_wp2
        go_quiet (fail)
        have HI2 := Aside0.mk (HK.out.drewN nq)
        have HR2 := Aside0.mk (Kd.C_below HR.out HI2.out.below)
        obtain ⟨q0, q1, q2, q3, q4⟩ := HI2.out.cells
        replace x0 : (wr.drewN nq).cell? (ad.add (i * 3)) = some (.string p.1) := x0
        replace x1 : (wr.drewN nq).cell? ⟨(ad.add (i * 3)).block, (ad.add (i * 3)).off + 1, none⟩ = some (.int .i64 p.2.1) := x1
        replace x2 : (wr.drewN nq).cell? ⟨(ad.add (i * 3)).block, (ad.add (i * 3)).off + 2, none⟩ = some (.int .i64 p.2.2) := x2
        clear HK
        generalize wr.drewN nq = W1 at *
        have GG : Aside0 (g1 < W1.heap.size ∧ g2 < W1.heap.size ∧ g3 < W1.heap.size) := ⟨⟨blk_lt HI2.out.b1, blk_lt HI2.out.b2, blk_lt HI2.out.b3⟩⟩
        go_wp2_with (first | ((with_reducible refine gate_builtin (b := .append) (xs := #[.tmp 25, .tmp 31]) rfl ?_); at_builtin; refine Kd.R_append kM (w0 := w) w.heap.size rfl (.tmp 25) (.tmp 31) 26 88 (.agg #[(.string ⟨#[]⟩), (.int .i64 0), (.int .i64 0)]) 32 rfl Try.underlying26 info_M rfl (by decide) (by omega) u5 (putM (l.take i) m) p [.string p.1, .int .i64 p.2.1, .int .i64 p.2.2] (fun k => k ≠ g1 ∧ k ≠ g2 ∧ k ≠ g3) (fun _ => False) rfl rfl ?aP (fun _ hk => hk.elim) ?aF ?aO ?aB ?aS ?aL ?_; (case aP => exact kM_mkM _ _ _ p); (case aF => (intro k hk; have := GG.out; refine ⟨?_, ?_, ?_⟩ <;> omega)); (case aO => exact HI2.out.row); (case aB => exact HI2.out.below); (case aS => exact HI2.out.below.size); (case aL => have := HL.out; omega); intro v1 w1 ho hb hg hat; have HO := Aside0.mk ho; have HB := Aside0.mk hb; have HGr := Aside0.mk hg; clear ho hb hg hat))
        go_roundw
        case rel => exact ⟨i + 1, by omega, by go_num, ⟨by rw [HP.out]; exact HI2.out.grown HB.out HGr.out HO.out⟩⟩
        case measure => simp [intOf]; omega
    · have hin : l.take i = l := List.take_of_length_le (by omega)
      rw [hin] at HK
      obtain ⟨q0, q1, q2, q3, q4⟩ := HK.out.cells
      obtain ⟨Au, cu, rfl⟩ := Kd.R_slice HK.out.row
      have f0 := blk_frozen HK.out.b1 0
      have f1 := blk_frozen HK.out.b3 0
      have f2 := blk_frozen HK.out.b3 1
      have y0 : wr.cell? ⟨g3, 0, none⟩ = some (.slice none 0 0) := (blk_cell HK.out.b3 0).trans rfl
      have y1 : wr.cell? ⟨g3, 1, none⟩ = some (.slice none 0 0) := (blk_cell HK.out.b3 1).trans rfl
      have ne1 := HK.out.ne
      have ne2 := HK.out.ne.symm
      go_wp2
      refine bodyPost_ret (results_cell_row rfl _ _ g3 29 #[.slice Au (putM l m).length cu, .slice B n d] (0, 0) _ rfl (set2 (blk_far (p := ⟨g1, 0, none⟩) HK.out.b3 ne2 _)) Try.underlying29 rfl (by kernel_rfl)) rfl ?_
      exact ⟨_, rfl, Kd.R_mono (Kd.R_far (p := ⟨g3, 1, none⟩) (Kd.R_far (p := ⟨g3, 0, none⟩) (Kd.R_far (p := ⟨g1, 0, none⟩) HK.out.row (fun k hk => hk.1) _) (fun k hk => hk.2.2) _) (fun k hk => hk.2.2) _) (fun _ _ => trivial), below_set (below_set (below_set HK.out.below HK.out.le1) HK.out.le3) HK.out.le3⟩
end Go.Proofs.Ytffockklleanmaa.X
