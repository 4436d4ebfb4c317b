/- PoolHealth: its walk. -/
import Derived.Test.YtffockklleanmaaXPSim
import Derived.Test.YtffockklleanmaaXHealthW
import Derived.Test.YtffockklleanmaaXCare
import Derived.Test.YtffockklleanmaaProg
import Derived.Below
import Derived.Deep.Draws
import Derived.Deep.AppendLies
import Derived.Maps.AppendAt
import Derived.OwnWalk
import Derived.Laws.BytesArg
import Derived.Laws.MakeOwn
import Derived.Laws.OwnMore
import Derived.Deep.OwnRows
import Derived.Tactics
import Derived.Lib.ConvBytes
import Derived.Laws.Slices
import Derived.WalkKit
import Derived.KernelRfl
import Derived.RowKit3
import Derived.Deep.LoopGhost
import Derived.Deep.QuietTactic
import Derived.BigQuiet
import Derived.StillTailTactics
import Derived.WideLaws
import Derived.Deep.DeepCutAuto
import Derived.Deep.CutBlock
import Derived.Deep.RegionHeld3
import Derived.Laws.Rows
import Derived.Lib.AppendStr
import Derived.ArgAppend
import Derived.Laws.IdiomCopy
import Derived.OrdersHeld
import Derived.Laws.BitsLemmas
import Derived.RowKit
import Derived.Lib.QuietBelow
import Derived.Test.YtffockklleanmaaWWords
import Derived.Test.YtffockklleanmaaWLast
import Derived.Test.YtffockklleanmaaWTab
import Derived.Test.YtffockklleanmaaWFour
import Derived.Test.YtffockklleanmaaWQPut
import Derived.Test.YtffockklleanmaaWApart
import Derived.Test.YtffockklleanmaaWArr
import Derived.Test.YtffockklleanmaaWZeros
import Derived.Test.YtffockklleanmaaWFoot
import Derived.Test.YtffockklleanmaaWKept
import Derived.Test.YtffockklleanmaaWShare
import Derived.Test.YtffockklleanmaaWN
import Derived.Test.YtffockklleanmaaWFootNe
import Derived.Test.YtffockklleanmaaWAt
import Derived.Test.YtffockklleanmaaWEqStruct
import Derived.Test.YtffockklleanmaaWRepsOne
import Derived.Test.YtffockklleanmaaWInv
import Derived.Test.YtffockklleanmaaWInvWords
import Derived.Test.YtffockklleanmaaWGuard
import Derived.Test.YtffockklleanmaaWNEv
import Derived.Test.YtffockklleanmaaWMore
namespace Go.Proofs.Ytffockklleanmaa.X
open Go.Sort Go.RowKit Go.MapKept Go.ChangeMaps Go.Proofs.YtffockklleanmaaW.PrintWords Go.Proofs.YtffockklleanmaaW.PrintLast Go.Proofs.YtffockklleanmaaW.PrintMore
attribute [local go_sem] max2_int min2_int max_two min_two max_three min_three max_four min_four
set_option linter.unusedVariables false
set_option linter.unusedSimpArgs false

theorem C_map {α β : Type} {d : Kd α} {d' : Kd β} (f : α → β) (hs : d.sz = d'.sz) (hK : ∀ w x cs, d.K w x cs → d'.K w (f x) cs) {w : World} {A : Option Addr} {n : Nat} {xs : List α} (h : Kd.C d w A n xs) : Kd.C d' w A n (xs.map f) := by
  obtain ⟨h1, h2, h3⟩ := h
  refine ⟨by rw [List.length_map]; exact h1, h2, fun hn => ?_⟩
  obtain ⟨ad, e, hc⟩ := h3 hn
  refine ⟨ad, e, fun j p hj => ?_⟩
  rw [List.getElem?_map] at hj
  obtain ⟨q, hq, rfl⟩ := Option.map_eq_some_iff.1 hj
  obtain ⟨c, c1, c2, c3⟩ := hc j q hq
  exact ⟨c, by rw [c1, hs], hK _ _ _ c2, by rw [← hs]; exact c3⟩
theorem set8 {w : World} {g : Nat} {t : TypeId} {a0 a1 a2 a3 a4 a5 a6 a7 x0 x1 x2 x3 x4 x5 x6 x7 : Value} (h : w.heap[g]? = some (.cells #[a0, a1, a2, a3, a4, a5, a6, a7] t (0, 0))) : ((((((((w.setCell ⟨g, 0, none⟩ x0).setCell ⟨g, 1, none⟩ x1).setCell ⟨g, 2, none⟩ x2).setCell ⟨g, 3, none⟩ x3).setCell ⟨g, 4, none⟩ x4).setCell ⟨g, 5, none⟩ x5).setCell ⟨g, 6, none⟩ x6).setCell ⟨g, 7, none⟩ x7).heap[g]? = some (.cells #[x0, x1, x2, x3, x4, x5, x6, x7] t (0, 0)) :=
  blk_put (blk_put (blk_put (blk_put (blk_put (blk_put (blk_put (blk_put h 0 x0 (cs' := #[x0, a1, a2, a3, a4, a5, a6, a7]) rfl) 1 x1 (cs' := #[x0, x1, a2, a3, a4, a5, a6, a7]) rfl) 2 x2 (cs' := #[x0, x1, x2, a3, a4, a5, a6, a7]) rfl) 3 x3 (cs' := #[x0, x1, x2, x3, a4, a5, a6, a7]) rfl) 4 x4 (cs' := #[x0, x1, x2, x3, x4, a5, a6, a7]) rfl) 5 x5 (cs' := #[x0, x1, x2, x3, x4, x5, a6, a7]) rfl) 6 x6 (cs' := #[x0, x1, x2, x3, x4, x5, x6, a7]) rfl) 7 x7 rfl
theorem below_set8 {w W : World} {g : Nat} {x0 x1 x2 x3 x4 x5 x6 x7 : Value} (h : Below w.heap.size w W) (hg : w.heap.size ≤ g) : Below w.heap.size w ((((((((W.setCell ⟨g, 0, none⟩ x0).setCell ⟨g, 1, none⟩ x1).setCell ⟨g, 2, none⟩ x2).setCell ⟨g, 3, none⟩ x3).setCell ⟨g, 4, none⟩ x4).setCell ⟨g, 5, none⟩ x5).setCell ⟨g, 6, none⟩ x6).setCell ⟨g, 7, none⟩ x7) :=
  below_set (below_set (below_set (below_set (below_set (below_set (below_set (below_set h hg) hg) hg) hg) hg) hg) hg) hg
abbrev OpT := Int × Int × ByteArray × (ByteArray × List ByteArray) × Int × Int × Int
def kUp : Kd (ByteArray × List ByteArray) := Kd.pair Kd.string (Kd.slice 9 Kd.string)
def kO : Kd OpT := Kd.pair (Kd.int .i64) (Kd.pair (Kd.int .i64) (Kd.pair Kd.string (Kd.pair kUp (Kd.pair (Kd.int .i64) (Kd.pair (Kd.int .i64) (Kd.int .i64))))))
def zO : OpT := (0, 0, ⟨#[]⟩, (⟨#[]⟩, []), 0, 0, 0)
theorem kO_open {w : World} {x : OpT} {cs : List Value} (h : kO.K w x cs) : ∃ A1 c1, cs = [.int .i64 x.1, .int .i64 x.2.1, .string x.2.2.1, .string x.2.2.2.1.1, .slice A1 x.2.2.2.1.2.length c1, .int .i64 x.2.2.2.2.1, .int .i64 x.2.2.2.2.2.1, .int .i64 x.2.2.2.2.2.2] ∧ x.2.2.2.1.2.length ≤ c1 ∧ Kd.string.C w A1 x.2.2.2.1.2.length x.2.2.2.1.2 := by
  obtain ⟨_, _, rfl, rfl, ⟨_, _, rfl, rfl, ⟨_, _, rfl, rfl, ⟨_, _, rfl, ⟨_, _, rfl, rfl, ⟨A1, c1, rfl, l1, g1⟩⟩, ⟨_, _, rfl, rfl, ⟨_, _, rfl, rfl, rfl⟩⟩⟩⟩⟩⟩ := h
  exact ⟨A1, c1, rfl, l1, g1⟩
theorem at_O {w : World} {A : Option Addr} {n : Nat} {xs : List OpT} (h : Kd.C kO w A n xs) (i : Int) (h0 : 0 ≤ i) (h1 : i < n) : ∃ ad A1 c1, A = some ad ∧ w.cell? (ad.add (i.toNat * 8)) = some (.int .i64 (xs.getD i.toNat zO).1) ∧ w.cell? ⟨(ad.add (i.toNat * 8)).block, (ad.add (i.toNat * 8)).off + 1, none⟩ = some (.int .i64 (xs.getD i.toNat zO).2.1) ∧ w.cell? ⟨(ad.add (i.toNat * 8)).block, (ad.add (i.toNat * 8)).off + 2, none⟩ = some (.string (xs.getD i.toNat zO).2.2.1) ∧ w.cell? ⟨(ad.add (i.toNat * 8)).block, (ad.add (i.toNat * 8)).off + 3, none⟩ = some (.string (xs.getD i.toNat zO).2.2.2.1.1) ∧ w.cell? ⟨(ad.add (i.toNat * 8)).block, (ad.add (i.toNat * 8)).off + 4, none⟩ = some (.slice A1 (xs.getD i.toNat zO).2.2.2.1.2.length c1) ∧ w.cell? ⟨(ad.add (i.toNat * 8)).block, (ad.add (i.toNat * 8)).off + 5, none⟩ = some (.int .i64 (xs.getD i.toNat zO).2.2.2.2.1) ∧ w.cell? ⟨(ad.add (i.toNat * 8)).block, (ad.add (i.toNat * 8)).off + 6, none⟩ = some (.int .i64 (xs.getD i.toNat zO).2.2.2.2.2.1) ∧ w.cell? ⟨(ad.add (i.toNat * 8)).block, (ad.add (i.toNat * 8)).off + 7, none⟩ = some (.int .i64 (xs.getD i.toNat zO).2.2.2.2.2.2) ∧ Kd.string.C w A1 (xs.getD i.toNat zO).2.2.2.1.2.length (xs.getD i.toNat zO).2.2.2.1.2 := by
  obtain ⟨ad, c, e, _, hK, hc0⟩ := Kd.C_get h zO i h0 h1
  have hc : ∀ j u, c[j]? = some u → w.cell? (ad.add (i.toNat * 8 + j)) = some u := hc0
  obtain ⟨A1, c1, rfl, l1, g1⟩ := kO_open hK
  exact ⟨ad, A1, c1, e, hc 0 _ rfl, by rw [← add_field _ _ 1 (by omega)]; exact hc 1 _ rfl, by rw [← add_field _ _ 2 (by omega)]; exact hc 2 _ rfl, by rw [← add_field _ _ 3 (by omega)]; exact hc 3 _ rfl, by rw [← add_field _ _ 4 (by omega)]; exact hc 4 _ rfl, by rw [← add_field _ _ 5 (by omega)]; exact hc 5 _ rfl, by rw [← add_field _ _ 6 (by omega)]; exact hc 6 _ rfl, by rw [← add_field _ _ 7 (by omega)]; exact hc 7 _ rfl, g1⟩
/-- what holds all along -/
structure LInv (w W : World) (lo hi gm p : Nat) (s : HSt) (ml : List Mk) (tl : List Tn) (vm vt : Value) : Prop where
  le : w.heap.size ≤ lo
  lt : hi ≤ gm
  lh : lo ≤ hi
  at_ : HAt W (fun k => lo ≤ k ∧ k < hi) p s
  box : W.heap[gm]? = some (.cells #[vm, vt] 29 (0, 0))
  rm : Kd.R kM 88 W (gm + 1) (fun k => gm < k) vm ml
  rt : Kd.R kT 86 W (gm + 1) (fun k => gm < k) vt tl
  below : Below w.heap.size w W
section
variable {w W W' : World} {lo hi gm p : Nat} {s s' : HSt} {ml ml' : List Mk} {tl tl' : List Tn} {vm vt vm' vt' : Value}
theorem LInv.next (h : LInv w W lo hi gm p s ml tl vm vt) (hb : Below W.heap.size W W') : LInv w W' lo hi gm p s ml tl vm vt :=
  ⟨h.le, h.lt, h.lh, h.at_.below hb, blk_below h.box hb, Kd.R_below h.rm hb, Kd.R_below h.rt hb, below_step h.below hb⟩
theorem LInv.chg (h : LInv w W lo hi gm p s ml tl vm vt) (ha : HAt W' (fun k => lo ≤ k ∧ k < hi) p s') (hc : Chg (fun k => lo ≤ k ∧ k < hi) W W') : LInv w W' lo hi gm p s' ml tl vm vt :=
  ⟨h.le, h.lt, h.lh, ha, hc.blk h.box (by have := h.lt; omega), R_chg h.rm hc (fun k hk => by have := h.lt; omega), R_chg h.rt hc (fun k hk => by have := h.lt; omega), h.below.trans (hc.below (fun k hk => by have := h.le; omega) h.below.size)⟩
theorem LInv.put (h : LInv w W lo hi gm p s ml tl vm vt) (hm : Kd.R kM 88 W (gm + 1) (fun k => gm < k) vm' ml') (ht : Kd.R kT 86 W (gm + 1) (fun k => gm < k) vt' tl') : LInv w ((W.setCell ⟨gm, 0, none⟩ vm').setCell ⟨gm, 1, none⟩ vt') lo hi gm p s ml' tl' vm' vt' := by
  have hc : Chg (fun k => k = gm) W ((W.setCell ⟨gm, 0, none⟩ vm').setCell ⟨gm, 1, none⟩ vt') := (Chg.set (F := fun k => k = gm) (p := ⟨gm, 0, none⟩) vm' rfl).trans (Chg.set (F := fun k => k = gm) (p := ⟨gm, 1, none⟩) vt' rfl)
  exact ⟨h.le, h.lt, h.lh, h.at_.chg hc (fun k hk e => by have := h.lt; omega), set2 h.box, R_chg hm hc (fun k hk e => by omega), R_chg ht hc (fun k hk e => by omega), below_set (below_set h.below (by have := h.le; have := h.lh; have := h.lt; omega)) (by have := h.le; have := h.lh; have := h.lt; omega)⟩
/-- a row that is new is a row of ours -/
theorem LInv.mine {α : Type} {kd : Kd α} {e : Nat} {ok : Nat → Prop} {v : Value} {xs : List α} (h : LInv w W lo hi gm p s ml tl vm vt) (hr : kd.R e W' W.heap.size ok v xs) : kd.R e W' (gm + 1) (fun k => gm < k) v xs :=
  Kd.R_lower (Kd.R_mono (Kd.R_bound hr) (fun k hk => by have h1 := hk.2.1; have h2 := blk_lt h.box; omega)) (blk_lt h.box)
end

/-- what holds in a round -/
structure RInv (w W : World) (lo hi gm p : Nat) (s : HSt) (ml : List Mk) (tl : List Tn) (vm vt : Value) (go gc : Nat) (kd hh : Int) (aim name : ByteArray) (A1 : Option Addr) (n c1 : Nat) (now0 fl c0 cq : Int) : Prop where
  L : LInv w W lo hi gm p s ml tl vm vt
  bo : W.heap[go]? = some (.cells #[.int .i64 kd, .int .i64 hh, .string aim, .string name, .slice A1 n c1, .int .i64 now0, .int .i64 fl, .int .i64 c0] 34 (0, 0))
  bc : W.heap[gc]? = some (.cells #[.slice none 0 0, .slice none 0 0, .slice none 0 0, .slice none 0 0, .int .i64 0, .int .i64 0, .int .i64 fl, .int .i64 cq] 39 (0, 0))
  lo_ : gm < go
  lc : gm < gc
section
variable {w W W' : World} {lo hi gm p go gc n c1 : Nat} {s s' : HSt} {ml ml' : List Mk} {tl tl' : List Tn} {vm vt vm' vt' : Value} {kd hh now0 fl c0 cq : Int} {aim name : ByteArray} {A1 : Option Addr}
theorem RInv.next (h : RInv w W lo hi gm p s ml tl vm vt go gc kd hh aim name A1 n c1 now0 fl c0 cq) (hb : Below W.heap.size W W') : RInv w W' lo hi gm p s ml tl vm vt go gc kd hh aim name A1 n c1 now0 fl c0 cq :=
  ⟨h.L.next hb, blk_below h.bo hb, blk_below h.bc hb, h.lo_, h.lc⟩
theorem RInv.chg (h : RInv w W lo hi gm p s ml tl vm vt go gc kd hh aim name A1 n c1 now0 fl c0 cq) (ha : HAt W' (fun k => lo ≤ k ∧ k < hi) p s') (hc : Chg (fun k => lo ≤ k ∧ k < hi) W W') : RInv w W' lo hi gm p s' ml tl vm vt go gc kd hh aim name A1 n c1 now0 fl c0 cq :=
  ⟨h.L.chg ha hc, hc.blk h.bo (by have := h.L.lt; have := h.lo_; omega), hc.blk h.bc (by have := h.L.lt; have := h.lc; omega), h.lo_, h.lc⟩
theorem RInv.cells (h : RInv w W lo hi gm p s ml tl vm vt go gc kd hh aim name A1 n c1 now0 fl c0 cq) : (W.cell? ⟨gm, 0, none⟩ = some vm ∧ W.cell? ⟨gm, 1, none⟩ = some vt ∧ W.frozen? ⟨gm, 0, none⟩ = false ∧ W.frozen? ⟨gm, 1, none⟩ = false) ∧ (W.cell? ⟨go, 0, none⟩ = some (.int .i64 kd) ∧ W.cell? ⟨go, 2, none⟩ = some (.string aim) ∧ W.cell? ⟨go, 3, none⟩ = some (.string name) ∧ W.cell? ⟨go, 4, none⟩ = some (.slice A1 n c1)) ∧ W.cell? ⟨gc, 0, none⟩ = some (.slice none 0 0) ∧ W.cell? ⟨gc, 1, none⟩ = some (.slice none 0 0) ∧ W.cell? ⟨gc, 2, none⟩ = some (.slice none 0 0) ∧ W.cell? ⟨gc, 3, none⟩ = some (.slice none 0 0) ∧ W.cell? ⟨gc, 4, none⟩ = some (.int .i64 0) ∧ W.cell? ⟨gc, 5, none⟩ = some (.int .i64 0) ∧ W.cell? ⟨gc, 6, none⟩ = some (.int .i64 fl) ∧ W.cell? ⟨gc, 7, none⟩ = some (.int .i64 cq) :=
  ⟨⟨(blk_cell h.L.box 0).trans rfl, (blk_cell h.L.box 1).trans rfl, blk_frozen h.L.box 0, blk_frozen h.L.box 1⟩, ⟨(blk_cell h.bo 0).trans rfl, (blk_cell h.bo 2).trans rfl, (blk_cell h.bo 3).trans rfl, (blk_cell h.bo 4).trans rfl⟩, (blk_cell h.bc 0).trans rfl, (blk_cell h.bc 1).trans rfl, (blk_cell h.bc 2).trans rfl, (blk_cell h.bc 3).trans rfl, (blk_cell h.bc 4).trans rfl, (blk_cell h.bc 5).trans rfl, (blk_cell h.bc 6).trans rfl, (blk_cell h.bc 7).trans rfl⟩
theorem RInv.put (h : RInv w W lo hi gm p s ml tl vm vt go gc kd hh aim name A1 n c1 now0 fl c0 cq) (hm : Kd.R kM 88 W (gm + 1) (fun k => gm < k) vm' ml') (ht : Kd.R kT 86 W (gm + 1) (fun k => gm < k) vt' tl') : RInv w ((W.setCell ⟨gm, 0, none⟩ vm').setCell ⟨gm, 1, none⟩ vt') lo hi gm p s ml' tl' vm' vt' go gc kd hh aim name A1 n c1 now0 fl c0 cq := by
  have hc : Chg (fun k => k = gm) W ((W.setCell ⟨gm, 0, none⟩ vm').setCell ⟨gm, 1, none⟩ vt') := (Chg.set (F := fun k => k = gm) (p := ⟨gm, 0, none⟩) vm' rfl).trans (Chg.set (F := fun k => k = gm) (p := ⟨gm, 1, none⟩) vt' rfl)
  exact ⟨h.L.put hm ht, hc.blk h.bo (by have := h.lo_; omega), hc.blk h.bc (by have := h.lc; omega), h.lo_, h.lc⟩
theorem RInv.mm (h : RInv w W lo hi gm p s ml tl vm vt go gc kd hh aim name A1 n c1 now0 fl c0 cq) : gm < W.heap.size := blk_lt h.L.box
theorem RInv.refpick {aims : List ByteArray} {r : ByteArray} {now e : Int} {Am At : Option Addr} {cm ct : Nat} (h : RInv w W lo hi gm p s ml tl (.slice Am ml.length cm) (.slice At tl.length ct) go gc kd hh aim name A1 n c1 now0 fl c0 cq) (hn : n = aims.length) (hu : Kd.C Kd.string w A1 aims.length aims) (hl : tl.length ≤ 10000) (hp : pickRes tl name (pickR ml aims now (turnR tl name 0) aims.length 0) = some (tl', r, e)) :
    Calls Try.prog 11 #[.agg #[.slice Am ml.length cm, .slice At tl.length ct], .agg #[.string name, .slice A1 n c1], .int .i64 now] W fun ed W' => ∃ B d, ed = .returned (.tuple #[.agg #[.slice Am ml.length cm, .slice B tl'.length d], .string r, .int .i64 e]) ∧ Kd.R kT 86 W' (gm + 1) (fun k => gm < k) (.slice B tl'.length d) tl' ∧ RInv w W' lo hi gm p s ml tl (.slice Am ml.length cm) (.slice At tl.length ct) go gc kd hh aim name A1 n c1 now0 fl c0 cq := by
  subst hn
  obtain ⟨A2, c2, e2, _, hC⟩ := Kd.R_reads h.L.rm
  injection e2 with e2 _ _
  subst e2
  refine (pickR_calls _ _ A1 cm ct c1 ml tl aims name r now e tl' (gm + 1) (fun k => gm < k) W hC h.L.rt (Kd.C_below hu h.L.below) h.mm (fun k hk => by have := h.mm; omega) hl hp).mono ?_
  rintro ed W' ⟨v, h1, h2, h3⟩
  obtain ⟨B, d, rfl⟩ := Kd.R_slice h2
  exact ⟨B, d, h1, h2, h.next h3⟩
theorem RInv.pick {aims : List ByteArray} {r : ByteArray} {now e : Int} (h : RInv w W lo hi gm p s ml tl vm vt go gc kd hh aim name A1 n c1 now0 fl c0 cq) (hn : n = aims.length) (hu : Kd.C Kd.string w A1 aims.length aims) (hp : pickM s name aims now aims.length 0 = some (s', r, e)) :
    Calls Try.prog 12 #[.pointer (some ⟨p, 0, none⟩), .agg #[.string name, .slice A1 n c1], .int .i64 now] W fun ed W' => ed = .returned (.tuple #[.string r, .int .i64 e]) ∧ RInv w W' lo hi gm p s' ml tl vm vt go gc kd hh aim name A1 n c1 now0 fl c0 cq := by
  subst hn
  refine (pick_calls _ p s name A1 c1 aims now s' r e W h.L.at_ (Kd.C_below hu h.L.below) hp).mono ?_
  rintro ed W' ⟨h1, h2, h3⟩
  exact ⟨h1, h.chg h2 h3⟩
theorem RInv.refbad {now : Int} {b : Bool} {Am At : Option Addr} {cm ct : Nat} (h : RInv w W lo hi gm p s ml tl (.slice Am ml.length cm) (.slice At tl.length ct) go gc kd hh aim name A1 n c1 now0 fl c0 cq) (hl : ml.length ≤ 10000) (hp : badR ml aim now fl cq = (ml', b)) :
    Calls Try.prog 13 #[.agg #[.slice Am ml.length cm, .slice At tl.length ct], .string aim, .int .i64 now, .agg #[.slice none 0 0, .slice none 0 0, .slice none 0 0, .slice none 0 0, .int .i64 0, .int .i64 0, .int .i64 fl, .int .i64 cq]] W fun ed W' => ∃ B d, ed = .returned (.tuple #[.agg #[.slice B ml'.length d, .slice At tl.length ct], .bool b]) ∧ Kd.R kM 88 W' (gm + 1) (fun k => gm < k) (.slice B ml'.length d) ml' ∧ RInv w W' lo hi gm p s ml tl (.slice Am ml.length cm) (.slice At tl.length ct) go gc kd hh aim name A1 n c1 now0 fl c0 cq := by
  obtain ⟨A2, c2, e2, _, hC⟩ := Kd.R_reads h.L.rm
  injection e2 with e2 _ _
  subst e2
  refine (badR_calls _ _ cm tl.length ct ml aim now fl cq W hC hl).mono ?_
  rintro ed W' ⟨v, h1, h2, h3⟩
  rw [hp] at h1 h2
  have h4 := h.L.mine h2
  obtain ⟨B, d, rfl⟩ := Kd.R_slice h4
  exact ⟨B, d, h1, h4, h.next h3⟩
theorem RInv.bad {now : Int} {b : Bool} (h : RInv w W lo hi gm p s ml tl vm vt go gc kd hh aim name A1 n c1 now0 fl c0 cq) (hp : badM s aim now fl cq = (s', b)) :
    Calls Try.prog 14 #[.pointer (some ⟨p, 0, none⟩), .string aim, .int .i64 now, .agg #[.slice none 0 0, .slice none 0 0, .slice none 0 0, .slice none 0 0, .int .i64 0, .int .i64 0, .int .i64 fl, .int .i64 cq]] W fun ed W' => ed = .returned (.bool b) ∧ RInv w W' lo hi gm p s' ml tl vm vt go gc kd hh aim name A1 n c1 now0 fl c0 cq := by
  refine (bad_calls _ p s aim now fl cq _ _ _ _ 0 0 W h.L.at_).mono ?_
  rintro ed W' ⟨h1, h2, h3⟩
  rw [hp] at h1 h2
  exact ⟨h1, h.chg h2 h3⟩
theorem RInv.refgood {Am At : Option Addr} {cm ct : Nat} (h : RInv w W lo hi gm p s ml tl (.slice Am ml.length cm) (.slice At tl.length ct) go gc kd hh aim name A1 n c1 now0 fl c0 cq) (hl : ml.length ≤ 10000) :
    Calls Try.prog 16 #[.agg #[.slice Am ml.length cm, .slice At tl.length ct], .string aim] W fun ed W' => ∃ B d, ed = .returned (.agg #[.slice B (goodR ml aim).length d, .slice At tl.length ct]) ∧ Kd.R kM 88 W' (gm + 1) (fun k => gm < k) (.slice B (goodR ml aim).length d) (goodR ml aim) ∧ RInv w W' lo hi gm p s ml tl (.slice Am ml.length cm) (.slice At tl.length ct) go gc kd hh aim name A1 n c1 now0 fl c0 cq := by
  obtain ⟨A2, c2, e2, _, hC⟩ := Kd.R_reads h.L.rm
  injection e2 with e2 _ _
  subst e2
  refine (goodR_calls _ _ cm tl.length ct ml aim W hC hl).mono ?_
  rintro ed W' ⟨v, h1, h2, h3⟩
  have h4 := h.L.mine h2
  obtain ⟨B, d, rfl⟩ := Kd.R_slice h4
  exact ⟨B, d, h1, h4, h.next h3⟩
theorem RInv.good (h : RInv w W lo hi gm p s ml tl vm vt go gc kd hh aim name A1 n c1 now0 fl c0 cq) :
    Calls Try.prog 15 #[.pointer (some ⟨p, 0, none⟩), .string aim] W fun ed W' => ed = .returned (.tuple #[]) ∧ RInv w W' lo hi gm p (goodM s aim) ml tl vm vt go gc kd hh aim name A1 n c1 now0 fl c0 cq := by
  refine (good_calls _ p s aim W h.L.at_).mono ?_
  rintro ed W' ⟨h1, h2, h3⟩
  exact ⟨h1, h.chg h2 h3⟩
theorem RInv.refsick {now : Int} {q : Bool} {Am At : Option Addr} {cm ct : Nat} (h : RInv w W lo hi gm p s ml tl (.slice Am ml.length cm) (.slice At tl.length ct) go gc kd hh aim name A1 n c1 now0 fl c0 cq) (hq : sickR ml aim now = q) :
    Calls Try.prog 18 #[.agg #[.slice Am ml.length cm, .slice At tl.length ct], .string aim, .int .i64 now] W fun ed W' => ed = .returned (.bool q) ∧ RInv w W' lo hi gm p s ml tl (.slice Am ml.length cm) (.slice At tl.length ct) go gc kd hh aim name A1 n c1 now0 fl c0 cq := by
  obtain ⟨A2, c2, e2, _, hC⟩ := Kd.R_reads h.L.rm
  injection e2 with e2 _ _
  subst e2
  refine (sickR_calls _ _ cm tl.length ct ml aim now W hC).mono ?_
  rintro ed W' ⟨h1, h3⟩
  rw [hq] at h1
  exact ⟨h1, h.next h3⟩
theorem RInv.sick {now : Int} {q : Bool} (h : RInv w W lo hi gm p s ml tl vm vt go gc kd hh aim name A1 n c1 now0 fl c0 cq) (hq : sickM s aim now = q) :
    Calls Try.prog 17 #[.pointer (some ⟨p, 0, none⟩), .string aim, .int .i64 now] W fun ed W' => ed = .returned (.bool q) ∧ W' = W := by
  rw [← hq]
  exact sick_calls _ p s aim now W h.L.at_
theorem RInv.sickB {now : Int} {q : Bool} (h : RInv w W lo hi gm p s ml tl vm vt go gc kd hh aim name A1 n c1 now0 fl c0 cq) (hq : sickM s aim now = q) (d : Nat) (os : Array Obj) :
    Calls Try.prog 17 #[.pointer (some ⟨p, 0, none⟩), .string aim, .int .i64 now] (grow (redrawn W d) os) fun e w'' => e = .returned (.bool q) ∧ ∃ p : Regrown, w'' = grow (redrawn W p.d) p.os := by
  rw [← hq]
  exact Calls.regrown_of ((sick_calls _ p s aim now _ (h.L.at_.below (below_regrown W d os))).mono (by rintro e w' ⟨h1, rfl⟩; exact ⟨h1, Below.refl _ _⟩))
theorem RInv.refsickB {now : Int} {q : Bool} {Am At : Option Addr} {cm ct : Nat} (h : RInv w W lo hi gm p s ml tl (.slice Am ml.length cm) (.slice At tl.length ct) go gc kd hh aim name A1 n c1 now0 fl c0 cq) (hq : sickR ml aim now = q) (d : Nat) (os : Array Obj) :
    Calls Try.prog 18 #[.agg #[.slice Am ml.length cm, .slice At tl.length ct], .string aim, .int .i64 now] (grow (redrawn W d) os) fun e w'' => e = .returned (.bool q) ∧ ∃ p : Regrown, w'' = grow (redrawn W p.d) p.os := by
  obtain ⟨A2, c2, e2, _, hC⟩ := Kd.R_reads h.L.rm
  injection e2 with e2 _ _
  subst e2
  rw [← hq]
  exact Calls.regrown_of (sickR_calls _ _ cm tl.length ct ml aim now _ (Kd.C_below hC (below_regrown W d os)))
end
def Hold (P : Prop) : Prop := P
theorem hold {P : Prop} (h : Hold P) : P := h
theorem unhold {P : Prop} (h : P) : Hold P := h

set_option maxHeartbeats 8000000 in
set_option maxRecDepth 100000 in
theorem poolHealth_calls (A : Option Addr) (c : Nat) (l : List OpT) (w : World) (hr : Kd.C kO w A l.length l) :
    Calls Try.prog 3 #[.slice A l.length c] w fun e w' => e = .returned (.bool true) ∧ Below w.heap.size w w' := by
  have hu29 := Try.underlying29
  have hm : l.length ≤ 9223372036854775807 := hr.2.1
  have HR := Aside0.mk hr
  clear hr
  by_cases hl : l.length > 300
  · go_enter Try.func3, Try.ntmps3
    go_wp2_with (first | (go_at_call 10; (with_reducible refine (caring_calls _).mono ?_); rintro e w0 ⟨rfl, hb⟩; have HB := Aside0.mk hb; clear hb) | (go_at_call 9; (with_reducible refine (newHealth_calls _).mono ?_); rintro e w1 ⟨p, rfl, hh, hb⟩; have HH := Aside0.mk hh; have HW := Aside0.mk hb; clear hh hb))
    go_ret
    exact ⟨rfl, below_step HW.out HB.out⟩
  · go_enter Try.func3, Try.ntmps3
    go_wp2_with (first | (go_at_call 10; (with_reducible refine (caring_calls _).mono ?_); rintro e w0 ⟨rfl, hb⟩; have HB := Aside0.mk hb; clear hb) | (go_at_call 9; (with_reducible refine (newHealth_calls _).mono ?_); rintro e w1 ⟨p, rfl, hh, hb⟩; have HH := Aside0.mk hh; have HW := Aside0.mk hb; clear hh hb) | (go_box 4, #[.slice none 0 0, .slice none 0 0], 29 => gm w2 G2 X2 B2; have f0 := blk_frozen X2.out 0; have f1 := blk_frozen X2.out 1; have y0 : w2.cell? ⟨gm, 0, none⟩ = some (.slice none 0 0) := (blk_cell X2.out 0).trans rfl; have y1 : w2.cell? ⟨gm, 1, none⟩ = some (.slice none 0 0) := (blk_cell X2.out 1).trans rfl) | (go_put 29, 4, ((w2.setCell ⟨gm, 0, none⟩ (.slice none 0 0)).setCell ⟨gm, 1, none⟩ (.slice none 0 0)) => w3 E3))
    have HI : Aside0 (LInv w w3 w.heap.size w1.heap.size gm p ⟨[], [], []⟩ [] [] (.slice none 0 0) (.slice none 0 0)) := by
      have h2 : LInv w w2 w.heap.size w1.heap.size gm p ⟨[], [], []⟩ [] [] (.slice none 0 0) (.slice none 0 0) := ⟨Nat.le_refl _, by have := G2.out; have := HB.out.size; omega, HW.out.size, (HH.out.below HB.out).below B2.out, X2.out, Kd.R_nil _ _ _ _ _, Kd.R_nil _ _ _ _ _, below_step (below_step HW.out HB.out) B2.out⟩
      refine ⟨?_⟩
      rw [E3.out]
      exact h2.put (Kd.R_nil _ _ _ _ _) (Kd.R_nil _ _ _ _ _)
    generalize w.heap.size = lo at HI
    generalize w1.heap.size = hi at HI
    clear HB HH HW G2 X2 B2 f0 f1 y0 y1 E3
    go_loopw [29] (fun v29 wr => ∃ (j : Nat) (s : HSt) (ml : List Mk) (tl : List Tn) (vm vt : Value), j ≤ l.length ∧ v29 = .int .i64 j ∧ Aside0 (Sim j s ml tl) ∧ Aside0 (LInv w wr lo hi gm p s ml tl vm vt)) (fun v29 _ => l.length - (intOf v29).toNat)
    case atStart => exact ⟨0, _, _, _, _, _, Nat.zero_le _, rfl, ⟨Sim.zero⟩, HI⟩
    case round =>
      obtain ⟨j, s, ml, tl, vm, vt, hj, rfl, HS, HK⟩ := hrel
      clear HI
      by_cases hlt : j < l.length
      · obtain ⟨ad, A1, c1, rfl, x0, x1, x2, x3, x4, x5, x6, x7, hC1⟩ := at_O HR.out (j : Int) (by omega) (by omega)
        replace x0 := pw_cell_below HK.out.below x0; replace x1 := pw_cell_below HK.out.below x1; replace x2 := pw_cell_below HK.out.below x2; replace x3 := pw_cell_below HK.out.below x3; replace x4 := pw_cell_below HK.out.below x4; replace x5 := pw_cell_below HK.out.below x5; replace x6 := pw_cell_below HK.out.below x6; replace x7 := pw_cell_below HK.out.below x7
        simp only [Int.toNat_natCast] at x0 x1 x2 x3 x4 x5 x6 x7 hC1
        generalize l.getD j zO = o at *
        obtain ⟨kd, hh, aim, ⟨name, aims⟩, now0, fl, c0⟩ := o
        simp only [] at x0 x1 x2 x3 x4 x5 x6 x7 hC1
        have HC1 := Aside0.mk hC1
        have ham : aims.length ≤ 9223372036854775807 := hC1.2.1
        clear hC1
        by_cases hal : aims.length > 20
        · go_wp2_with (first | (go_box 6, #[.int .i64 0, .int .i64 0, .string (⟨#[]⟩ : ByteArray), .string (⟨#[]⟩ : ByteArray), .slice none 0 0, .int .i64 0, .int .i64 0, .int .i64 0], 34 => go W1 G1 X1 B1; have f0 := blk_frozen X1.out 0; have f1 := blk_frozen X1.out 1; have f2 := blk_frozen X1.out 2; have f3 := blk_frozen X1.out 3; have f4 := blk_frozen X1.out 4; have f5 := blk_frozen X1.out 5; have f6 := blk_frozen X1.out 6; have f7 := blk_frozen X1.out 7; have y0 : W1.cell? ⟨go, 0, none⟩ = some (.int .i64 0) := (blk_cell X1.out 0).trans rfl; have y1 : W1.cell? ⟨go, 1, none⟩ = some (.int .i64 0) := (blk_cell X1.out 1).trans rfl; have y2 : W1.cell? ⟨go, 2, none⟩ = some (.string ⟨#[]⟩) := (blk_cell X1.out 2).trans rfl; have y3 : W1.cell? ⟨go, 3, none⟩ = some (.string ⟨#[]⟩) := (blk_cell X1.out 3).trans rfl; have y4 : W1.cell? ⟨go, 4, none⟩ = some (.slice none 0 0) := (blk_cell X1.out 4).trans rfl; have y5 : W1.cell? ⟨go, 5, none⟩ = some (.int .i64 0) := (blk_cell X1.out 5).trans rfl; have y6 : W1.cell? ⟨go, 6, none⟩ = some (.int .i64 0) := (blk_cell X1.out 6).trans rfl; have y7 : W1.cell? ⟨go, 7, none⟩ = some (.int .i64 0) := (blk_cell X1.out 7).trans rfl) | (go_put 34, 6, ((((((((W1.setCell ⟨go, 0, none⟩ (.int .i64 kd)).setCell ⟨go, 1, none⟩ (.int .i64 hh)).setCell ⟨go, 2, none⟩ (.string aim)).setCell ⟨go, 3, none⟩ (.string name)).setCell ⟨go, 4, none⟩ (.slice A1 aims.length c1)).setCell ⟨go, 5, none⟩ (.int .i64 now0)).setCell ⟨go, 6, none⟩ (.int .i64 fl)).setCell ⟨go, 7, none⟩ (.int .i64 c0)) => W2 E2; have O2 : Aside0 (W2.heap[go]? = some (.cells #[.int .i64 kd, .int .i64 hh, .string aim, .string name, .slice A1 aims.length c1, .int .i64 now0, .int .i64 fl, .int .i64 c0] 34 (0, 0))) := ⟨by rw [E2.out]; exact set8 X1.out⟩; have HK2 : Aside0 (LInv w W2 lo hi gm p s ml tl vm vt) := ⟨HK.out.next (by rw [E2.out]; exact below_set8 B1.out (Nat.le_of_eq G1.out.symm))⟩; clear f0 f1 f2 f3 f4 f5 f6 f7 y0 y1 y2 y3 y4 y5 y6 y7 E2 X1 B1 x0 x1 x2 x3 x4 x5 x6 x7; have o0 : W2.cell? ⟨go, 0, none⟩ = some (.int .i64 kd) := (blk_cell O2.out 0).trans rfl; have o1 : W2.cell? ⟨go, 1, none⟩ = some (.int .i64 hh) := (blk_cell O2.out 1).trans rfl; have o2 : W2.cell? ⟨go, 2, none⟩ = some (.string aim) := (blk_cell O2.out 2).trans rfl; have o3 : W2.cell? ⟨go, 3, none⟩ = some (.string name) := (blk_cell O2.out 3).trans rfl; have o4 : W2.cell? ⟨go, 4, none⟩ = some (.slice A1 aims.length c1) := (blk_cell O2.out 4).trans rfl; have o5 : W2.cell? ⟨go, 5, none⟩ = some (.int .i64 now0) := (blk_cell O2.out 5).trans rfl; have o6 : W2.cell? ⟨go, 6, none⟩ = some (.int .i64 fl) := (blk_cell O2.out 6).trans rfl; have o7 : W2.cell? ⟨go, 7, none⟩ = some (.int .i64 c0) := (blk_cell O2.out 7).trans rfl))
          go_ret
          exact ⟨rfl, HK2.out.below⟩
        · go_wp2_with (first | (go_box 6, #[.int .i64 0, .int .i64 0, .string (⟨#[]⟩ : ByteArray), .string (⟨#[]⟩ : ByteArray), .slice none 0 0, .int .i64 0, .int .i64 0, .int .i64 0], 34 => go W1 G1 X1 B1; have f0 := blk_frozen X1.out 0; have f1 := blk_frozen X1.out 1; have f2 := blk_frozen X1.out 2; have f3 := blk_frozen X1.out 3; have f4 := blk_frozen X1.out 4; have f5 := blk_frozen X1.out 5; have f6 := blk_frozen X1.out 6; have f7 := blk_frozen X1.out 7; have y0 : W1.cell? ⟨go, 0, none⟩ = some (.int .i64 0) := (blk_cell X1.out 0).trans rfl; have y1 : W1.cell? ⟨go, 1, none⟩ = some (.int .i64 0) := (blk_cell X1.out 1).trans rfl; have y2 : W1.cell? ⟨go, 2, none⟩ = some (.string ⟨#[]⟩) := (blk_cell X1.out 2).trans rfl; have y3 : W1.cell? ⟨go, 3, none⟩ = some (.string ⟨#[]⟩) := (blk_cell X1.out 3).trans rfl; have y4 : W1.cell? ⟨go, 4, none⟩ = some (.slice none 0 0) := (blk_cell X1.out 4).trans rfl; have y5 : W1.cell? ⟨go, 5, none⟩ = some (.int .i64 0) := (blk_cell X1.out 5).trans rfl; have y6 : W1.cell? ⟨go, 6, none⟩ = some (.int .i64 0) := (blk_cell X1.out 6).trans rfl; have y7 : W1.cell? ⟨go, 7, none⟩ = some (.int .i64 0) := (blk_cell X1.out 7).trans rfl) | (go_put 34, 6, ((((((((W1.setCell ⟨go, 0, none⟩ (.int .i64 kd)).setCell ⟨go, 1, none⟩ (.int .i64 hh)).setCell ⟨go, 2, none⟩ (.string aim)).setCell ⟨go, 3, none⟩ (.string name)).setCell ⟨go, 4, none⟩ (.slice A1 aims.length c1)).setCell ⟨go, 5, none⟩ (.int .i64 now0)).setCell ⟨go, 6, none⟩ (.int .i64 fl)).setCell ⟨go, 7, none⟩ (.int .i64 c0)) => W2 E2; have O2 : Aside0 (W2.heap[go]? = some (.cells #[.int .i64 kd, .int .i64 hh, .string aim, .string name, .slice A1 aims.length c1, .int .i64 now0, .int .i64 fl, .int .i64 c0] 34 (0, 0))) := ⟨by rw [E2.out]; exact set8 X1.out⟩; have HK2 : Aside0 (LInv w W2 lo hi gm p s ml tl vm vt) := ⟨HK.out.next (by rw [E2.out]; exact below_set8 B1.out (Nat.le_of_eq G1.out.symm))⟩; clear f0 f1 f2 f3 f4 f5 f6 f7 y0 y1 y2 y3 y4 y5 y6 y7 E2 X1 B1 x0 x1 x2 x3 x4 x5 x6 x7; have o0 : W2.cell? ⟨go, 0, none⟩ = some (.int .i64 kd) := (blk_cell O2.out 0).trans rfl; have o1 : W2.cell? ⟨go, 1, none⟩ = some (.int .i64 hh) := (blk_cell O2.out 1).trans rfl; have o2 : W2.cell? ⟨go, 2, none⟩ = some (.string aim) := (blk_cell O2.out 2).trans rfl; have o3 : W2.cell? ⟨go, 3, none⟩ = some (.string name) := (blk_cell O2.out 3).trans rfl; have o4 : W2.cell? ⟨go, 4, none⟩ = some (.slice A1 aims.length c1) := (blk_cell O2.out 4).trans rfl; have o5 : W2.cell? ⟨go, 5, none⟩ = some (.int .i64 now0) := (blk_cell O2.out 5).trans rfl; have o6 : W2.cell? ⟨go, 6, none⟩ = some (.int .i64 fl) := (blk_cell O2.out 6).trans rfl; have o7 : W2.cell? ⟨go, 7, none⟩ = some (.int .i64 c0) := (blk_cell O2.out 7).trans rfl) | (go_box 8, #[.slice none 0 0, .slice none 0 0, .slice none 0 0, .slice none 0 0, .int .i64 0, .int .i64 0, .int .i64 0, .int .i64 0], 39 => gc W3 G3 X3 B3; have f0 := blk_frozen X3.out 0; have f1 := blk_frozen X3.out 1; have f2 := blk_frozen X3.out 2; have f3 := blk_frozen X3.out 3; have f4 := blk_frozen X3.out 4; have f5 := blk_frozen X3.out 5; have f6 := blk_frozen X3.out 6; have f7 := blk_frozen X3.out 7; have y0 : W3.cell? ⟨gc, 0, none⟩ = some (.slice none 0 0) := (blk_cell X3.out 0).trans rfl; have y1 : W3.cell? ⟨gc, 1, none⟩ = some (.slice none 0 0) := (blk_cell X3.out 1).trans rfl; have y2 : W3.cell? ⟨gc, 2, none⟩ = some (.slice none 0 0) := (blk_cell X3.out 2).trans rfl; have y3 : W3.cell? ⟨gc, 3, none⟩ = some (.slice none 0 0) := (blk_cell X3.out 3).trans rfl; have y4 : W3.cell? ⟨gc, 4, none⟩ = some (.int .i64 0) := (blk_cell X3.out 4).trans rfl; have y5 : W3.cell? ⟨gc, 5, none⟩ = some (.int .i64 0) := (blk_cell X3.out 5).trans rfl; have y6 : W3.cell? ⟨gc, 6, none⟩ = some (.int .i64 0) := (blk_cell X3.out 6).trans rfl; have y7 : W3.cell? ⟨gc, 7, none⟩ = some (.int .i64 0) := (blk_cell X3.out 7).trans rfl) | (go_put 39, 8, ((((((((W3.setCell ⟨gc, 0, none⟩ (.slice none 0 0)).setCell ⟨gc, 1, none⟩ (.slice none 0 0)).setCell ⟨gc, 2, none⟩ (.slice none 0 0)).setCell ⟨gc, 3, none⟩ (.slice none 0 0)).setCell ⟨gc, 4, none⟩ (.int .i64 0)).setCell ⟨gc, 5, none⟩ (.int .i64 0)).setCell ⟨gc, 6, none⟩ (.int .i64 fl)).setCell ⟨gc, 7, none⟩ (.int .i64 (if 2199023255552 < if c0 < 0 then 0 else c0 then 2199023255552 else if c0 < 0 then 0 else c0))) => W4 E4; generalize (if 2199023255552 < if c0 < 0 then 0 else c0 then 2199023255552 else if c0 < 0 then 0 else c0) = cq at E4 ⊢; generalize (if 2199023255552 < if now0 < 0 then 0 else now0 then 2199023255552 else if now0 < 0 then 0 else now0) = now; generalize (if c0 < 0 then 0 else c0) = c2; generalize (if now0 < 0 then 0 else now0) = now2; refine hold ?_))
          have HI : Aside0 (RInv w W4 lo hi gm p s ml tl vm vt go gc kd hh aim name A1 aims.length c1 now0 fl c0 cq) := by
            have hB4 : Below W2.heap.size W2 W4 := by
              rw [E4.out]; exact below_set8 B3.out (Nat.le_of_eq G3.out.symm)
            refine ⟨⟨HK2.out.next hB4, blk_below O2.out hB4, by rw [E4.out]; exact set8 X3.out, ?_, ?_⟩⟩
            · have h1 := blk_lt HK.out.box; have := G1.out; omega
            · have h1 := blk_lt HK2.out.box; have := G3.out; omega
          clear f0 f1 f2 f3 f4 f5 f6 f7 y0 y1 y2 y3 y4 y5 y6 y7 o0 o1 o2 o3 o4 o5 o6 o7 O2 HK2 X3 B3 E4 G3 G1 HK
          obtain ⟨Am, cm, rfl⟩ := Kd.R_slice HI.out.L.rm
          obtain ⟨At, ct, rfl⟩ := Kd.R_slice HI.out.L.rt
          obtain ⟨⟨m0, m1, z0, z1⟩, ⟨q0, q2, q3, q4⟩, k0, k1, k2, k3, k4, k5, k6, k7⟩ := HI.out.cells
          by_cases h5 : kd = 5
          · subst h5
            obtain ⟨s', tl', r, e, hM, hR, hS⟩ := HS.out.pick name aims now (by omega)
            have HS2 := Aside0.mk hS; have HM := Aside0.mk hM; have HR2 := Aside0.mk hR
            obtain ⟨q, hq⟩ : ∃ q, sickM s' aim now = q := ⟨_, rfl⟩
            have HQ2 : Aside0 (sickR ml aim now = q) := ⟨by rw [← hq]; exact (hS.sick aim now).symm⟩
            have HQ := Aside0.mk hq
            have HLT : Aside0 (tl.length ≤ 10000) := ⟨by have := HS.out.lt; omega⟩
            clear hS hM hR hq
            refine unhold ?_
            go_wp2_with (first | (go_at_call 11; (with_reducible refine (HI.out.refpick rfl HC1.out HLT.out HR2.out).mono ?_); rintro e_ W5 ⟨B5, d5, rfl, hT, hI⟩; have HV := Aside0.mk hT; have HI5 := Aside0.mk hI; clear hT hI; clear m0 m1 z0 z1 q0 q2 q3 q4 k0 k1 k2 k3 k4 k5 k6 k7; obtain ⟨⟨m0, m1, z0, z1⟩, ⟨q0, q2, q3, q4⟩, k0, k1, k2, k3, k4, k5, k6, k7⟩ := HI5.out.cells) | (go_box 9, #[.slice none 0 0, .slice none 0 0], 29 => gn W6 G6 X6 B6; have f0 := blk_frozen X6.out 0; have f1 := blk_frozen X6.out 1; have y0 : W6.cell? ⟨gn, 0, none⟩ = some (.slice none 0 0) := (blk_cell X6.out 0).trans rfl; have y1 : W6.cell? ⟨gn, 1, none⟩ = some (.slice none 0 0) := (blk_cell X6.out 1).trans rfl) | (go_put 29, 9, ((W6.setCell ⟨gn, 0, none⟩ (.slice Am ml.length cm)).setCell ⟨gn, 1, none⟩ (.slice B5 tl'.length d5)) => W7 E7; have BN : Aside0 (Below W5.heap.size W5 W7) := ⟨by rw [E7.out]; exact below_set (below_set B6.out (Nat.le_of_eq G6.out.symm)) (Nat.le_of_eq G6.out.symm)⟩; have N2 : Aside0 (W7.heap[gn]? = some (.cells #[(.slice Am ml.length cm), (.slice B5 tl'.length d5)] 29 (0, 0))) := ⟨by rw [E7.out]; exact set2 X6.out⟩; have HI7 := Aside0.mk (HI5.out.next BN.out); have HV2 := Aside0.mk (Kd.R_below HV.out BN.out); clear f0 f1 y0 y1 X6 B6 G6 E7 BN; have n0 : W7.cell? ⟨gn, 0, none⟩ = some (.slice Am ml.length cm) := (blk_cell N2.out 0).trans rfl; have n1 : W7.cell? ⟨gn, 1, none⟩ = some (.slice B5 tl'.length d5) := (blk_cell N2.out 1).trans rfl; clear m0 m1 z0 z1 q0 q2 q3 q4 k0 k1 k2 k3 k4 k5 k6 k7; obtain ⟨⟨m0, m1, z0, z1⟩, ⟨q0, q2, q3, q4⟩, k0, k1, k2, k3, k4, k5, k6, k7⟩ := HI7.out.cells) | (go_put 29, 4, ((W7.setCell ⟨gm, 0, none⟩ (.slice Am ml.length cm)).setCell ⟨gm, 1, none⟩ (.slice B5 tl'.length d5)) => W8 E8; have HI8 : Aside0 (RInv w W8 lo hi gm p s ml tl' (.slice Am ml.length cm) (.slice B5 tl'.length d5) go gc 5 hh aim name A1 aims.length c1 now0 fl c0 cq) := ⟨by rw [E8.out]; exact HI7.out.put HI7.out.L.rm HV2.out⟩; clear n0 n1 N2 E8 HI7 HV HV2 HI5; clear m0 m1 z0 z1 q0 q2 q3 q4 k0 k1 k2 k3 k4 k5 k6 k7; obtain ⟨⟨m0, m1, z0, z1⟩, ⟨q0, q2, q3, q4⟩, k0, k1, k2, k3, k4, k5, k6, k7⟩ := HI8.out.cells) | (go_at_call 12; (with_reducible refine (HI8.out.pick rfl HC1.out HM.out).mono ?_); rintro e_ W9 ⟨rfl, hI⟩; have HI9 := Aside0.mk hI; clear hI; clear m0 m1 z0 z1 q0 q2 q3 q4 k0 k1 k2 k3 k4 k5 k6 k7; obtain ⟨⟨m0, m1, z0, z1⟩, ⟨q0, q2, q3, q4⟩, k0, k1, k2, k3, k4, k5, k6, k7⟩ := HI9.out.cells) | (go_at_call 17; (with_reducible refine (HI9.out.sick HQ.out).mono ?_); rintro e_ w_ ⟨rfl, rfl⟩) | (go_at_call 18; (with_reducible refine (HI9.out.refsick HQ2.out).mono ?_); rintro e_ W10 ⟨rfl, hZ⟩; have HZ := Aside0.mk hZ; clear hZ))
            have cM := HI9.out.sickB HQ.out
            have cR := HI9.out.refsickB HQ2.out
            have r0 := cell_regrown m0
            have r1 := cell_regrown m1
            have r2 := cell_regrown q2
            refine wp_region_quiet_below (by kernel_rfl) (by kernel_rfl) ?_
            repeat (quiet_step (first | exact cM _ _ | exact cR _ _))
            refine wpQuiet_nil ?_
            intro _ hw'
            obtain ⟨⟨dq, osq⟩, hw''⟩ := hw'
            subst hw''
            have HZ := Aside0.mk (HI9.out.next (below_regrown W9 dq osq))
            clear r0 r1 r2 cM cR
            generalize grow (redrawn W9 dq) osq = W10 at *
            go_wp2
            go_roundw
            case rel => exact ⟨j + 1, _, _, _, _, _, by omega, by go_num, HS2, ⟨HZ.out.L⟩⟩
            case measure => simp [intOf]; omega
          · by_cases h6 : kd = 6
            · subst h6
              obtain ⟨hb, hS⟩ := HS.out.bad (by omega) aim now fl cq
              obtain ⟨⟨s', b⟩, hM⟩ : ∃ x, badM s aim now fl cq = x := ⟨_, rfl⟩
              obtain ⟨⟨ml', b'⟩, hR⟩ : ∃ x, badR ml aim now fl cq = x := ⟨_, rfl⟩
              rw [hM, hR] at hb hS
              simp only [] at hb hS
              subst hb
              have HS2 := Aside0.mk hS; have HM := Aside0.mk hM; have HR2 := Aside0.mk hR
              obtain ⟨q, hq⟩ : ∃ q, sickM s' aim now = q := ⟨_, rfl⟩
              have HQ2 : Aside0 (sickR ml' aim now = q) := ⟨by rw [← hq]; exact (hS.sick aim now).symm⟩
              have HQ := Aside0.mk hq
              have HLT : Aside0 (ml.length ≤ 10000) := ⟨by have := HS.out.lm; omega⟩
              clear hS hM hR hq h5
              refine unhold ?_
              go_wp2_with (first | (go_at_call 13; (with_reducible refine (HI.out.refbad HLT.out HR2.out).mono ?_); rintro e_ W5 ⟨B5, d5, rfl, hT, hI⟩; have HV := Aside0.mk hT; have HI5 := Aside0.mk hI; clear hT hI; clear m0 m1 z0 z1 q0 q2 q3 q4 k0 k1 k2 k3 k4 k5 k6 k7; obtain ⟨⟨m0, m1, z0, z1⟩, ⟨q0, q2, q3, q4⟩, k0, k1, k2, k3, k4, k5, k6, k7⟩ := HI5.out.cells) | (go_box 14, #[.slice none 0 0, .slice none 0 0], 29 => gn W6 G6 X6 B6; have f0 := blk_frozen X6.out 0; have f1 := blk_frozen X6.out 1; have y0 : W6.cell? ⟨gn, 0, none⟩ = some (.slice none 0 0) := (blk_cell X6.out 0).trans rfl; have y1 : W6.cell? ⟨gn, 1, none⟩ = some (.slice none 0 0) := (blk_cell X6.out 1).trans rfl) | (go_put 29, 14, ((W6.setCell ⟨gn, 0, none⟩ (.slice B5 ml'.length d5)).setCell ⟨gn, 1, none⟩ (.slice At tl.length ct)) => W7 E7; have BN : Aside0 (Below W5.heap.size W5 W7) := ⟨by rw [E7.out]; exact below_set (below_set B6.out (Nat.le_of_eq G6.out.symm)) (Nat.le_of_eq G6.out.symm)⟩; have N2 : Aside0 (W7.heap[gn]? = some (.cells #[(.slice B5 ml'.length d5), (.slice At tl.length ct)] 29 (0, 0))) := ⟨by rw [E7.out]; exact set2 X6.out⟩; have HI7 := Aside0.mk (HI5.out.next BN.out); have HV2 := Aside0.mk (Kd.R_below HV.out BN.out); clear f0 f1 y0 y1 X6 B6 G6 E7 BN; have n0 : W7.cell? ⟨gn, 0, none⟩ = some (.slice B5 ml'.length d5) := (blk_cell N2.out 0).trans rfl; have n1 : W7.cell? ⟨gn, 1, none⟩ = some (.slice At tl.length ct) := (blk_cell N2.out 1).trans rfl; clear m0 m1 z0 z1 q0 q2 q3 q4 k0 k1 k2 k3 k4 k5 k6 k7; obtain ⟨⟨m0, m1, z0, z1⟩, ⟨q0, q2, q3, q4⟩, k0, k1, k2, k3, k4, k5, k6, k7⟩ := HI7.out.cells) | (go_put 29, 4, ((W7.setCell ⟨gm, 0, none⟩ (.slice B5 ml'.length d5)).setCell ⟨gm, 1, none⟩ (.slice At tl.length ct)) => W8 E8; have HI8 : Aside0 (RInv w W8 lo hi gm p s ml' tl (.slice B5 ml'.length d5) (.slice At tl.length ct) go gc 6 hh aim name A1 aims.length c1 now0 fl c0 cq) := ⟨by rw [E8.out]; exact HI7.out.put HV2.out HI7.out.L.rt⟩; clear n0 n1 N2 E8 HI7 HV HV2 HI5; clear m0 m1 z0 z1 q0 q2 q3 q4 k0 k1 k2 k3 k4 k5 k6 k7; obtain ⟨⟨m0, m1, z0, z1⟩, ⟨q0, q2, q3, q4⟩, k0, k1, k2, k3, k4, k5, k6, k7⟩ := HI8.out.cells) | (go_at_call 14; (with_reducible refine (HI8.out.bad HM.out).mono ?_); rintro e_ W9 ⟨rfl, hI⟩; have HI9 := Aside0.mk hI; clear hI; clear m0 m1 z0 z1 q0 q2 q3 q4 k0 k1 k2 k3 k4 k5 k6 k7; obtain ⟨⟨m0, m1, z0, z1⟩, ⟨q0, q2, q3, q4⟩, k0, k1, k2, k3, k4, k5, k6, k7⟩ := HI9.out.cells) | (go_at_call 17; (with_reducible refine (HI9.out.sick HQ.out).mono ?_); rintro e_ w_ ⟨rfl, rfl⟩) | (go_at_call 18; (with_reducible refine (HI9.out.refsick HQ2.out).mono ?_); rintro e_ W10 ⟨rfl, hZ⟩; have HZ := Aside0.mk hZ; clear hZ))
              have cM := HI9.out.sickB HQ.out
              have cR := HI9.out.refsickB HQ2.out
              have r0 := cell_regrown m0
              have r1 := cell_regrown m1
              have r2 := cell_regrown q2
              refine wp_region_quiet_below (by kernel_rfl) (by kernel_rfl) ?_
              repeat (quiet_step (first | exact cM _ _ | exact cR _ _))
              refine wpQuiet_nil ?_
              intro _ hw'
              obtain ⟨⟨dq, osq⟩, hw''⟩ := hw'
              subst hw''
              have HZ := Aside0.mk (HI9.out.next (below_regrown W9 dq osq))
              clear r0 r1 r2 cM cR
              generalize grow (redrawn W9 dq) osq = W10 at *
              go_wp2
              go_roundw
              case rel => exact ⟨j + 1, _, _, _, _, _, by omega, by go_num, HS2, ⟨HZ.out.L⟩⟩
              case measure => simp [intOf]; omega
            · by_cases h7 : kd = 7
              · subst h7
                have HS2 := Aside0.mk (HS.out.good aim)
                obtain ⟨q, hq⟩ : ∃ q, sickM (goodM s aim) aim now = q := ⟨_, rfl⟩
                have HQ2 : Aside0 (sickR (goodR ml aim) aim now = q) := ⟨by rw [← hq]; exact (HS2.out.sick aim now).symm⟩
                have HQ := Aside0.mk hq
                have HLT : Aside0 (ml.length ≤ 10000) := ⟨by have := HS.out.lm; omega⟩
                clear hq h5 h6
                refine unhold ?_
                go_wp2_with (first | (go_at_call 15; (with_reducible refine (HI.out.good).mono ?_); rintro e_ W5 ⟨rfl, hI⟩; have HI5 := Aside0.mk hI; clear hI; clear m0 m1 z0 z1 q0 q2 q3 q4 k0 k1 k2 k3 k4 k5 k6 k7; obtain ⟨⟨m0, m1, z0, z1⟩, ⟨q0, q2, q3, q4⟩, k0, k1, k2, k3, k4, k5, k6, k7⟩ := HI5.out.cells) | (go_at_call 16; (with_reducible refine (HI5.out.refgood HLT.out).mono ?_); rintro e_ W7 ⟨B5, d5, rfl, hT, hI⟩; have HV := Aside0.mk hT; have HI7 := Aside0.mk hI; clear hT hI; clear m0 m1 z0 z1 q0 q2 q3 q4 k0 k1 k2 k3 k4 k5 k6 k7; obtain ⟨⟨m0, m1, z0, z1⟩, ⟨q0, q2, q3, q4⟩, k0, k1, k2, k3, k4, k5, k6, k7⟩ := HI7.out.cells) | (go_put 29, 4, ((W7.setCell ⟨gm, 0, none⟩ (.slice B5 (goodR ml aim).length d5)).setCell ⟨gm, 1, none⟩ (.slice At tl.length ct)) => W8 E8; have HI8 : Aside0 (RInv w W8 lo hi gm p (goodM s aim) (goodR ml aim) tl (.slice B5 (goodR ml aim).length d5) (.slice At tl.length ct) go gc 7 hh aim name A1 aims.length c1 now0 fl c0 cq) := ⟨by rw [E8.out]; exact HI7.out.put HV.out HI7.out.L.rt⟩; clear E8 HI7 HV HI5; clear m0 m1 z0 z1 q0 q2 q3 q4 k0 k1 k2 k3 k4 k5 k6 k7; obtain ⟨⟨m0, m1, z0, z1⟩, ⟨q0, q2, q3, q4⟩, k0, k1, k2, k3, k4, k5, k6, k7⟩ := HI8.out.cells) | (go_at_call 17; (with_reducible refine (HI8.out.sick HQ.out).mono ?_); rintro e_ w_ ⟨rfl, rfl⟩) | (go_at_call 18; (with_reducible refine (HI8.out.refsick HQ2.out).mono ?_); rintro e_ W10 ⟨rfl, hZ⟩; have HZ := Aside0.mk hZ; clear hZ))
                have cM := HI8.out.sickB HQ.out
                have cR := HI8.out.refsickB HQ2.out
                have r0 := cell_regrown m0
                have r1 := cell_regrown m1
                have r2 := cell_regrown q2
                refine wp_region_quiet_below (by kernel_rfl) (by kernel_rfl) ?_
                repeat (quiet_step (first | exact cM _ _ | exact cR _ _))
                refine wpQuiet_nil ?_
                intro _ hw'
                obtain ⟨⟨dq, osq⟩, hw''⟩ := hw'
                subst hw''
                have HZ := Aside0.mk (HI8.out.next (below_regrown W8 dq osq))
                clear r0 r1 r2 cM cR
                generalize grow (redrawn W8 dq) osq = W10 at *
                go_wp2
                go_roundw
                case rel => exact ⟨j + 1, _, _, _, _, _, by omega, by go_num, HS2, ⟨HZ.out.L⟩⟩
                case measure => simp [intOf]; omega
              · have HS2 := Aside0.mk (HS.out.next)
                obtain ⟨q, hq⟩ : ∃ q, sickM s aim now = q := ⟨_, rfl⟩
                have HQ2 : Aside0 (sickR ml aim now = q) := ⟨by rw [← hq]; exact (HS.out.sick aim now).symm⟩
                have HQ := Aside0.mk hq
                clear hq
                refine unhold ?_
                go_wp2_with (first | (go_at_call 17; (with_reducible refine (HI.out.sick HQ.out).mono ?_); rintro e_ w_ ⟨rfl, rfl⟩) | (go_at_call 18; (with_reducible refine (HI.out.refsick HQ2.out).mono ?_); rintro e_ W10 ⟨rfl, hZ⟩; have HZ := Aside0.mk hZ; clear hZ))
                have cM := HI.out.sickB HQ.out
                have cR := HI.out.refsickB HQ2.out
                have r0 := cell_regrown m0
                have r1 := cell_regrown m1
                have r2 := cell_regrown q2
                refine wp_region_quiet_below (by kernel_rfl) (by kernel_rfl) ?_
                repeat (quiet_step (first | exact cM _ _ | exact cR _ _))
                refine wpQuiet_nil ?_
                intro _ hw'
                obtain ⟨⟨dq, osq⟩, hw''⟩ := hw'
                subst hw''
                have HZ := Aside0.mk (HI.out.next (below_regrown W4 dq osq))
                clear r0 r1 r2 cM cR
                generalize grow (redrawn W4 dq) osq = W10 at *
                go_wp2
                go_roundw
                case rel => exact ⟨j + 1, _, _, _, _, _, by omega, by go_num, HS2, ⟨HZ.out.L⟩⟩
                case measure => simp [intOf]; omega
      · go_wp2
        go_ret
        exact ⟨rfl, HK.out.below⟩
end Go.Proofs.Ytffockklleanmaa.X
