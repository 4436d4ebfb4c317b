/- The document's Pick, walked. -/
import Derived.Test.YtffockklleanmaaXPRef2
import Derived.Test.YtffockklleanmaaProg
import Derived.Below
import Derived.Deep.Draws
import Derived.Deep.AppendLies
import Derived.Maps.AppendAt
import Derived.OwnWalk
import Derived.Laws.BytesArg
import Derived.Laws.MakeOwn
import Derived.Laws.OwnMore
import Derived.Deep.OwnRows
import Derived.Tactics
import Derived.Lib.ConvBytes
import Derived.Laws.Slices
import Derived.WalkKit
import Derived.KernelRfl
import Derived.RowKit3
import Derived.Deep.LoopGhost
import Derived.Deep.QuietTactic
import Derived.BigQuiet
import Derived.StillTailTactics
import Derived.WideLaws
import Derived.Deep.DeepCutAuto
import Derived.Deep.CutBlock
import Derived.Deep.RegionHeld3
import Derived.Laws.Rows
import Derived.Lib.AppendStr
import Derived.ArgAppend
import Derived.Laws.IdiomCopy
import Derived.OrdersHeld
import Derived.Laws.BitsLemmas
import Derived.RowKit
import Derived.Lib.QuietBelow
import Derived.Test.YtffockklleanmaaWWords
import Derived.Test.YtffockklleanmaaWLast
import Derived.Test.YtffockklleanmaaWTab
import Derived.Test.YtffockklleanmaaWFour
import Derived.Test.YtffockklleanmaaWQPut
import Derived.Test.YtffockklleanmaaWApart
import Derived.Test.YtffockklleanmaaWArr
import Derived.Test.YtffockklleanmaaWZeros
import Derived.Test.YtffockklleanmaaWFoot
import Derived.Test.YtffockklleanmaaWKept
import Derived.Test.YtffockklleanmaaWShare
import Derived.Test.YtffockklleanmaaWN
import Derived.Test.YtffockklleanmaaWFootNe
import Derived.Test.YtffockklleanmaaWAt
import Derived.Test.YtffockklleanmaaWEqStruct
import Derived.Test.YtffockklleanmaaWRepsOne
import Derived.Test.YtffockklleanmaaWInv
import Derived.Test.YtffockklleanmaaWInvWords
import Derived.Test.YtffockklleanmaaWGuard
import Derived.Test.YtffockklleanmaaWNEv
import Derived.Test.YtffockklleanmaaWMore
namespace Go.Proofs.Ytffockklleanmaa.X
open Go.Sort Go.RowKit Go.MapKept Go.ChangeMaps Go.Proofs.YtffockklleanmaaW.PrintWords Go.Proofs.YtffockklleanmaaW.PrintLast Go.Proofs.YtffockklleanmaaW.PrintMore
attribute [local go_sem] max2_int min2_int max_two min_two max_three min_three max_four min_four
set_option linter.unusedVariables false
set_option linter.unusedSimpArgs false

def turnR : List Tn → ByteArray → Int → Int
  | [], _, a => a
  | p :: l, n, a => turnR l n (if p.1 = n then p.2 else a)
def restR (l : List Tn) (n : ByteArray) : List Tn := l.filter (fun p => decide (p.1 ≠ n))
def pickR (l : List Mk) (aims : List ByteArray) (now a0 : Int) : Nat → Nat → Option (Option (Int × ByteArray))
  | 0, _ => some none
  | d + 1, i =>
    let k := Int.tmod (wrap64 (a0 + (i : Int))) (aims.length : Int)
    if 0 ≤ k then
      if sickR l (rdOf ByteArray.empty aims k) now = true then pickR l aims now a0 d (i + 1)
      else some (some (k, rdOf ByteArray.empty aims k))
    else none
def pickRes (tl : List Tn) (n : ByteArray) : Option (Option (Int × ByteArray)) → Option (List Tn × ByteArray × Int)
  | none => none
  | some none => some (tl, ⟨#[]⟩, 4)
  | some (some (k, a)) => some (restR tl n ++ [(n, k + 1)], a, 0)
theorem restR_take (l : List Tn) (n : ByteArray) (i : Nat) (h : i < l.length) : restR (l.take (i + 1)) n = restR (l.take i) n ++ (if (l.getD i zT).1 = n then [] else [l.getD i zT]) := by
  unfold restR
  rw [take_get l zT i h, List.filter_append]
  congr 1
  by_cases hq : (l.getD i zT).1 = n
  · rw [if_pos hq]; generalize l.getD i zT = p at *; simp [hq]
  · rw [if_neg hq]; generalize l.getD i zT = p at *; simp [hq]
theorem restR_len (l : List Tn) (n : ByteArray) : (restR l n).length ≤ l.length := List.length_filter_le _ _
theorem R_slice' {α : Type} {kd : Kd α} {e base : Nat} {w : World} {ok : Nat → Prop} {v : Value} {xs : List α} (h : kd.R e w base ok v xs) : ∃ A n c, v = .slice A n c := by
  obtain ⟨A, c, e⟩ := Kd.R_slice h
  exact ⟨A, _, c, e⟩
/-- what holds in Pick -/
structure PickW (w W : World) (g1 g2 g3 : Nat) (A B U : Option Addr) (c d uc k n m : Nat) (name : ByteArray) (v : Value) (xs : List Tn) : Prop where
  below : Below w.heap.size w W
  b1 : W.heap[g1]? = some (.cells #[.slice A k c, .slice B n d] 29 (0, 0))
  b2 : W.heap[g2]? = some (.cells #[.string name, .slice U m uc] 32 (0, 0))
  b3 : W.heap[g3]? = some (.cells #[.slice none 0 0, .slice none 0 0] 29 (0, 0))
  le1 : w.heap.size ≤ g1
  le3 : w.heap.size ≤ g3
  ne : g1 ≠ g3
  row : Kd.R kT 86 W w.heap.size (fun k => k ≠ g1 ∧ k ≠ g2 ∧ k ≠ g3) v xs
section
variable {w W W' : World} {g1 g2 g3 : Nat} {A B U : Option Addr} {c d uc k n m : Nat} {name : ByteArray} {v v' : Value} {xs xs' : List Tn}
theorem PickW.drewN (h : PickW w W g1 g2 g3 A B U c d uc k n m name v xs) (q : Nat) : PickW w (W.drewN q) g1 g2 g3 A B U c d uc k n m name v xs :=
  ⟨pw_below_drewN h.below q, h.b1, h.b2, h.b3, h.le1, h.le3, h.ne, Kd.R_drewN h.row q⟩
theorem PickW.n21 (h : PickW w W g1 g2 g3 A B U c d uc k n m name v xs) : g2 ≠ g1 := by
  intro e
  have h1 := h.b1
  rw [← e, h.b2] at h1
  simp at h1
theorem PickW.n23 (h : PickW w W g1 g2 g3 A B U c d uc k n m name v xs) : g2 ≠ g3 := by
  intro e
  have h1 := h.b3
  rw [← e, h.b2] at h1
  simp at h1
theorem PickW.next (h : PickW w W g1 g2 g3 A B U c d uc k n m name v xs) (hb : Below W.heap.size W W') : PickW w W' g1 g2 g3 A B U c d uc k n m name v xs :=
  ⟨below_step h.below hb, blk_below h.b1 hb, blk_below h.b2 hb, blk_below h.b3 hb, h.le1, h.le3, h.ne, Kd.R_below h.row hb⟩
theorem PickW.grown (h : PickW w W g1 g2 g3 A B U c d uc k n m name v xs) (hb : Below w.heap.size w W') (hg : W.grownBy W' v.ownBlock) (hr : Kd.R kT 86 W' w.heap.size (fun k => k ≠ g1 ∧ k ≠ g2 ∧ k ≠ g3) v' xs') : PickW w W' g1 g2 g3 A B U c d uc k n m name v' xs' :=
  ⟨hb, blk_grown h.b1 hg (Kd.R_away h.row (fun k hk => hk.1)), blk_grown h.b2 hg (Kd.R_away h.row (fun k hk => hk.2.1)), blk_grown h.b3 hg (Kd.R_away h.row (fun k hk => hk.2.2)), h.le1, h.le3, h.ne, hr⟩
theorem PickW.cells (h : PickW w W g1 g2 g3 A B U c d uc k n m name v xs) :
    W.cell? ⟨g1, 0, none⟩ = some (.slice A k c) ∧ W.cell? ⟨g1, 1, none⟩ = some (.slice B n d) ∧ W.cell? ⟨g2, 0, none⟩ = some (.string name) ∧ W.cell? ⟨g2, 1, none⟩ = some (.slice U m uc) :=
  ⟨(blk_cell h.b1 0).trans rfl, (blk_cell h.b1 1).trans rfl, (blk_cell h.b2 0).trans rfl, (blk_cell h.b2 1).trans rfl⟩
end

set_option maxHeartbeats 4000000 in
set_option maxRecDepth 100000 in
theorem pickR_calls (A B U : Option Addr) (c d uc : Nat) (l : List Mk) (tl : List Tn) (aims : List ByteArray) (name r : ByteArray) (now e : Int) (tl' : List Tn) (base : Nat) (ok : Nat → Prop) (w : World) (hr : Kd.C kM w A l.length l)
    (ht : Kd.R kT 86 w base ok (.slice B tl.length d) tl) (hu : Kd.C Kd.string w U aims.length aims) (hbase : base ≤ w.heap.size) (hok : ∀ k, w.heap.size ≤ k → ok k) (hl : tl.length ≤ 10000)
    (hp : pickRes tl name (pickR l aims now (turnR tl name 0) aims.length 0) = some (tl', r, e)) :
    Calls Try.prog 11 #[.agg #[.slice A l.length c, .slice B tl.length d], .agg #[.string name, .slice U aims.length uc], .int .i64 now] w fun ed w' => ∃ v, ed = .returned (.tuple #[.agg #[.slice A l.length c, v], .string r, .int .i64 e]) ∧ Kd.R kT 86 w' base ok v tl' ∧ Below w.heap.size w w' := by
  have hu29 := Try.underlying29
  have hu86 := Try.underlying86
  have hm : aims.length ≤ 9223372036854775807 := hu.2.1
  have HR := Aside0.mk hr
  have HT := Aside0.mk ht
  have HU := Aside0.mk hu
  have HP := Aside0.mk hp
  have HKK := Aside0.mk hok
  clear hr ht hu hp hok
  go_enter Try.func11, Try.ntmps11
  go_wp2_with (first | go_box 3, #[.slice A l.length c, .slice B tl.length d], 29 => g1 w1 G1 X1 B1 | (go_box 4, #[.string name, .slice U aims.length uc], 32 => g2 w2 G2 X2 B2) | (go_box 6, #[.slice none 0 0, .slice none 0 0], 29 => g3 w3 G3 X3 B3; have BB := Aside0.mk (below_step (below_step B1.out B2.out) B3.out); have GG : Aside0 (g1 < w3.heap.size ∧ g2 < w3.heap.size ∧ g3 < w3.heap.size) := ⟨⟨blk_lt (blk_below (blk_below X1.out B2.out) B3.out), blk_lt (blk_below X2.out B3.out), blk_lt X3.out⟩⟩) | ((with_reducible refine gate_dst (N := 15) rfl ?_); refine Kd.R_lit kT w.heap.size 86 (w0 := w) ?hg (N := 15) ?hd (xs := []) (inner := []) (ok := fun k => k ≠ g1 ∧ k ≠ g2 ∧ k ≠ g3) (okp := fun _ => False) ?hr ?hp (fun _ hk => hk.elim) ?hf BB.out BB.out.size (by simp) ?_; (case hd => rfl); (case hg => rfl); (case hr => first | (go_simp; done) | (go_simp; rfl)); (case hp => exact (Reps.none _ _)); (case hf => have := GG.out; refine ⟨?_, ?_, ?_⟩ <;> omega); intro v8 w8 ho8 hb8 hg8 hn8; have O8 := Aside0.mk ho8; have B8 := Aside0.mk hb8; have N8 := Aside0.mk hg8; clear ho8 hb8 hg8 hn8))
  have HI : Aside0 (PickW w w8 g1 g2 g3 A B U c d uc l.length tl.length aims.length name v8 (restR (tl.take 0) name)) := ⟨⟨B8.out, blk_grown (blk_below (blk_below X1.out B2.out) B3.out) N8.out (by simp), blk_grown (blk_below X2.out B3.out) N8.out (by simp), blk_grown X3.out N8.out (by simp), Nat.le_of_eq G1.out.symm, by have := G3.out; have := B1.out.size; have := B2.out.size; omega, by have := G3.out; have := G1.out; have h1 := blk_lt X1.out; have := B2.out.size; omega, by have := O8.out; exact this⟩⟩
  clear B1 B2 B3 X1 X2 X3 G1 G2 G3 BB GG O8 B8 N8
  go_loopw [9, 10, 11] (fun v9 v10 v11 wr => ∃ (i : Nat) (a : Int), i ≤ tl.length ∧ v9 = .int .i64 a ∧ v11 = .int .i64 i ∧ Aside0 (turnR (tl.drop i) name a = turnR tl name 0) ∧ Aside0 (PickW w wr g1 g2 g3 A B U c d uc l.length tl.length aims.length name v10 (restR (tl.take i) name))) (fun _ _ v11 _ => tl.length - (intOf v11).toNat)
  case atStart => exact ⟨0, 0, Nat.zero_le _, rfl, rfl, ⟨rfl⟩, HI⟩
  case round =>
    obtain ⟨i, a, hi, rfl, rfl, HA, HK⟩ := hrel
    by_cases hlt : i < tl.length
    · obtain ⟨q0, q1, q2, q3⟩ := HK.out.cells
      obtain ⟨A9, c9, e9, hc9, hC9⟩ := Kd.R_reads HT.out
      injection e9 with e9 e10 e11
      subst e9
      obtain ⟨ad, rfl, x0, x1⟩ := at_T (Kd.C_below hC9 HK.out.below) (i : Int) (by omega) (by omega)
      clear hC9 e10 e11 hc9
      simp only [Int.toNat_natCast] at x0 x1
      by_cases hq : (tl.getD i zT).1 = name
      · have hq2 : ((tl.getD i zT).1.toList == name.toList) = true := beq_iff_eq.mpr (tl_inj.2 hq)
        have hK : restR (tl.take (i + 1)) name = restR (tl.take i) name := by rw [restR_take tl name i hlt, if_pos hq]; simp
        have hA : turnR (tl.drop (i + 1)) name (tl.getD i zT).2 = turnR tl name 0 := by rw [← HA.out, drop_get tl zT i hlt]; simp only [turnR]; rw [if_pos hq]
        have HP1 := Aside0.mk hK
        have HA1 := Aside0.mk hA
        clear hK hq hA
        generalize tl.getD i zT = p at *
        go_wp2
        go_quiet (fail)
        have HI2 := Aside0.mk (HK.out.drewN nq)
        obtain ⟨q0, q1, q2, q3⟩ := HI2.out.cells
        replace x0 : (wr.drewN nq).cell? (ad.add (i * 2)) = some (.string p.1) := x0
        replace x1 : (wr.drewN nq).cell? ⟨(ad.add (i * 2)).block, (ad.add (i * 2)).off + 1, none⟩ = some (.int .i64 p.2) := x1
        clear HK
        generalize wr.drewN nq = W1 at *
        go_wp2
        go_roundw
        case rel => exact ⟨i + 1, _, by omega, rfl, by go_num, HA1, ⟨by rw [HP1.out]; exact HI2.out⟩⟩
        case measure => simp [intOf]; omega
      · have hq2 : ((tl.getD i zT).1.toList == name.toList) = false := beq_eq_false_iff_ne.mpr (fun e => hq (tl_inj.1 e))
        have hK : restR (tl.take (i + 1)) name = restR (tl.take i) name ++ [tl.getD i zT] := by rw [restR_take tl name i hlt, if_neg hq]
        have hA : turnR (tl.drop (i + 1)) name a = turnR tl name 0 := by rw [← HA.out, drop_get tl zT i hlt]; simp only [turnR]; rw [if_neg hq]
        have HP1 := Aside0.mk hK
        have HA1 := Aside0.mk hA
        have HL : Aside0 ((restR (tl.take i) name).length ≤ 10001) := ⟨by have := restR_len (tl.take i) name; rw [List.length_take] at this; omega⟩
        clear hK hq hA
        generalize tl.getD i zT = p at *
        go_wp2
        go_quiet (fail)
        have HI2 := Aside0.mk (HK.out.drewN nq)
        obtain ⟨q0, q1, q2, q3⟩ := HI2.out.cells
        replace x0 : (wr.drewN nq).cell? (ad.add (i * 2)) = some (.string p.1) := x0
        replace x1 : (wr.drewN nq).cell? ⟨(ad.add (i * 2)).block, (ad.add (i * 2)).off + 1, none⟩ = some (.int .i64 p.2) := x1
        clear HK
        generalize wr.drewN nq = W1 at *
        have GG : Aside0 (g1 < W1.heap.size ∧ g2 < W1.heap.size ∧ g3 < W1.heap.size) := ⟨⟨blk_lt HI2.out.b1, blk_lt HI2.out.b2, blk_lt HI2.out.b3⟩⟩
        go_wp2_with (first | ((with_reducible refine gate_builtin (b := .append) (xs := #[.tmp 38, .tmp 44]) rfl ?_); at_builtin; refine Kd.R_append kT (w0 := w) w.heap.size rfl (.tmp 38) (.tmp 44) 27 86 (.agg #[(.string ⟨#[]⟩), (.int .i64 0)]) 24 rfl Try.underlying27 info_T rfl (by decide) (by omega) u10 (restR (tl.take i) name) p [.string p.1, .int .i64 p.2] (fun k => k ≠ g1 ∧ k ≠ g2 ∧ k ≠ g3) (fun _ => False) rfl rfl ?aP (fun _ hk => hk.elim) ?aF ?aO ?aB ?aS ?aL ?_; (case aP => exact kT_mkM _ _ _ p); (case aF => (intro k hk; have := GG.out; refine ⟨?_, ?_, ?_⟩ <;> omega)); (case aO => exact HI2.out.row); (case aB => exact HI2.out.below); (case aS => exact HI2.out.below.size); (case aL => have := HL.out; omega); intro v1 w1 ho hb hg hat; have HO := Aside0.mk ho; have HB := Aside0.mk hb; have HGr := Aside0.mk hg; clear ho hb hg hat))
        go_roundw
        case rel => exact ⟨i + 1, _, by omega, rfl, by go_num, HA1, ⟨by rw [HP1.out]; exact HI2.out.grown HB.out HGr.out HO.out⟩⟩
        case measure => simp [intOf]; omega
    · have hin : tl.take i = tl := List.take_of_length_le (by omega)
      have hA := HA.out
      rw [List.drop_eq_nil_of_le (by omega)] at hA
      simp only [turnR] at hA
      rw [hin] at HK
      rw [← hA] at HP
      obtain ⟨q0, q1, q2, q3⟩ := HK.out.cells
      obtain ⟨A10, c10, rfl⟩ := Kd.R_slice HK.out.row
      clear hA HA hin HI
      go_wp2
      generalize wr = wz at *
      clear q0 q1 q2 q3
      go_loopw [13] (fun v13 wr => ∃ i : Nat, i ≤ aims.length ∧ v13 = .int .i64 i ∧ Aside0 (pickRes tl name (pickR l aims now a (aims.length - i) i) = some (tl', r, e)) ∧ Aside0 (PickW w wr g1 g2 g3 A B U c d uc l.length tl.length aims.length name (.slice A10 (restR tl name).length c10) (restR tl name))) (fun v13 _ => aims.length - (intOf v13).toNat)
      case atStart => exact ⟨0, Nat.zero_le _, rfl, HP, HK⟩
      case round =>
        obtain ⟨i, hi, rfl, HQ, HK⟩ := hrel
        clear HP
        obtain ⟨q0, q1, q2, q3⟩ := HK.out.cells
        by_cases hlt : i < aims.length
        · have H := HQ.out
          rw [show aims.length - i = (aims.length - (i + 1)) + 1 from by omega] at H
          simp only [pickR] at H
          have hne : ¬ (aims.length : Int) = 0 := by omega
          have hat1 : Int.tmod (wrap64 (a + (i : Int))) (aims.length : Int) < (aims.length : Int) := Int.tmod_lt_of_pos _ (by omega)
          by_cases hat0 : 0 ≤ Int.tmod (wrap64 (a + (i : Int))) (aims.length : Int)
          · rw [if_pos hat0] at H
            obtain ⟨ad, rfl, hx⟩ := Kd.at_string (Kd.C_below HU.out HK.out.below) (Int.tmod (wrap64 (a + (i : Int))) (aims.length : Int)) hat0 hat1
            have HH := Aside0.mk H
            clear H HQ
            generalize hat : Int.tmod (wrap64 (a + (i : Int))) (aims.length : Int) = at_ at *
            have cS : ∀ dq os, Calls Try.prog 18 #[.agg #[.slice A l.length c, .slice B tl.length d], .string (rdOf ByteArray.empty aims at_), .int .i64 now] (grow (redrawn wr dq) os) fun e w'' => e = .returned (.bool (sickR l (rdOf ByteArray.empty aims at_) now)) ∧ ∃ p : Regrown, w'' = grow (redrawn wr p.d) p.os := fun dq os => Calls.regrown_of (sickR_calls A B c tl.length d l _ now _ (Kd.C_below HR.out (below_step HK.out.below (below_regrown wr dq os))))
            have k0 := cell_regrown q0
            have k1 := cell_regrown q1
            have k3 := cell_regrown q3
            have kx := cell_regrown hx
            cases hs : sickR l (rdOf ByteArray.empty aims at_) now with
            | true =>
              rw [if_pos hs] at HH
              rw [hs] at cS
              go_wp2
              refine wp_region_quiet_below (by kernel_rfl) (by kernel_rfl) ?_
              repeat (quiet_step (exact cS _ _))
              refine wpQuiet_nil ?_
              intro _ hw'
              obtain ⟨⟨dq, osq⟩, hw''⟩ := hw'
              subst hw''
              have HB := Aside0.mk (below_regrown wr dq osq)
              clear k0 k1 k3 kx cS
              generalize grow (redrawn wr dq) osq = W1 at *
              go_wp2
              go_roundw
              case rel => exact ⟨i + 1, by omega, by go_num, HH, ⟨HK.out.next HB.out⟩⟩
              case measure => simp [intOf]; omega
            | false =>
              rw [if_neg (by rw [hs]; simp)] at HH
              rw [hs] at cS
              have hH := HH.out
              simp only [pickRes, Option.some.injEq, Prod.mk.injEq] at hH
              obtain ⟨rfl, rfl, rfl⟩ := hH
              clear HH
              go_wp2
              refine wp_region_quiet_below (by kernel_rfl) (by kernel_rfl) ?_
              repeat (quiet_step (exact cS _ _))
              refine wpQuiet_nil ?_
              intro _ hw'
              obtain ⟨⟨dq, osq⟩, hw''⟩ := hw'
              subst hw''
              have HI2 := Aside0.mk (HK.out.next (below_regrown wr dq osq))
              obtain ⟨q0, q1, q2, q3⟩ := HI2.out.cells
              replace hx := kx dq osq
              clear k0 k1 k3 kx cS HK
              generalize grow (redrawn wr dq) osq = W1 at *
              have GG : Aside0 (g1 < W1.heap.size ∧ g2 < W1.heap.size ∧ g3 < W1.heap.size) := ⟨⟨blk_lt HI2.out.b1, blk_lt HI2.out.b2, blk_lt HI2.out.b3⟩⟩
              have HL : Aside0 ((restR tl name).length ≤ 10000) := ⟨by have := restR_len tl name; omega⟩
              go_wp2_with (first | ((with_reducible refine gate_builtin (b := .append) (xs := #[.tmp 68, .tmp 74]) rfl ?_); at_builtin; refine Kd.R_append kT (w0 := w) w.heap.size rfl (.tmp 68) (.tmp 74) 27 86 (.agg #[(.string ⟨#[]⟩), (.int .i64 0)]) 24 rfl Try.underlying27 info_T rfl (by decide) (by omega) (.slice A10 (restR tl name).length c10) (restR tl name) (name, at_ + 1) [.string name, .int .i64 (at_ + 1)] (fun k => k ≠ g1 ∧ k ≠ g2 ∧ k ≠ g3) (fun _ => False) rfl rfl ?aP (fun _ hk => hk.elim) ?aF ?aO ?aB ?aS ?aL ?_; (case aP => exact kT_mkM _ _ _ (name, at_ + 1)); (case aF => (intro k hk; have := GG.out; refine ⟨?_, ?_, ?_⟩ <;> omega)); (case aO => exact HI2.out.row); (case aB => exact HI2.out.below); (case aS => exact HI2.out.below.size); (case aL => have := HL.out; omega); intro v1 w1 ho hb hg hat; obtain ⟨A11, n11, c11, rfl⟩ := R_slice' ho; have HI3 := Aside0.mk (HI2.out.grown hb hg ho); obtain ⟨q0, q1, q2, q3⟩ := HI3.out.cells; have f10 := blk_frozen HI3.out.b1 1; clear ho hb hg hat) | (go_put 27, 76, (w1.setCell ⟨g1, 1, none⟩ (.slice A11 n11 c11)) => w12 E12))
              have Z1 : Aside0 (w12.heap[g1]? = some (.cells #[.slice A l.length c, .slice A11 n11 c11] 29 (0, 0))) := ⟨by rw [E12.out]; exact blk_put HI3.out.b1 1 _ rfl⟩
              have Z2 : Aside0 (w12.heap[g2]? = some (.cells #[.string name, .slice (some ad) aims.length uc] 32 (0, 0))) := ⟨by rw [E12.out]; exact blk_far (p := ⟨g1, 1, none⟩) HI3.out.b2 HI3.out.n21 _⟩
              have Z3 : Aside0 (w12.heap[g3]? = some (.cells #[.slice none 0 0, .slice none 0 0] 29 (0, 0))) := ⟨by rw [E12.out]; exact blk_far (p := ⟨g1, 1, none⟩) HI3.out.b3 HI3.out.ne.symm _⟩
              have ZB : Aside0 (Below w.heap.size w w12) := ⟨by rw [E12.out]; exact below_set HI3.out.below HI3.out.le1⟩
              have ZR : Aside0 (Kd.R kT 86 w12 w.heap.size (fun k => k ≠ g1 ∧ k ≠ g2 ∧ k ≠ g3) (.slice A11 n11 c11) (restR tl name ++ [(name, at_ + 1)])) := ⟨by rw [E12.out]; exact Kd.R_far (p := ⟨g1, 1, none⟩) HI3.out.row (fun k hk => hk.1) _⟩
              obtain ⟨ad', e', hx⟩ := Kd.at_string (Kd.C_below HU.out ZB.out) at_ hat0 hat1
              injection e' with e'
              subst e'
              have LE3 := Aside0.mk HI3.out.le3
              have N13 := Aside0.mk HI3.out.ne
              have N23 := Aside0.mk HI3.out.n23
              clear q0 q1 q2 q3 f10 HI3 HI2 E12
              have q0 : w12.cell? ⟨g1, 0, none⟩ = some (.slice A l.length c) := (blk_cell Z1.out 0).trans rfl
              have q1 : w12.cell? ⟨g1, 1, none⟩ = some (.slice A11 n11 c11) := (blk_cell Z1.out 1).trans rfl
              have q3 : w12.cell? ⟨g2, 1, none⟩ = some (.slice (some ad) aims.length uc) := (blk_cell Z2.out 1).trans rfl
              refine start_ (n := 9) (S := fun w' => w'.cell? ⟨g1, 0, none⟩ = some (.slice A l.length c) ∧ w'.cell? ⟨g1, 1, none⟩ = some (.slice A11 n11 c11) ∧ w'.cell? ⟨g2, 1, none⟩ = some (.slice (some ad) aims.length uc) ∧ w'.cell? (ad.add at_.toNat) = some (.string (rdOf ByteArray.empty aims at_))) (ds := []) #[false, false, false, false, false, false, false, false, false] (by kernel_rfl) rfl rfl ⟨q0, q1, q3, hx⟩ (fun hHeld => ?_)
              replace Z3 : Aside0 (w12.drew.heap[g3]? = some (.cells #[.slice none 0 0, .slice none 0 0] 29 (0, 0))) := ⟨Z3.out⟩
              replace ZB : Aside0 (Below w.heap.size w w12.drew) := ⟨below_drew1 ZB.out⟩
              replace ZR : Aside0 (Kd.R kT 86 w12.drew w.heap.size (fun k => k ≠ g1 ∧ k ≠ g2 ∧ k ≠ g3) (.slice A11 n11 c11) (restR tl name ++ [(name, at_ + 1)])) := ⟨Kd.R_drew ZR.out⟩
              clear Z1 Z2 q0 q1 q3 hx
              generalize w12.drew = w13 at *
              refine pure_ (i := 1) (N := some 78) (v := ?_) (a' := ?_) #[false, true, false, false, false, false, false, false, false] rfl rfl (by kernel_rfl) (fun _ _ _ h => h) (Or.inl ⟨by rfl, ?_⟩) ?_ ?_
              rotate_left
              · intro w'
                go_simp
                with_reducible rfl
              rotate_left
              · simp only [Act.put, List.setIfInBounds_toArray, List.set_cons_zero, List.set_cons_succ, i64_w, i32_w]
                rfl
              refine pure_ (i := 3) (N := some 80) (v := ?_) (a' := ?_) #[false, true, false, true, false, false, false, false, false] rfl rfl (by kernel_rfl) (fun _ _ _ h => h) (Or.inl ⟨by rfl, ?_⟩) ?_ ?_
              rotate_left
              · intro w'
                go_simp
                with_reducible rfl
              rotate_left
              · simp only [Act.put, List.setIfInBounds_toArray, List.set_cons_zero, List.set_cons_succ, i64_w, i32_w]
                rfl
              refine take_ (i := 0) (N := some 77) (v := ?_) (a' := ?_) #[true, true, false, true, false, false, false, false, false] rfl rfl (by kernel_rfl) (fun _ _ _ h => h) (Or.inl ⟨by rfl, ?_⟩) hHeld ?_ ?_
              rotate_left
              · rintro w' ⟨s0, s1, s3, sx⟩
                go_simp
                with_reducible rfl
              rotate_left
              · simp only [Act.put, List.setIfInBounds_toArray, List.set_cons_zero, List.set_cons_succ, i64_w, i32_w]
                rfl
              refine take_ (i := 2) (N := some 79) (v := ?_) (a' := ?_) #[true, true, true, true, false, false, false, false, false] rfl rfl (by kernel_rfl) (fun _ _ _ h => h) (Or.inl ⟨by rfl, ?_⟩) hHeld ?_ ?_
              rotate_left
              · rintro w' ⟨s0, s1, s3, sx⟩
                go_simp
                with_reducible rfl
              rotate_left
              · simp only [Act.put, List.setIfInBounds_toArray, List.set_cons_zero, List.set_cons_succ, i64_w, i32_w]
                rfl
              refine pure_ (i := 4) (N := some 81) (v := ?_) (a' := ?_) #[true, true, true, true, true, false, false, false, false] rfl rfl (by kernel_rfl) (fun _ _ _ h => h) (Or.inl ⟨by rfl, ?_⟩) ?_ ?_
              rotate_left
              · intro w'
                go_simp
                with_reducible rfl
              rotate_left
              · simp only [Act.put, List.setIfInBounds_toArray, List.set_cons_zero, List.set_cons_succ, i64_w, i32_w]
                rfl
              refine take_ (i := 5) (N := some 82) (v := ?_) (a' := ?_) #[true, true, true, true, true, true, false, false, false] rfl rfl (by kernel_rfl) (fun _ _ _ h => h) (Or.inl ⟨by rfl, ?_⟩) hHeld ?_ ?_
              rotate_left
              · rintro w' ⟨s0, s1, s3, sx⟩
                go_simp
                with_reducible rfl
              rotate_left
              · simp only [Act.put, List.setIfInBounds_toArray, List.set_cons_zero, List.set_cons_succ, i64_w, i32_w]
                rfl
              refine one_ (i := 6) (N := none) #[true, true, true, true, true, true, true, false, false] rfl rfl (by kernel_rfl) (by decide) (fun K hK => ?_)
              have f1 := blk_frozen Z3.out 0
              have f2 := blk_frozen Z3.out 1
              have y0 : w13.cell? ⟨g3, 0, none⟩ = some (.slice none 0 0) := (blk_cell Z3.out 0).trans rfl
              have y1 : w13.cell? ⟨g3, 1, none⟩ = some (.slice none 0 0) := (blk_cell Z3.out 1).trans rfl
              refine skip_ (w1 := ?_) (by rfl) rfl ?_ ?_
              rotate_left
              · go_simp
                rfl
              refine hK.out _ _ ⟨((cell_far (p := ⟨g3, _, none⟩) N13.out _).trans ((cell_far (p := ⟨g3, _, none⟩) N13.out _).trans hHeld.1)), ((cell_far (p := ⟨g3, _, none⟩) N13.out _).trans ((cell_far (p := ⟨g3, _, none⟩) N13.out _).trans hHeld.2.1)), ((cell_far (p := ⟨g3, _, none⟩) N23.out _).trans ((cell_far (p := ⟨g3, _, none⟩) N23.out _).trans hHeld.2.2.1)), ?_⟩ (fun hHeld => ?_)
              · obtain ⟨ad', e', hx'⟩ := Kd.at_string (Kd.C_below HU.out (below_set (j := 1) (v := .slice A11 n11 c11) (below_set (j := 0) (v := .slice A l.length c) ZB.out LE3.out) LE3.out)) at_ hat0 hat1
                injection e' with e'
                subst e'
                exact hx'
              clear hK K
              refine pure_ (i := 7) (N := some 7) (v := ?_) (a' := ?_) #[true, true, true, true, true, true, true, true, false] rfl rfl (by kernel_rfl) (fun _ _ _ h => h) (Or.inl ⟨by rfl, ?_⟩) ?_ ?_
              rotate_left
              · intro w'
                go_simp
                with_reducible rfl
              rotate_left
              · simp only [Act.put, List.setIfInBounds_toArray, List.set_cons_zero, List.set_cons_succ, i64_w, i32_w]
                rfl
              refine pure_ (i := 8) (N := some 8) (v := ?_) (a' := ?_) #[true, true, true, true, true, true, true, true, true] rfl rfl (by kernel_rfl) (fun _ _ _ h => h) (Or.inl ⟨by rfl, ?_⟩) ?_ ?_
              rotate_left
              · intro w'
                go_simp
                with_reducible rfl
              rotate_left
              · simp only [Act.put, List.setIfInBounds_toArray, List.set_cons_zero, List.set_cons_succ, i64_w, i32_w]
                rfl
              refine done_ (by kernel_rfl) ?_
              try go_wp2
              refine bodyPost_ret (results_ctt rfl _ _ g3 29 #[.slice A l.length c, .slice A11 n11 c11] (0, 0) _ rfl (set2 Z3.out) Try.underlying29 rfl (by kernel_rfl)) rfl ?_
              have hb := below_set (j := 1) (v := .slice A11 n11 c11) (below_set (j := 0) (v := .slice A l.length c) ZB.out LE3.out) LE3.out
              refine ⟨_, rfl, ?_, hb⟩
              have hR := Kd.R_far (p := ⟨g3, 1, none⟩) (Kd.R_far (p := ⟨g3, 0, none⟩) ZR.out (fun k hk => hk.2.2) (.slice A l.length c)) (fun k hk => hk.2.2) (.slice A11 n11 c11)
              exact Kd.R_lower (Kd.R_mono (Kd.R_bound hR) (fun k hk => HKK.out k hk.2.1)) hbase
          · rw [if_neg hat0] at H; cases H
        · have H := HQ.out
          rw [show aims.length - i = 0 from by omega] at H
          simp only [pickR, pickRes, Option.some.injEq, Prod.mk.injEq] at H
          obtain ⟨rfl, rfl, rfl⟩ := H
          have f1 := blk_frozen HK.out.b3 0
          have f2 := blk_frozen HK.out.b3 1
          have y0 : wr.cell? ⟨g3, 0, none⟩ = some (.slice none 0 0) := (blk_cell HK.out.b3 0).trans rfl
          have y1 : wr.cell? ⟨g3, 1, none⟩ = some (.slice none 0 0) := (blk_cell HK.out.b3 1).trans rfl
          go_wp2
          refine bodyPost_ret (results_ctt rfl _ _ g3 29 #[.slice A l.length c, .slice B tl.length d] (0, 0) _ rfl (set2 HK.out.b3) Try.underlying29 rfl (by kernel_rfl)) rfl ?_
          have hb := below_set (j := 1) (v := .slice B tl.length d) (below_set (j := 0) (v := .slice A l.length c) HK.out.below HK.out.le3) HK.out.le3
          exact ⟨_, rfl, Kd.R_below HT.out hb, hb⟩
end Go.Proofs.Ytffockklleanmaa.X
