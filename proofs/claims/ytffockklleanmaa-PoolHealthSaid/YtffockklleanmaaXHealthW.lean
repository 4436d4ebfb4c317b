/- The program's functions on a health do the model's steps. -/
import Derived.Test.YtffockklleanmaaXHealth
import Derived.Test.YtffockklleanmaaProg
import Derived.Below
import Derived.Deep.Draws
import Derived.Deep.AppendLies
import Derived.Maps.AppendAt
import Derived.OwnWalk
import Derived.Laws.BytesArg
import Derived.Laws.MakeOwn
import Derived.Laws.OwnMore
import Derived.Deep.OwnRows
import Derived.Tactics
import Derived.Lib.ConvBytes
import Derived.Laws.Slices
import Derived.WalkKit
import Derived.KernelRfl
import Derived.RowKit3
import Derived.Deep.LoopGhost
import Derived.Deep.QuietTactic
import Derived.BigQuiet
import Derived.StillTailTactics
import Derived.WideLaws
import Derived.Deep.DeepCutAuto
import Derived.Deep.CutBlock
import Derived.Deep.RegionHeld3
import Derived.Laws.Rows
import Derived.Lib.AppendStr
import Derived.ArgAppend
import Derived.Laws.IdiomCopy
import Derived.OrdersHeld
import Derived.Laws.BitsLemmas
import Derived.RowKit
import Derived.Test.YtffockklleanmaaWWords
import Derived.Test.YtffockklleanmaaWLast
import Derived.Test.YtffockklleanmaaWTab
import Derived.Test.YtffockklleanmaaWFour
import Derived.Test.YtffockklleanmaaWQPut
import Derived.Test.YtffockklleanmaaWApart
import Derived.Test.YtffockklleanmaaWArr
import Derived.Test.YtffockklleanmaaWZeros
import Derived.Test.YtffockklleanmaaWFoot
import Derived.Test.YtffockklleanmaaWKept
import Derived.Test.YtffockklleanmaaWShare
import Derived.Test.YtffockklleanmaaWN
import Derived.Test.YtffockklleanmaaWFootNe
import Derived.Test.YtffockklleanmaaWAt
import Derived.Test.YtffockklleanmaaWEqStruct
import Derived.Test.YtffockklleanmaaWRepsOne
import Derived.Test.YtffockklleanmaaWInv
import Derived.Test.YtffockklleanmaaWInvWords
import Derived.Test.YtffockklleanmaaWGuard
import Derived.Test.YtffockklleanmaaWNEv
import Derived.Test.YtffockklleanmaaWMore
namespace Go.Proofs.Ytffockklleanmaa.X
open Go.RowKit Go.MapKept Go.ChangeMaps Go.Proofs.YtffockklleanmaaW.PrintWords Go.Proofs.YtffockklleanmaaW.PrintLast Go.Proofs.YtffockklleanmaaW.PrintMore
attribute [local go_sem] max2_int min2_int max_two min_two max_three min_three max_four min_four
set_option linter.unusedVariables false

set_option maxHeartbeats 1000000 in
set_option maxRecDepth 100000 in
theorem newHealth_calls (w : World) :
    Calls Try.prog 9 #[] w fun e w' => ∃ p, e = .returned (.pointer (some ⟨p, 0, none⟩)) ∧ HAt w' (fun k => w.heap.size ≤ k ∧ k < w'.heap.size) p ⟨[], [], []⟩ ∧ Below w.heap.size w w' := by
  have hmm := @run_makeMap Try.prog
  go_enter Try.func9, Try.ntmps9
  go_wp2
  go_ret
  have b0 : Below (w.alloc (.map #[] 0)).heap.size (w.alloc (.map #[] 0)) ((w.alloc (.map #[] 0)).alloc (.map #[] 0)) := below_alloc (Below.refl _ _) _
  have b1 := below_alloc (Below.refl ((w.alloc (.map #[] 0)).alloc (.map #[] 0)).heap.size ((w.alloc (.map #[] 0)).alloc (.map #[] 0))) (.map #[] 0)
  have b2 := fun o => below_alloc (Below.refl (((w.alloc (.map #[] 0)).alloc (.map #[] 0)).alloc (.map #[] 0)).heap.size (((w.alloc (.map #[] 0)).alloc (.map #[] 0)).alloc (.map #[] 0))) o
  have m0 : MapK kS vI (w.alloc (.map #[] 0)) w.heap.size ([] : List (ByteArray × Int)) := MapK.made w kS vI
  have m1 : MapK kS vI ((w.alloc (.map #[] 0)).alloc (.map #[] 0)) (w.alloc (.map #[] 0)).heap.size ([] : List (ByteArray × Int)) := MapK.made _ kS vI
  have m2 : MapK kS vI (((w.alloc (.map #[] 0)).alloc (.map #[] 0)).alloc (.map #[] 0)) ((w.alloc (.map #[] 0)).alloc (.map #[] 0)).heap.size ([] : List (ByteArray × Int)) := MapK.made _ kS vI
  refine ⟨_, rfl, ⟨w.heap.size, w.heap.size + 1, w.heap.size + 1 + 1, ?_, ?_, ?_, ?_, ?_, ?_, ?_, ?_, ((m0.below b0).below b1).below (b2 _), ?_, ?_⟩, ?_⟩
  · simp only [World.size_alloc]; omega
  · simp only [World.size_alloc]; omega
  · simp only [World.size_alloc]; omega
  · simp only [World.size_alloc]; omega
  · omega
  · omega
  · omega
  · have h := heap_alloc_new (((w.alloc (.map #[] 0)).alloc (.map #[] 0)).alloc (.map #[] 0)) (.cells #[.map (some w.heap.size), .map (some (w.heap.size + 1)), .map (some (w.heap.size + 1 + 1))] 84); simpa using h
  · have h := (m1.below b1).below (b2 (.cells #[.map (some w.heap.size), .map (some (w.heap.size + 1)), .map (some (w.heap.size + 1 + 1))] 84)); simpa using h
  · have h := m2.below (b2 (.cells #[.map (some w.heap.size), .map (some (w.heap.size + 1)), .map (some (w.heap.size + 1 + 1))] 84)); simpa using h
  · exact below_alloc (below_alloc (below_alloc (below_alloc (Below.refl _ _) _) _) _) _

set_option maxHeartbeats 1000000 in
set_option maxRecDepth 100000 in
theorem sick_calls (F : Nat → Prop) (p : Nat) (s : HSt) (aim : ByteArray) (now : Int) (w : World) (hh : HAt w F p s) :
    Calls Try.prog 17 #[.pointer (some ⟨p, 0, none⟩), .string aim, .int .i64 now] w fun e w' => e = .returned (.bool (sickM s aim now)) ∧ w' = w := by
  obtain ⟨mt, mf, mu, h1, h2, h3, h4, n1, n2, n3, hb, m1, m2, m3⟩ := hh
  have c2 : w.cell? ⟨p, 2, none⟩ = some (.map (some mu)) := (blk_cell hb 2).trans rfl
  have hl := m3.look (t := 82) (z := (0 : Int)) (P := Try.prog) (KeyOk.string Try.underlying9) Try.underlying82 (by kernel_rfl) aim false
  simp only [kS, vI] at hl
  clear hb m1 m2 m3
  go_enter Try.func17, Try.ntmps17
  go_wp2
  go_ret
  exact ⟨rfl, rfl⟩

theorem blk_turned {w w' : World} {b g : Nat} {o : Obj} {κ ν : Type} [DecidableEq κ] {kv : κ → Value} {vv : ν → Value} {l : List (κ × ν)} {cs : Array Value} {t : TypeId} {fr : Nat × Nat} (h : w.heap[g]? = some (.cells cs t fr)) (m : MapK kv vv w b l) (ht : w.mapTurned w' b) : w'.heap[g]? = some (.cells cs t fr) :=
  (ht.grown.block g (blk_lt h) (fun e => map_ne h m (by injection e))).trans h
theorem cell_turned {w w' : World} {b : Nat} {κ ν : Type} {kv : κ → Value} {vv : ν → Value} {l : List (κ × ν)} {a : Addr} {v : Value} (h : w.cell? a = some v) (m : MapK kv vv w b l) (ht : w.mapTurned w' b) : w'.cell? a = some v := by
  have hne : a.block ≠ b := by
    intro e
    obtain ⟨es, c, hb, _⟩ := m
    simp [World.cell?, e, hb] at h
  have hb := ht.grown.block a.block (World.block_lt_of_cell? w a h) (fun e => hne (by injection e))
  rw [← h]
  simp only [World.cell?, hb]
theorem HIn.cells {w : World} {F : Nat → Prop} {p mt mf mu : Nat} {s : HSt} (h : HIn w F p mt mf mu s) : w.cell? ⟨p, 0, none⟩ = some (.map (some mt)) ∧ w.cell? ⟨p, 1, none⟩ = some (.map (some mf)) ∧ w.cell? ⟨p, 2, none⟩ = some (.map (some mu)) := by
  obtain ⟨h1, h2, h3, h4, n1, n2, n3, hb, m1, m2, m3⟩ := h
  exact ⟨(blk_cell hb 0).trans rfl, (blk_cell hb 1).trans rfl, (blk_cell hb 2).trans rfl⟩
theorem HIn.alloc {w : World} {F : Nat → Prop} {p mt mf mu : Nat} {s : HSt} (h : HIn w F p mt mf mu s) (o : Obj) : HIn (w.alloc o) F p mt mf mu s := by
  obtain ⟨h1, h2, h3, h4, n1, n2, n3, hb, m1, m2, m3⟩ := h
  have hB := below_alloc (Below.refl w.heap.size w) o
  exact ⟨h1, h2, h3, h4, n1, n2, n3, blk_alloc hb o, m1.below hB, m2.below hB, m3.below hB⟩
theorem HIn.drewN {w : World} {F : Nat → Prop} {p mt mf mu : Nat} {s : HSt} (h : HIn w F p mt mf mu s) (n : Nat) : HIn (w.drewN n) F p mt mf mu s := h
theorem HIn.turnT {w w' : World} {F : Nat → Prop} {p mt mf mu : Nat} {s : HSt} (h : HIn w F p mt mf mu s) {l : List (ByteArray × Int)} (m : MapK kS vI w' mt l) (ht : w.mapTurned w' mt) : HIn w' F p mt mf mu ⟨l, s.f, s.u⟩ := by
  obtain ⟨h1, h2, h3, h4, n1, n2, n3, hb, m1, m2, m3⟩ := h
  have hc : Chg (fun k => k = mt) w w' := Chg.turned ht rfl
  exact ⟨h1, h2, h3, h4, n1, n2, n3, blk_turned (o := .map #[] 0) hb m1 ht, m, m2.chg hc (fun e => n1 e.symm), m3.chg hc (fun e => n2 e.symm)⟩
theorem HIn.turnF {w w' : World} {F : Nat → Prop} {p mt mf mu : Nat} {s : HSt} (h : HIn w F p mt mf mu s) {l : List (ByteArray × Int)} (m : MapK kS vI w' mf l) (ht : w.mapTurned w' mf) : HIn w' F p mt mf mu ⟨s.t, l, s.u⟩ := by
  obtain ⟨h1, h2, h3, h4, n1, n2, n3, hb, m1, m2, m3⟩ := h
  have hc : Chg (fun k => k = mf) w w' := Chg.turned ht rfl
  exact ⟨h1, h2, h3, h4, n1, n2, n3, blk_turned (o := .map #[] 0) hb m2 ht, m1.chg hc (fun e => n1 e), m, m3.chg hc (fun e => n3 e.symm)⟩
theorem HIn.turnU {w w' : World} {F : Nat → Prop} {p mt mf mu : Nat} {s : HSt} (h : HIn w F p mt mf mu s) {l : List (ByteArray × Int)} (m : MapK kS vI w' mu l) (ht : w.mapTurned w' mu) : HIn w' F p mt mf mu ⟨s.t, s.f, l⟩ := by
  obtain ⟨h1, h2, h3, h4, n1, n2, n3, hb, m1, m2, m3⟩ := h
  have hc : Chg (fun k => k = mu) w w' := Chg.turned ht rfl
  exact ⟨h1, h2, h3, h4, n1, n2, n3, blk_turned (o := .map #[] 0) hb m3 ht, m1.chg hc (fun e => n2 e), m2.chg hc (fun e => n3 e), m⟩
theorem HIn.lookT {w : World} {F : Nat → Prop} {p mt mf mu : Nat} {s : HSt} (h : HIn w F p mt mf mu s) (a : ByteArray) : (Instr.lookup 54 (.map (some mt)) (.string a) false).run Try.prog w = .ok (.int .i64 ((aget s.t a).getD 0)) w := by
  obtain ⟨h1, h2, h3, h4, n1, n2, n3, hb, m1, m2, m3⟩ := h
  exact m1.look (z := (0 : Int)) (KeyOk.string Try.underlying9) Try.underlying54 (by kernel_rfl) a false
theorem HIn.lookF {w : World} {F : Nat → Prop} {p mt mf mu : Nat} {s : HSt} (h : HIn w F p mt mf mu s) (a : ByteArray) : (Instr.lookup 54 (.map (some mf)) (.string a) false).run Try.prog w = .ok (.int .i64 ((aget s.f a).getD 0)) w := by
  obtain ⟨h1, h2, h3, h4, n1, n2, n3, hb, m1, m2, m3⟩ := h
  exact m2.look (z := (0 : Int)) (KeyOk.string Try.underlying9) Try.underlying54 (by kernel_rfl) a false
theorem HIn.lookU {w : World} {F : Nat → Prop} {p mt mf mu : Nat} {s : HSt} (h : HIn w F p mt mf mu s) (a : ByteArray) : (Instr.lookup 82 (.map (some mu)) (.string a) false).run Try.prog w = .ok (.int .i64 ((aget s.u a).getD 0)) w := by
  obtain ⟨h1, h2, h3, h4, n1, n2, n3, hb, m1, m2, m3⟩ := h
  exact m3.look (z := (0 : Int)) (KeyOk.string Try.underlying9) Try.underlying82 (by kernel_rfl) a false
theorem HIn.mt {w : World} {F : Nat → Prop} {p mt mf mu : Nat} {s : HSt} (h : HIn w F p mt mf mu s) : MapK kS vI w mt s.t := h.2.2.2.2.2.2.2.2.1
theorem HIn.mf {w : World} {F : Nat → Prop} {p mt mf mu : Nat} {s : HSt} (h : HIn w F p mt mf mu s) : MapK kS vI w mf s.f := h.2.2.2.2.2.2.2.2.2.1
theorem HIn.mu {w : World} {F : Nat → Prop} {p mt mf mu : Nat} {s : HSt} (h : HIn w F p mt mf mu s) : MapK kS vI w mu s.u := h.2.2.2.2.2.2.2.2.2.2
theorem HIn.fs {w : World} {F : Nat → Prop} {p mt mf mu : Nat} {s : HSt} (h : HIn w F p mt mf mu s) : F mt ∧ F mf ∧ F mu := ⟨h.2.1, h.2.2.1, h.2.2.2.1⟩

set_option maxHeartbeats 1000000 in
set_option maxRecDepth 100000 in
theorem good_calls (F : Nat → Prop) (p : Nat) (s : HSt) (aim : ByteArray) (w : World) (hh : HAt w F p s) :
    Calls Try.prog 15 #[.pointer (some ⟨p, 0, none⟩), .string aim] w fun e w' => e = .returned (.tuple #[]) ∧ HAt w' F p (goodM s aim) ∧ Chg F w w' := by
  obtain ⟨mt, mf, mu, hi⟩ := hh
  obtain ⟨c0, c1, c2⟩ := hi.cells
  have HI := Aside0.mk hi
  clear hi
  go_enter Try.func15, Try.ntmps15
  go_wp2_with (at_delete; refine wp_del HI.out.mf rfl _ _ _ _ rfl _ Try.underlying54 (KeyOk.string Try.underlying9) rfl aim rfl ?_; intro w1 m1 t1)
  go_end0
  exact ⟨rfl, ⟨_, _, _, HI.out.turnF m1 t1⟩, Chg.turned t1 HI.out.fs.2.1⟩

set_option maxHeartbeats 1000000 in
set_option maxRecDepth 100000 in
theorem bad_calls (F : Nat → Prop) (p : Nat) (s : HSt) (aim : ByteArray) (now fails cool : Int) (q0 q1 q2 q3 : Value) (q4 q5 : Int) (w : World) (hh : HAt w F p s) :
    Calls Try.prog 14 #[.pointer (some ⟨p, 0, none⟩), .string aim, .int .i64 now, .agg #[q0, q1, q2, q3, .int .i64 q4, .int .i64 q5, .int .i64 fails, .int .i64 cool]] w fun e w' => e = .returned (.bool (badM s aim now fails cool).2) ∧ HAt w' F p (badM s aim now fails cool).1 ∧ Chg F w w' := by
  obtain ⟨mt, mf, mu, hi⟩ := hh
  have hi1 := hi.alloc (.cells #[q0, q1, q2, q3, .int .i64 q4, .int .i64 q5, .int .i64 fails, .int .i64 cool] 39)
  have hq := heap_alloc_new w (.cells #[q0, q1, q2, q3, .int .i64 q4, .int .i64 q5, .int .i64 fails, .int .i64 cool] 39)
  have HQ := Aside0.mk hq
  have HI := Aside0.mk hi1
  have HW := Aside0.mk (below_alloc (Below.refl w.heap.size w) (.cells #[q0, q1, q2, q3, .int .i64 q4, .int .i64 q5, .int .i64 fails, .int .i64 cool] 39))
  obtain ⟨c0, c1, c2⟩ := hi1.cells
  have lf := hi1.lookF aim
  clear hq hi1 hi
  go_enter Try.func14, Try.ntmps14
  go_wp2_with (at_mapUpdate; refine wp_store HI.out.mf rfl _ _ _ _ rfl _ _ Try.underlying54 (KeyOk.string Try.underlying9) rfl aim rfl _ rfl ?_; intro w1 m1 t1; have I1 := Aside0.mk (HI.out.turnF m1 t1); have Q1 := Aside0.mk (blk_turned (o := .map #[] 0) HQ.out HI.out.mf t1); have T1 := Aside0.mk ((Chg.of_below (F := F) HW.out).trans (Chg.turned t1 HI.out.fs.2.1)); clear m1 t1 lf c0 c1 c2)
  obtain ⟨c0, c1, c2⟩ := I1.out.cells
  have q6 : w1.cell? ⟨w.heap.size, 6, none⟩ = some (.int .i64 fails) := (blk_cell Q1.out 6).trans rfl
  have lf := fun n => (I1.out.drewN n).lookF aim
  simp only [aget_aput, if_true, Option.getD_some] at lf
  clear HI HQ HW
  go_quiet (fail)
  clear lf
  have I2 := Aside0.mk (I1.out.drewN nq)
  have Q2 : Aside0 ((w1.drewN nq).heap[w.heap.size]? = _) := Aside0.mk Q1.out
  have T2 := Aside0.mk (T1.out.drewN nq)
  clear I1 Q1 T1 c0 c1 c2 q6
  generalize w1.drewN nq = w2 at *
  obtain ⟨c0, c1, c2⟩ := I2.out.cells
  have q7 : w2.cell? ⟨w.heap.size, 7, none⟩ = some (.int .i64 cool) := (blk_cell Q2.out 7).trans rfl
  by_cases hlt : wrap64 ((aget s.f aim).getD 0 + 1) < fails
  · go_wp2
    go_ret
    unfold badM
    rw [if_pos hlt]
    exact ⟨rfl, ⟨_, _, _, I2.out⟩, T2.out⟩
  · go_wp2_with (first | (at_mapUpdate; refine wp_store I3.out.mu rfl _ _ _ _ rfl _ _ Try.underlying82 (KeyOk.string Try.underlying9) rfl aim rfl _ rfl ?_; intro w4 m4 t4) | (at_delete; refine wp_del I2.out.mf rfl _ _ _ _ rfl _ Try.underlying54 (KeyOk.string Try.underlying9) rfl aim rfl ?_; intro w3 m3 t3; have I3 := Aside0.mk (I2.out.turnF m3 t3); have T3 := Aside0.mk (T2.out.trans (Chg.turned t3 I2.out.fs.2.1)); replace q7 := (blk_cell (blk_turned (o := .map #[] 0) Q2.out I2.out.mf t3) 7).trans rfl; clear m3 t3 c0 c1 c2; obtain ⟨c0, c1, c2⟩ := I3.out.cells))
    go_still_tail 9, (by kernel_rfl)
    have I4 : Aside0 (HIn (w3.drewN 1) F p mt mf mu _) := Aside0.mk (I3.out.drewN 1)
    have T4 : Aside0 (Chg F w (w3.drewN 1)) := Aside0.mk (T3.out.drewN 1)
    change wpList _ _ _ _ _ (w3.drewN 1)
    clear I2 I3 T2 T3 Q2
    generalize w3.drewN 1 = w4 at *
    go_wp2_with (at_mapUpdate; refine wp_store I4.out.mu rfl _ _ _ _ rfl _ _ Try.underlying82 (KeyOk.string Try.underlying9) rfl aim rfl (IntKind.i64.wrap (now + cool)) rfl ?_; intro w5 m5 t5)
    have e5 : IntKind.i64.wrap (now + cool) = wrap64 (now + cool) := by rw [IntKind.wrap_i64]; unfold wrap64; omega
    rw [e5] at m5
    go_ret
    unfold badM
    rw [if_neg (by omega)]
    exact ⟨rfl, ⟨_, _, _, I4.out.turnU m5 t5⟩, T4.out.trans (Chg.turned t5 I4.out.fs.2.2)⟩

set_option maxHeartbeats 4000000 in
set_option maxRecDepth 100000 in
theorem pick_calls (F : Nat → Prop) (p : Nat) (s : HSt) (name : ByteArray) (A : Option Addr) (c : Nat) (aims : List ByteArray) (now : Int) (s' : HSt) (r : ByteArray) (e : Int) (w : World) (hh : HAt w F p s)
    (hr : Kd.C Kd.string w A aims.length aims) (hp : pickM s name aims now aims.length 0 = some (s', r, e)) :
    Calls Try.prog 12 #[.pointer (some ⟨p, 0, none⟩), .agg #[.string name, .slice A aims.length c], .int .i64 now] w fun ed w' => ed = .returned (.tuple #[.string r, .int .i64 e]) ∧ HAt w' F p s' ∧ Chg F w w' := by
  obtain ⟨mt, mf, mu, hi⟩ := hh
  have hm : aims.length ≤ 9223372036854775807 := hr.2.1
  have hb1 := below_alloc (Below.refl w.heap.size w) (.cells #[.string name, .slice A aims.length c] 32)
  have HI := Aside0.mk (hi.alloc (.cells #[.string name, .slice A aims.length c] 32))
  have HQ := Aside0.mk (heap_alloc_new w (.cells #[.string name, .slice A aims.length c] 32))
  have HW := Aside0.mk hb1
  have HR := Aside0.mk (Kd.C_below hr hb1)
  have HP := Aside0.mk hp
  have q1 : (w.alloc (.cells #[.string name, .slice A aims.length c] 32)).cell? ⟨w.heap.size, 1, none⟩ = some (.slice A aims.length c) := (blk_cell HQ.out 1).trans rfl
  clear hi hb1 hr hp
  go_enter Try.func12, Try.ntmps12
  go_wp2
  generalize w.alloc (.cells #[.string name, .slice A aims.length c] 32) = w1 at *
  go_loopw [13] (fun v13 wr => ∃ k : Nat, k ≤ aims.length ∧ v13 = .int .i64 k ∧ Aside0 (pickM s name aims now (aims.length - k) k = some (s', r, e)) ∧ Aside0 (Drawn0 w1 wr)) (fun v13 _ => aims.length - (intOf v13).toNat)
  case atStart => exact ⟨0, Nat.zero_le _, rfl, HP, ⟨Drawn0.refl _⟩⟩
  case round =>
    obtain ⟨k, hk, rfl, HK, HD⟩ := hrel
    clear HP
    by_cases hlt : k < aims.length
    · have hI : HIn wr F p mt mf mu s := by obtain ⟨nd, hnd⟩ := HD.out; rw [hnd]; exact HI.out.drewN nd
      have hQ : wr.heap[w.heap.size]? = some (.cells #[.string name, .slice A aims.length c] 32) := by obtain ⟨nd, hnd⟩ := HD.out; rw [hnd]; exact HQ.out
      have hW : Below w.heap.size w wr := by obtain ⟨nd, hnd⟩ := HD.out; rw [hnd]; exact pw_below_drewN HW.out nd
      have hR : Kd.C Kd.string wr A aims.length aims := by obtain ⟨nd, hnd⟩ := HD.out; rw [hnd]; exact Kd.C_drewN HR.out nd
      clear q1
      have H := HK.out
      rw [show aims.length - k = (aims.length - (k + 1)) + 1 from by omega] at H
      simp only [pickM] at H
      have hne : ¬ (aims.length : Int) = 0 := by omega
      have hat1 : Int.tmod (wrap64 ((aget s.t name).getD 0 + (k : Int))) (aims.length : Int) < (aims.length : Int) := Int.tmod_lt_of_pos _ (by omega)
      by_cases hat0 : 0 ≤ Int.tmod (wrap64 ((aget s.t name).getD 0 + (k : Int))) (aims.length : Int)
      · rw [if_pos hat0] at H
        have q0 : wr.cell? ⟨w.heap.size, 0, none⟩ = some (.string name) := (blk_cell hQ 0).trans rfl
        have q1 : wr.cell? ⟨w.heap.size, 1, none⟩ = some (.slice A aims.length c) := (blk_cell hQ 1).trans rfl
        obtain ⟨c0, c1, c2⟩ := hI.cells
        have lt := fun n => (hI.drewN n).lookT name
        have HH := Aside0.mk H
        have HIr := Aside0.mk hI
        have HQr := Aside0.mk hQ
        have HWr := Aside0.mk hW
        have HRr := Aside0.mk hR
        clear hI hQ hW hR H
        go_wp2
        go_quiet (fail)
        have hI : HIn (wr.drewN nq) F p mt mf mu s := HIr.out.drewN nq
        have hQ : (wr.drewN nq).heap[w.heap.size]? = some (.cells #[.string name, .slice A aims.length c] 32) := HQr.out
        have hW : Below w.heap.size w (wr.drewN nq) := pw_below_drewN HWr.out nq
        have hR : Kd.C Kd.string (wr.drewN nq) A aims.length aims := Kd.C_drewN HRr.out nq
        have hDn : Aside0 (Drawn0 w1 (wr.drewN nq)) := ⟨HD.out.step nq⟩
        clear HIr HQr HWr HRr HD q0 q1 c0 c1 c2 lt
        generalize wr.drewN nq = wq at *
        have hS := sick_calls F p s (rdOf ByteArray.empty aims (Int.tmod (wrap64 ((aget s.t name).getD 0 + (k : Int))) (aims.length : Int))) now wq ⟨_, _, _, hI⟩
        have HS := Aside0.mk hS
        obtain ⟨ad, rfl, hx⟩ := Kd.at_string hR (Int.tmod (wrap64 ((aget s.t name).getD 0 + (k : Int))) (aims.length : Int)) hat0 hat1
        have q0 : wq.cell? ⟨w.heap.size, 0, none⟩ = some (.string name) := (blk_cell hQ 0).trans rfl
        have q1 : wq.cell? ⟨w.heap.size, 1, none⟩ = some (.slice (some ad) aims.length c) := (blk_cell hQ 1).trans rfl
        obtain ⟨c0, c1, c2⟩ := hI.cells
        have HI1 := Aside0.mk hI
        have HQ1 := Aside0.mk hQ
        have HW1 := Aside0.mk hW
        clear hI hQ hW hS hR
        generalize hat : Int.tmod (wrap64 ((aget s.t name).getD 0 + (k : Int))) (aims.length : Int) = at_ at *
        clear hat
        cases hs : sickM s (rdOf ByteArray.empty aims at_) now with
        | true =>
          rw [if_pos hs] at HH
          rw [hs] at HS
          go_wp2_with (go_at_call 17; (with_reducible refine HS.out.mono ?_); rintro e w' ⟨rfl, rfl⟩)
          go_roundw
          case rel => exact ⟨k + 1, by omega, by go_num, HH, hDn⟩
          case measure => simp [intOf]; omega
        | false =>
          rw [if_neg (by rw [hs]; simp)] at HH
          rw [hs] at HS
          obtain ⟨h1, h2, h3⟩ := (by simpa using HH.out : _ ∧ _ ∧ _)
          subst h1 h2 h3
          go_wp2_with (go_at_call 17; (with_reducible refine HS.out.mono ?_); rintro e w' ⟨rfl, rfl⟩)
          go_still_tail 8, (by kernel_rfl)
          have I4 : Aside0 (HIn (w'.drewN 1) F p mt mf mu _) := Aside0.mk (HI1.out.drewN 1)
          have T4 : Aside0 (Chg F w (w'.drewN 1)) := Aside0.mk ((Chg.of_below HW1.out).drewN 1)
          replace q1 : (w'.drewN 1).cell? ⟨w.heap.size, 1, none⟩ = some (.slice (some ad) aims.length c) := q1
          replace hx : (w'.drewN 1).cell? (ad.add at_.toNat) = some (.string (rdOf ByteArray.empty aims at_)) := hx
          change wpList _ _ _ _ _ (w'.drewN 1)
          clear HI1 HQ1 HW1 HS HH hDn q0 c0 c1 c2
          generalize w'.drewN 1 = w4 at *
          go_wp2_with (at_mapUpdate; refine wp_store I4.out.mt rfl _ _ _ _ rfl _ _ Try.underlying54 (KeyOk.string Try.underlying9) rfl name rfl (IntKind.i64.wrap (at_ + 1)) rfl ?_; intro w5 m5 t5; replace q1 := cell_turned q1 I4.out.mt t5; replace hx := cell_turned hx I4.out.mt t5)
          have e5 : IntKind.i64.wrap (at_ + 1) = wrap64 (at_ + 1) := by rw [IntKind.wrap_i64]; unfold wrap64; omega
          rw [e5] at m5
          go_ret2
          exact ⟨rfl, ⟨_, _, _, I4.out.turnT m5 t5⟩, T4.out.trans (Chg.turned t5 I4.out.fs.1)⟩
      · rw [if_neg hat0] at H; cases H
    · have H := HK.out
      rw [show aims.length - k = 0 from by omega] at H
      simp only [pickM, Option.some.injEq, Prod.mk.injEq] at H
      obtain ⟨rfl, rfl, rfl⟩ := H
      have hI : HIn wr F p mt mf mu s := by obtain ⟨nd, hnd⟩ := HD.out; rw [hnd]; exact HI.out.drewN nd
      have hW : Below w.heap.size w wr := by obtain ⟨nd, hnd⟩ := HD.out; rw [hnd]; exact pw_below_drewN HW.out nd
      go_wp2
      go_ret2
      exact ⟨rfl, ⟨_, _, _, hI⟩, Chg.of_below hW⟩
end Go.Proofs.Ytffockklleanmaa.X
