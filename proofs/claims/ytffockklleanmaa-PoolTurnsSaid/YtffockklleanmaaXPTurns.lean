/- PoolTurns: its walk. -/
import Derived.Test.YtffockklleanmaaXCare
import Derived.Test.YtffockklleanmaaXBits
import Derived.Test.YtffockklleanmaaXRange
namespace Go.Proofs.Ytffockklleanmaa.X
open Go.RowKit Go.MapKept Go.ChangeMaps Go.Proofs.YtffockklleanmaaW.PrintWords Go.Proofs.YtffockklleanmaaW.PrintLast Go.Proofs.YtffockklleanmaaW.PrintMore
attribute [local go_sem] max2_int min2_int max_two min_two max_three min_three max_four min_four
set_option linter.unusedVariables false



def aim (i : Nat) : ByteArray := ⟨#[(97 + i).toUInt8]⟩
def aimsM (n : Nat) : List ByteArray := (List.range n).map aim
theorem info_s : (Try.prog.info? 9).map (fun i => (i.zero, i.size, i.bytes)) = some (some (.string ⟨#[]⟩), 1, 16) := by kernel_rfl
theorem str_aim (i : Nat) (h : i ≤ 20) : strOfNums [97 + (i : Int)] = aim i := by
  show (⟨#[((97 + (i : Int)).toNat).toUInt8]⟩ : ByteArray) = ⟨#[(97 + i).toUInt8]⟩
  rw [show (97 + (i : Int)).toNat = 97 + i from by omega]
theorem aims_succ (i : Nat) : aimsM (i + 1) = aimsM i ++ [aim i] := by unfold aimsM; rw [List.range_succ, List.map_append]; rfl
theorem aims_len (i : Nat) : (aimsM i).length = i := by unfold aimsM; simp
theorem C_byte {w : World} {g : Nat} {t : TypeId} {fr : Nat × Nat} (x : Int) (h : w.heap[g]? = some (.cells #[.int .u8 x] t fr)) : (Kd.int .u8).C w (some ⟨g, 0, none⟩) [x].length [x] := by
  refine Kd.C_of_reads (enc := Value.int .u8) (d := (0 : Int)) ⟨rfl, by simp, fun _ => ⟨_, rfl, fun j hj => ?_⟩⟩
  rw [add_plain, cell_of_row w g j _ _ _ h]
  simp only [List.length_cons, List.length_nil] at hj
  have : j = 0 := by omega
  subst this; rfl
theorem rd_aim (m i : Nat) (h : i < m) : rdOf ByteArray.empty (aimsM m) (i : Int) = aim i := by
  unfold rdOf aimsM
  rw [Int.toNat_natCast, List.getD_eq_getElem?_getD, List.getElem?_map, List.getElem?_range h]; rfl
/-- the turns behind k rounds and i picks of one of n -/
def tt (n k i : Nat) : List (ByteArray × Int) := if i = 0 then (if k = 0 then [] else [(sU, (n : Int))]) else [(sU, (i : Int))]
theorem tt_get (n k i : Nat) : (aget (tt n k i) sU).getD 0 = if i = 0 then (if k = 0 then 0 else (n : Int)) else (i : Int) := by
  unfold tt
  split
  · split <;> simp [aget]
  · simp [aget]
theorem tt_put (n k i : Nat) (x : Int) : aput (tt n k i) sU x = [(sU, x)] := by
  unfold tt
  split
  · split <;> simp [aput]
  · simp [aput]
theorem pick_tt (n k i : Nat) (now : Int) (hn : n ≤ 7) (hi : i < n + 1) (hnow : 0 ≤ now) : pickM ⟨tt (n + 1) k i, [], []⟩ sU (aimsM (n + 1)) now (aimsM (n + 1)).length 0 = some (⟨tt (n + 1) k (i + 1), [], []⟩, aim i, 0) := by
  rw [aims_len]
  simp only [pickM, aims_len, tt_get, tt_put]
  have hat : Int.tmod (wrap64 ((if i = 0 then (if k = 0 then 0 else ((n + 1 : Nat) : Int)) else (i : Int)) + ((0 : Nat) : Int))) ((n + 1 : Nat) : Int) = (i : Int) := by
    rw [wrap64_in (by split <;> (try split) <;> omega) (by split <;> (try split) <;> omega)]
    by_cases h0 : i = 0
    · subst h0
      rw [if_pos rfl]
      by_cases hk : k = 0
      · rw [if_pos hk]; simp
      · rw [if_neg hk]; simp [Int.tmod_self]
    · rw [if_neg h0]
      show Int.tmod ((i : Int) + 0) _ = _
      rw [Int.add_zero]; exact Int.tmod_eq_of_lt (by omega) (by omega)
  rw [hat, if_pos (by omega)]
  have hs : ∀ a, sickM ⟨tt (n + 1) k i, [], []⟩ a now = false := by
    intro a
    unfold sickM
    simp only [aget, Option.getD_none]; exact decide_eq_false (by omega)
  rw [hs, if_neg (by simp), rd_aim _ _ hi, wrap64_in (by omega) (by omega)]
  have e : tt (n + 1) k (i + 1) = [(sU, (i : Int) + 1)] := by unfold tt; rw [if_neg (by omega)]; rfl
  rw [e]
theorem tt_full (n k : Nat) : tt (n + 1) k (n + 1) = tt (n + 1) (k + 1) 0 := by unfold tt; simp
/-- the picks while one is sick -/
def runK (n b : Nat) (s0 : HSt) : Nat → Option (HSt × List (ByteArray × Int))
  | 0 => some (s0, [])
  | k + 1 => (runK n b s0 k).bind fun x => (pickM x.1 sU (aimsM (n + 1)) 105 (aimsM (n + 1)).length 0).bind fun y => if y.2.2 = 0 ∧ y.2.1 ≠ aim b then some (y.1, aput x.2 y.2.1 (wrap64 ((aget x.2 y.2.1).getD 0 + 1))) else none
def s0T (n b k : Nat) : HSt := ⟨tt (n + 1) k 0, [], [(aim b, 110)]⟩
def chk (n b r : Nat) : Bool := match runK n b (s0T n b r) (3 * n) with
  | some (s1, met) => met.all (fun p => p.2 == 3) && match pickM s1 sU (aimsM (n + 1)) 109 (aimsM (n + 1)).length 0 with
    | some (s2, _, e2) => ((e2 == 0) == decide (n + 1 > 1)) && match pickM s2 sU (aimsM (n + 1)) 110 (aimsM (n + 1)).length 0 with
      | some (s3, _, e3) => (e3 == 0) && (sickM s3 (aim b) 109) && !(sickM s3 (aim b) 110)
      | none => false
    | none => false
  | none => false
theorem chk_all : ((List.range 8).all fun n => (List.range (n + 1)).all fun b => (List.range 2).all fun r => chk n b r) = true := by decide +kernel
theorem chk_ok (n b r : Nat) (hn : n ≤ 7) (hb : b < n + 1) (hr : r < 2) : chk n b r = true := by
  have h := List.all_eq_true.1 (List.all_eq_true.1 (List.all_eq_true.1 chk_all n (List.mem_range.2 (by omega))) b (List.mem_range.2 hb)) r (List.mem_range.2 hr)
  exact h
theorem s0T_one (n b k : Nat) (hk : k ≠ 0) : s0T n b k = s0T n b 1 := by unfold s0T tt; simp [hk]
theorem chk_k (n b k : Nat) (hn : n ≤ 7) (hb : b < n + 1) : ∃ s1 met s2 a2 e2 s3 a3, runK n b (s0T n b k) (3 * n) = some (s1, met) ∧ (∀ p ∈ met, p.2 = 3) ∧ pickM s1 sU (aimsM (n + 1)) 109 (aimsM (n + 1)).length 0 = some (s2, a2, e2) ∧ (e2 == 0) = decide (n + 1 > 1) ∧
    pickM s2 sU (aimsM (n + 1)) 110 (aimsM (n + 1)).length 0 = some (s3, a3, 0) ∧ sickM s3 (aim b) 109 = true ∧ sickM s3 (aim b) 110 = false := by
  obtain ⟨r, hr, he⟩ : ∃ r, r < 2 ∧ s0T n b k = s0T n b r := by
    by_cases hk : k = 0
    · exact ⟨0, by omega, by rw [hk]⟩
    · exact ⟨1, by omega, s0T_one n b k hk⟩
  have h := chk_ok n b r hn hb hr
  rw [he]
  unfold chk at h
  cases h1 : runK n b (s0T n b r) (3 * n) with
  | none => rw [h1] at h; cases h
  | some x =>
    obtain ⟨s1, met⟩ := x
    rw [h1] at h
    simp only [Bool.and_eq_true] at h
    obtain ⟨hm, h⟩ := h
    cases h2 : pickM s1 sU (aimsM (n + 1)) 109 (aimsM (n + 1)).length 0 with
    | none => rw [h2] at h; cases h
    | some y =>
      obtain ⟨s2, a2, e2⟩ := y
      rw [h2] at h
      simp only [Bool.and_eq_true, beq_iff_eq] at h
      obtain ⟨he2, h⟩ := h
      cases h3 : pickM s2 sU (aimsM (n + 1)) 110 (aimsM (n + 1)).length 0 with
      | none => rw [h3] at h; cases h
      | some z =>
        obtain ⟨s3, a3, e3⟩ := z
        rw [h3] at h
        simp only [Bool.and_eq_true, beq_iff_eq, Bool.not_eq_true'] at h
        obtain ⟨⟨he3, h4⟩, h5⟩ := h
        subst he3
        refine ⟨s1, met, s2, a2, e2, s3, a3, rfl, fun p hp => ?_, h2, he2, h3, h4, h5⟩
        have := List.all_eq_true.1 hm p hp
        simpa using this
theorem runK_le (n b : Nat) (s0 : HSt) : ∀ j k, k ≤ j → (runK n b s0 j).isSome = true → (runK n b s0 k).isSome = true
  | 0, k, h, hs => by
    have : k = 0 := by omega
    rw [this]; exact hs
  | j + 1, k, h, hs => by
    by_cases hk : k = j + 1
    · rw [hk]; exact hs
    · refine runK_le n b s0 j k (by omega) ?_
      simp only [runK] at hs
      cases hr : runK n b s0 j with
      | none => rw [hr] at hs; cases hs
      | some x => rfl
theorem runK_step {n b : Nat} {s0 s : HSt} {met : List (ByteArray × Int)} {j : Nat} (h : runK n b s0 j = some (s, met)) (hs : (runK n b s0 (j + 1)).isSome = true) :
    ∃ s' a, pickM s sU (aimsM (n + 1)) 105 (aimsM (n + 1)).length 0 = some (s', a, 0) ∧ a ≠ aim b ∧ runK n b s0 (j + 1) = some (s', aput met a (wrap64 ((aget met a).getD 0 + 1))) := by
  simp only [runK] at hs ⊢
  rw [h] at hs ⊢
  simp only [Option.bind_some] at hs ⊢
  cases hp : pickM s sU (aimsM (n + 1)) 105 (aimsM (n + 1)).length 0 with
  | none => rw [hp] at hs; cases hs
  | some y =>
    obtain ⟨s', a, e⟩ := y
    rw [hp] at hs
    simp only [Option.bind_some] at hs ⊢
    split at hs
    · rename_i hc
      obtain ⟨rfl, hne⟩ := hc
      refine ⟨s', a, rfl, hne, ?_⟩
      rw [if_pos ⟨rfl, hne⟩]
    · cases hs
theorem bad_tt (n k b : Nat) : badM ⟨tt (n + 1) k 0, [], []⟩ (aim b) 100 1 10 = (s0T n b k, true) := by
  unfold badM s0T
  have e1 : wrap64 ((aget ([] : List (ByteArray × Int)) (aim b)).getD 0 + 1) = 1 := by simp only [aget, Option.getD_none]; exact wrap64_in (by omega) (by omega)
  have e2 : wrap64 (100 + 10) = 110 := by exact wrap64_in (by omega) (by omega)
  simp only [e1, e2]
  rw [if_neg (by omega)]
  simp [aput, adel]
/-- what holds all along: the upstream's variable and its row, the health -/
structure TInv (w W : World) (ub : Nat) (v : Value) (l : List ByteArray) : Prop where
  le : w.heap.size ≤ ub
  up : W.heap[ub]? = some (.cells #[.string sU, v] 32 (0, 0))
  row : Kd.R Kd.string 9 W w.heap.size (fun k => k ≠ ub) v l
  below : Below w.heap.size w W

/-- what holds once the row stands -/
structure UInv (w wr W : World) (ub hi p : Nat) (A : Option Addr) (c n : Nat) (s : HSt) : Prop where
  up : wr.heap[ub]? = some (.cells #[.string sU, .slice A (n + 1) c] 32 (0, 0))
  row : Kd.C Kd.string wr A (aimsM (n + 1)).length (aimsM (n + 1))
  first : Below w.heap.size w wr
  below : Below wr.heap.size wr W
  at_ : HAt W (fun k => wr.heap.size ≤ k ∧ k < hi) p s
  sz : hi ≤ W.heap.size
section
variable {w wr W W' : World} {ub hi p c n : Nat} {A : Option Addr} {s s' : HSt}
theorem UInv.next (h : UInv w wr W ub hi p A c n s) (ha : HAt W' (fun k => wr.heap.size ≤ k ∧ k < hi) p s') (hc : Chg (fun k => wr.heap.size ≤ k ∧ k < hi) W W') : UInv w wr W' ub hi p A c n s' :=
  ⟨h.up, h.row, h.first, h.below.trans (hc.below (fun k hk => hk.1) h.below.size), ha, Nat.le_trans h.sz hc.size⟩
theorem UInv.other (h : UInv w wr W ub hi p A c n s) {F : Nat → Prop} (hc : Chg F W W') (hF : ∀ k, F k → hi ≤ k ∧ wr.heap.size ≤ k) : UInv w wr W' ub hi p A c n s :=
  ⟨h.up, h.row, h.first, h.below.trans (hc.below (fun k hk => (hF k hk).2) h.below.size), h.at_.chg hc (fun k hk hf => by have := (hF k hf).1; omega), Nat.le_trans h.sz hc.size⟩
theorem UInv.cells (h : UInv w wr W ub hi p A c n s) : W.cell? ⟨ub, 0, none⟩ = some (.string sU) ∧ W.cell? ⟨ub, 1, none⟩ = some (.slice A (n + 1) c) :=
  ⟨(blk_cell (blk_below h.up h.below) 0).trans rfl, (blk_cell (blk_below h.up h.below) 1).trans rfl⟩
theorem UInv.pick {r : ByteArray} {e now : Int} (h : UInv w wr W ub hi p A c n s) (hp : pickM s sU (aimsM (n + 1)) now (aimsM (n + 1)).length 0 = some (s', r, e)) :
    Calls Try.prog 12 #[.pointer (some ⟨p, 0, none⟩), .agg #[.string { data := #[117] }, .slice A (n + 1) c], .int .i64 now] W fun ed W' => ed = .returned (.tuple #[.string r, .int .i64 e]) ∧ UInv w wr W' ub hi p A c n s' ∧ Chg (fun k => wr.heap.size ≤ k ∧ k < hi) W W' := by
  have hpc := pick_calls _ p s sU A c (aimsM (n + 1)) now s' r e W h.at_ (Kd.C_below h.row h.below) hp
  rw [aims_len] at hpc
  refine hpc.mono ?_
  rintro ed W' ⟨h1, h2, h3⟩
  exact ⟨h1, h.next h2 h3, h3⟩
theorem UInv.bad {a : ByteArray} {b : Bool} {now f cl : Int} (h : UInv w wr W ub hi p A c n s) (hp : badM s a now f cl = (s', b)) :
    Calls Try.prog 14 #[.pointer (some ⟨p, 0, none⟩), .string a, .int .i64 now, .agg #[.slice none 0 0, .slice none 0 0, .slice none 0 0, .slice none 0 0, .int .i64 0, .int .i64 0, .int .i64 f, .int .i64 cl]] W fun ed W' => ed = .returned (.bool b) ∧ UInv w wr W' ub hi p A c n s' := by
  refine (bad_calls _ p s a now f cl _ _ _ _ 0 0 W h.at_).mono ?_
  rintro ed W' ⟨h1, h2, h3⟩
  rw [hp] at h1 h2
  exact ⟨h1, h.next h2 h3⟩
theorem UInv.sick {a : ByteArray} {b : Bool} {now : Int} (h : UInv w wr W ub hi p A c n s) (hp : sickM s a now = b) :
    Calls Try.prog 17 #[.pointer (some ⟨p, 0, none⟩), .string a, .int .i64 now] W fun ed W' => ed = .returned (.bool b) ∧ W' = W := by
  rw [← hp]
  exact sick_calls _ p s a now W h.at_
theorem UInv.aim_cell {ad : Addr} (h : UInv w wr W ub hi p (some ad) c n s) (i : Nat) (hi' : i < n + 1) : W.cell? (ad.add i) = some (.string (aim i)) := by
  obtain ⟨ad, e, hx⟩ := Kd.at_string (Kd.C_below h.row h.below) (i : Int) (by omega) (by rw [aims_len]; omega)
  cases e
  rw [rd_aim _ _ hi', Int.toNat_natCast] at hx
  exact hx
end
set_option maxHeartbeats 4000000 in
set_option maxRecDepth 100000 in
theorem poolTurns_calls (a0 a1 a2 : Int) (w : World) : Calls Try.prog 4 #[.int .i64 a0, .int .i64 a1, .int .i64 a2] w fun e w' => e = .returned (.bool true) ∧ Below w.heap.size w w' := by
  have hx1 := and7 a0
  have hx2 := and15 a2
  have hx3 := and1023 a1
  obtain ⟨n, hn⟩ : ∃ n : Nat, a0 % 8 = (n : Int) := ⟨(a0 % 8).toNat, by omega⟩
  obtain ⟨rd_, hr⟩ : ∃ n : Nat, a2 % 16 = (n : Int) := ⟨(a2 % 16).toNat, by omega⟩
  rw [hn] at hx1
  rw [hr] at hx2
  have hn8 : n ≤ 7 := by omega
  obtain ⟨b, hbm, hbl⟩ : ∃ b : Nat, Int.tmod (a1 % 1024) (1 + (n : Int)) = (b : Int) ∧ b < n + 1 := by
    have h1 := Int.tmod_lt_of_pos (a1 % 1024) (show (0 : Int) < 1 + (n : Int) by omega)
    have h0 := Int.tmod_nonneg (1 + (n : Int)) (show 0 ≤ a1 % 1024 by omega)
    exact ⟨(Int.tmod (a1 % 1024) (1 + (n : Int))).toNat, by omega, by omega⟩
  have HBL := Aside0.mk hbl
  have hr15 : rd_ ≤ 15 := by omega
  go_enter Try.func4, Try.ntmps4
  go_wp2_with (first | (go_at_call 10; (with_reducible refine (caring_calls _).mono ?_); rintro e w0 ⟨rfl, hb⟩; have HB := Aside0.mk hb; clear hb))
  have hI0 : TInv w (w0.alloc (.cells #[.string sU, .slice none 0 0] 32)) w0.heap.size (.slice none 0 0) (aimsM 0) :=
    ⟨HB.out.size, heap_alloc_new w0 _, Kd.R_nil _ _ _ _ _, below_alloc HB.out _⟩
  have HI := Aside0.mk hI0
  clear hI0
  generalize w0.heap.size = ub at *
  go_loopw [8] (fun v8 wr => ∃ (i : Nat) (v : Value), i ≤ n + 1 ∧ v8 = .int .i64 i ∧ Aside0 (TInv w wr ub v (aimsM i))) (fun v8 _ => n + 1 - (intOf v8).toNat)
  case atStart => exact ⟨0, _, by omega, rfl, HI⟩
  case round =>
    obtain ⟨i, v, hi, rfl, HK⟩ := hrel
    by_cases hlt : i < n + 1
    · have q1 : wr.cell? ⟨ub, 1, none⟩ = some v := (blk_cell HK.out.up 1).trans rfl
      obtain ⟨A1, c1, rfl, hc1, hC1⟩ := Kd.R_reads HK.out.row
      have hcv : (convert 53 9 (.slice (some ⟨wr.heap.size, 0, none⟩) 1 1)).run Try.prog (wr.alloc (.cells #[.int .u8 (97 + (i : Int))] 5)) = .ok (.string (aim i)) (wr.alloc (.cells #[.int .u8 (97 + (i : Int))] 5)) := by
        rw [← str_aim i (by omega)]
        exact Kd.C_string (A := some ⟨wr.heap.size, 0, none⟩) (n := 1) (xs := [97 + (i : Int)]) Try.underlying53 Try.underlying5 Try.underlying9 (C_byte _ (heap_alloc_new wr _))
      have HU := Aside0.mk (blk_alloc HK.out.up (.cells #[.int .u8 (97 + (i : Int))] 5))
      have HB2 := Aside0.mk (below_alloc HK.out.below (.cells #[.int .u8 (97 + (i : Int))] 5))
      have HR2 := Aside0.mk (Kd.R_alloc HK.out.row (.cells #[.int .u8 (97 + (i : Int))] 5))
      have HL2 : Aside0 (ub < wr.heap.size) := ⟨blk_lt HK.out.up⟩
      have HLe := Aside0.mk HK.out.le
      have HM : Aside0 ((aimsM i).length ≤ 8) := ⟨by rw [aims_len]; omega⟩
      clear hC1
      go_wp2_with (at_builtin; go_loud (refine Kd.R_append Kd.string (w0 := w) w.heap.size rfl (.tmp 39) (.tmp 45) 30 9 (.string ⟨#[]⟩) 16 rfl Try.underlying30 info_s rfl (by decide) (by omega) (.slice A1 (aimsM i).length c1) (aimsM i) (aim i) [.string (aim i)] (fun k => k ≠ ub) (fun _ => False) rfl ?aX ?aP (fun _ hk => hk.elim) ?aF ?aO ?aB ?aS ?aL ?_; (case aX => rw [World.size_alloc]; rfl); (case aP => exact rfl); (case aF => exact (fun k hk => by have := HL2.out; simp at hk; omega)); (case aO => exact HR2.out); (case aB => exact HB2.out); (case aS => exact HB2.out.size); (case aL => have := HM.out; omega); intro v1 w1 ho hb hg hat; obtain ⟨A3, c3, rfl⟩ := Kd.R_slice ho; have HO3 := Aside0.mk ho; have HB3 := Aside0.mk hb; have HU3 := Aside0.mk (blk_grown HU.out hg (Kd.R_away HR2.out (fun k hk => hk))); have q3 : w1.cell? ⟨ub, 1, none⟩ = some (.slice A1 (aimsM i).length c1) := (blk_cell HU3.out 1).trans rfl; have f3 := blk_frozen HU3.out 1; clear ho hb hg hat))
      go_roundw
      case rel =>
        refine ⟨i + 1, _, by omega, by go_num, ⟨⟨HLe.out, blk_put HU3.out 1 _ rfl, ?_, below_set HB3.out HLe.out⟩⟩⟩
        rw [aims_succ]
        have h := Kd.R_far (p := ⟨ub, 1, none⟩) HO3.out (fun k hk => hk) (.slice A3 (aimsM i ++ [aim i]).length c3)
        rw [List.length_append] at h
        exact h
      case measure => simp [intOf]; omega
    · have hin : i = n + 1 := by omega
      subst hin
      obtain ⟨A1, c1, rfl, hc1, hC1⟩ := Kd.R_reads HK.out.row
      have HC1 := Aside0.mk hC1
      clear hC1 HB HI
      go_wp2_with (first | (go_at_call 9; (with_reducible refine (newHealth_calls _).mono ?_); rintro e w1 ⟨p, rfl, hh, hb⟩; have HH := Aside0.mk hh; have HW := Aside0.mk hb; clear hh hb))
      obtain ⟨ad, rfl, _⟩ := Kd.at_string HC1.out 0 (by omega) (by rw [aims_len]; omega)
      have HI := Aside0.mk (show UInv w wr w1 ub w1.heap.size p (some ad) c1 n ⟨tt (n + 1) 0 0, [], []⟩ from ⟨by have h := HK.out.up; rw [aims_len] at h; exact h, HC1.out, HK.out.below, HW.out, HH.out, Nat.le_refl _⟩)
      generalize w1.heap.size = hi at *
      clear HH HW HC1 HK
      generalize wr = wz at *
      go_loopw [10] (fun v10 W => ∃ k : Nat, k ≤ rd_ ∧ v10 = .int .i64 k ∧ Aside0 (UInv w wz W ub hi p (some ad) c1 n ⟨tt (n + 1) k 0, [], []⟩)) (fun v10 _ => rd_ - (intOf v10).toNat)
      case atStart => exact ⟨0, by omega, rfl, HI⟩
      case round =>
        obtain ⟨k, hk, rfl, HK⟩ := hrel
        by_cases hlt : k < rd_
        · go_wp2
          go_loopw [11] (fun v11 Wi => ∃ i : Nat, i ≤ n + 1 ∧ v11 = .int .i64 i ∧ Aside0 (UInv w wz Wi ub hi p (some ad) c1 n ⟨tt (n + 1) k i, [], []⟩)) (fun v11 _ => n + 1 - (intOf v11).toNat)
          case atStart => exact ⟨0, by omega, rfl, HK⟩
          case round =>
            obtain ⟨i, hi1, rfl, HK1⟩ := hrel
            by_cases hlt1 : i < n + 1
            · obtain ⟨q0, q1⟩ := HK1.out.cells
              have HLT := Aside0.mk hlt1
              have hlen := aims_len (n + 1)
              go_wp2_with (go_at_call 12; (with_reducible refine (HK1.out.pick (pick_tt n k i _ ?_ ?_ ?_)).mono ?_); omega; omega; omega; rintro e W2 ⟨rfl, h2, _⟩; have H2 := Aside0.mk h2; obtain ⟨q0, q1⟩ := h2.cells; have hx := h2.aim_cell i HLT.out)
              exact ⟨⟨i + 1, by omega, by go_num, H2⟩, by simp [intOf]; omega⟩
            · have e1 : i = n + 1 := by omega
              subst e1
              rw [tt_full] at HK1
              go_wp2
              go_roundw
              case rel => exact ⟨k + 1, by omega, by go_num, HK1⟩
              case measure => simp [intOf]; omega
        · have hkr : k = rd_ := by omega
          subst hkr
          obtain ⟨q0, q1⟩ := HK.out.cells
          have hx := HK.out.aim_cell b HBL.out
          have hne : ¬ (1 + (n : Int)) = 0 := by omega
          go_wp2
          go_quiet (fail)
          have HK2 : Aside0 (UInv w wz (wr.drewN nq) ub hi p (some ad) c1 n ⟨tt (n + 1) k 0, [], []⟩) := ⟨HK.out.other ((Chg.refl (fun _ => False) wr).drewN nq) (fun _ h => h.elim)⟩
          clear HK q0 q1 hx HI hne
          generalize wr.drewN nq = W1 at *
          obtain ⟨s1, met, s2, a2, e2, s3, a3, hk1, hk2, hk3, hk4, hk5, hk6, hk7⟩ := chk_k n b k hn8 HBL.out
          have HC := Aside0.mk (show runK n b (s0T n b k) (3 * n) = some (s1, met) ∧ (∀ p ∈ met, p.2 = 3) ∧ pickM s1 sU (aimsM (n + 1)) 109 (aimsM (n + 1)).length 0 = some (s2, a2, e2) ∧ pickM s2 sU (aimsM (n + 1)) 110 (aimsM (n + 1)).length 0 = some (s3, a3, 0) ∧ sickM s3 (aim b) 109 = true ∧ sickM s3 (aim b) 110 = false from ⟨hk1, hk2, hk3, hk5, hk6, hk7⟩)
          have HE := Aside0.mk hk4
          clear hk1 hk2 hk3 hk4 hk5 hk6 hk7
          have hmm := @run_makeMap Try.prog
          go_wp2_with (go_at_call 14; (with_reducible refine (HK2.out.bad (bad_tt n k b)).mono ?_); rintro e W2 ⟨rfl, h2⟩; have H2 := Aside0.mk h2)
          have HM0 := Aside0.mk (MapK.made W2 kS vI (κ := ByteArray) (ν := Int))
          have H3 := Aside0.mk (H2.out.other (Chg.of_below (F := fun _ => False) (below_alloc (Below.refl _ W2) (.map #[] 0))) (fun _ h => h.elim))
          have HS := Aside0.mk H2.out.sz
          have HZ := Aside0.mk H2.out.below.size
          generalize W2.alloc (.map #[] 0) = W3 at *
          generalize W2.heap.size = mb at *
          clear HK2 h2 H2 hmm
          go_loopw [16] (fun v16 Wi => ∃ (j : Nat) (s : HSt) (mt : List (ByteArray × Int)), j ≤ 3 * n ∧ v16 = .int .i64 j ∧ Aside0 (runK n b (s0T n b k) j = some (s, mt)) ∧ Aside0 (UInv w wz Wi ub hi p (some ad) c1 n s) ∧ Aside0 (MapK kS vI Wi mb mt)) (fun v16 _ => 3 * n - (intOf v16).toNat)
          case atStart => exact ⟨0, _, _, by omega, rfl, ⟨rfl⟩, H3, HM0⟩
          case round =>
            obtain ⟨j, s, mt, hj, rfl, HR, HU, HM⟩ := hrel
            by_cases hlt2 : j < 3 * n
            · obtain ⟨s', a, hp, hne, hr2⟩ := runK_step HR.out (runK_le n b _ (3 * n) (j + 1) (by omega) (by rw [HC.out.1]; rfl))
              obtain ⟨q0, q1⟩ := HU.out.cells
              have HP := Aside0.mk hp
              have HR2 := Aside0.mk hr2
              have hab : (a.toList == (aim b).toList) = false := by
                rw [beq_eq_false_iff_ne]
                intro e
                apply hne
                rw [Lib.toList_data, Lib.toList_data] at e
                exact L_inj e
              clear hp hr2 hne
              go_wp2_with (first | (go_at_call 12; (with_reducible refine (HU.out.pick HP.out).mono ?_); rintro e W4 ⟨rfl, h4, hc4⟩; have H4 := Aside0.mk h4; have HM4 := Aside0.mk (HM.out.chg hc4 (fun hh => by have := HS.out; omega)); have hl := HM4.out.look (t := 54) (z := (0 : Int)) (P := Try.prog) (KeyOk.string Try.underlying9) Try.underlying54 (by kernel_rfl) a false; simp only [kS, vI, Bool.false_eq_true, if_false] at hl) | (at_mapUpdate; refine wp_store HM4.out rfl _ _ _ _ rfl _ _ Try.underlying54 (KeyOk.string Try.underlying9) rfl a rfl _ rfl ?_; intro w5 m5 t5; have H5 := Aside0.mk (H4.out.other (Chg.turned (F := fun x => x = mb) t5 rfl) (fun x hx => by have := HS.out; have := H3.out.first.size; have := HZ.out; omega)); have HM5 := Aside0.mk m5))
              exact ⟨⟨j + 1, s', _, by omega, by go_num, HR2, H5, HM5⟩, by simp [intOf]; omega⟩
            · have e3n : j = 3 * n := by omega
              rw [e3n] at HR
              obtain ⟨h1, h2⟩ : s = s1 ∧ mt = met := by
                have h := HR.out.symm.trans HC.out.1
                simpa using h
              subst h1 h2
              have hj3 : ¬ (j : Int) < 3 * (n : Int) := by omega
              have hj4 : ¬ (j : Int) < 3 * (1 + (n : Int) - 1) := by omega
              clear HR H3 HM0 e3n hj
              go_wp2_with (at_range; refine wp_range HM.out rfl _ 54 rfl _ _ Try.underlying54 rfl ?_; intro w6 it6 hb6 hs6; have HT := Aside0.mk it6; have HU6 := Aside0.mk (HU.out.other (Chg.of_below (F := fun _ => False) hb6) (fun _ h => h.elim)); have HZ6 := Aside0.mk (And.intro HU.out.sz HU.out.below.size); clear it6 hb6 hs6)
              try go_frame
              generalize wr.heap.size = ri at *
              go_loopw [117] (fun _ W7 => ∃ todo : List (ByteArray × Int), (∀ p ∈ todo, p.2 = 3) ∧ Aside0 (IterK kS vI W7 mb ri mt todo) ∧ Aside0 (UInv w wz W7 ub hi p (some ad) c1 n s)) (fun _ W7 => W7.rangeLeft mb ri)
              case atStart => exact ⟨mt, HC.out.2.1, HT, HU6⟩
              case round =>
                obtain ⟨todo, ht3, HT7, HU7⟩ := hrel
                have HT3 := Aside0.mk ht3
                clear ht3
                go_wp2_with (at_next; refine wp_next HT7.out rfl _ rfl rfl ?_ ?_)
                · intro h0
                  clear h0
                  obtain ⟨q0, q1⟩ := HU7.out.cells
                  have HC3 := Aside0.mk HC.out.2.2.1
                  have HC4 := Aside0.mk HC.out.2.2.2.1
                  have HC5 := Aside0.mk HC.out.2.2.2.2.1
                  have HC6 := Aside0.mk HC.out.2.2.2.2.2
                  by_cases hn0 : n < 1
                  · have hE : (e2 == 0) = false := by rw [HE.out]; exact decide_eq_false (by omega)
                    have hG : (1 : Int) < 1 + ↑n ↔ False := by simp; omega
                    go_wp2_with (first | (go_at_call 12; (with_reducible refine (HU7.out.pick HC3.out).mono ?_); rintro e W8 ⟨rfl, h8, _⟩; have H8 := Aside0.mk h8; obtain ⟨q0, q1⟩ := h8.cells) | (go_at_call 12; (with_reducible refine (H8.out.pick HC4.out).mono ?_); rintro e W9 ⟨rfl, h9, _⟩; have H9 := Aside0.mk h9) | (go_at_call 17; (with_reducible refine (H9.out.sick HC5.out).mono ?_); rintro e W10 ⟨rfl, rfl⟩) | (go_at_call 17; (with_reducible refine (H9.out.sick HC6.out).mono ?_); rintro e W10 ⟨rfl, rfl⟩))
                    go_ret
                    exact ⟨rfl, below_step H9.out.first H9.out.below⟩
                  · have hE : (e2 == 0) = true := by rw [HE.out]; exact decide_eq_true (by omega)
                    have hG : (1 : Int) < 1 + ↑n ↔ True := by simp; omega
                    go_wp2_with (first | (go_at_call 12; (with_reducible refine (HU7.out.pick HC3.out).mono ?_); rintro e W8 ⟨rfl, h8, _⟩; have H8 := Aside0.mk h8; obtain ⟨q0, q1⟩ := h8.cells) | (go_at_call 12; (with_reducible refine (H8.out.pick HC4.out).mono ?_); rintro e W9 ⟨rfl, h9, _⟩; have H9 := Aside0.mk h9) | (go_at_call 17; (with_reducible refine (H9.out.sick HC5.out).mono ?_); rintro e W10 ⟨rfl, rfl⟩) | (go_at_call 17; (with_reducible refine (H9.out.sick HC6.out).mono ?_); rintro e W10 ⟨rfl, rfl⟩))
                    go_ret
                    exact ⟨rfl, below_step H9.out.first H9.out.below⟩
                · intro pre pa pv post w' htd hit hch hen
                  have hpv : pv = 3 := HT3.out (pa, pv) (by rw [htd]; simp)
                  subst hpv
                  have HIT := Aside0.mk hit
                  have HU8 := Aside0.mk (HU7.out.other hch (fun x hx => by have := HZ6.out; omega))
                  have HTD := Aside0.mk htd
                  simp only [kS, vI] at hen
                  clear hit hch htd
                  go_wp2
                  have HM9 : Aside0 (∀ q ∈ pre ++ post, q.2 = 3) := ⟨fun q hq => HT3.out q (by rw [HTD.out]; rcases List.mem_append.1 hq with h9 | h9; exact List.mem_append.2 (.inl h9); exact List.mem_append.2 (.inr (List.mem_cons_of_mem _ h9)))⟩
                  go_roundw
                  case rel => first | exact ⟨pre ++ post, HM9.out, HIT, HU8⟩ | ((repeat apply Exists.intro); exact ⟨⟨pre ++ post, HM9.out, HIT, HU8⟩, rfl⟩)
                  case measure => rw [HIT.out.left_eq, HT7.out.left_eq, HTD.out]; simp
end Go.Proofs.Ytffockklleanmaa.X
