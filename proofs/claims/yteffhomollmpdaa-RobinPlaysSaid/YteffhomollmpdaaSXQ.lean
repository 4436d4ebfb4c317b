/- Rows of records that are turned where they lie. -/
import Derived.Test.YteffhomollmpdaaSXR
namespace Go.Proofs.Yteffhomollmpdaa.AM.SX
open Go
set_option linter.unusedVariables false
set_option linter.unusedSimpArgs false
section
variable {α : Type} {K : Enc α} {T : Tr TI} {st e sz b : Nat} {z : Value} {ei : TI} {h : AHeap} {bk : Nat} {l : List α}
/-- a store into a row -/
theorem put_row {i : Nat} {x : α} (hi : i < l.length) : putAt (K.fl l) (i * K.sz) (K.enc x) = some (K.fl (l.set i x)) := by
  have h1 : l = l.take i ++ (l[i] :: l.drop (i + 1)) := by simp
  have h2 := putAt_app (K.fl (l.take i)) (K.enc x) (K.enc l[i]) (K.fl (l.drop (i + 1))) (by rw [K.len, K.len])
  have h3 : K.fl l = K.fl (l.take i) ++ (K.enc l[i] ++ K.fl (l.drop (i + 1))) := by
    conv => lhs; rw [h1]
    rw [K.fl_app]; rfl
  rw [K.fl_len, List.length_take, Nat.min_eq_left (Nat.le_of_lt hi), ← h3] at h2
  rw [h2, List.set_eq_take_append_cons_drop, if_pos hi, K.fl_app]; rfl
theorem put_fld {i j : Nat} {x : α} {v : Value} (hi : i < l.length) (hj : j < K.sz) (hx : K.enc x = (K.enc l[i]).set j v) : putAt (K.fl l) (i * K.sz + j) [v] = some (K.fl (l.set i x)) := by
  have hjl : j < (K.enc l[i]).length := by rw [K.len]; exact hj
  have h1 : l = l.take i ++ (l[i] :: l.drop (i + 1)) := by simp
  have h2 := putAt_app (K.fl (l.take i) ++ (K.enc l[i]).take j) [v] [(K.enc l[i])[j]] ((K.enc l[i]).drop (j + 1) ++ K.fl (l.drop (i + 1))) rfl
  have h4 : K.enc l[i] = (K.enc l[i]).take j ++ ([(K.enc l[i])[j]] ++ (K.enc l[i]).drop (j + 1)) := by simp
  have h3 : K.fl l = K.fl (l.take i) ++ (K.enc l[i]).take j ++ ([(K.enc l[i])[j]] ++ ((K.enc l[i]).drop (j + 1) ++ K.fl (l.drop (i + 1)))) := by
    conv => lhs; rw [h1]
    rw [K.fl_app]
    show K.fl (l.take i) ++ (K.enc l[i] ++ K.fl (l.drop (i + 1))) = _
    conv => lhs; rw [h4]
    simp only [List.append_assoc]
  rw [← h3, List.length_append, K.fl_len, List.length_take, List.length_take, K.len, Nat.min_eq_left (Nat.le_of_lt hi), Nat.min_eq_left (Nat.le_of_lt hj)] at h2
  rw [h2, List.set_eq_take_append_cons_drop, if_pos hi, K.fl_app]
  show some _ = some (K.fl (l.take i) ++ (K.enc x ++ K.fl (l.drop (i + 1))))
  rw [hx, List.set_eq_take_append_cons_drop, if_pos hjl]
  simp only [List.append_assoc, List.cons_append, List.nil_append]
theorem ix_row {o L c i : Nat} (hst : T.get st = some ⟨.slice e, sz, b, z⟩) (he : T.get e = some ei) (hs : K.Ok ei) (hi : i < L) : aindexAddr T st (.slice (some ⟨bk, o, none⟩) L c) (.int .i64 (i : Int)) = some (.pointer (some ⟨bk, o + i * K.sz, none⟩)) := by
  simp only [aindexAddr, hst, he]
  rw [if_pos ⟨Int.natCast_nonneg _, by omega⟩, hs.size]
  simp
theorem capx_lt (n : Nat) : Nat.blt (CAPX + n) CAPX = false := by rw [bltd, decide_eq_false_iff_not]; omega
/-- a part of a row -/
theorem sl_row {L : Nat} {lo hi : Option Value} {i j : Nat} (hst : T.get st = some ⟨.slice e, sz, b, z⟩) (he : T.get e = some ei) (hs : K.Ok ei) (hlo : optNat lo 0 = some i) (hhi : optNat hi L = some j) (hij : i ≤ j) (hj : j ≤ L) : aslice T h st (.slice (some ⟨bk, 0, none⟩) L (CAPX + K.sz)) lo hi none = some (.slice (some ⟨bk, i * K.sz, none⟩) (j - i) (CAPX + K.sz)) := by
  have c0 : Nat.beq ei.size 0 = false := by rw [beqd, decide_eq_false_iff_not, hs.size]; have := K.pos; omega
  have hr : room h ei.size bk 0 L (CAPX + K.sz) j = true := by
    simp only [room, capx_lt, hs.size, beqd, bled]
    simp [hj]
  have hc := capx_lt K.sz
  have hijb : Nat.ble i j = true := by rw [bled, decide_eq_true_eq]; exact hij
  rw [hs.size] at c0 hr
  simp only [aslice, hst, he, hlo, hhi, c0, hr, hc, hijb, cond_true, cond_false, Bool.and_self, hs.size, Nat.zero_add]
/-- a part behind the length of a row -/
theorem sl_rowM {n i j : Nat} (hst : T.get st = some ⟨.slice e, sz, b, z⟩) (he : T.get e = some ei) (hs : K.Ok ei) (hb : h.get bk = some (.cells (K.fl l) true)) (hij : i ≤ j) (hj : j ≤ l.length) : aslice T h st (.slice (some ⟨bk, 0, none⟩) n (CAPX + K.sz)) (some (.int .i64 (i : Int))) (some (.int .i64 (j : Int))) none = some (.slice (some ⟨bk, i * K.sz, none⟩) (j - i) (CAPX + K.sz)) := by
  have c0 : Nat.beq ei.size 0 = false := by rw [beqd, decide_eq_false_iff_not, hs.size]; have := K.pos; omega
  have hjs : j * K.sz ≤ l.length * K.sz := Nat.mul_le_mul_right _ hj
  have hr : room h ei.size bk 0 n (CAPX + K.sz) j = true := by
    simp only [room, capx_lt, hs.size, beqd, bled, hb, K.fl_len]
    simp [hjs]
  have hc := capx_lt K.sz
  have hijb : Nat.ble i j = true := by rw [bled, decide_eq_true_eq]; exact hij
  rw [hs.size] at c0 hr
  simp only [aslice, hst, he, optNat_int, c0, hr, hc, hijb, cond_true, cond_false, Bool.and_self, hs.size, Nat.zero_add]
/-- a part with a bound of its own: it is there -/
theorem sl_row3 {L i j : Nat} (hst : T.get st = some ⟨.slice e, sz, b, z⟩) (he : T.get e = some ei) (hs : K.Ok ei) (hij : i ≤ j) (hj : j ≤ L) (hL : L < 1000000) : ∃ r, aslice T h st (.slice (some ⟨bk, 0, none⟩) L (CAPX + K.sz)) (some (.int .i64 (i : Int))) (some (.int .i64 (j : Int))) (some (.int .i64 (L : Int))) = some r := by
  have c0 : Nat.beq ei.size 0 = false := by rw [beqd, decide_eq_false_iff_not, hs.size]; have := K.pos; omega
  have hr : room h ei.size bk 0 L (CAPX + K.sz) L = true := by
    simp only [room, capx_lt, hs.size, beqd, bled]
    simp
  have hLb : Nat.blt L CAPX = true := by rw [bltd, decide_eq_true_eq]; exact Nat.lt_trans hL (by decide)
  have hn : nat? (.int .i64 (L : Int)) = some L := by simp [nat?]
  have h1 : Nat.ble i j = true := by rw [bled, decide_eq_true_eq]; exact hij
  have h2 : Nat.ble j L = true := by rw [bled, decide_eq_true_eq]; exact hj
  refine ⟨.slice (some ⟨bk, bif Nat.beq L i then 0 else 0 + i * ei.size, none⟩) (j - i) (L - i), ?_⟩
  simp only [aslice, hst, he, optNat_int, hn, c0, hr, hLb, h1, h2, Option.isSome, cond_true, cond_false, Bool.and_self]
theorem reps_row (x : α) : ∀ n : Nat, reps (K.enc x) n = K.fl (List.replicate n x)
  | 0 => rfl
  | n + 1 => by simp only [reps, List.replicate_succ, Enc.fl, reps_row x n]
theorem cl_row {i n c nid : Nat} {ts : List Nat} {z0 : α} (hst : T.get st = some ⟨.slice e, sz, b, z⟩) (he : T.get e = some ei) (hz : ei.zero.cells.toList = K.enc z0) (hb : h.get bk = some (.cells (K.fl l) true)) (hi : i + n ≤ l.length) (hn : 0 < n) : abuiltin T h nid .clear (st :: ts) [.slice (some ⟨bk, i * K.sz, none⟩) n c] = some (.tuple #[], h.set bk (.cells (K.fl (l.take i ++ (List.replicate n z0 ++ l.drop (i + n)))) true)) := by
  have hput : putAt (K.fl l) (i * K.sz) (K.fl (List.replicate n z0)) = some (K.fl (l.take i ++ (List.replicate n z0 ++ l.drop (i + n)))) := by
    have h1 : K.fl l = K.fl (l.take i) ++ (K.fl ((l.drop i).take n) ++ K.fl (l.drop (i + n))) := by
      rw [← K.fl_app, ← K.fl_app, ← List.drop_drop, List.take_append_drop, List.take_append_drop]
    rw [K.fl_app, K.fl_app]
    have := putAt_app (K.fl (l.take i)) (K.fl (List.replicate n z0)) (K.fl ((l.drop i).take n)) (K.fl (l.drop (i + n))) (by simp only [K.fl_len, List.length_replicate, List.length_take, List.length_drop]; congr 1; omega)
    rw [← h1, K.fl_len, List.length_take, Nat.min_eq_left (by omega)] at this
    exact this
  obtain ⟨m, rfl⟩ : ∃ m, n = m + 1 := ⟨n - 1, by omega⟩
  have hap : aput h bk (i * K.sz) (K.fl (List.replicate (m + 1) z0)) = some (h.set bk (.cells (K.fl (l.take i ++ (List.replicate (m + 1) z0 ++ l.drop (i + (m + 1))))) true)) := by
    simp only [aput, hb, K.fl_ones, hput, cond_true]
  have hcl : aclear T h st (.slice (some ⟨bk, i * K.sz, none⟩) (m + 1) c) = some (h.set bk (.cells (K.fl (l.take i ++ (List.replicate (m + 1) z0 ++ l.drop (i + (m + 1))))) true)) := by
    simp only [aclear, hst, he, hz, reps_row]
    exact hap
  simp only [abuiltin, hst, hcl]
/-- what lies behind j comes behind i -/
theorem app_rowW {nid i j c : Nat} {js : List α} (hst : T.get st = some ⟨.slice e, sz, b, z⟩) (he : T.get e = some ei) (hs : K.Ok ei) (hb : h.get bk = some (.cells (K.fl (l ++ js)) true)) (hij : i ≤ j) (hj : j ≤ l.length) (hl : l.length < 1000000) :
    ∃ h', abuiltin T h nid .append [st, st] [.slice (some ⟨bk, 0, none⟩) i (CAPX + K.sz), .slice (some ⟨bk, j * K.sz, none⟩) (l.length - j) c] = some (.slice (some ⟨bk, 0, none⟩) (i + (l.length - j)) (CAPX + K.sz), h') ∧ h'.get bk = some (.cells (K.fl (l.take i ++ (l.drop j ++ (l ++ js).drop (i + (l.length - j))))) true) ∧ h'.next = h.next ∧ ∀ q, q ≠ bk → h'.get q = h.get q := by
  obtain ⟨ek, es, eb, ez⟩ := ei
  obtain ⟨e1, e2, e3⟩ := hs
  replace e1 : es = K.sz := e1
  subst e1
  replace e2 : ez.cells.toList.length = K.sz := e2
  replace e3 : eb ≤ 1000 := e3
  have hp := K.pos
  have c0 : Nat.beq K.sz 0 = false := by rw [beqd, decide_eq_false_iff_not]; omega
  have c1 : Nat.beq ez.cells.toList.length K.sz = true := by rw [e2, beqd]; simp
  have hsrc : srcCells h K.sz (.slice (some ⟨bk, j * K.sz, none⟩) (l.length - j) c) = some (l.length - j, K.fl (l.drop j)) := by
    have hcut : cut (K.fl (l ++ js)) (j * K.sz) ((l.length - j) * K.sz) = some (K.fl (l.drop j)) := by
      have := K.fl_cutm (l := l ++ js) (i := j) (n := l.length - j) (by simp; omega)
      rw [this, List.drop_append_of_le_length hj]
      congr 2
      rw [List.take_append_of_le_length (by simp)]
      exact List.take_of_length_le (by simp)
    simp only [srcCells, rd_cells hb, hcut]
  by_cases h0 : l.length - j = 0
  · refine ⟨h, ?_, ?_, rfl, fun _ _ => rfl⟩
    · refine bi_app ?_
      rw [h0] at hsrc
      rw [h0]
      have e0 : Nat.beq 0 0 = true := rfl
      simp only [aappend, hst, he, hsrc, c0, c1, e0, K.fl_ones, cond_true, cond_false, Bool.not_true, Nat.add_zero]
    · have hjl : j = l.length := by omega
      rw [hb, hjl]
      simp only [Nat.sub_self, Nat.add_zero, List.drop_length, List.nil_append]
      rw [← List.take_append_of_le_length (l₂ := js) (show i ≤ l.length by omega), List.take_append_drop]
  · have e0 : Nat.beq (l.length - j) 0 = false := by rw [beqd, decide_eq_false_iff_not]; exact h0
    have hput : putAt (K.fl (l ++ js)) (0 + i * K.sz) (K.fl (l.drop j)) = some (K.fl (l.take i ++ (l.drop j ++ (l ++ js).drop (i + (l.length - j))))) := by
      have h1 : K.fl (l ++ js) = K.fl (l.take i) ++ (K.fl (((l ++ js).drop i).take (l.length - j)) ++ K.fl ((l ++ js).drop (i + (l.length - j)))) := by
        rw [← K.fl_app, ← K.fl_app, ← List.drop_drop, List.take_append_drop]
        congr 1
        rw [← List.take_append_of_le_length (l₂ := js) (show i ≤ l.length by omega), List.take_append_drop]
      have h2 := putAt_app (K.fl (l.take i)) (K.fl (l.drop j)) (K.fl (((l ++ js).drop i).take (l.length - j))) (K.fl ((l ++ js).drop (i + (l.length - j)))) (by simp only [K.fl_len, List.length_drop, List.length_take, List.length_append]; congr 1; omega)
      rw [← h1, K.fl_len, List.length_take, Nat.min_eq_left (by omega)] at h2
      rw [show K.fl (l.take i ++ (l.drop j ++ (l ++ js).drop (i + (l.length - j)))) = K.fl (l.take i) ++ (K.fl (l.drop j) ++ K.fl ((l ++ js).drop (i + (l.length - j)))) from by rw [K.fl_app, K.fl_app], Nat.zero_add]
      exact h2
    have hap : aput h bk (0 + i * K.sz) (K.fl (l.drop j)) = some (h.set bk (.cells (K.fl (l.take i ++ (l.drop j ++ (l ++ js).drop (i + (l.length - j))))) true)) := by
      simp only [aput, hb, K.fl_ones, hput, cond_true]
    have hmul : (i + (l.length - j)) * K.sz ≤ (l ++ js).length * K.sz := Nat.mul_le_mul_right _ (by simp; omega)
    have h3 : Nat.ble (i + (l.length - j)) 0 = false := by rw [bled, decide_eq_false_iff_not]; omega
    have c6 : Nat.beq (CAPX + K.sz) (CAPX + K.sz) = true := by rw [beqd]; simp
    have hrm : room h K.sz bk 0 0 (CAPX + K.sz) (i + (l.length - j)) = true := by
      unfold room
      rw [capx_lt, c6, h3, hb]
      simp only [cond_true, cond_false, bled, decide_eq_true_eq, K.fl_len, Nat.zero_add]
      exact hmul
    have hle : Nat.ble (i + (l.length - j)) i = false := by rw [bled, decide_eq_false_iff_not]; omega
    have hf : fits (i + (l.length - j)) eb = true := fits_le (by omega) e3
    refine ⟨_, ?_, get_set_self _ _ _, rfl, fun q hq => get_set_ne hq⟩
    refine bi_app ?_
    simp only [aappend, hst, he, hsrc, c0, c1, e0, K.fl_ones, hf, hle, hrm, hap, cond_true, cond_false, Bool.not_true]
end
end Go.Proofs.Yteffhomollmpdaa.AM.SX
