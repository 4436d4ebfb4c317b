/- Rows of numbers in the machine's memory. -/
import Derived.Test.YtffockklleanmaaSXB
namespace Go.Proofs.Ytffockklleanmaa.AM.SX
open Go
set_option linter.unusedVariables false
set_option linter.unusedSimpArgs false
def ints (l : List Int) : List Value := l.map fun n => .int .i64 n
theorem ints_app (l m : List Int) : ints (l ++ m) = ints l ++ ints m := by simp [ints]
theorem ints_len (l : List Int) : (ints l).length = l.length := by simp [ints]
theorem ints_get (l : List Int) (i : Nat) : (ints l)[i]? = (l[i]?).map fun n => .int .i64 n := by simp [ints]
theorem ints_drop (l : List Int) (i : Nat) : (ints l).drop i = ints (l.drop i) := by simp [ints]
theorem ints_take (l : List Int) (i : Nat) : (ints l).take i = ints (l.take i) := by simp [ints]
/-- a row of numbers: a slice's value, the block that it owns -/
def IntsAt (h : AHeap) (l : List Int) (v : Value) (O : List Nat) : Prop :=
  (l = [] ∧ v = .slice none 0 0 ∧ O = []) ∨ ∃ b js, v = .slice (some ⟨b, 0, none⟩) l.length (CAPX + 1) ∧ h.get b = some (.cells (ints (l ++ js)) true) ∧ O = [b]
/-- what is not owned stays -/
def Keep (h h' : AHeap) (O : List Nat) : Prop := h.next ≤ h'.next ∧ ∀ i, i < h.next → i ∉ O → h'.get i = h.get i
theorem Keep.refl (h : AHeap) (O : List Nat) : Keep h h O := ⟨Nat.le_refl _, fun _ _ _ => rfl⟩
theorem Keep.trans {h h' h'' : AHeap} {O O' : List Nat} (k : Keep h h' O) (k' : Keep h' h'' O') (ho : ∀ i ∈ O', i ∈ O ∨ h.next ≤ i) : Keep h h'' O :=
  ⟨Nat.le_trans k.1 k'.1, fun i hi hn => by
    rw [k'.2 i (Nat.lt_of_lt_of_le hi k.1) (fun hm => by
      rcases ho i hm with h1 | h1
      · exact hn h1
      · omega), k.2 i hi hn]⟩
theorem Keep.mono {h h' : AHeap} {O O' : List Nat} (k : Keep h h' O) (ho : ∀ i ∈ O, i ∈ O') : Keep h h' O' := ⟨k.1, fun i hi hn => k.2 i hi (fun hm => hn (ho i hm))⟩
theorem Keep.bump (h : AHeap) (n : Nat) (O : List Nat) : Keep h (bump h n) O := ⟨Nat.le_add_right _ _, fun _ _ _ => rfl⟩
theorem Keep.new (h : AHeap) (o : AObj) (O : List Nat) : Keep h (h.new h.next o) O := ⟨by rw [next_new_self]; omega, fun i hi _ => get_new_ne (by omega)⟩
theorem Keep.set (h : AHeap) (i : Nat) (o : AObj) : Keep h (h.set i o) [i] := ⟨Nat.le_refl _, fun j _ hn => get_set_ne (by simpa using hn)⟩
theorem cut_len {cs r : List Value} {o n : Nat} (hr : r = (cs.drop o).take n) (hl : r.length = n) : cut cs o n = some r := by
  subst hr
  simp only [cut, hl, beqd, decide_true, cond_true]
theorem over_app : ∀ (vs cs ds : List Value), vs.length = cs.length → over (cs ++ ds) vs = some (vs ++ ds)
  | [], [], ds, _ => by cases ds <;> rfl
  | v :: vs, [], ds, h => by simp at h
  | [], c :: cs, ds, h => by simp at h
  | v :: vs, c :: cs, ds, h => by
    simp only [List.cons_append, over]
    rw [over_app vs cs ds (by simpa using h)]
theorem putAt_app : ∀ (as vs cs ds : List Value), vs.length = cs.length → putAt (as ++ (cs ++ ds)) as.length vs = some (as ++ (vs ++ ds))
  | [], vs, cs, ds, h => by
    have := over_app vs cs ds h
    cases hc : cs ++ ds with
    | nil => rw [hc] at this; simpa [putAt] using this
    | cons c r => rw [hc] at this; simpa [putAt] using this
  | a :: as, vs, cs, ds, h => by
    simp only [List.cons_append, List.length_cons, putAt]
    rw [putAt_app as vs cs ds h]
theorem ones_ints (l : List Int) : ones (ints l) = true := by
  simp only [ones, ints, List.all_map, List.all_eq_true]
  intro x _; rfl
def intTI : TI := ⟨.int .i64, 1, 8, .int .i64 0⟩
theorem fits_ok {n : Nat} (h : n ≤ 100000000000) : fits n 8 = true := by
  simp only [fits, bled, Bool.and_eq_true, decide_eq_true_eq]; omega
section
variable {T : Tr TI} {h : AHeap} {st e sz b : Nat} {z : Value}
/-- numbers are appended behind a row -/
theorem app_ints {xt xe xs xb : Nat} {xz : Value} {l news : List Int} {v x : Value} {O : List Nat} {n : Nat} (hst : T.get st = some ⟨.slice e, sz, b, z⟩) (he : T.get e = some intTI) (hxt : T.get xt = some ⟨.slice xe, xs, xb, xz⟩) (hv : IntsAt h l v O) (hn : news ≠ []) (hsrc : srcCells h 1 x = some (news.length, ints news)) (hl : l.length + news.length ≤ 100000000000) (hO : ∀ i ∈ O, i < h.next) :
    ∃ v' h' O', aappend T h h.next [st, xt] v x = some (v', h') ∧ IntsAt h' (l ++ news) v' O' ∧ Keep h h' O ∧ (O' = O ∨ O' = [h.next]) ∧ ∀ i ∈ O', i < h'.next := by
  have hnl : 0 < news.length := List.length_pos_iff.2 hn
  have hn0 : Nat.beq news.length 0 = false := by rw [beqd, decide_eq_false_iff_not]; omega
  have hnz : decide (news.length = 0) = false := by simpa using hn
  rcases hv with ⟨rfl, rfl, rfl⟩ | ⟨bk, js, rfl, hb, rfl⟩
  · refine ⟨.slice (some ⟨h.next, 0, none⟩) news.length (CAPX + 1), h.new h.next (.cells (ints news) true), [h.next], ?_, .inr ⟨h.next, [], by simp, by simp [get_new_self], rfl⟩, Keep.new _ _ _, .inr rfl, fun i hi => by
      simp only [List.mem_singleton] at hi; subst hi; rw [next_new_self]; omega⟩
    have hf : fits news.length 8 = true := fits_ok (by simpa using hl)
    simp only [aappend, hst, hxt, he, intTI, hsrc]
    simp only [beqd, ones_ints, hf, hnz, Value.cells, cond_true, cond_false, List.length_cons, List.length_nil, decide_true, decide_false, Nat.one_ne_zero, Bool.not_true]
  · have hbn : bk < h.next := hO bk (.head _)
    have hf : fits (l.length + news.length) 8 = true := fits_ok hl
    by_cases hroom : l.length + news.length ≤ (l ++ js).length
    · have hj : news.length ≤ js.length := by simp at hroom; exact hroom
      refine ⟨.slice (some ⟨bk, 0, none⟩) (l.length + news.length) (CAPX + 1), h.set bk (.cells (ints ((l ++ news) ++ js.drop news.length)) true), [bk], ?_, .inr ⟨bk, js.drop news.length, by simp, by simp [get_set_self], rfl⟩, Keep.set _ _ _, .inl rfl, fun i hi => by
        simp only [List.mem_singleton] at hi; subst hi; exact hbn⟩
      have hput : putAt (ints (l ++ js)) (0 + l.length * 1) (ints news) = some (ints ((l ++ news) ++ js.drop news.length)) := by
        have h1 : ints (l ++ js) = ints l ++ (ints (js.take news.length) ++ ints (js.drop news.length)) := by
          rw [ints_app, ← ints_app (js.take _), List.take_append_drop]
        rw [h1, ints_app, ints_app, List.append_assoc]
        have := putAt_app (ints l) (ints news) (ints (js.take news.length)) (ints (js.drop news.length)) (by simp [ints_len]; omega)
        rw [ints_len] at this
        simpa using this
      have hrm : room h 1 bk 0 0 (CAPX + 1) (l.length + news.length) = true := by
        unfold room
        have h1 : Nat.blt (CAPX + 1) CAPX = false := by simp [bltd]
        have h2 : Nat.beq (CAPX + 1) (CAPX + 1) = true := by simp
        have h3 : Nat.ble (l.length + news.length) 0 = false := by rw [bled, decide_eq_false_iff_not]; omega
        rw [h1, h2, h3, hb]
        simp only [cond_true, cond_false, bled, decide_eq_true_eq, ints_len]
        simpa using hj
      have hle : Nat.ble (l.length + news.length) l.length = false := by rw [bled, decide_eq_false_iff_not]; omega
      have hap : aput h bk (0 + l.length * 1) (ints news) = some (h.set bk (.cells (ints ((l ++ news) ++ js.drop news.length)) true)) := by
        unfold aput
        simp only [hb, ones_ints, hput, cond_true]
      simp only [aappend, hst, hxt, he, intTI, hsrc]
      simp only [beqd, ones_ints, hf, hle, hrm, hap, hnz, Value.cells, cond_true, cond_false, List.length_cons, List.length_nil, decide_true, decide_false, Nat.one_ne_zero, Bool.not_true]
    · refine ⟨.slice (some ⟨h.next, 0, none⟩) (l.length + news.length) (CAPX + 1), (h.kill bk).new h.next (.cells (ints (l ++ news)) true), [h.next], ?_, .inr ⟨h.next, [], by simp, by simp [get_new_self], rfl⟩, ⟨?_, fun i hi hni => ?_⟩, .inr rfl, fun i hi => ?_⟩
      · have hrm : room h 1 bk 0 0 (CAPX + 1) (l.length + news.length) = false := by
          unfold room
          have h1 : Nat.blt (CAPX + 1) CAPX = false := by simp [bltd]
          have h2 : Nat.beq (CAPX + 1) (CAPX + 1) = true := by simp
          have h3 : Nat.ble (l.length + news.length) 0 = false := by rw [bled, decide_eq_false_iff_not]; omega
          rw [h1, h2, h3, hb]
          simp only [cond_true, cond_false, bled, ints_len, decide_eq_false_iff_not]
          omega
        have hle : Nat.ble (l.length + news.length) l.length = false := by rw [bled, decide_eq_false_iff_not]; omega
        have hcut : cut (ints (l ++ js)) 0 (l.length * 1) = some (ints l) := cut_len (by rw [ints_app]; simp [ints_len, List.take_append]) (by simp [ints_len])
        have hcx : decide (CAPX + 1 < CAPX) = false := by simp
        simp only [aappend, hst, hxt, he, intTI, hsrc]
        simp only [beqd, bltd, ones_ints, hf, hle, hrm, hb, hcut, hnz, hcx, Value.cells, cond_true, cond_false, List.length_cons, List.length_nil, decide_true, decide_false, Nat.one_ne_zero, Bool.not_true]
        simp [ints_app]
      · rw [next_new]; split <;> simp [next_kill]
      · rw [get_new_ne (by omega), get_kill, if_neg (by simpa using hni)]
      · simp only [List.mem_singleton] at hi; subst hi
        rw [next_new, next_kill, if_neg (Nat.lt_irrefl _)]; omega
end
theorem bi_app {T : Tr TI} {h : AHeap} {nid : Nat} {ts : List Nat} {s x : Value} {r : Value × AHeap} (h1 : aappend T h nid ts s x = some r) : abuiltin T h nid .append ts [s, x] = some r := h1
/-! ### values that are as they are -/
def vok1 : Value → Bool
  | .bool _ | .int _ _ | .string _ | .pointer none | .pointer (some ⟨_, _, none⟩) | .slice none _ _ | .slice (some ⟨_, _, none⟩) _ _ | .map _ | .nilFunc | .nilIface => true
  | _ => false
def vok : Value → Bool
  | .agg x => x.toList.all vok1
  | .tuple x => x.toList.all vok1
  | v => vok1 v
theorem veq1_self : ∀ {v : Value}, vok1 v = true → veq1 v v = true
  | .bool a, _ => by simp [veq1]
  | .int _ _, _ => by simp [veq1]
  | .string _, _ => by simp [veq1, eqB_eq]
  | .pointer none, _ => rfl
  | .pointer (some ⟨_, _, none⟩), _ => by simp [veq1]
  | .slice none _ _, _ => by simp [veq1]
  | .slice (some ⟨_, _, none⟩) _ _, _ => by simp [veq1]
  | .map none, _ => rfl
  | .map (some _), _ => by simp [veq1]
  | .nilFunc, _ => rfl
  | .nilIface, _ => rfl
  | .pointer (some ⟨_, _, some _⟩), h => by simp [vok1] at h
  | .slice (some ⟨_, _, some _⟩) _ _, h => by simp [vok1] at h
  | .iface _ _, h => by simp [vok1] at h
  | .agg _, h => by simp [vok1] at h
  | .tuple _, h => by simp [vok1] at h
  | .func _ _ _, h => by simp [vok1] at h
  | .chan _, h => by simp [vok1] at h
  | .float _ _, h => by simp [vok1] at h
  | .complex _ _ _, h => by simp [vok1] at h
theorem veqs_self : ∀ {l : List Value}, l.all vok1 = true → veqs l l = true
  | [], _ => rfl
  | v :: l, h => by
    simp only [List.all_cons, Bool.and_eq_true] at h
    simp only [veqs, veq1_self h.1, veqs_self h.2, Bool.and_self]
theorem veq_self {v : Value} (h : vok v = true) : veq v v = true := by
  cases v with
  | agg x => exact veqs_self h
  | tuple x => exact veqs_self h
  | iface t v => simp [vok, vok1] at h
  | _ => exact veq1_self (by simpa [vok] using h)
theorem IntsAt.vok {h : AHeap} {l : List Int} {v : Value} {O : List Nat} (hv : IntsAt h l v O) : veq v v = true := by
  rcases hv with ⟨_, rfl, _⟩ | ⟨b, js, rfl, _⟩ <;> exact veq_self rfl
theorem IntsAt.index {T : Tr TI} {st e sz b : Nat} {z : Value} {h : AHeap} {l : List Int} {v : Value} {O : List Nat} (hst : T.get st = some ⟨.slice e, sz, b, z⟩) (he : T.get e = some intTI) (hv : IntsAt h l v O) {i : Nat} (hi : i < l.length) : ∃ bk cs, aindexAddr T st v (.int .i64 (i : Int)) = some (.pointer (some ⟨bk, i, none⟩)) ∧ h.get bk = some (.cells cs true) ∧ cs[i]? = some (.int .i64 (l[i]'hi)) := by
  rcases hv with ⟨rfl, _, _⟩ | ⟨bk, js, rfl, hb, rfl⟩
  · exact absurd hi (Nat.not_lt_zero _)
  · refine ⟨bk, _, ?_, hb, ?_⟩
    · simp only [aindexAddr, hst, he, intTI]
      rw [if_pos ⟨Int.natCast_nonneg _, by omega⟩]
      simp
    · simp [ints, List.getElem?_append_left, hi]
theorem IntsAt.len {h : AHeap} {l : List Int} {v : Value} {O : List Nat} (hv : IntsAt h l v O) : ∃ A c, v = .slice A l.length c := by
  rcases hv with ⟨rfl, rfl, _⟩ | ⟨b, js, rfl, _⟩
  · exact ⟨_, _, rfl⟩
  · exact ⟨_, _, rfl⟩
theorem bi_max {T : Tr TI} {h : AHeap} {nid : Nat} {ts : List Nat} {k j : IntKind} {x y : Int} : abuiltin T h nid .max ts [.int k x, .int j y] = some (.int k (max x y), h) := by
  simp only [abuiltin, aminmax, cond_true]
  congr 3
  by_cases e : y > x <;> simp [e] <;> omega
theorem bi_min {T : Tr TI} {h : AHeap} {nid : Nat} {ts : List Nat} {k j : IntKind} {x y : Int} : abuiltin T h nid .min ts [.int k x, .int j y] = some (.int k (min x y), h) := by
  simp only [abuiltin, aminmax, cond_false]
  congr 3
  by_cases e : y < x <;> simp [e] <;> omega
theorem lenS {T : Tr TI} {h : AHeap} {nid t e sz b n c : Nat} {z : Value} {ts : List Nat} {A : Option Addr} (hT : T.get t = some ⟨.slice e, sz, b, z⟩) : abuiltin T h nid .len (t :: ts) [.slice A n c] = some (.int .i64 (n : Int), h) := by
  simp only [abuiltin, alen, hT]
theorem lenM {T : Tr TI} {h : AHeap} {nid t kt et sz b : Nat} {z : Value} {ts : List Nat} {l : List (Value × Value)} {m : Nat} (hT : T.get t = some ⟨.map kt et, sz, b, z⟩) (hg : h.get m = some (.map l)) : abuiltin T h nid .len (t :: ts) [.map (some m)] = some (.int .i64 (l.length : Int), h) := by
  simp only [abuiltin, alen, hT, hg]
theorem IntsAt.lenB {T : Tr TI} {h h2 : AHeap} {nid t e sz b : Nat} {z : Value} {ts : List Nat} {l : List Int} {v : Value} {O : List Nat} (hv : IntsAt h l v O) (hT : T.get t = some ⟨.slice e, sz, b, z⟩) : abuiltin T h2 nid .len (t :: ts) [v] = some (.int .i64 (l.length : Int), h2) := by
  obtain ⟨A, c, rfl⟩ := hv.len
  exact lenS hT
theorem del_ok {T : Tr TI} {h : AHeap} {nid t kt et sz b m : Nat} {z key : Value} {ts : List Nat} {l r : List (Value × Value)} (hT : T.get t = some ⟨.map kt et, sz, b, z⟩) (hk : isKey T kt key = true) (hg : h.get m = some (.map l)) (hr : mdel l key = some r) : abuiltin T h nid .delete (t :: ts) [.map (some m), key] = some (.tuple #[], h.set m (.map r)) := by
  simp only [abuiltin, adelete, hT, hk, cond_true, hg, hr]
theorem upd_ok {T : Tr TI} {h : AHeap} {t kt et sz b m : Nat} {z key x : Value} {l r : List (Value × Value)} (hT : T.get t = some ⟨.map kt et, sz, b, z⟩) (hk : isKey T kt key = true) (hg : h.get m = some (.map l)) (hr : mput l key x = some r) : amapUpdate T h t (.map (some m)) key x = some (h.set m (.map r)) := by
  simp only [amapUpdate, hT, hk, cond_true, hg, hr]
/-- a part of a row whose room isn't known -/
theorem sl_ints {T : Tr TI} {st e sz b : Nat} {z : Value} {h : AHeap} {bk L : Nat} {lo hi : Option Value} {i j : Nat} (hst : T.get st = some ⟨.slice e, sz, b, z⟩) (he : T.get e = some intTI) (hlo : optNat lo 0 = some i) (hhi : optNat hi L = some j) (hij : i ≤ j) (hj : j ≤ L) : aslice T h st (.slice (some ⟨bk, 0, none⟩) L (CAPX + 1)) lo hi none = some (.slice (some ⟨bk, i, none⟩) (j - i) (CAPX + 1)) := by
  have hr : room h 1 bk 0 L (CAPX + 1) j = true := by
    simp only [room, bltd, beqd, bled]
    simp [hj]
  simp only [aslice, hst, he, hlo, hhi, intTI]
  have hc : decide (CAPX + 1 < CAPX) = false := by simp
  simp only [hr, bled, bltd, beqd, hc]
  simp [hij]
theorem optNat_int (i d : Nat) : optNat (some (.int .i64 (i : Int))) d = some i := by simp [optNat, nat?]
theorem optNat_none (d : Nat) : optNat none d = some d := rfl
theorem reps_ints (n : Nat) : reps [.int .i64 0] n = ints (List.replicate n 0) := by
  induction n with
  | zero => rfl
  | succ n ih => simp [reps, ih, ints, List.replicate_succ]
theorem cl_ints {T : Tr TI} {st e sz b : Nat} {z : Value} {h : AHeap} {bk i n c : Nat} {ts : List Nat} {nid : Nat} {l : List Int} (hst : T.get st = some ⟨.slice e, sz, b, z⟩) (he : T.get e = some intTI) (hb : h.get bk = some (.cells (ints l) true)) (hi : i + n ≤ l.length) (hn : 0 < n) : abuiltin T h nid .clear (st :: ts) [.slice (some ⟨bk, i, none⟩) n c] = some (.tuple #[], h.set bk (.cells (ints (l.take i ++ (List.replicate n 0 ++ l.drop (i + n)))) true)) := by
  have hput : putAt (ints l) i (ints (List.replicate n 0)) = some (ints (l.take i ++ (List.replicate n 0 ++ l.drop (i + n)))) := by
    have h1 : ints l = ints (l.take i) ++ (ints ((l.drop i).take n) ++ ints (l.drop (i + n))) := by
      rw [← ints_app, ← ints_app, ← List.drop_drop, List.take_append_drop, List.take_append_drop]
    rw [ints_app, ints_app]
    have := putAt_app (ints (l.take i)) (ints (List.replicate n 0)) (ints ((l.drop i).take n)) (ints (l.drop (i + n))) (by simp [ints_len]; omega)
    rw [← h1, ints_len, List.length_take, Nat.min_eq_left (by omega)] at this
    exact this
  obtain ⟨m, rfl⟩ : ∃ m, n = m + 1 := ⟨n - 1, by omega⟩
  have hap : aput h bk i (ints (List.replicate (m + 1) 0)) = some (h.set bk (.cells (ints (l.take i ++ (List.replicate (m + 1) 0 ++ l.drop (i + (m + 1))))) true)) := by
    simp only [aput, hb, ones_ints, hput, cond_true]
  have hcl : aclear T h st (.slice (some ⟨bk, i, none⟩) (m + 1) c) = some (h.set bk (.cells (ints (l.take i ++ (List.replicate (m + 1) 0 ++ l.drop (i + (m + 1))))) true)) := by
    simp only [aclear, hst, he]
    have : (intTI.zero.cells.toList) = [.int .i64 0] := rfl
    rw [this, reps_ints]
    exact hap
  simp only [abuiltin, hst, hcl]
/-- a store into a row -/
theorem put_ints {l : List Int} {i : Nat} {k : Int} (hi : i < l.length) : putAt (ints l) i [.int .i64 k] = some (ints (l.set i k)) := by
  have h1 : l = l.take i ++ (l[i] :: l.drop (i + 1)) := by simp
  have h2 := putAt_app (ints (l.take i)) [.int .i64 k] [.int .i64 l[i]] (ints (l.drop (i + 1))) rfl
  have h3 : ints l = ints (l.take i) ++ ([.int .i64 l[i]] ++ ints (l.drop (i + 1))) := by
    conv => lhs; rw [h1]
    rw [ints_app]; rfl
  rw [ints_len, List.length_take, Nat.min_eq_left (Nat.le_of_lt hi), ← h3] at h2
  rw [h2, List.set_eq_take_append_cons_drop, if_pos hi, ints_app]; rfl
/-- a store of a value that is one cell -/
theorem o_st1 {E : Env} {cf : CallF} {a : AAct} {h : AHeap} {nid : Nat} {dst : Option Nat} {ty : Nat} {pos : String} {aft : Array Edge} {g : Option (Nat × Bool)} {t : Nat} {x y : Operand} {id o : Nat} {v : Value} (hx : aev a x = .pointer (some ⟨id, o, none⟩)) (hy : aev a y = v) {i : TI} (hT : E.T.get t = some i) (hs : i.size = 1) (h1 : v.cells.toList = [v] ∧ one v = true) {cs : List Value} {z : Bool} (hg : h.get id = some (.cells cs z)) {r : List Value} (hp : putAt cs o [v] = some r) : astep0 E cf a h nid ⟨dst, .store t x y, ty, pos, aft, g⟩ = some (undef, h.set id (.cells r z)) := by
  obtain ⟨h1, h2⟩ := h1
  exact o_st hx hy hT (by rw [h1, hs]; rfl) hg (by rw [h1]; simp [ones, h2]) (by rw [h1]; exact hp)
theorem IntsAt.one {h : AHeap} {l : List Int} {v : Value} {O : List Nat} (hv : IntsAt h l v O) : v.cells.toList = [v] ∧ one v = true := by
  rcases hv with ⟨_, rfl, _⟩ | ⟨b, js, rfl, _⟩ <;> exact ⟨rfl, rfl⟩
/-- a row of one number, just laid -/
theorem bs_int1 {T : Tr TI} {h : AHeap} {nid st e sz b : Nat} {z : Value} {k : Int} (hst : T.get st = some ⟨.slice e, sz, b, z⟩) (he : T.get e = some intTI) : abuildSlice T h nid st 1 [(0, .int .i64 k)] = some (.slice (some ⟨nid, 0, none⟩) 1 1, h.new nid (.cells [.int .i64 k] true)) := by
  simp only [abuildSlice, hst, he]; rfl
theorem src_int1 {h : AHeap} {id c : Nat} {k : Int} {z : Bool} (hg : h.get id = some (.cells [.int .i64 k] z)) : srcCells h 1 (.slice (some ⟨id, 0, none⟩) 1 c) = some (1, [.int .i64 k]) := by
  simp only [srcCells, rd_cells hg]; rfl
/-- a part with a bound of its own: it is there -/
theorem sl3_ints {T : Tr TI} {st e sz b : Nat} {z : Value} {h : AHeap} {bk L i j : Nat} (hst : T.get st = some ⟨.slice e, sz, b, z⟩) (he : T.get e = some intTI) (hij : i ≤ j) (hj : j ≤ L) (hL : L < 1000000) : ∃ r, aslice T h st (.slice (some ⟨bk, 0, none⟩) L (CAPX + 1)) (some (.int .i64 (i : Int))) (some (.int .i64 (j : Int))) (some (.int .i64 (L : Int))) = some r := by
  have hr : room h 1 bk 0 L (CAPX + 1) L = true := by
    simp only [room, bltd, beqd, bled]
    simp
  have hc : L < CAPX := Nat.lt_trans hL (by decide)
  have hn : nat? (.int .i64 (L : Int)) = some L := by simp [nat?]
  refine ⟨.slice (some ⟨bk, bif Nat.beq L i then 0 else 0 + i * 1, none⟩) (j - i) (L - i), ?_⟩
  simp only [aslice, hst, he, optNat_int, intTI, hn]
  simp only [hr, bled, bltd, beqd]
  simp only [Option.isSome, hij, hj, hc, decide_true, Bool.and_self, cond_true]
  rfl
/-- a part behind the length of a row -/
theorem sl_more {T : Tr TI} {st e sz b : Nat} {z : Value} {h : AHeap} {bk n i j : Nat} {l : List Int} (hst : T.get st = some ⟨.slice e, sz, b, z⟩) (he : T.get e = some intTI) (hb : h.get bk = some (.cells (ints l) true)) (hij : i ≤ j) (hj : j ≤ l.length) : aslice T h st (.slice (some ⟨bk, 0, none⟩) n (CAPX + 1)) (some (.int .i64 (i : Int))) (some (.int .i64 (j : Int))) none = some (.slice (some ⟨bk, i, none⟩) (j - i) (CAPX + 1)) := by
  have hr : room h 1 bk 0 n (CAPX + 1) j = true := by
    simp only [room, bltd, beqd, bled, hb, ints_len]
    have h1 : decide (CAPX + 1 < CAPX) = false := by simp
    simp [h1, hj]
  have hc : decide (CAPX + 1 < CAPX) = false := by simp
  simp only [aslice, hst, he, optNat_int, intTI]
  simp only [hr, bled, bltd, beqd, hc]
  simp [hij]
/-- a row's end is moved over what lies ahead of it -/
theorem app_within {T : Tr TI} {h : AHeap} {st e sz b nid bk i j c : Nat} {z : Value} {l js : List Int} (hst : T.get st = some ⟨.slice e, sz, b, z⟩) (he : T.get e = some intTI) (hb : h.get bk = some (.cells (ints (l ++ js)) true)) (hij : i ≤ j) (hj : j ≤ l.length) (hl : l.length < 1000000) :
    ∃ h', abuiltin T h nid .append [st, st] [.slice (some ⟨bk, 0, none⟩) i (CAPX + 1), .slice (some ⟨bk, j, none⟩) (l.length - j) c] = some (.slice (some ⟨bk, 0, none⟩) (i + (l.length - j)) (CAPX + 1), h') ∧ h'.get bk = some (.cells (ints (l.take i ++ (l.drop j ++ (l ++ js).drop (i + (l.length - j))))) true) ∧ h'.next = h.next ∧ ∀ q, q ≠ bk → h'.get q = h.get q := by
  have hsrc : srcCells h 1 (.slice (some ⟨bk, j, none⟩) (l.length - j) c) = some (l.length - j, ints (l.drop j)) := by
    have hcut : cut (ints (l ++ js)) j ((l.length - j) * 1) = some (ints (l.drop j)) := cut_len (by rw [ints_drop, ints_take, List.drop_append_of_le_length hj]; congr 1; simp) (by simp [ints_len])
    simp only [srcCells, rd_cells hb, hcut]
  by_cases h0 : l.length - j = 0
  · refine ⟨h, ?_, ?_, rfl, fun _ _ => rfl⟩
    · refine bi_app ?_
      have e0 : decide (l.length - j = 0) = true := by simpa using h0
      rw [h0] at hsrc
      rw [h0]
      simp only [aappend, hst, he, intTI, hsrc, beqd, ones_ints, Value.cells, cond_true, cond_false, List.length_cons, List.length_nil, decide_true, decide_false, Nat.one_ne_zero, Bool.not_true, Nat.zero_add, Nat.add_zero]
    · have hjl : j = l.length := by omega
      rw [hb, hjl]
      simp only [Nat.sub_self, Nat.add_zero, List.drop_length, List.nil_append]
      rw [← List.take_append_of_le_length (l₂ := js) (show i ≤ l.length by omega), List.take_append_drop]
  · have e0 : decide (l.length - j = 0) = false := by simpa using h0
    have hlen : (l.drop j).length = l.length - j := by simp
    have hput : putAt (ints (l ++ js)) (0 + i * 1) (ints (l.drop j)) = some (ints (l.take i ++ (l.drop j ++ (l ++ js).drop (i + (l.length - j))))) := by
      have h1 : ints (l ++ js) = ints (l.take i) ++ (ints (((l ++ js).drop i).take (l.length - j)) ++ ints ((l ++ js).drop (i + (l.length - j)))) := by
        rw [← ints_app, ← ints_app, ← List.drop_drop, List.take_append_drop]
        congr 1
        rw [← List.take_append_of_le_length (l₂ := js) (show i ≤ l.length by omega), List.take_append_drop]
      have h2 := putAt_app (ints (l.take i)) (ints (l.drop j)) (ints (((l ++ js).drop i).take (l.length - j))) (ints ((l ++ js).drop (i + (l.length - j)))) (by simp [ints_len]; omega)
      rw [← h1, ints_len, List.length_take, Nat.min_eq_left (by omega)] at h2
      rw [show ints (l.take i ++ (l.drop j ++ (l ++ js).drop (i + (l.length - j)))) = ints (l.take i) ++ (ints (l.drop j) ++ ints ((l ++ js).drop (i + (l.length - j)))) from by rw [ints_app, ints_app], show 0 + i * 1 = i by omega]
      exact h2
    have hap : aput h bk (0 + i * 1) (ints (l.drop j)) = some (h.set bk (.cells (ints (l.take i ++ (l.drop j ++ (l ++ js).drop (i + (l.length - j))))) true)) := by
      simp only [aput, hb, ones_ints, hput, cond_true]
    have hrm : room h 1 bk 0 0 (CAPX + 1) (i + (l.length - j)) = true := by
      unfold room
      have h1 : Nat.blt (CAPX + 1) CAPX = false := by simp [bltd]
      have h2 : Nat.beq (CAPX + 1) (CAPX + 1) = true := by simp
      have h3 : Nat.ble (i + (l.length - j)) 0 = false := by rw [bled, decide_eq_false_iff_not]; omega
      rw [h1, h2, h3, hb]
      simp only [cond_true, cond_false, bled, decide_eq_true_eq, ints_len]
      simp; omega
    have hle : Nat.ble (i + (l.length - j)) i = false := by rw [bled, decide_eq_false_iff_not]; omega
    have hf : fits (i + (l.length - j)) 8 = true := fits_ok (by omega)
    refine ⟨_, ?_, get_set_self _ _ _, rfl, fun q hq => get_set_ne hq⟩
    refine bi_app ?_
    simp only [aappend, hst, he, intTI, hsrc]
    simp only [beqd, ones_ints, hf, hle, hrm, hap, e0, Value.cells, cond_true, cond_false, List.length_cons, List.length_nil, decide_true, decide_false, Nat.one_ne_zero, Bool.not_true]
theorem intsOf_ints : ∀ l : List Int, intsOf (ints l) = some l
  | [] => rfl
  | x :: l => by
    have := intsOf_ints l
    simp only [ints] at this
    simp only [ints, List.map_cons, intsOf, this]
theorem eqInts_self : ∀ l : List Int, eqInts l l = true
  | [] => rfl
  | x :: l => by simp [eqInts, eqInts_self l]
theorem back_ints {h : AHeap} {bx : Nat} {l : List Int} {v : Value} {O : List Nat} (hv : IntsAt h l v O) (hb : h.get bx = some (.cells [v] true)) (hl : l.length < 1000000) : backList h bx 0 = some l := by
  rcases hv with ⟨rfl, rfl, _⟩ | ⟨bk, js, rfl, hk, _⟩
  · simp only [backList, rd_cells hb]; rfl
  · have h1 : Nat.ble l.length 16777216 = true := by rw [bled, decide_eq_true_eq]; omega
    have hcut : cut (ints (l ++ js)) 0 l.length = some (ints l) := cut_len (by rw [ints_app]; simp [ints_len, List.take_append]) (by simp [ints_len])
    simp only [backList, rd_cells hb, List.getElem?_cons_zero, h1, cond_true, rd_cells hk, hcut, intsOf_ints]
    cases hz : Nat.beq l.length 0 with
    | false => rfl
    | true => rw [beqd, decide_eq_true_eq] at hz; simp [List.eq_nil_of_length_eq_zero hz]
end Go.Proofs.Ytffockklleanmaa.AM.SX
