/- Rows of records in the machine's memory. -/
import Derived.Test.YteffhomollmpdaaSXL
namespace Go.Proofs.Yteffhomollmpdaa.AM.SX
open Go
set_option linter.unusedVariables false
set_option linter.unusedSimpArgs false
/-- how a record's cells are -/
structure Enc (α : Type) where
  sz : Nat
  enc : α → List Value
  len : ∀ x, (enc x).length = sz
  pos : 0 < sz
  one : ∀ x, ones (enc x) = true
namespace Enc
variable {α : Type} (K : Enc α)
def fl : List α → List Value
  | [] => []
  | x :: l => K.enc x ++ fl l
theorem fl_app : ∀ l m : List α, K.fl (l ++ m) = K.fl l ++ K.fl m
  | [], m => rfl
  | x :: l, m => by simp only [List.cons_append, fl, fl_app l m, List.append_assoc]
theorem fl_len : ∀ l : List α, (K.fl l).length = l.length * K.sz
  | [] => by simp [fl]
  | x :: l => by simp only [fl, List.length_append, K.len, fl_len l, List.length_cons, Nat.add_mul, Nat.one_mul]; omega
theorem fl_drop : ∀ (l : List α) (i : Nat), (K.fl l).drop (i * K.sz) = K.fl (l.drop i)
  | l, 0 => by simp
  | [], i + 1 => by simp [fl]
  | x :: l, i + 1 => by
    have h1 : (i + 1) * K.sz = (K.enc x).length + i * K.sz := by rw [K.len, Nat.add_mul, Nat.one_mul]; omega
    rw [fl, h1, ← List.drop_drop, List.drop_left, fl_drop l i]; rfl
theorem fl_take : ∀ (l : List α) (i : Nat), (K.fl l).take (i * K.sz) = K.fl (l.take i)
  | l, 0 => by simp [fl]
  | [], i + 1 => by simp [fl]
  | x :: l, i + 1 => by
    have h1 : (i + 1) * K.sz = (K.enc x).length + i * K.sz := by rw [K.len, Nat.add_mul, Nat.one_mul]; omega
    rw [fl, h1, List.take_length_add_append, fl_take l i]; rfl
theorem fl_ones : ∀ l : List α, ones (K.fl l) = true
  | [] => rfl
  | x :: l => by
    have h1 := K.one x
    have h2 := fl_ones l
    unfold AM.ones at h1 h2 ⊢
    rw [fl, List.all_append, h1, h2]; rfl
theorem fl_cut {l : List α} {i : Nat} (hi : i < l.length) : cut (K.fl l) (i * K.sz) K.sz = some (K.enc l[i]) := by
  refine cut_len ?_ (K.len _)
  rw [fl_drop, List.drop_eq_getElem_cons hi, fl]
  conv => rhs; rw [← K.len l[i]]
  rw [List.take_left]
theorem fl_get {l : List α} {i : Nat} (hi : i < l.length) {j : Nat} (hj : j < K.sz) : (K.fl l)[i * K.sz + j]? = (K.enc l[i])[j]? := by
  rw [← List.getElem?_drop, fl_drop, List.drop_eq_getElem_cons hi, fl, List.getElem?_append_left (by rw [K.len]; exact hj)]
theorem fl_cuts (l js : List α) : cut (K.fl (l ++ js)) 0 (l.length * K.sz) = some (K.fl l) := by
  refine cut_len ?_ (K.fl_len l)
  rw [List.drop_zero, fl_take, List.take_left]
theorem fl_cutm {l : List α} {i n : Nat} (h : i + n ≤ l.length) : cut (K.fl l) (i * K.sz) (n * K.sz) = some (K.fl ((l.drop i).take n)) := by
  refine cut_len ?_ ?_
  · rw [fl_drop, fl_take]
  · rw [fl_len]; congr 1; simp; omega
theorem fl_one (x : α) : K.fl [x] = K.enc x := by simp [fl]
structure Ok (i : TI) : Prop where
  size : i.size = K.sz
  zero : i.zero.cells.toList.length = K.sz
  bytes : i.bytes ≤ 1000
end Enc
/-- a row of records: a slice's value, the block that it owns -/
def RowAt {α : Type} (K : Enc α) (h : AHeap) (l : List α) (v : Value) (O : List Nat) : Prop :=
  (l = [] ∧ v = .slice none 0 0 ∧ O = []) ∨
  (∃ b, v = .slice (some ⟨b, 0, none⟩) l.length l.length ∧ h.get b = some (.cells (K.fl l) true) ∧ O = [b] ∧ l.length < 1000000) ∨
  ∃ b js, v = .slice (some ⟨b, 0, none⟩) l.length (CAPX + K.sz) ∧ h.get b = some (.cells (K.fl (l ++ js)) true) ∧ O = [b]
section
variable {α : Type} {K : Enc α} {h h' : AHeap} {l : List α} {v : Value} {O : List Nat}
theorem RowAt.keep (hv : RowAt K h l v O) (hk : ∀ i ∈ O, h'.get i = h.get i) : RowAt K h' l v O := by
  rcases hv with hv | ⟨b, h1, h2, rfl, h3⟩ | ⟨b, js, h1, h2, rfl⟩
  · exact .inl hv
  · exact .inr (.inl ⟨b, h1, by rw [hk b (.head _)]; exact h2, rfl, h3⟩)
  · exact .inr (.inr ⟨b, js, h1, by rw [hk b (.head _)]; exact h2, rfl⟩)
theorem RowAt.len (hv : RowAt K h l v O) : ∃ A c, v = .slice A l.length c := by
  rcases hv with ⟨rfl, rfl, _⟩ | ⟨b, rfl, _⟩ | ⟨b, js, rfl, _⟩ <;> exact ⟨_, _, rfl⟩
theorem RowAt.vok (hv : RowAt K h l v O) : vok1 v = true := by
  rcases hv with ⟨_, rfl, _⟩ | ⟨b, rfl, _⟩ | ⟨b, js, rfl, _⟩ <;> rfl
theorem RowAt.veq (hv : RowAt K h l v O) : veq v v = true := by
  rcases hv with ⟨_, rfl, _⟩ | ⟨b, rfl, _⟩ | ⟨b, js, rfl, _⟩ <;> exact veq_self rfl
theorem RowAt.one (hv : RowAt K h l v O) : v.cells.toList = [v] ∧ one v = true := by
  rcases hv with ⟨_, rfl, _⟩ | ⟨b, rfl, _⟩ | ⟨b, js, rfl, _⟩ <;> exact ⟨rfl, rfl⟩
theorem RowAt.lenB {T : Tr TI} {h2 : AHeap} {nid t e sz b : Nat} {z : Value} {ts : List Nat} (hv : RowAt K h l v O) (hT : T.get t = some ⟨.slice e, sz, b, z⟩) : abuiltin T h2 nid .len (t :: ts) [v] = some (.int .i64 (l.length : Int), h2) := by
  obtain ⟨A, c, rfl⟩ := hv.len
  exact lenS hT
theorem RowAt.index {T : Tr TI} {st e sz b : Nat} {z : Value} {ei : TI} (hst : T.get st = some ⟨.slice e, sz, b, z⟩) (he : T.get e = some ei) (hs : K.Ok ei) (hv : RowAt K h l v O) {i : Nat} (hi : i < l.length) :
    ∃ bk cs, aindexAddr T st v (.int .i64 (i : Int)) = some (.pointer (some ⟨bk, i * K.sz, none⟩)) ∧ h.get bk = some (.cells cs true) ∧ bk ∈ O ∧ cut cs (i * K.sz) K.sz = some (K.enc (l[i]'hi)) ∧ ∀ j, j < K.sz → cs[i * K.sz + j]? = (K.enc (l[i]'hi))[j]? := by
  have hx : ∀ bk c, aindexAddr T st (.slice (some ⟨bk, 0, none⟩) l.length c) (.int .i64 (i : Int)) = some (.pointer (some ⟨bk, i * K.sz, none⟩)) := by
    intro bk c
    simp only [aindexAddr, hst, he]
    rw [if_pos ⟨Int.natCast_nonneg _, by omega⟩, hs.size]
    simp
  rcases hv with ⟨rfl, _, _⟩ | ⟨bk, rfl, hb, rfl, _⟩ | ⟨bk, js, rfl, hb, rfl⟩
  · exact absurd hi (Nat.not_lt_zero _)
  · exact ⟨bk, _, hx _ _, hb, .head _, K.fl_cut hi, fun j hj => K.fl_get hi hj⟩
  · have hi' : i < (l ++ js).length := by rw [List.length_append]; omega
    have e : (l ++ js)[i] = l[i] := List.getElem_append_left hi
    exact ⟨bk, _, hx _ _, hb, .head _, by rw [K.fl_cut hi', e], fun j hj => by rw [K.fl_get hi' hj, e]⟩
theorem fits_le {n b : Nat} (h : n ≤ 100000000) (hb : b ≤ 1000) : fits n b = true := by
  have h1 : (2 * n + 192) * b ≤ (2 * 100000000 + 192) * 1000 := Nat.mul_le_mul (by omega) hb
  simp only [fits, bled, Bool.and_eq_true, decide_eq_true_eq]
  omega
/-- a row of one record, just laid -/
theorem bs_row1 {T : Tr TI} {nid st e sz b : Nat} {z : Value} {ei : TI} {x : α} (hst : T.get st = some ⟨.slice e, sz, b, z⟩) (he : T.get e = some ei) (hs : K.Ok ei) (hk : K.sz ≤ 1000) (ha : afill (fun j => some (j * ei.size, ei.size)) (reps ei.zero.cells.toList 1) [(0, .agg ⟨K.enc x⟩)] = some (K.enc x)) : abuildSlice T h nid st 1 [(0, .agg ⟨K.enc x⟩)] = some (.slice (some ⟨nid, 0, none⟩) 1 1, h.new nid (.cells (K.enc x) true)) := by
  have h1 : Nat.ble (1 * ei.size) 16777216 = true := by rw [bled, decide_eq_true_eq, hs.size]; omega
  have h2 : Nat.ble 1 16777216 = true := rfl
  have h3 : Nat.beq ei.zero.cells.toList.length ei.size = true := by rw [hs.zero, hs.size, beqd]; simp
  simp only [abuildSlice, hst, he, h1, h2, h3, ha, K.one, cond_true, Bool.and_self]
theorem src_row1 {id c : Nat} {x : α} {z : Bool} (hg : h.get id = some (.cells (K.enc x) z)) : srcCells h K.sz (.slice (some ⟨id, 0, none⟩) 1 c) = some ([x].length, K.fl [x]) := by
  have : cut (K.enc x) 0 (1 * K.sz) = some (K.enc x) := cut_len (by rw [Nat.one_mul, List.drop_zero, ← K.len x, List.take_length]) (by rw [Nat.one_mul, K.len])
  simp only [srcCells, rd_cells hg, this, K.fl_one]; rfl
/-- records are appended behind a row -/
theorem app_rowX {T : Tr TI} {st e sz b : Nat} {z : Value} {ei : TI} {xt xe xs xb : Nat} {xz : Value} {news : List α} {x : Value} (hst : T.get st = some ⟨.slice e, sz, b, z⟩) (he : T.get e = some ei) (hs : K.Ok ei) (hxt : T.get xt = some ⟨.slice xe, xs, xb, xz⟩) (hv : RowAt K h l v O) (hn : news ≠ []) (hsrc : srcCells h K.sz x = some (news.length, K.fl news)) (hl : l.length + news.length ≤ 100000000) (hO : ∀ i ∈ O, i < h.next) :
    ∃ v' h' O', aappend T h h.next [st, xt] v x = some (v', h') ∧ (∃ b js, v' = .slice (some ⟨b, 0, none⟩) (l ++ news).length (CAPX + K.sz) ∧ h'.get b = some (.cells (K.fl ((l ++ news) ++ js)) true) ∧ O' = [b]) ∧ Keep h h' O ∧ (O' = O ∨ O' = [h.next]) ∧ ∀ i ∈ O', i < h'.next := by
  obtain ⟨ek, es, eb, ez⟩ := ei
  obtain ⟨e1, e2, e3⟩ := hs
  replace e1 : es = K.sz := e1
  subst e1
  replace e2 : ez.cells.toList.length = K.sz := e2
  replace e3 : eb ≤ 1000 := e3
  have hp := K.pos
  have hnl : 0 < news.length := List.length_pos_iff.2 hn
  have c0 : Nat.beq K.sz 0 = false := by rw [beqd, decide_eq_false_iff_not]; omega
  have c1 : Nat.beq ez.cells.toList.length K.sz = true := by rw [e2, beqd]; simp
  have c2 : Nat.beq news.length 0 = false := by rw [beqd, decide_eq_false_iff_not]; omega
  have c3 : fits (l.length + news.length) eb = true := fits_le hl e3
  have c4 : Nat.ble (l.length + news.length) l.length = false := by rw [bled, decide_eq_false_iff_not]; omega
  have c5 : Nat.blt (CAPX + K.sz) CAPX = false := by rw [bltd, decide_eq_false_iff_not]; omega
  have c6 : Nat.beq (CAPX + K.sz) (CAPX + K.sz) = true := by rw [beqd]; simp
  rcases hv with ⟨rfl, rfl, rfl⟩ | ⟨bk, rfl, hb, rfl, hlt⟩ | ⟨bk, js, rfl, hb, rfl⟩
  · refine ⟨.slice (some ⟨h.next, 0, none⟩) news.length (CAPX + K.sz), h.new h.next (.cells (K.fl news) true), [h.next], ?_, ⟨h.next, [], by simp, by simp [get_new_self], rfl⟩, Keep.new _ _ _, .inr rfl, fun i hi => by
      simp only [List.mem_singleton] at hi; subst hi; rw [next_new_self]; omega⟩
    have c3' : fits news.length eb = true := by simpa using c3
    simp only [aappend, hst, hxt, he, hsrc, c0, c1, c2, c3', K.fl_ones, cond_true, cond_false, Bool.not_true]
  · refine ⟨.slice (some ⟨h.next, 0, none⟩) (l.length + news.length) (CAPX + K.sz), h.new h.next (.cells (K.fl (l ++ news)) true), [h.next], ?_, ⟨h.next, [], by simp, by simp [get_new_self], rfl⟩, Keep.new _ _ _, .inr rfl, fun i hi => by
      simp only [List.mem_singleton] at hi; subst hi; rw [next_new_self]; omega⟩
    have hcap : Nat.blt l.length CAPX = true := by rw [bltd, decide_eq_true_eq]; unfold CAPX; omega
    have hrm : room h K.sz bk 0 0 l.length (l.length + news.length) = false := by
      unfold room; rw [hcap, c4]; rfl
    have hcut := K.fl_cuts l []
    rw [List.append_nil] at hcut
    simp only [aappend, hst, hxt, he, hsrc, c0, c1, c2, c3, c4, K.fl_ones, hrm, hb, hcut, hcap, cond_true, cond_false, Bool.not_true, K.fl_app]
  · have hbn : bk < h.next := hO bk (.head _)
    have c7 : Nat.ble (l.length + news.length) 0 = false := by rw [bled, decide_eq_false_iff_not]; omega
    by_cases hj : news.length ≤ js.length
    · refine ⟨.slice (some ⟨bk, 0, none⟩) (l.length + news.length) (CAPX + K.sz), h.set bk (.cells (K.fl ((l ++ news) ++ js.drop news.length)) true), [bk], ?_, ⟨bk, js.drop news.length, by simp, by simp [get_set_self], rfl⟩, Keep.set _ _ _, .inl rfl, fun i hi => by
        simp only [List.mem_singleton] at hi; subst hi; exact hbn⟩
      have hput : putAt (K.fl (l ++ js)) (0 + l.length * K.sz) (K.fl news) = some (K.fl ((l ++ news) ++ js.drop news.length)) := by
        have h1 : K.fl (l ++ js) = K.fl l ++ (K.fl (js.take news.length) ++ K.fl (js.drop news.length)) := by
          rw [K.fl_app, ← K.fl_app (js.take _), List.take_append_drop]
        rw [h1, K.fl_app, K.fl_app, List.append_assoc]
        have := putAt_app (K.fl l) (K.fl news) (K.fl (js.take news.length)) (K.fl (js.drop news.length)) (by simp only [K.fl_len, List.length_take]; congr 1; omega)
        rw [K.fl_len] at this
        simpa using this
      have hrm : room h K.sz bk 0 0 (CAPX + K.sz) (l.length + news.length) = true := by
        unfold room
        rw [c5, c6, c7, hb]
        simp only [cond_true, cond_false, bled, decide_eq_true_eq, K.fl_len, List.length_append, Nat.zero_add]
        exact Nat.mul_le_mul_right _ (by omega)
      have hap : aput h bk (0 + l.length * K.sz) (K.fl news) = some (h.set bk (.cells (K.fl ((l ++ news) ++ js.drop news.length)) true)) := by
        simp only [aput, hb, K.fl_ones, hput, cond_true]
      simp only [aappend, hst, hxt, he, hsrc, c0, c1, c2, c3, c4, K.fl_ones, hrm, hap, cond_true, cond_false, Bool.not_true]
    · refine ⟨.slice (some ⟨h.next, 0, none⟩) (l.length + news.length) (CAPX + K.sz), (h.kill bk).new h.next (.cells (K.fl (l ++ news)) true), [h.next], ?_, ⟨h.next, [], by simp, by simp [get_new_self], rfl⟩, ⟨?_, fun i hi hni => ?_⟩, .inr rfl, fun i hi => ?_⟩
      · have hrm : room h K.sz bk 0 0 (CAPX + K.sz) (l.length + news.length) = false := by
          unfold room
          rw [c5, c6, c7, hb]
          simp only [cond_true, cond_false, bled, decide_eq_false_iff_not, K.fl_len, List.length_append, Nat.zero_add]
          intro hle
          have := Nat.le_of_mul_le_mul_right hle hp
          omega
        have hcut := K.fl_cuts l js
        simp only [aappend, hst, hxt, he, hsrc, c0, c1, c2, c3, c4, c5, c6, K.fl_ones, hrm, hb, hcut, cond_true, cond_false, Bool.not_true]
        rw [K.fl_app l news]
      · rw [next_new]; split <;> simp [next_kill]
      · rw [get_new_ne (by omega), get_kill, if_neg (by simpa using hni)]
      · simp only [List.mem_singleton] at hi; subst hi
        rw [next_new, next_kill, if_neg (Nat.lt_irrefl _)]; omega
/-- records are appended behind a row -/
theorem app_row {T : Tr TI} {st e sz b : Nat} {z : Value} {ei : TI} {xt xe xs xb : Nat} {xz : Value} {news : List α} {x : Value} (hst : T.get st = some ⟨.slice e, sz, b, z⟩) (he : T.get e = some ei) (hs : K.Ok ei) (hxt : T.get xt = some ⟨.slice xe, xs, xb, xz⟩) (hv : RowAt K h l v O) (hn : news ≠ []) (hsrc : srcCells h K.sz x = some (news.length, K.fl news)) (hl : l.length + news.length ≤ 100000000) (hO : ∀ i ∈ O, i < h.next) :
    ∃ v' h' O', aappend T h h.next [st, xt] v x = some (v', h') ∧ RowAt K h' (l ++ news) v' O' ∧ Keep h h' O ∧ (O' = O ∨ O' = [h.next]) ∧ ∀ i ∈ O', i < h'.next := by
  obtain ⟨v', h', O', g1, g2, g3, g4, g5⟩ := app_rowX hst he hs hxt hv hn hsrc hl hO
  exact ⟨v', h', O', g1, .inr (.inr g2), g3, g4, g5⟩
/-- a row of nothing, just laid -/
theorem bs_row0 {T : Tr TI} {nid st e sz b : Nat} {z : Value} {ei : TI} (hst : T.get st = some ⟨.slice e, sz, b, z⟩) (he : T.get e = some ei) (hs : K.Ok ei) : abuildSlice T h nid st 0 [] = some (.slice (some ⟨nid, 0, none⟩) 0 0, h.new nid (.cells [] true)) := by
  have h1 : Nat.ble (0 * ei.size) 16777216 = true := by rw [Nat.zero_mul]; rfl
  have h2 : Nat.ble 0 16777216 = true := rfl
  have h3 : Nat.beq ei.zero.cells.toList.length ei.size = true := by rw [hs.zero, hs.size, beqd]; simp
  simp only [abuildSlice, hst, he, h1, h2, h3, cond_true, Bool.and_self, reps, afill]
  rfl
theorem row0 {id : Nat} (hg : h.get id = some (.cells [] true)) : RowAt K h [] (.slice (some ⟨id, 0, none⟩) 0 0) [id] := .inr (.inl ⟨id, rfl, hg, rfl, by simp⟩)
end
/-! what a function gives whose results lie in cells -/
section
variable {T : Tr TI} {h : AHeap} {a : AAct} {p q t u r : Nat} {v w x v1 v2 : Value}
theorem aresC1 (h1 : a.at p = v1) (hv : aload T h t v1 = some v) : aresults T h a [.cell p t] = some [v] := by subst h1; simp only [aresults, hv]
theorem aresCT (h1 : a.at p = v1) (hv : aload T h t v1 = some v) (hw : a.at u = w) : aresults T h a [.cell p t, .tmp u] = some [v, w] := by subst h1 hw; simp only [aresults, hv]
end
end Go.Proofs.Yteffhomollmpdaa.AM.SX
