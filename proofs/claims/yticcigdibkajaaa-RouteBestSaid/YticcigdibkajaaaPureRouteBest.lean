/- The route that is matched fits, and no longer one does; with the routes the other way round it is one of the same prefix: for every input (no condition). -/
import Derived.Test.YticcigdibkajaaaXRoute5
import Derived.Test.YticcigdibkajaaaPAllx6
namespace Go.Proofs.Yticcigdibkajaaa.Pure
open Go.RowKit Go.Proofs.Yticcigdibkajaaa.PAll Go.Proofs.Yticcigdibkajaaa.X Go.Proofs.YticcigdibkajaaaW.PrintWords Go.Proofs.YticcigdibkajaaaW.PrintMore
set_option linter.unusedVariables false
set_option linter.unusedSimpArgs false

theorem snoc_ind {α : Type} {P : List α → Prop} (h0 : P []) (h1 : ∀ l x, P l → P (l ++ [x])) : ∀ l, P l := fun l => by
  rw [← List.reverse_reverse l]
  induction l.reverse with
  | nil => exact h0
  | cons x r ih => rw [List.reverse_cons]; exact h1 _ _ ih

/-- how many fit, and the longest one's length, of the first i -/
def cnt (fs : List (Bool × Nat)) : Nat := (fs.filter (·.1)).length
def best (fs : List (Bool × Nat)) : Nat := fs.foldl (fun m x => if x.1 then max m x.2 else m) 0
theorem best_snoc (fs : List (Bool × Nat)) (x : Bool × Nat) : best (fs ++ [x]) = if x.1 then max (best fs) x.2 else best fs := by simp [best]
theorem cnt_snoc (fs : List (Bool × Nat)) (x : Bool × Nat) : cnt (fs ++ [x]) = cnt fs + if x.1 then 1 else 0 := by
  cases h : x.1 <;> simp [cnt, h]
theorem cnt_le (fs : List (Bool × Nat)) : cnt fs ≤ fs.length := List.length_filter_le _ _
theorem best_ge (fs : List (Bool × Nat)) : ∀ y : Bool × Nat, y ∈ fs → y.1 = true → y.2 ≤ best fs := by
  refine snoc_ind (P := fun fs => ∀ y : Bool × Nat, y ∈ fs → y.1 = true → y.2 ≤ best fs) (fun y h => by cases h) (fun fs x ih y h h1 => ?_) fs
  rw [best_snoc]
  rcases List.mem_append.1 h with h | h
  · have := ih y h h1
    split <;> omega
  · obtain rfl := List.mem_singleton.1 h
    rw [if_pos h1]; omega
theorem best_mem (fs : List (Bool × Nat)) : best fs = 0 ∨ ∃ y : Bool × Nat, y ∈ fs ∧ y.1 = true ∧ y.2 = best fs := by
  refine snoc_ind (P := fun fs => best fs = 0 ∨ ∃ y : Bool × Nat, y ∈ fs ∧ y.1 = true ∧ y.2 = best fs) (.inl rfl) (fun fs x ih => ?_) fs
  rw [best_snoc]
  cases hx : x.1 with
  | true =>
    rw [if_pos rfl]
    rcases Nat.lt_or_ge (best fs) x.2 with h | h
    · exact .inr ⟨x, by simp, hx, by omega⟩
    · rw [show max (best fs) x.2 = best fs from by omega]
      rcases ih with h0 | ⟨y, hy, h1, h2⟩
      · exact .inl h0
      · exact .inr ⟨y, List.mem_append_left _ hy, h1, h2⟩
  | false =>
    rw [if_neg (by simp)]
    rcases ih with h0 | ⟨y, hy, h1, h2⟩
    · exact .inl h0
    · exact .inr ⟨y, List.mem_append_left _ hy, h1, h2⟩
theorem best_match {fs : List (Bool × Nat)} {i : Nat} {x : Bool × Nat} (hx : fs[i]? = some x) (h1 : x.1 = true) (h2 : ∀ (j : Nat) (y : Bool × Nat), fs[j]? = some y → y.1 = true → y.2 ≤ x.2) : x.2 = best fs := by
  have hm := List.mem_of_getElem? hx
  have a := best_ge fs x hm h1
  rcases best_mem fs with h | ⟨y, hy, h3, h4⟩
  · omega
  · obtain ⟨j, hj⟩ := List.mem_iff_getElem?.1 hy
    have := h2 j y hj h3
    omega
theorem cnt_zero {fs : List (Bool × Nat)} (h : cnt fs = 0) : ∀ x ∈ fs, x.1 = false := by
  intro x hx
  unfold cnt at h
  have := List.filter_eq_nil_iff.1 (List.eq_nil_of_length_eq_zero h) x hx
  simpa using this
theorem cnt_pos {fs : List (Bool × Nat)} (h : ∀ x ∈ fs, x.1 = false) : cnt fs = 0 := by
  unfold cnt
  rw [List.length_eq_zero_iff, List.filter_eq_nil_iff]
  intro x hx
  rw [h x hx]; simp

theorem pre_eq {p q t : List UInt8} (hp : fitsL p t = true) (hq : fitsL q t = true) (h : p.length = q.length) : p = q := by
  have key : ∀ r, fitsL r t = true → r = (pathOf t).take r.length := by
    intro r hr
    unfold fitsL at hr
    have h1 : r.isPrefixOf (pathOf t) = true := by
      cases hh : r.isPrefixOf (pathOf t) with
      | true => rfl
      | false => rw [hh] at hr; simp at hr
    exact List.prefix_iff_eq_take.1 (List.isPrefixOf_iff_prefix.1 h1)
  rw [key p hp, key q hq, h]

theorem tail (rs back : List S26) (t : ByteArray) (hn : rs.length ≤ 100) (ht : t.size ≤ 2000) (hr : ∀ r ∈ rs, r.f0.size ≤ 140737488351232) (hb : back = rs.reverse) (k : Nat) (hk : rs.length + 10 ≤ k) :
    tollbarlaw11_RouteBest.l0 (k + 1) rs t back ((cnt (fitsOf rs (L t)) : Nat) : Int) ((best (fitsOf rs (L t)) : Nat) : Int) (rs.length : Int) (rs.length : Int) = some true := by
  subst hb
  simp only [tollbarlaw11_RouteBest.l0]
  rw [if_neg (by omega)]
  have hr0 : ∀ r ∈ rs, r.f0.size ≤ 562949953404928 := fun r h => by have := hr r h; omega
  obtain ⟨m, e1, i1⟩ := match_spec rs t (by omega) (by omega) hr0 k (by omega)
  obtain ⟨m', e2, i2⟩ := match_spec rs.reverse t (by simp; omega) (by omega) (fun r h => hr0 r (List.mem_reverse.1 h)) k (by simp; omega)
  have hrev : fitsOf rs.reverse (L t) = (fitsOf rs (L t)).reverse := by simp [fitsOf]
  rw [e1]
  simp only [Option.bind_some]
  rw [e2]
  simp only [Option.bind_some]
  by_cases h0 : ((cnt (fitsOf rs (L t)) : Nat) : Int) = 0
  · rw [if_pos h0]
    have hall := cnt_zero (fs := fitsOf rs (L t)) (by omega)
    have hm : m = -1 := by
      rcases i1 with ⟨h, _⟩ | ⟨i, x, rfl, hx, h1, _⟩
      · exact h
      · have := hall x (List.mem_of_getElem? hx); rw [h1] at this; cases this
    have hm' : m' = -1 := by
      rcases i2 with ⟨h, _⟩ | ⟨i, x, rfl, hx, h1, _⟩
      · exact h
      · have := hall x (by have := List.mem_of_getElem? hx; rw [hrev] at this; exact List.mem_reverse.1 this); rw [h1] at this; cases this
    rw [if_pos hm, hm']; rfl
  · rw [if_neg h0]
    rcases i1 with ⟨rfl, h⟩ | ⟨i, x, rfl, hx, h1, h2, h3⟩
    · exfalso; exact h0 (by have := cnt_pos h; omega)
    · have hil := fitsOf_lt hx
      rcases i2 with ⟨rfl, h⟩ | ⟨i', x', rfl, hx', h1', h2', h3'⟩
      · exfalso
        have := h x (by rw [hrev, List.mem_reverse]; exact List.mem_of_getElem? hx)
        rw [h1] at this; cases this
      · have hil' := fitsOf_lt hx'
        have hxe := fitsOf_get rs (L t) i hil
        rw [hx] at hxe
        have hxe' := fitsOf_get rs.reverse (L t) i' hil'
        rw [hx'] at hxe'
        have ex := Option.some.inj hxe
        have ex' := Option.some.inj hxe'
        have hf1 : fitsL (L rs[i].f0) (L t) = true := by rw [ex] at h1; exact h1
        have hf1' : fitsL (L rs.reverse[i'].f0) (L t) = true := by rw [ex'] at h1'; exact h1'
        have hbm := best_match hx h1 h2
        have hbm' : x'.2 = x.2 := by
          have a := h2' 0 x'
          obtain ⟨j, hj⟩ := List.mem_iff_getElem?.1 (show x ∈ fitsOf rs.reverse (L t) by rw [hrev, List.mem_reverse]; exact List.mem_of_getElem? hx)
          obtain ⟨j', hj'⟩ := List.mem_iff_getElem?.1 (show x' ∈ fitsOf rs (L t) by have := List.mem_of_getElem? hx'; rw [hrev, List.mem_reverse] at this; exact this)
          have b := h2' j x hj h1
          have c := h2 j' x' hj' h1'
          omega
        rw [if_pos (by omega), if_pos (by omega), if_pos (by omega), if_pos (by omega), rd_at rs i hil, fits_spec _ t (hr0 _ (List.getElem_mem hil)) (by omega)]
        simp only [Option.bind_some]
        rw [hf1, if_pos rfl]
        have hsz : (rs[i].f0.size : Int) = ((best (fitsOf rs (L t)) : Nat) : Int) := by rw [ex] at hbm; simp only at hbm; omega
        rw [if_pos hsz, if_pos (by omega), if_pos (by omega), rd_at rs.reverse i' hil']
        have heq : L rs.reverse[i'].f0 = L rs[i].f0 := by
          refine pre_eq hf1' hf1 ?_
          rw [ex, ex'] at hbm'
          simp only at hbm'
          rw [L_len, L_len]; exact hbm'
        rw [toList_eq, toList_eq, heq]
        simp

theorem loop (rs : List S26) (t : ByteArray) (hn : rs.length ≤ 100) (ht : t.size ≤ 2000) (hr : ∀ r ∈ rs, r.f0.size ≤ 140737488351232) : ∀ (d i k : Nat), i + d = rs.length → d + rs.length + 20 ≤ k →
    tollbarlaw11_RouteBest.l0 k rs t (rs.reverse.take i) ((cnt ((fitsOf rs (L t)).take i) : Nat) : Int) ((best ((fitsOf rs (L t)).take i) : Nat) : Int) (rs.length : Int) (i : Int) = some true := by
  intro d
  induction d with
  | zero =>
    intro i k hi hk
    obtain ⟨k, rfl⟩ : ∃ q, k = q + 1 := ⟨k - 1, by omega⟩
    have e1 : (fitsOf rs (L t)).take i = fitsOf rs (L t) := List.take_of_length_le (by simp [fitsOf]; omega)
    have e2 : rs.reverse.take i = rs.reverse := List.take_of_length_le (by simp; omega)
    have e3 : i = rs.length := by omega
    rw [e1, e2, e3]
    exact tail rs rs.reverse t hn ht hr rfl k (by omega)
  | succ d ih =>
    intro i k hi hk
    obtain ⟨k, rfl⟩ : ∃ q, k = q + 1 := ⟨k - 1, by omega⟩
    have hil : i < rs.length := by omega
    have hil2 : rs.length - 1 - i < rs.length := by omega
    have hw : wrap64 ((i : Int) + 1) = ((i + 1 : Nat) : Int) := by rw [wrap64_in] <;> omega
    have hw1 : wrap64 ((rs.length : Int) - 1) = ((rs.length - 1 : Nat) : Int) := by rw [wrap64_in] <;> omega
    have hw2 : wrap64 (((rs.length - 1 : Nat) : Int) - (i : Int)) = ((rs.length - 1 - i : Nat) : Int) := by rw [wrap64_in] <;> omega
    have hlb : (rs.reverse.take i).length = i := by rw [List.length_take]; simp; omega
    have hg := fitsOf_get rs (L t) i hil
    have htk : (fitsOf rs (L t)).take (i + 1) = (fitsOf rs (L t)).take i ++ [(fitsL (L rs[i].f0) (L t), rs[i].f0.size)] := by
      rw [List.take_add_one, hg]; rfl
    have hback : rs.reverse.take i ++ [rs[rs.length - 1 - i]] = rs.reverse.take (i + 1) := by
      rw [List.take_add_one, List.getElem?_reverse hil, List.getElem?_eq_getElem hil2]; rfl
    have hcl := cnt_le ((fitsOf rs (L t)).take i)
    have hll : ((fitsOf rs (L t)).take i).length ≤ i := by rw [List.length_take]; omega
    simp only [tollbarlaw11_RouteBest.l0]
    rw [if_pos (by omega), hw1, hw2, if_pos (by omega), if_pos (by omega), if_pos (by omega), rd_at rs (rs.length - 1 - i) hil2]
    simp only [Option.bind_some]
    have hst : (⟨rs[rs.length - 1 - i].f0, rs[rs.length - 1 - i].f1, rs[rs.length - 1 - i].f2⟩ : S26) = rs[rs.length - 1 - i] := rfl
    rw [hst, hback, if_pos (by omega), if_pos (by omega), rd_at rs i hil, fits_spec _ t (by have := hr _ (List.getElem_mem hil); omega) (by omega)]
    simp only [Option.bind_some]
    rw [hw]
    have ihh := ih (i + 1) k (by omega) (by omega)
    rw [htk, cnt_snoc, best_snoc] at ihh
    cases hf : fitsL (L rs[i].f0) (L t) with
    | true =>
      rw [hf] at ihh
      simp only [if_true] at ihh ⊢
      have hw3 : wrap64 (((cnt ((fitsOf rs (L t)).take i) : Nat) : Int) + 1) = ((cnt ((fitsOf rs (L t)).take i) + 1 : Nat) : Int) := by rw [wrap64_in] <;> omega
      have hmx : mx ((best ((fitsOf rs (L t)).take i) : Nat) : Int) (rs[i].f0.size : Int) = ((max (best ((fitsOf rs (L t)).take i)) rs[i].f0.size : Nat) : Int) := by unfold mx; split <;> omega
      rw [hw3, hmx]
      exact ihh
    | false =>
      rw [hf] at ihh
      simp only [Bool.false_eq_true, if_false, Nat.add_zero] at ihh ⊢
      exact ihh

theorem RouteBest : tollbarlaw11_RouteBest.Pure := by
  intro rs t ⟨hlen, hr⟩ ht
  refine ⟨2 * rs.length + 200, ?_⟩
  unfold tollbarlaw11_RouteBest.f
  rw [alive_true _ (by omega)]
  simp only [Option.bind_some, if_true]
  generalize hk : 2 * rs.length + 200 = k
  obtain ⟨k, rfl⟩ : ∃ q, k = q + 1 := ⟨k - 1, by omega⟩
  by_cases h1 : (rs.length : Int) > 100
  · rw [if_pos h1]
    simp only [tollbarlaw11_RouteBest.j0, if_true]
  · rw [if_neg h1]
    by_cases h2 : (t.size : Int) > 2000
    · have : decide ((t.size : Int) > 2000) = true := decide_eq_true h2
      rw [this]
      simp only [tollbarlaw11_RouteBest.j0, if_true]
    · have : decide ((t.size : Int) > 2000) = false := decide_eq_false h2
      rw [this]
      simp only [tollbarlaw11_RouteBest.j0, Bool.false_eq_true, if_false]
      exact loop rs t (by omega) (by omega) (fun r h => (hr r h).1) rs.length 0 k (by omega) (by omega)
end Go.Proofs.Yticcigdibkajaaa.Pure
