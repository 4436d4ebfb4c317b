/- What is rewritten begins with what is swapped in, has no two / at the seam that weren't there, and its query stays; swapped by itself it is as it was: for every input (no condition). -/
import Derived.Test.YticcigdibkajaaaXRoute6
import Derived.Test.YticcigdibkajaaaPAllx8
namespace Go.Proofs.Yticcigdibkajaaa.Pure
open Go.RowKit Go.Proofs.Yticcigdibkajaaa.PAll Go.Proofs.Yticcigdibkajaaa.X Go.Proofs.YticcigdibkajaaaW.PrintWords Go.Proofs.YticcigdibkajaaaW.PrintMore
set_option linter.unusedVariables false
set_option linter.unusedSimpArgs false

theorem path_some (s : ByteArray) (hs : s.size ≤ 562949953404928) (k : Nat) (hk : s.size + 1 ≤ k) : ∃ b, tollbarlaw11_RouteSwaps_1.f k s = some b ∧ (b = true → 0 < s.size ∧ s.size ≤ 100) := by
  unfold tollbarlaw11_RouteSwaps_1.f
  obtain ⟨b, eb, hb⟩ := target_some s hs k hk
  rw [eb]
  simp only [Option.bind_some]
  cases b with
  | false => exact ⟨false, by simp, fun h => by cases h⟩
  | true =>
    have := hb rfl
    rw [if_pos rfl, if_pos (by omega)]
    split
    · exact ⟨_, rfl, fun h => ⟨this, by have := of_decide_eq_true h; omega⟩⟩
    · exact ⟨_, rfl, fun h => by cases h⟩

theorem last_eq (p : ByteArray) (hp : 0 < p.size) (h1 : p.size ≤ 100) : (bt p (wrap64 ((p.size : Int) - 1)) = 47) ↔ (L p).getLast? = some 47 := by
  have hw : wrap64 ((p.size : Int) - 1) = ((p.size - 1 : Nat) : Int) := by rw [wrap64_in] <;> omega
  rw [hw, List.getLast?_eq_getElem?, L_len]
  exact bt_eq_iff p (p.size - 1) 47 (by omega)

/-- what comes last -/
theorem fin (p target : ByteArray) (hp : p.size ≤ 100) (ht : target.size ≤ 1000) (hf : fitsL (L p) (L target) = true) (k : Nat) (hk : 10 ≤ k) :
    ((route_Fits.f p target).bind fun t184 => (if t184 = true then ((route_Match.f k (([(⟨p, (⟨#[]⟩ : ByteArray), (⟨#[]⟩ : ByteArray)⟩ : S26)] : List (S26))) target).bind fun t188 => (some (t188 == 0))) else (some false))) = some true := by
  rw [fits_spec p target (by omega) (by omega), hf]
  simp only [Option.bind_some, if_true]
  obtain ⟨m, em, im⟩ := match_spec [⟨p, ⟨#[]⟩, ⟨#[]⟩⟩] target (by simp) (by omega) (fun r hr => by rw [List.mem_singleton.1 hr]; show p.size ≤ _; omega) k (by simp; omega)
  rw [em]
  simp only [Option.bind_some]
  have : m = 0 := by
    refine im.unique (.inr ⟨0, (true, p.size), rfl, ?_, rfl, ?_, ?_⟩)
    · simp [fitsOf, hf]
    · intro j y hy hy1
      have : j = 0 := by have := fitsOf_lt hy; simpa using this
      subst this
      simp [fitsOf, hf] at hy
      rw [← hy]; exact Nat.le_refl _
    · intro j y hj; omega
  rw [this]; rfl

theorem tail (p swap tl q : ByteArray) (hp0 : 0 < p.size) (hp : p.size ≤ 100) (hs0 : 0 < swap.size) (hs : swap.size ≤ 100) (hl : tl.size + q.size ≤ 300) (hq : NoQ (L p)) (hqt : NoQ (L tl)) (k : Nat) (hk : 20 ≤ k) :
    tollbarlaw11_RouteSwaps.l1 k p swap tl q ((((p ++ (⟨#[47]⟩ : ByteArray)) ++ tl) ++ (⟨#[63]⟩ : ByteArray)) ++ q) (tl.size : Int) = some true := by
  obtain ⟨k, rfl⟩ : ∃ m, k = m + 4 := ⟨k - 4, by omega⟩
  have s1 : (⟨#[63]⟩ : ByteArray).size = 1 := rfl
  have s2 : (⟨#[47]⟩ : ByteArray).size = 1 := rfl
  have hT : L ((((p ++ (⟨#[47]⟩ : ByteArray)) ++ tl) ++ (⟨#[63]⟩ : ByteArray)) ++ q) = L p ++ 47 :: (L tl ++ 63 :: L q) := by
    simp only [L_append, List.append_assoc]; rfl
  have hTs : ((((p ++ (⟨#[47]⟩ : ByteArray)) ++ tl) ++ (⟨#[63]⟩ : ByteArray)) ++ q).size ≤ 1000 := by simp only [size_append]; omega
  generalize ((((p ++ (⟨#[47]⟩ : ByteArray)) ++ tl) ++ (⟨#[63]⟩ : ByteArray)) ++ q) = target at *
  have hfit : fitsL (L p) (L target) = true := by rw [hT, fits_c hq _ (by decide)]; simp
  have z1 := L_len p
  have z2 := L_len swap
  have z3 := L_len tl
  have z4 := L_len q
  simp only [tollbarlaw11_RouteSwaps.l1]
  rw [if_neg (by omega)]
  obtain ⟨s, es, hs'⟩ := rewrite_spec p (⟨#[]⟩ : ByteArray) swap target (by omega) (by omega) (by omega) (k + 3) (by omega)
  obtain ⟨same, em, hm'⟩ := rewrite_spec p (⟨#[]⟩ : ByteArray) p (p ++ tl) (by omega) (by rw [size_append]; omega) (by omega) (k + 3) (by omega)
  -- what is rewritten
  have er : ∃ mid, rewL (L p) (L swap) (L target) = (L swap ++ (mid ++ 63 :: L q), true) ∧ mid.length ≤ tl.size + 1 := by
    unfold rewL
    rw [hfit, if_pos rfl]
    have hd : (L target).drop (L p).length = 47 :: (L tl ++ 63 :: L q) := by rw [hT, List.drop_left]
    rw [hd]
    by_cases h : (L swap).getLast? = some 47
    · have e : restL (L swap) (47 :: (L tl ++ 63 :: L q)) = L tl ++ 63 :: L q := by
        unfold restL
        rw [if_pos h, if_pos (show (47 :: (L tl ++ 63 :: L q))[0]? = some 47 from rfl)]; rfl
      rw [e]
      refine ⟨L tl, ?_, by omega⟩
      rw [if_neg (by simp only [List.length_append, List.length_cons]; omega)]
    · have e : restL (L swap) (47 :: (L tl ++ 63 :: L q)) = 47 :: (L tl ++ 63 :: L q) := by
        unfold restL
        rw [if_neg h, if_pos (Or.inr (Or.inl (show (47 :: (L tl ++ 63 :: L q))[0]? = some 47 from rfl)))]
      rw [e]
      refine ⟨47 :: L tl, ?_, by simp only [List.length_cons]; omega⟩
      rw [if_neg (by simp only [List.length_append, List.length_cons]; omega)]; rfl
  obtain ⟨mid, er, hmid⟩ := er
  rw [er] at es hs'
  rw [es]
  simp only [Option.bind_some]
  rw [if_pos (by omega), em]
  simp only [Option.bind_some, if_true]
  have z5 := L_len s
  rw [hs'] at z5
  simp only [List.length_append, List.length_cons] at z5
  rw [if_neg (by omega), if_pos (by omega), if_pos (by omega)]
  have e1 : (s.extract 0 swap.size).toList = swap.toList := by
    rw [toList_eq, toList_eq, L_extract, hs', List.drop_zero, Nat.sub_zero, ← z2, List.take_left]
  have hw1 : wrap64 ((s.size : Int) - (q.size : Int)) = ((s.size - q.size : Nat) : Int) := by rw [wrap64_in] <;> omega
  have hw2 : wrap64 (((s.size - q.size : Nat) : Int) - 1) = ((s.size - q.size - 1 : Nat) : Int) := by rw [wrap64_in] <;> omega
  rw [if_pos e1, hw1, hw2, if_pos (by omega), if_pos (by omega), if_pos (by omega)]
  have e2 : ((s.extract ((((s.size - q.size - 1 : Nat) : Int)) : Int).toNat s.size).toList != ((⟨#[63]⟩ : ByteArray) ++ q).toList) = false := by
    rw [bne_eq_false_iff_eq, toList_eq, toList_eq, L_extract, hs', L_append, Int.toNat_natCast, List.take_of_length_le (by rw [List.length_drop]; simp only [List.length_append, List.length_cons]; omega)]
    have hn : s.size - q.size - 1 = (L swap ++ mid).length := by rw [List.length_append]; omega
    rw [hn, ← List.append_assoc, List.drop_left]; rfl
  rw [e2]
  simp only [tollbarlaw11_RouteSwaps.j3, Bool.false_eq_true, if_false]
  have hwp : wrap64 ((p.size : Int) - 1) = ((p.size - 1 : Nat) : Int) := by rw [wrap64_in] <;> omega
  rw [if_pos (by omega), fits_spec p (p ++ tl) (by omega) (by rw [size_append]; omega)]
  simp only [Option.bind_some]
  cases hf : fitsL (L p) (L (p ++ tl)) with
  | false =>
    rw [if_neg (by simp)]
    exact fin p target hp hTs hfit (k + 2) (by omega)
  | true =>
    rw [if_pos rfl, hwp, if_pos (by omega), if_pos (by omega), ← hwp]
    have hlast := last_eq p hp0 hp
    have hdt : (L (p ++ tl)).drop (L p).length = L tl := by rw [L_append, List.drop_left]
    -- swapped by itself
    have ers : ∀ rest, restL (L p) (L tl) = rest → rest.length ≤ tl.size → rewL (L p) (L p) (L (p ++ tl)) = (L p ++ rest, true) := by
      intro rest hrest hlen
      unfold rewL
      rw [hf, if_pos rfl, hdt, hrest, if_neg (by rw [List.length_append]; omega)]
    have t0 : 0 < tl.size → (bt tl 0 = 47 ↔ (L tl)[0]? = some 47) := fun h => bt_eq_iff tl 0 47 h
    have plain : restL (L p) (L tl) = L tl → tollbarlaw11_RouteSwaps.j4 (k + 2) p tl target same ((rewL (L p) (L p) (L (p ++ tl))).2) false = some true := by
      intro hrest
      have e := ers _ hrest (by omega)
      rw [e] at hm' ⊢
      simp only [tollbarlaw11_RouteSwaps.j4, if_true, Bool.false_eq_true, if_false]
      rw [if_pos (by omega), if_pos (by rw [toList_eq, toList_eq, hm', L_append])]
      simp only [tollbarlaw11_RouteSwaps.j5, Bool.false_eq_true, if_false]
      exact fin p target hp hTs hfit k (by omega)
    by_cases h47 : bt p (wrap64 ((p.size : Int) - 1)) = 47
    · rw [if_pos h47]
      have hl47 := hlast.1 h47
      by_cases ht0 : (tl.size : Int) > 0
      · rw [if_pos ht0, if_pos (by omega)]
        by_cases hb : bt tl 0 = 47
        · have hbb : (bt tl 0 == 47) = true := by simpa using hb
          rw [hbb]
          have hrest : restL (L p) (L tl) = (L tl).drop 1 := by
            unfold restL
            rw [if_pos hl47, if_pos ((t0 (by omega)).1 hb)]
          have e := ers _ hrest (by rw [List.length_drop]; omega)
          rw [e] at hm' ⊢
          simp only [tollbarlaw11_RouteSwaps.j4, if_true]
          have hx : L (tl.extract 1 tl.size) = (L tl).drop 1 := by rw [L_extract, List.take_of_length_le (by rw [List.length_drop]; omega)]
          have hne : (same.toList != (p ++ (tl.extract 1 tl.size)).toList) = false := by
            rw [bne_eq_false_iff_eq, toList_eq, toList_eq, hm', L_append, hx]
          rw [if_pos (by omega), if_pos (by first | omega | (rw [size_extract]; omega)), hne]
          simp only [tollbarlaw11_RouteSwaps.j5, Bool.false_eq_true, if_false]
          exact fin p target hp hTs hfit k (by omega)
        · have hbb : (bt tl 0 == 47) = false := by simpa using hb
          rw [hbb]
          refine plain ?_
          unfold restL
          rw [if_pos hl47, if_neg (fun e => hb ((t0 (by omega)).2 e))]
      · rw [if_neg ht0]
        refine plain ?_
        have he : L tl = [] := List.eq_nil_of_length_eq_zero (by omega)
        unfold restL
        rw [he, if_pos hl47]; rfl
    · rw [if_neg h47]
      refine plain ?_
      have hnl : ¬ (L p).getLast? = some 47 := fun e => h47 (hlast.2 e)
      unfold restL
      rw [if_neg hnl]
      cases hcs : L tl with
      | nil => simp
      | cons c cs =>
        have hc63 : c ≠ 63 := by
          intro e
          apply hqt
          rw [hcs, e]; simp
        rw [L_append, hcs, fits_c hq cs hc63] at hf
        have hnl2 : ((L p).getLast? == some 47) = false := by simpa using hnl
        rw [hnl2, Bool.false_or] at hf
        have : c = 47 := by simpa using hf
        rw [if_pos (Or.inr (Or.inl (by rw [this]; rfl)))]

theorem loop1 (p swap tl q : ByteArray) (hp0 : 0 < p.size) (hp : p.size ≤ 100) (hs0 : 0 < swap.size) (hs : swap.size ≤ 100) (hl : tl.size + q.size ≤ 300) (hq : NoQ (L p)) : ∀ (d i k : Nat), i + d = tl.size → d + 21 ≤ k → (∀ j : Nat, j < i → bt tl (j : Int) ≠ 63) →
    tollbarlaw11_RouteSwaps.l1 k p swap tl q ((((p ++ (⟨#[47]⟩ : ByteArray)) ++ tl) ++ (⟨#[63]⟩ : ByteArray)) ++ q) (i : Int) = some true := by
  intro d
  induction d with
  | zero =>
    intro i k hi hk hn
    have : i = tl.size := by omega
    subst this
    exact tail p swap tl q hp0 hp hs0 hs hl hq (noQ_of tl hn) k (by omega)
  | succ d ih =>
    intro i k hi hk hn
    obtain ⟨k, rfl⟩ : ∃ q, k = q + 1 := ⟨k - 1, by omega⟩
    unfold tollbarlaw11_RouteSwaps.l1
    rw [if_pos (by omega), if_pos (by omega)]
    have hw : wrap64 ((i : Int) + 1) = ((i + 1 : Nat) : Int) := by rw [wrap64_in] <;> omega
    by_cases h : bt tl (i : Int) = 63
    · rw [if_pos h]
    · rw [if_neg h, hw]
      refine ih (i + 1) k (by omega) (by omega) (fun j hj => ?_)
      rcases Nat.lt_or_ge j i with h3 | h3
      · exact hn j h3
      · have : j = i := by omega
        rw [this]; exact h

theorem path_short {p : List UInt8} (h : 63 ∈ p) : (pathOf p).length < p.length := by
  induction p with
  | nil => cases h
  | cons c p ih =>
    unfold pathOf
    rw [List.takeWhile_cons]
    split
    · rename_i hc
      have : 63 ∈ p := by
        rcases List.mem_cons.1 h with e | e
        · subst e; simp at hc
        · exact e
      have := ih this
      unfold pathOf at this
      simp only [List.length_cons]; omega
    · simp

theorem loop0 (p swap tl q : ByteArray) (hp0 : 0 < p.size) (hp : p.size ≤ 100) (hs0 : 0 < swap.size) (hs : swap.size ≤ 100) (hl : tl.size + q.size ≤ 300) : ∀ (d i k : Nat), i + d = p.size → d + tl.size + 30 ≤ k → (∀ j : Nat, j < i → bt p (j : Int) ≠ 63) →
    tollbarlaw11_RouteSwaps.l0 k p swap tl q (i : Int) = some true := by
  have s1 : (⟨#[63]⟩ : ByteArray).size = 1 := rfl
  have s2 : (⟨#[47]⟩ : ByteArray).size = 1 := rfl
  intro d
  induction d with
  | zero =>
    intro i k hi hk hn
    obtain ⟨k, rfl⟩ : ∃ q, k = q + 1 := ⟨k - 1, by omega⟩
    unfold tollbarlaw11_RouteSwaps.l0
    rw [if_neg (by omega), if_pos (by omega), if_pos (by simp only [size_append]; omega), if_pos (by simp only [size_append]; omega), if_pos (by simp only [size_append]; omega)]
    exact loop1 p swap tl q hp0 hp hs0 hs hl (noQ_of p (fun j hj => hn j (by omega))) tl.size 0 k (by omega) (by omega) (fun j hj => by omega)
  | succ d ih =>
    intro i k hi hk hn
    obtain ⟨k, rfl⟩ : ∃ q, k = q + 1 := ⟨k - 1, by omega⟩
    unfold tollbarlaw11_RouteSwaps.l0
    rw [if_pos (by omega), if_pos (by omega)]
    have hw : wrap64 ((i : Int) + 1) = ((i + 1 : Nat) : Int) := by rw [wrap64_in] <;> omega
    by_cases h : bt p (i : Int) = 63
    · rw [if_pos h, fits_spec p p (by omega) (by omega)]
      have hm : 63 ∈ L p := List.mem_of_getElem? ((bt_eq_iff p i 63 (by omega)).1 h)
      have : fitsL (L p) (L p) = false := by
        have hlt := path_short hm
        unfold fitsL
        have : (L p).isPrefixOf (pathOf (L p)) = false := by
          cases hh : (L p).isPrefixOf (pathOf (L p)) with
          | false => rfl
          | true => have := (List.isPrefixOf_iff_prefix.1 hh).length_le; omega
        rw [this]; rfl
      rw [this]; rfl
    · rw [if_neg h, hw]
      refine ih (i + 1) k (by omega) (by omega) (fun j hj => ?_)
      rcases Nat.lt_or_ge j i with h3 | h3
      · exact hn j h3
      · have : j = i := by omega
        rw [this]; exact h

theorem RouteSwaps : tollbarlaw11_RouteSwaps.Pure := by
  intro p swap tl q hp hs ht hq
  obtain ⟨k0, hk0⟩ : ∃ k0, k0 = p.size + swap.size + tl.size + 300 := ⟨_, rfl⟩
  refine ⟨k0, ?_⟩
  unfold tollbarlaw11_RouteSwaps.f
  rw [alive_true _ (by omega)]
  simp only [Option.bind_some, if_true]
  obtain ⟨b, eb, hb⟩ := path_some p (by omega) k0 (by omega)
  obtain ⟨c, ec, hc⟩ := path_some swap (by omega) k0 (by omega)
  rw [eb, ec]
  simp only [Option.bind_some]
  obtain ⟨k, rfl⟩ : ∃ q, k0 = q + 1 := ⟨k0 - 1, by omega⟩
  have triv : tollbarlaw11_RouteSwaps.j0 (k + 1) p swap tl q true = some true := by simp only [tollbarlaw11_RouteSwaps.j0, if_true]
  cases b with
  | false => rw [if_neg (by simp)]; exact triv
  | true =>
    rw [if_pos rfl]
    cases c with
    | false => rw [if_neg (by simp)]; exact triv
    | true =>
      obtain ⟨h1, h2⟩ := hb rfl
      obtain ⟨h3, h4⟩ := hc rfl
      have hw : wrap64 ((tl.size : Int) + (q.size : Int)) = (tl.size : Int) + (q.size : Int) := by apply wrap64_in <;> omega
      rw [if_pos rfl, hw]
      by_cases h5 : (tl.size : Int) + (q.size : Int) > 300
      · rw [decide_eq_true h5]; exact triv
      · rw [decide_eq_false h5]
        simp only [tollbarlaw11_RouteSwaps.j0, Bool.false_eq_true, if_false]
        exact loop0 p swap tl q h1 h2 h3 h4 (by omega) p.size 0 k (by omega) (by omega) (fun j hj => by omega)
end Go.Proofs.Yticcigdibkajaaa.Pure
