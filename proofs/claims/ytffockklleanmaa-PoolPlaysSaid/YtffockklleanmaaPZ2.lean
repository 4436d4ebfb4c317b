import Derived.Test.YtffockklleanmaaPZ1
import Derived.Test.YtffockklleanmaaPS8
import Derived.Test.YtffockklleanmaaPB1
/- The pool and the document's: what they have in common. -/
namespace Go.Proofs.Ytffockklleanmaa.AM.SX
open Go
set_option linter.unusedVariables false
set_option linter.unusedSimpArgs false
def fD (x : HD) : Int × Int × ByteArray := (x.h, x.st, x.aim)
def fS (x : Hd) : Int × Int × ByteArray := (x.k, x.st, x.aim)
def dsince (l : List HD) (k : Int) : Int := match dget l k with | some x => x.since | none => 0
structure Rel (s : PS) (d : DP) : Prop where
  most : d.most = s.most
  last : d.last = s.last
  all : d.all.map fD = s.all.map fS
  ord : s.idles.Pairwise fun a b => dsince d.all a < dsince d.all b
  le : ∀ x ∈ d.all, x.since ≤ d.rests
theorem Rel.new (most : Int) : Rel (newPS most) ⟨min (max most 0) 64, 0, 0, []⟩ := ⟨rfl, rfl, rfl, .nil, fun x hx => by cases hx⟩
theorem find_map {α : Type} {l : List α} {f : α → Int × Int × ByteArray} {k : Int} : (l.find? fun x => (f x).1 == k).map f = (l.map f).find? fun t => t.1 == k := by rw [List.find?_map]; rfl
section
variable {s : PS} {d : DP}
theorem Rel.len (r : Rel s d) : d.all.length = s.all.length := by have := congrArg List.length r.all; simpa using this
theorem Rel.get (r : Rel s d) (k : Int) : (dget d.all k).map fD = (s.find k).map fS := by
  have h1 : (dget d.all k).map fD = (d.all.map fD).find? fun t => t.1 == k := find_map (f := fD)
  have h2 : (s.find k).map fS = (s.all.map fS).find? fun t => t.1 == k := find_map (f := fS)
  rw [h1, h2, r.all]
theorem Rel.state (r : Rel s d) (k : Int) : s.state k = dstate d.all k := by
  have := r.get k
  unfold PS.state dstate
  cases h1 : s.find k <;> cases h2 : dget d.all k <;> rw [h1, h2] at this <;> simp [fD, fS] at this
  · exact this.2.1.symm
theorem Rel.aim (r : Rel s d) (k : Int) : s.aim k = daim d.all k := by
  have := r.get k
  unfold PS.aim daim
  cases h1 : s.find k <;> cases h2 : dget d.all k <;> rw [h1, h2] at this <;> simp [fD, fS] at this
  · exact this.2.2.symm
theorem Rel.at (r : Rel s d) {i : Nat} (hi : i < d.all.length) (hj : i < s.all.length) : d.all[i].h = s.all[i].k ∧ d.all[i].st = s.all[i].st ∧ d.all[i].aim = s.all[i].aim := by
  have h1 : (d.all.map fD)[i]'(by simpa using hi) = (s.all.map fS)[i]'(by simpa using hj) := by simp only [r.all]
  simp only [List.getElem_map, fD, fS, Prod.mk.injEq] at h1
  exact h1
theorem Rel.keys (r : Rel s d) : d.all.map (·.h) = s.all.map (·.k) := by
  have h1 := congrArg (List.map (fun t : Int × Int × ByteArray => t.1)) r.all
  simp only [List.map_map] at h1
  exact h1
theorem Rel.nd (r : Rel s d) (w : WF s) : (d.all.map (·.h)).Nodup := by rw [r.keys]; exact w.keys
theorem uniq_h {l : List HD} (hn : (l.map (·.h)).Nodup) {x y : HD} (hx : x ∈ l) (hy : y ∈ l) (e : x.h = y.h) : x = y := by
  obtain ⟨i, hi, rfl⟩ := List.mem_iff_getElem.1 hx
  obtain ⟨j, hj, rfl⟩ := List.mem_iff_getElem.1 hy
  have := nodup_inj hn (i := i) (j := j) (by simpa using hi) (by simpa using hj) (by simpa using e)
  subst this; rfl
theorem dget_mem {l : List HD} {k : Int} {x : HD} (h : dget l k = some x) : x ∈ l ∧ x.h = k := ⟨List.mem_of_find?_eq_some h, by simpa using List.find?_some h⟩
theorem dget_of {l : List HD} (hn : (l.map (·.h)).Nodup) {x : HD} (hx : x ∈ l) : dget l x.h = some x := by
  cases hf : dget l x.h with
  | none => exact absurd (List.find?_eq_none.1 hf x hx) (by simp)
  | some y =>
    obtain ⟨h1, h2⟩ := dget_mem hf
    rw [uniq_h hn h1 hx h2]
theorem hasH_of {l : List HD} {x : HD} (hx : x ∈ l) : hasH x.h l = true := List.any_eq_true.2 ⟨x, hx, by simp⟩
theorem dget_withI (x : HD) (j : Int) : ∀ l : List HD, dget (withI x l) j = (dget l j).map fun y => if y.h = x.h then x else y
  | [] => rfl
  | y :: l => by
    have e : (if y.h = x.h then x else y).h = y.h := by split; exact Eq.symm (by assumption); rfl
    have ih := dget_withI x j l
    unfold dget withI at ih ⊢
    simp only [List.map_cons, List.find?_cons, e]
    cases hj : y.h == j
    · exact ih
    · rfl
theorem dget_outF (k j : Int) : ∀ l : List HD, dget (outF k l) j = if j = k then none else dget l j
  | [] => by simp [outF, dget]
  | y :: l => by
    have ih := dget_outF k j l
    unfold dget outF at ih ⊢
    rw [List.filter_cons]
    by_cases hk : y.h = k
    · have h1 : decide (y.h ≠ k) = false := by simpa using hk
      rw [h1]
      simp only [Bool.false_eq_true, if_false]
      rw [ih, List.find?_cons]
      by_cases hj : j = k
      · rw [if_pos hj, if_pos hj]
      · have h2 : (y.h == j) = false := by simpa using fun e => hj (by rw [← e]; exact hk)
        rw [if_neg hj, if_neg hj, h2]
    · have h1 : decide (y.h ≠ k) = true := by simpa using hk
      rw [h1]
      simp only [if_true]
      rw [List.find?_cons, List.find?_cons]
      cases hj : y.h == j with
      | true =>
        have : y.h = j := by simpa using hj
        rw [if_neg (by rw [← this]; exact hk)]
      | false => exact ih
theorem dget_app (x : HD) (j : Int) (l : List HD) : dget (l ++ [x]) j = (dget l j).or (if x.h = j then some x else none) := by
  unfold dget
  rw [List.find?_append]
  congr 1
  simp only [List.find?_cons, List.find?_nil]
  by_cases h : x.h = j
  · simp [h]
  · have : (x.h == j) = false := by simpa using h
    rw [this, if_neg h]
/-- a handle of the same number, with another state -/
theorem withF_has {l : List HD} {x : HD} (hx : x ∈ l) {t c : Int} {a : ByteArray} : withF ⟨x.h, t, c, a⟩ l = withI ⟨x.h, t, c, a⟩ l := by unfold withF; rw [if_pos (hasH_of hx)]
theorem withI_all (r : Rel s d) (w : WF s) {x : HD} (hx : x ∈ d.all) (t c : Int) : (withI ⟨x.h, t, c, x.aim⟩ d.all).map fD = (setSt x.h t s.all).map fS := by
  refine List.ext_getElem ?_ fun i h1 h2 => ?_
  · simp [withI, setSt, r.len]
  · have hi : i < d.all.length := by simpa [withI] using h1
    have hj : i < s.all.length := by simpa [setSt] using h2
    obtain ⟨e1, e2, e3⟩ := r.at hi hj
    simp only [withI, setSt, List.getElem_map]
    by_cases h : d.all[i].h = x.h
    · have h' : s.all[i].k = x.h := e1.symm.trans h
      rw [if_pos h, if_pos h']
      have := uniq_h (r.nd w) (List.getElem_mem hi) hx h
      simp only [fD, fS, h', ← e3, this]
    · have h' : ¬ s.all[i].k = x.h := fun e => h (e1.trans e)
      rw [if_neg h, if_neg h']
      simp only [fD, fS, e1, e2, e3]
theorem dsince_of {l : List HD} {k : Int} {x : HD} (h : dget l k = some x) : dsince l k = x.since := by unfold dsince; rw [h]
theorem dsince_same (r : Rel s d) (w : WF s) {x : HD} (hx : x ∈ d.all) (t : Int) (j : Int) : dsince (withI ⟨x.h, t, x.since, x.aim⟩ d.all) j = dsince d.all j := by
  unfold dsince
  rw [dget_withI]
  cases hj : dget d.all j with
  | none => rfl
  | some y =>
    simp only [Option.map_some]
    split
    · rename_i e
      rw [uniq_h (r.nd w) (dget_mem hj).1 hx e]
    · rfl
theorem dsince_ne {l : List HD} {x : HD} {j : Int} (hj : j ≠ x.h) : dsince (withI x l) j = dsince l j := by
  unfold dsince
  rw [dget_withI]
  cases h : dget l j with
  | none => rfl
  | some y =>
    simp only [Option.map_some]
    rw [if_neg (by rw [(dget_mem h).2]; exact hj)]
theorem Rel.idle (r : Rel s d) (w : WF s) {k : Int} (hk : k ∈ s.idles) : ∃ x, dget d.all k = some x ∧ x.st = 3 ∧ x.aim = s.aim k ∧ x.h = k := by
  obtain ⟨y, hy, hst⟩ := w.idle k hk
  have h1 := r.get k
  rw [hy] at h1
  cases hx : dget d.all k with
  | none => rw [hx] at h1; cases h1
  | some x =>
    rw [hx] at h1
    simp only [Option.map_some, fD, fS, Option.some.injEq, Prod.mk.injEq] at h1
    refine ⟨x, rfl, h1.2.1.trans hst, ?_, (dget_mem hx).2⟩
    unfold PS.aim
    rw [hy]
    exact h1.2.2
theorem Rel.idle' (r : Rel s d) (w : WF s) {i : Nat} (hi : i < d.all.length) (hs : d.all[i].st = 3) : d.all[i].h ∈ s.idles ∧ s.aim d.all[i].h = d.all[i].aim := by
  have hj : i < s.all.length := by rw [← r.len]; exact hi
  obtain ⟨e1, e2, e3⟩ := r.at hi hj
  refine ⟨by rw [e1]; exact w.idle' _ (List.getElem_mem hj) (e2.symm.trans hs), ?_⟩
  rw [r.aim]
  unfold daim
  rw [dget_of (r.nd w) (List.getElem_mem hi)]
theorem Rel.joined (r : Rel s d) (w : WF s) (k : Int) : (joinD d k).2 = decide (s.state k = 1) ∧ Rel (if s.state k = 1 then { s with all := setSt k 2 s.all } else s) (joinD d k).1 := by
  have h1 := r.state k
  unfold joinD
  unfold dstate at h1
  cases hx : dget d.all k with
  | none =>
    rw [hx] at h1
    have h1 : s.state k = 0 := h1
    have h2 : ¬ s.state k = 1 := by omega
    simp only [if_neg h2, decide_eq_false h2]
    exact ⟨trivial, r⟩
  | some x =>
    rw [hx] at h1
    have h1 : s.state k = x.st := h1
    obtain ⟨hm, rfl⟩ := dget_mem hx
    rw [h1]
    by_cases hs : x.st = 1
    · simp only [if_pos hs, decide_eq_true hs]
      refine ⟨trivial, r.most, r.last, ?_, ?_, ?_⟩
      · show (withF ⟨x.h, 2, x.since, x.aim⟩ d.all).map fD = _
        rw [withF_has hm]; exact withI_all r w hm 2 x.since
      · refine r.ord.imp_of_mem fun ha hb h => ?_
        show dsince (withF ⟨x.h, 2, x.since, x.aim⟩ d.all) _ < dsince (withF ⟨x.h, 2, x.since, x.aim⟩ d.all) _
        rw [withF_has hm, dsince_same r w hm, dsince_same r w hm]; exact h
      · intro y hy
        have hy : y ∈ withF ⟨x.h, 2, x.since, x.aim⟩ d.all := hy
        rw [withF_has hm] at hy
        obtain ⟨z, hz, rfl⟩ := List.mem_map.1 hy
        split
        · exact r.le x hm
        · exact r.le z hz
    · simp only [if_neg hs, decide_eq_false hs]
      exact ⟨trivial, r⟩
theorem Rel.rest (r : Rel s d) (w : WF s) (k : Int) : (restD d k).2 = decide (s.state k = 2) ∧ Rel (if s.state k = 2 then { s with all := setSt k 3 s.all, idles := s.idles ++ [k] } else s) (restD d k).1 := by
  have h1 := r.state k
  unfold restD
  unfold dstate at h1
  cases hx : dget d.all k with
  | none =>
    rw [hx] at h1
    have h1 : s.state k = 0 := h1
    have h2 : ¬ s.state k = 2 := by omega
    simp only [if_neg h2, decide_eq_false h2]
    exact ⟨trivial, r⟩
  | some x =>
    rw [hx] at h1
    have h1 : s.state k = x.st := h1
    obtain ⟨hm, rfl⟩ := dget_mem hx
    by_cases hs : x.st = 2
    · have hne : ∀ a ∈ s.idles, a ≠ x.h := fun a ha e => by
        obtain ⟨y, hy, hst, _⟩ := r.idle w ha
        rw [e, hx] at hy
        obtain rfl := Option.some.inj hy
        omega
      rw [h1]
      simp only [if_pos hs, decide_eq_true hs]
      refine ⟨trivial, r.most, r.last, ?_, ?_, ?_⟩
      · show (withF ⟨x.h, 3, d.rests + 1, x.aim⟩ d.all).map fD = _
        rw [withF_has hm]; exact withI_all r w hm 3 (d.rests + 1)
      · show List.Pairwise (fun a b => dsince (withF ⟨x.h, 3, d.rests + 1, x.aim⟩ d.all) a < dsince (withF ⟨x.h, 3, d.rests + 1, x.aim⟩ d.all) b) (s.idles ++ [x.h])
        rw [withF_has hm]
        have hds : ∀ a ∈ s.idles, dsince (withI ⟨x.h, 3, d.rests + 1, x.aim⟩ d.all) a = dsince d.all a := fun a ha => dsince_ne (x := ⟨x.h, 3, d.rests + 1, x.aim⟩) (hne a ha)
        refine List.pairwise_append.2 ⟨r.ord.imp_of_mem fun ha hb h => ?_, List.pairwise_singleton _ _, fun a ha b hb => ?_⟩
        · rw [hds _ ha, hds _ hb]; exact h
        · rw [List.mem_singleton.1 hb, hds _ ha]
          obtain ⟨y, hy, _⟩ := r.idle w ha
          have h3 : dsince (withI ⟨x.h, 3, d.rests + 1, x.aim⟩ d.all) x.h = d.rests + 1 := dsince_of (x := ⟨x.h, 3, d.rests + 1, x.aim⟩) (by rw [dget_withI, hx]; simp)
          rw [h3, dsince_of hy]
          have := r.le y (dget_mem hy).1
          omega
      · intro y hy
        have hy : y ∈ withF ⟨x.h, 3, d.rests + 1, x.aim⟩ d.all := hy
        rw [withF_has hm] at hy
        obtain ⟨z, hz, rfl⟩ := List.mem_map.1 hy
        show _ ≤ d.rests + 1
        split
        · exact Int.le_refl _
        · have := r.le z hz; omega
    · rw [h1]
      simp only [if_neg hs, decide_eq_false hs]
      exact ⟨trivial, r⟩
theorem outF_all (r : Rel s d) (k : Int) : (outF k d.all).map fD = (s.all.filter fun x => x.k != k).map fS := by
  have h1 : (outF k d.all).map fD = (d.all.map fD).filter fun t => t.1 != k := by
    rw [List.filter_map]
    unfold outF
    congr 1
    refine List.filter_congr fun x _ => ?_
    simp only [Function.comp, fD]
    by_cases h : x.h = k <;> simp [h]
  have h2 : (s.all.filter fun x => x.k != k).map fS = (s.all.map fS).filter fun t => t.1 != k := by
    rw [List.filter_map]; rfl
  rw [h1, h2, r.all]
theorem dsince_outF {l : List HD} {k j : Int} (hj : j ≠ k) : dsince (outF k l) j = dsince l j := by
  unfold dsince; rw [dget_outF, if_neg hj]
theorem Rel.shut (r : Rel s d) (k : Int) : Rel (shutF s k) { d with all := outF k d.all } := by
  refine ⟨r.most, r.last, outF_all r k, ?_, fun x hx => r.le x (List.mem_filter.1 hx).1⟩
  refine (r.ord.filter (· != k)).imp_of_mem fun {a b} ha hb h => ?_
  show dsince (outF k d.all) a < dsince (outF k d.all) b
  have h1 := (List.mem_filter.1 ha).2
  have h2 := (List.mem_filter.1 hb).2
  rw [dsince_outF (by simpa using h1), dsince_outF (by simpa using h2)]; exact h
theorem Rel.shutB (r : Rel s d) (k : Int) : decide ((outF k d.all).length < d.all.length) = (s.find k).isSome := by
  have h1 := r.get k
  have h2 : (dget d.all k).isSome = (s.find k).isSome := by
    have := congrArg Option.isSome h1
    simpa using this
  rw [← h2]
  cases hx : dget d.all k with
  | none =>
    have h3 := List.find?_eq_none.1 hx
    have h4 : outF k d.all = d.all := by
      unfold outF
      rw [List.filter_eq_self]
      intro x hx
      have := h3 x hx
      simpa using this
    rw [h4]; simp
  | some x =>
    obtain ⟨hm, hk⟩ := dget_mem hx
    have h3 : (outF k d.all).length < d.all.length := List.length_filter_lt_length_iff_exists.2 ⟨x, hm, by simp [hk]⟩
    simp [h3]
theorem Rel.lens (r : Rel s d) : (d.all.length : Int) = (s.all.length : Int) := by rw [r.len]
theorem Rel.add (r : Rel s d) (w : WF s) {id : Nat} {aim : ByteArray} : Rel { s with last := s.last + 1, all := s.all ++ [⟨s.last + 1, id, aim, 1⟩] } { d with last := d.last + 1, all := withF ⟨d.last + 1, 1, 0, aim⟩ d.all } ∨ d.rests < 0 := by
  by_cases hr : d.rests < 0
  · exact .inr hr
  refine .inl ?_
  have hlast := r.last
  have hno : ∀ x ∈ d.all, x.h ≠ d.last + 1 := fun x hx e => by
    have h1 : x.h ∈ s.all.map (·.k) := by rw [← r.keys]; exact List.mem_map_of_mem hx
    obtain ⟨y, hy, hyk⟩ := List.mem_map.1 h1
    have := (w.klt y hy).2
    omega
  have hf : hasH (d.last + 1) d.all = false := by
    unfold hasH
    rw [List.any_eq_false]
    intro x hx
    simpa using hno x hx
  have hi : withI ⟨d.last + 1, 1, 0, aim⟩ d.all = d.all := by
    unfold withI
    conv => rhs; rw [← List.map_id d.all]
    refine List.map_congr_left fun x hx => ?_
    rw [if_neg (hno x hx)]; rfl
  have hw : withF ⟨d.last + 1, 1, 0, aim⟩ d.all = d.all ++ [⟨d.last + 1, 1, 0, aim⟩] := by
    unfold withF
    rw [if_neg (by simp [hf]), hi]
  have hne : ∀ a ∈ s.idles, a ≠ d.last + 1 := fun a ha e => by
    obtain ⟨y, hy, _, _, hh⟩ := r.idle w ha
    exact hno y (dget_mem hy).1 (hh.trans e)
  refine ⟨r.most, by show d.last + 1 = s.last + 1; rw [hlast], ?_, ?_, ?_⟩
  · show (withF ⟨d.last + 1, 1, 0, aim⟩ d.all).map fD = _
    rw [hw, List.map_append, List.map_append, r.all]
    simp only [List.map_cons, List.map_nil, fD, fS, hlast]
  · refine r.ord.imp_of_mem fun {a b} ha hb h => ?_
    show dsince (withF ⟨d.last + 1, 1, 0, aim⟩ d.all) a < dsince (withF ⟨d.last + 1, 1, 0, aim⟩ d.all) b
    have key : ∀ c ∈ s.idles, dsince (withF ⟨d.last + 1, 1, 0, aim⟩ d.all) c = dsince d.all c := fun c hc => by
      obtain ⟨y, hy, _⟩ := r.idle w hc
      rw [dsince_of hy, dsince_of (x := y) (by rw [hw, dget_app, hy]; rfl)]
    rw [key a ha, key b hb]; exact h
  · intro x hx
    have hx : x ∈ withF ⟨d.last + 1, 1, 0, aim⟩ d.all := hx
    rw [hw] at hx
    rcases List.mem_append.1 hx with hx | hx
    · exact r.le x hx
    · rw [List.mem_singleton.1 hx]; show (0 : Int) ≤ d.rests; omega
theorem Rel.lent (r : Rel s d) (w : WF s) {i : Nat} (hi : i < s.idles.length) {x : HD} (hx : x ∈ d.all) (hk : x.h = s.idles[i]) : Rel { s with all := setSt s.idles[i] 2 s.all, idles := s.idles.eraseIdx i } { d with all := withF ⟨x.h, 2, x.since, x.aim⟩ d.all } := by
  refine ⟨r.most, r.last, ?_, ?_, ?_⟩
  · show (withF ⟨x.h, 2, x.since, x.aim⟩ d.all).map fD = (setSt s.idles[i] 2 s.all).map fS
    rw [withF_has hx, ← hk]; exact withI_all r w hx 2 x.since
  · refine (r.ord.sublist (List.eraseIdx_sublist _ _)).imp_of_mem fun ha hb h => ?_
    show dsince (withF ⟨x.h, 2, x.since, x.aim⟩ d.all) _ < dsince (withF ⟨x.h, 2, x.since, x.aim⟩ d.all) _
    rw [withF_has hx, dsince_same r w hx, dsince_same r w hx]; exact h
  · intro y hy
    have hy : y ∈ withF ⟨x.h, 2, x.since, x.aim⟩ d.all := hy
    rw [withF_has hx] at hy
    obtain ⟨z, hz, rfl⟩ := List.mem_map.1 hy
    split
    · exact r.le x hx
    · exact r.le z hz
theorem NwP.no {l : List HD} {aim : ByteArray} {b : Nat} (h : NwP l aim b (-1)) : ∀ (q : Nat) (hq : q < l.length), q < b → ¬ (l[q].st = 3 ∧ l[q].aim = aim) := by
  generalize hw : (-1 : Int) = w at h
  cases h with
  | none hq => exact hq
  | some i hi hib hs ha hm => omega
theorem NwP.yes {l : List HD} {aim : ByteArray} {b i : Nat} (h : NwP l aim b i) (hi : i < l.length) : l[i].st = 3 ∧ l[i].aim = aim ∧ ∀ (q : Nat) (hq : q < l.length), q < b → l[q].st = 3 → l[q].aim = aim → l[q].since ≤ l[i].since := by
  generalize hw : (i : Int) = w at h
  cases h with
  | none hq => omega
  | some i' hi' hib hs ha hm =>
    obtain rfl : i = i' := by omega
    exact ⟨hs, ha, hm⟩
theorem OlP.no {l : List HD} {b : Nat} (h : OlP l b (-1)) : ∀ (q : Nat) (hq : q < l.length), q < b → l[q].st ≠ 3 := by
  generalize hw : (-1 : Int) = w at h
  cases h with
  | none hq => exact hq
  | some i hi hib hs hm => omega
theorem OlP.yes {l : List HD} {b i : Nat} (h : OlP l b i) (hi : i < l.length) : l[i].st = 3 ∧ ∀ (q : Nat) (hq : q < l.length), q < b → l[q].st = 3 → l[i].since ≤ l[q].since := by
  generalize hw : (i : Int) = w at h
  cases h with
  | none hq => omega
  | some i' hi' hib hs hm =>
    obtain rfl : i = i' := by omega
    exact ⟨hs, hm⟩
theorem Rel.idleAt (r : Rel s d) (w : WF s) {q : Nat} (hq : q < s.idles.length) : ∃ (i : Nat) (hi : i < d.all.length), d.all[i].h = s.idles[q] ∧ d.all[i].st = 3 ∧ d.all[i].aim = s.aim s.idles[q] ∧ dsince d.all s.idles[q] = d.all[i].since := by
  obtain ⟨x, hx, h1, h2, h3⟩ := r.idle w (List.getElem_mem hq)
  obtain ⟨i, hi, rfl⟩ := List.mem_iff_getElem.1 (dget_mem hx).1
  exact ⟨i, hi, h3, h1, h2, dsince_of hx⟩
theorem Rel.take (r : Rel s d) (w : WF s) (h0 : 0 ≤ d.rests) {aim : ByteArray} {H S e H' S' e' : Int} {F F' : Bool} {s' : PS} {d' : DP} (ht : TakeR s aim H S F e s') (hd : TakeD d aim H' S' F' e' d') : H' = H ∧ S' = S ∧ F' = F ∧ e' = e ∧ Rel s' d' := by
  have hmost := r.most
  have hlast := r.last
  have hlen := r.lens
  have hnew : ∀ (q : Nat) (hq : q < s.idles.length), s.aim s.idles[q] = aim → ¬ NwP d.all aim d.all.length (-1) := fun q hq ha hn => by
    obtain ⟨i, hi, g1, g2, g3, g4⟩ := r.idleAt w hq
    exact hn.no i hi hi ⟨g2, g3.trans ha⟩
  have hno : (∀ (q : Nat) (hq : q < s.idles.length), s.aim s.idles[q] ≠ aim) → ∀ (i : Nat) (hi : i < d.all.length), ¬ NwP d.all aim d.all.length i := fun hn i hi hp => by
    obtain ⟨h1, h2, _⟩ := hp.yes hi
    obtain ⟨h3, h4⟩ := r.idle' w hi h1
    obtain ⟨q, hq, hqe⟩ := List.mem_iff_getElem.1 h3
    exact hn q hq (by rw [hqe, h4]; exact h2)
  cases ht with
  | lent i hi ha hl =>
    cases hd with
    | full hn hf ho => exact absurd hn (hnew i hi ha)
    | shut hn hf _ _ ho => exact absurd hn (hnew i hi ha)
    | fresh hn hf => exact absurd hn (hnew i hi ha)
    | lent j hj hp =>
      obtain ⟨h1, h2, h3⟩ := hp.yes hj
      obtain ⟨h4, h5⟩ := r.idle' w hj h1
      obtain ⟨q, hq, hqe⟩ := List.mem_iff_getElem.1 h4
      have hqi : q = i := by
        rcases Nat.lt_trichotomy q i with h | h | h
        · obtain ⟨m, hm, g1, g2, g3, g4⟩ := r.idleAt w hi
          have h6 := List.pairwise_iff_getElem.1 r.ord q i hq hi h
          have h7 := h3 m hm hm g2 (g3.trans ha)
          rw [g4, hqe, dsince_of (dget_of (r.nd w) (List.getElem_mem hj))] at h6
          omega
        · exact h
        · exact absurd (by rw [hqe, h5]; exact h2) (hl q hq h)
      subst hqi
      exact ⟨hqe.symm, rfl, rfl, rfl, r.lent w hi (List.getElem_mem hj) hqe.symm⟩
  | full hn hf he =>
    cases hd with
    | lent j hj hp => exact absurd hp (hno hn j hj)
    | full _ _ _ => exact ⟨rfl, rfl, rfl, rfl, r⟩
    | shut _ _ j hj ho =>
      have := (r.idle' w hj (ho.yes hj).1).1
      rw [he] at this; cases this
    | fresh _ hf' => omega
  | shut hn hf k rr he id =>
    cases hd with
    | lent j hj hp => exact absurd hp (hno hn j hj)
    | full _ _ ho =>
      obtain ⟨i, hi, _, g2, _⟩ := r.idleAt w (q := 0) (by rw [he]; simp)
      exact absurd g2 (ho.no i hi hi)
    | fresh _ hf' => omega
    | shut _ _ j hj ho =>
      obtain ⟨h1, h3⟩ := ho.yes hj
      obtain ⟨h4, h5⟩ := r.idle' w hj h1
      obtain ⟨q, hq, hqe⟩ := List.mem_iff_getElem.1 h4
      have h0l : 0 < s.idles.length := by omega
      have hk0 : s.idles[0] = S := by simp only [he]; rfl
      have hq0 : q = 0 := by
        rcases Nat.eq_zero_or_pos q with h | h
        · exact h
        · obtain ⟨m, hm, g1, g2, g3, g4⟩ := r.idleAt w h0l
          have h6 := List.pairwise_iff_getElem.1 r.ord 0 q h0l hq h
          have h7 := h3 m hm hm g2
          rw [g4, hqe, dsince_of (dget_of (r.nd w) (List.getElem_mem hj))] at h6
          omega
      subst hq0
      have hjk : d.all[j].h = S := hqe.symm.trans hk0
      rw [hjk]
      refine ⟨by rw [hlast], rfl, rfl, rfl, ?_⟩
      rcases (r.shut S).add (w.shut S) (id := id) (aim := aim) with h | h
      · exact h
      · exact absurd h (by show ¬ d.rests < 0; omega)
  | fresh hn hf id =>
    cases hd with
    | lent j hj hp => exact absurd hp (hno hn j hj)
    | full _ hf' _ => omega
    | shut _ hf' _ _ _ => omega
    | fresh _ _ =>
      refine ⟨by rw [hlast], rfl, rfl, rfl, ?_⟩
      rcases r.add w (id := id) (aim := aim) with h | h
      · exact h
      · omega
end
end Go.Proofs.Ytffockklleanmaa.AM.SX

/- PoolPlays on the machine: what a round has. -/
namespace Go.Proofs.Ytffockklleanmaa.AM.SX
open Go Go.Proofs.Ytffockklleanmaa.X
set_option linter.unusedVariables false
set_option linter.unusedSimpArgs false
set_option maxRecDepth 100000
set_option maxHeartbeats 4000000
attribute [local irreducible] astep0 aev awants abin abuild
abbrev dcells (d : DP) (sv : Value) : List Value := [.int .i64 d.most, .int .i64 d.last, .int .i64 d.rests, sv]
structure PPre (p mb : Nat) (sv : Value) (l : List OpT) (ids : List Nat) (h : AHeap) (s : PS) (O : List Nat) (d : DP) (dsv : Value) (Od : List Nat) : Prop where
  pool : PoolAt h p s O
  wf : WF s
  doc : DPAt h d dsv Od
  cell : h.get mb = some (.cells (dcells d dsv) true)
  mbO : mb ∉ O ∧ mb ∉ Od ∧ mb < h.next
  dis : ∀ q ∈ Od, q ∉ O
  sc : ScriptAt h l sv ids
  scO : ∀ i ∈ ids, i ∉ O ∧ i ≠ mb ∧ i < h.next
section
variable {p mb : Nat} {sv : Value} {l : List OpT} {ids : List Nat} {h h' : AHeap} {s s' : PS} {O : List Nat} {d d' : DP} {dsv dsv' : Value} {Od Od' : List Nat}
theorem PPre.keep (b : PPre p mb sv l ids h s O d dsv Od) (hk : Keep h h' []) : PPre p mb sv l ids h' s O d dsv Od := by
  have hlt := b.pool.lt
  exact ⟨b.pool.keep' (fun i hi => hk.2 i (hlt i hi) (by simp)) hk.1, b.wf, b.doc.keep hk, by rw [hk.2 _ b.mbO.2.2 (by simp)]; exact b.cell, ⟨b.mbO.1, b.mbO.2.1, Nat.lt_of_lt_of_le b.mbO.2.2 hk.1⟩, b.dis, b.sc.keep fun i hi => hk.2 i (b.scO i hi).2.2 (by simp), fun i hi => ⟨(b.scO i hi).1, (b.scO i hi).2.1, Nat.lt_of_lt_of_le (b.scO i hi).2.2 hk.1⟩⟩
theorem PPre.doc' (b : PPre p mb sv l ids h s O d dsv Od) (hk : Keep h h' []) (hd : DPAt h' d' dsv' Od') (ho : ∀ i ∈ Od', i ∈ Od ∨ h.next ≤ i) : PPre p mb sv l ids (h'.set mb (.cells (dcells d' dsv') true)) s O d' dsv' Od' := by
  have hlt := b.pool.lt
  have hmb : mb ∉ Od' := fun hm => by
    rcases ho mb hm with h1 | h1
    · exact b.mbO.2.1 h1
    · have := b.mbO.2.2; omega
  refine ⟨b.pool.keep' (fun i hi => by
    have hne : i ≠ mb := fun e => b.mbO.1 (e ▸ hi)
    rw [get_set_ne hne, hk.2 i (hlt i hi) (by simp)]) hk.1, b.wf, ⟨hd.1.keep fun i hi => by
    have hne : i ≠ mb := fun e => hmb (e ▸ hi)
    rw [get_set_ne hne], hd.2⟩, get_set_self _ _ _, ⟨b.mbO.1, hmb, Nat.lt_of_lt_of_le b.mbO.2.2 hk.1⟩, fun q hq hO => ?_, b.sc.keep fun i hi => by rw [get_set_ne (b.scO i hi).2.1, hk.2 i (b.scO i hi).2.2 (by simp)], fun i hi => ⟨(b.scO i hi).1, (b.scO i hi).2.1, Nat.lt_of_lt_of_le (b.scO i hi).2.2 hk.1⟩⟩
  rcases ho q hq with h1 | h1
  · exact b.dis q h1 hO
  · have := hlt q hO; omega
theorem PPre.upd (b : PPre p mb sv l ids h s O d dsv Od) (hu : Upd h h' p O s') (hw : WF s') : ∃ O', PPre p mb sv l ids h' s' O' d dsv Od := by
  obtain ⟨O', g1, g2, g3⟩ := hu
  have key : ∀ q, q ∉ O → q < h.next → q ∉ O' := fun q h1 h2 hm => by
    rcases g3 q hm with h3 | h3
    · exact h1 h3
    · omega
  exact ⟨O', g1, hw, ⟨b.doc.1.keep fun i hi => g2.2 i (b.doc.2 i hi) (b.dis i hi), fun i hi => Nat.lt_of_lt_of_le (b.doc.2 i hi) g2.1⟩, by rw [g2.2 _ b.mbO.2.2 b.mbO.1]; exact b.cell, ⟨key _ b.mbO.1 b.mbO.2.2, b.mbO.2.1, Nat.lt_of_lt_of_le b.mbO.2.2 g2.1⟩, fun q hq => key q (b.dis q hq) (b.doc.2 q hq), b.sc.keep fun i hi => g2.2 i (b.scO i hi).2.2 (b.scO i hi).1, fun i hi => ⟨key i (b.scO i hi).1 (b.scO i hi).2.2, (b.scO i hi).2.1, Nat.lt_of_lt_of_le (b.scO i hi).2.2 g2.1⟩⟩
end
theorem len_script2 {n : Nat} {ops : Array Oper} {os : List Oper} {a : AAct} {h : AHeap} {Q : AAct → AHeap → Prop} {dst : Option Nat} {ty : Nat} {pos : String} {aft : Array Edge} {args : Array Operand} {l : List OpT} {sv : Value} {ids : List Nat} (hs : ScriptAt h l sv ids) (hl : args.toList.map (aev a) = [sv]) (hh : S EE (acall EE n) ops os (a.put dst (.int .i64 (l.length : Int))) h Q) : S EE (acall EE n) ops (⟨dst, .call ⟨.builtin .len, args, #[22]⟩, ty, pos, aft, none⟩ :: os) a h Q := by
  rcases hs with ⟨rfl, rfl, _⟩ | ⟨b, rfl, _, _⟩
  · refine S_tb wants0 ?_ rfl (l := [.chan (some 0)]) ?_ rfl hh
    · have hT : EE.T.get 22 = _ := TL rfl
      simp only [astep0, hl]
      simp only [abuiltin, alen, hT]
    · simpa [Op.operands, Call.operands] using hl
  · exact S_step wants0 (o_builtin hl (lenS (TL rfl))) hh
theorem S_gen {E : Env} {cf : CallF} {ops : Array Oper} {os : List Oper} {a : AAct} {h : AHeap} {Q : AAct → AHeap → Prop} (P : AAct → AHeap → Prop) (hp : P a h) (hh : ∀ a h, P a h → S E cf ops os a h Q) : S E cf ops os a h Q := hh a h hp
theorem b_bneq {h : AHeap} {b : Bool} : abin EE.T h .neq 4 (.bool b) (.bool b) = some (.bool false) := by
  have hT : EE.T.get 4 = _ := TL rfl
  cases b <;> simp [abin, aeq, hT] <;> rfl
theorem joinD_rests (d : DP) (k : Int) : (joinD d k).1.rests = d.rests := by
  unfold joinD
  split
  · split <;> rfl
  · rfl
theorem restD_rests (d : DP) (k : Int) : d.rests ≤ (restD d k).1.rests ∧ (restD d k).1.rests ≤ d.rests + 1 := by
  unfold restD
  split
  · split
    · show d.rests ≤ d.rests + 1 ∧ d.rests + 1 ≤ d.rests + 1; omega
    · exact ⟨Int.le_refl _, by show d.rests ≤ d.rests + 1; omega⟩
  · exact ⟨Int.le_refl _, by show d.rests ≤ d.rests + 1; omega⟩
theorem TakeD.rests {d d' : DP} {aim : ByteArray} {H S e : Int} {F : Bool} (ht : TakeD d aim H S F e d') : d'.rests = d.rests := by cases ht <;> rfl
theorem TakeR.last {s s' : PS} {aim : ByteArray} {H S e : Int} {F : Bool} (ht : TakeR s aim H S F e s') : s'.last ≤ s.last + 1 := by
  cases ht
  · show s.last ≤ s.last + 1; omega
  · omega
  · show s.last + 1 ≤ s.last + 1; omega
  · show s.last + 1 ≤ s.last + 1; omega
end Go.Proofs.Ytffockklleanmaa.AM.SX

/- PoolPlays on the machine: the run. -/
namespace Go.Proofs.Ytffockklleanmaa.AM.SX
open Go Go.Proofs.Ytffockklleanmaa.X
set_option linter.unusedVariables false
set_option linter.unusedSimpArgs false
set_option maxRecDepth 100000
set_option maxHeartbeats 8000000
attribute [local irreducible] astep0 aev awants abin abuild
section
variable {n : Nat}
theorem plays_run (hn : 3000 ≤ n) (most : Int) (l : List OpT) (h0 : AHeap) (sv : Value) (ids : List Nat) (hs : ScriptAt h0 l sv ids) (hlt : ∀ i ∈ ids, i < h0.next) : C EE (n + 1) 6 [.int .i64 most, sv] h0 fun v _ => v = .bool true := by
  refine C_in (E_X _) F_plays rfl rfl rfl ?_
  intro a hna hat
  have e0 := hat 0 _ rfl
  have e1 := hat 1 _ rfl
  replace hna : a.n = 163 := hna
  clear hat
  obtain ⟨n', rfl⟩ : ∃ n', n = n' + 1 := ⟨n - 1, by omega⟩
  repeat first | refine G_seq ?_ | refine G_reg ?_ | refine N_seq ?_ | refine N_block ?_ | refine G_block ?_ | refine G_skip ?_ | refine G_cT ?_ | refine G_cF ?_ | refine G_ret ?_ | refine U_seq_ret ?_ | refine U_block_ret ?_ | refine U_nil ?_ | refine S_nil ?_ | refine S_auto ?_
  refine S_call wants0 (by simp only [aev_tmp, aev_const, aev_func, aev_global, at_put, at_none, n_put, reduceIte, Nat.reduceEqDiff, Nat.reduceLT, zq, *]; first | done | rfl) (E_Y _) (by simp only [List.map, aev_tmp, aev_const, aev_func, aev_global, at_put, at_none, n_put, reduceIte, Nat.reduceEqDiff, Nat.reduceLT, zq, *]; first | done | rfl) ?_
  refine (new_spec most).mono ?_
  rintro r h1 ⟨p, O, rfl, hp1, hk1, hO1⟩
  repeat first | refine G_seq ?_ | refine G_reg ?_ | refine N_seq ?_ | refine N_block ?_ | refine G_block ?_ | refine G_skip ?_ | refine G_cT ?_ | refine G_cF ?_ | refine G_ret ?_ | refine U_seq_ret ?_ | refine U_block_ret ?_ | refine U_nil ?_ | refine S_nil ?_ | refine S_auto ?_
  refine S_step wants0 (o_bin (by simp only [aev_tmp, aev_const, aev_func, aev_global, at_put, at_none, n_put, reduceIte, Nat.reduceEqDiff, Nat.reduceLT, zq, *]; first | done | rfl) (by simp only [aev_tmp, aev_const, aev_func, aev_global, at_put, at_none, n_put, reduceIte, Nat.reduceEqDiff, Nat.reduceLT, zq, *]; first | done | rfl) (b_nilP (TL rfl))) ?_
  repeat first | refine G_seq ?_ | refine G_reg ?_ | refine N_seq ?_ | refine N_block ?_ | refine G_block ?_ | refine G_skip ?_ | refine G_cT ?_ | refine G_cF ?_ | refine G_ret ?_ | refine U_seq_ret ?_ | refine U_block_ret ?_ | refine U_nil ?_ | refine S_nil ?_ | refine S_noG ?_ | refine S_auto ?_
  refine S_call (by first | exact wants0 | exact (wantsG rfl rfl (by simp only [n_put, *]; decide) (by simp only [at_put, at_none, n_put, reduceIte, Nat.reduceEqDiff, Nat.reduceLT, cond_true, cond_false, ne_eq, not_true_eq_false, not_false_eq_true, decide_true, decide_false, Bool.not_true, Bool.not_false, eq_self, Int.lt_irrefl, Int.le_refl, *]; first | done | rfl)).trans rfl) (by simp only [aev_tmp, aev_const, aev_func, aev_global, at_put, at_none, n_put, reduceIte, Nat.reduceEqDiff, Nat.reduceLT, zq, *]; first | done | rfl) (E_Y _) (by simp only [List.map, aev_tmp, aev_const, aev_func, aev_global, at_put, at_none, n_put, reduceIte, Nat.reduceEqDiff, Nat.reduceLT, zq, *]; first | done | rfl) ?_
  refine C_x E_Xl rfl ?_
  repeat first | refine G_seq ?_ | refine G_reg ?_ | refine N_seq ?_ | refine N_block ?_ | refine G_block ?_ | refine G_skip ?_ | refine G_cT ?_ | refine G_cF ?_ | refine G_ret ?_ | refine U_seq_ret ?_ | refine U_block_ret ?_ | refine U_nil ?_ | refine S_nil ?_ | refine S_noG ?_ | refine S_auto ?_
  have hs1 : ScriptAt h1 l sv ids := hs.keep fun i hi => hk1.2 i (hlt i hi) (by simp)
  by_cases h300 : (300 : Int) < (l.length : Int)
  · refine len_script2 hs1 (by simp only [List.map, aev_tmp, aev_const, aev_func, aev_global, at_put, at_none, n_put, reduceIte, Nat.reduceEqDiff, Nat.reduceLT, zq, *]; first | done | rfl) ?_
    repeat first | refine G_seq ?_ | refine G_reg ?_ | refine N_seq ?_ | refine N_block ?_ | refine G_block ?_ | refine G_skip ?_ | refine G_cT ?_ | refine G_cF ?_ | refine G_ret ?_ | refine U_seq_ret ?_ | refine U_block_ret ?_ | refine U_nil ?_ | refine S_nil ?_ | refine S_auto ?_
    refine FQ_in (by first | exact .inr rfl | exact .inl rfl) (by first | exact ares1 (by simp only [at_put, at_none, n_put, reduceIte, Nat.reduceEqDiff, Nat.reduceLT, zq, *]; first | done | rfl) | exact ares2 (by simp only [at_put, at_none, n_put, reduceIte, Nat.reduceEqDiff, Nat.reduceLT, zq, *]; first | done | rfl) (by simp only [at_put, at_none, n_put, reduceIte, Nat.reduceEqDiff, Nat.reduceLT, zq, *]; first | done | rfl)) ?_
    rfl
  refine len_script2 hs1 (by simp only [List.map, aev_tmp, aev_const, aev_func, aev_global, at_put, at_none, n_put, reduceIte, Nat.reduceEqDiff, Nat.reduceLT, zq, *]; first | done | rfl) ?_
  repeat first | refine G_seq ?_ | refine G_reg ?_ | refine N_seq ?_ | refine N_block ?_ | refine G_block ?_ | refine G_skip ?_ | refine G_cT ?_ | refine G_cF ?_ | refine G_ret ?_ | refine U_seq_ret ?_ | refine U_block_ret ?_ | refine U_nil ?_ | refine S_nil ?_ | refine S_auto ?_
  refine S_call wants0 (by simp only [aev_tmp, aev_const, aev_func, aev_global, at_put, at_none, n_put, reduceIte, Nat.reduceEqDiff, Nat.reduceLT, zq, *]; first | done | rfl) (E_Y _) (by simp only [List.map, aev_tmp, aev_const, aev_func, aev_global, at_put, at_none, n_put, reduceIte, Nat.reduceEqDiff, Nat.reduceLT, zq, *]; first | done | rfl) ?_
  refine C_le (show n' - 1 + 2 = n' + 1 by omega) ?_
  refine (dnew_spec most).mono ?_
  rintro r h2 ⟨rfl, hk2⟩
  repeat first | refine G_seq ?_ | refine G_reg ?_ | refine N_seq ?_ | refine N_block ?_ | refine G_block ?_ | refine G_skip ?_ | refine G_cT ?_ | refine G_cF ?_ | refine G_ret ?_ | refine U_seq_ret ?_ | refine U_block_ret ?_ | refine U_nil ?_ | refine S_nil ?_ | refine S_auto ?_
  have hkk : Keep h0 h2 [] := hk1.trans hk2 fun i hi => .inl hi
  have hs2 : ScriptAt ((h2.new h2.next (.cells [.int .i64 0, .int .i64 0, .int .i64 0, .slice none 0 0] true)).set h2.next (.cells (dcells ⟨min (max most 0) 64, 0, 0, []⟩ (.slice none 0 0)) true)) l sv ids := hs.keep fun i hi => by rw [get_set_ne (by have := hlt i hi; have := hkk.1; omega), get_new_ne (by have := hlt i hi; have := hkk.1; omega), hkk.2 i (hlt i hi) (by simp)]
  refine len_script2 hs2 (by simp only [List.map, aev_tmp, aev_const, aev_func, aev_global, at_put, at_none, n_put, reduceIte, Nat.reduceEqDiff, Nat.reduceLT, zq, *]; first | done | rfl) ?_
  repeat first | refine G_seq ?_ | refine G_reg ?_ | refine N_seq ?_ | refine N_block ?_ | refine G_block ?_ | refine G_skip ?_ | refine G_cT ?_ | refine G_cF ?_ | refine G_ret ?_ | refine U_seq_ret ?_ | refine U_block_ret ?_ | refine U_nil ?_ | refine S_nil ?_ | refine S_auto ?_
  have hB0 : PPre p h2.next sv l ids ((h2.new h2.next (.cells [.int .i64 0, .int .i64 0, .int .i64 0, .slice none 0 0] true)).set h2.next (.cells (dcells ⟨min (max most 0) 64, 0, 0, []⟩ (.slice none 0 0)) true)) (newPS most) O ⟨min (max most 0) 64, 0, 0, []⟩ (.slice none 0 0) [] := by
    have hlt1 := hp1.lt
    have hn2 := hk2.1
    refine ⟨hp1.keep' (fun i hi => ?_) (by rw [next_set, next_new_self]; omega), WF.new most, ⟨.inl ⟨rfl, rfl, rfl⟩, fun i hi => by cases hi⟩, get_set_self _ _ _, ⟨fun hm => by have := hlt1 _ hm; omega, by simp, by rw [next_set, next_new_self]; omega⟩, fun q hq => by (cases hq), hs2, fun i hi => ⟨fun ho => ?_, ?_, ?_⟩⟩
    · have h9 := hlt1 i hi
      rw [get_set_ne (by omega), get_new_ne (by omega), hk2.2 i h9 (by simp)]
    · have h9 := hlt i hi; have h10 := hO1 i ho; omega
    · have h9 := hlt i hi; have h10 := hkk.1; omega
    · have h9 := hlt i hi; have h10 := hkk.1; rw [next_set, next_new_self]; omega
  have hR0 : Rel (newPS most) ⟨min (max most 0) 64, 0, 0, []⟩ := Rel.new most
  generalize hmb : h2.next = mb at *
  generalize hd0 : (⟨min (max most 0) 64, 0, 0, []⟩ : DP) = d0 at *
  have hr0 : d0.rests = 0 := by rw [← hd0]
  have hl0 : (newPS most).last = 0 := rfl
  generalize newPS most = s0 at *
  refine G_loop (fun j a h => ∃ (i : Nat) (s : PS) (O : List Nat) (d : DP) (dsv : Value) (Od : List Nat), i + j = l.length ∧ a.n = 163 ∧ a.at 5 = .pointer (some ⟨p, 0, none⟩) ∧ a.at 6 = .pointer (some ⟨mb, 0, none⟩) ∧ a.at 29 = sv ∧ a.at 30 = .int .i64 (l.length : Int) ∧ a.at 31 = .int .i64 (i : Int) ∧ PPre p mb sv l ids h s O d dsv Od ∧ Rel s d ∧ 0 ≤ d.rests ∧ d.rests ≤ i ∧ s.last ≤ i) l.length (by omega) ⟨0, s0, O, d0, _, [], by omega, by simp only [at_put, at_none, n_put, reduceIte, Nat.reduceEqDiff, Nat.reduceLT, zq, *]; first | done | rfl, by simp only [at_put, at_none, n_put, reduceIte, Nat.reduceEqDiff, Nat.reduceLT, zq, *]; first | done | rfl, by simp only [at_put, at_none, n_put, reduceIte, Nat.reduceEqDiff, Nat.reduceLT, zq, *]; first | done | rfl, by simp only [at_put, at_none, n_put, reduceIte, Nat.reduceEqDiff, Nat.reduceLT, zq, *]; first | done | rfl, by simp only [at_put, at_none, n_put, reduceIte, Nat.reduceEqDiff, Nat.reduceLT, zq, *]; first | done | rfl, by simp only [at_put, at_none, n_put, reduceIte, Nat.reduceEqDiff, Nat.reduceLT, zq, *]; first | done | rfl, hB0, hR0, by omega, by omega, by omega⟩ ?_
  clear hB0 hR0 hp1 hk1 hO1 hs1 hs2 e0 e1 hna a hmb hs hr0 hl0 hd0 hk2 hkk d0 s0 O h1 h2
  rintro j a h ⟨i, s, O, d, dsv, Od, hij, hna, e5, e6, e29, e30, e31, hB, hR, hr0, hr1, hla⟩
  by_cases hil : i < l.length
  · have hil' : (i : Int) < (l.length : Int) := by omega
    obtain ⟨b, rfl, hgb, rfl⟩ : ∃ b, sv = .slice (some ⟨b, 0, none⟩) l.length (CAPX + 1) ∧ h.get b = some (.ro (flat l)) ∧ ids = [b] := by
      rcases hB.sc with ⟨rfl, _, _⟩ | hh
      · exact absurd hil (Nat.not_lt_zero _)
      · exact hh
    have hia : aindexAddr EE.T 22 (.slice (some ⟨b, 0, none⟩) l.length (CAPX + 1)) (.int .i64 (i : Int)) = some (.pointer (some ⟨b, i * 8, none⟩)) := by
      simp only [aindexAddr, TL (t := 22) rfl, TL (t := 34) rfl]
      rw [if_pos ⟨Int.natCast_nonneg _, by omega⟩]
      simp
    have hcut := flat_cut hil
    repeat first | refine G_seq ?_ | refine G_reg ?_ | refine N_seq ?_ | refine N_block ?_ | refine G_block ?_ | refine G_skip ?_ | refine G_cT ?_ | refine G_cF ?_ | refine G_ret ?_ | refine U_seq_ret ?_ | refine U_block_ret ?_ | refine U_nil ?_ | refine S_nil ?_ | refine S_auto ?_
    refine S_step wants0 (o_indexAddr (by simp only [aev_tmp, aev_const, aev_func, aev_global, at_put, at_none, n_put, reduceIte, Nat.reduceEqDiff, Nat.reduceLT, zq, *]; first | done | rfl) (by simp only [aev_tmp, aev_const, aev_func, aev_global, at_put, at_none, n_put, reduceIte, Nat.reduceEqDiff, Nat.reduceLT, zq, *]; first | done | rfl) hia) ?_
    refine S_step wants0 (o_ldA (by simp only [aev_tmp, aev_const, aev_func, aev_global, at_put, at_none, n_put, reduceIte, Nat.reduceEqDiff, Nat.reduceLT, zq, *]; first | done | rfl) (TL rfl) rfl (rd_ro hgb) hcut) ?_
    clear hia hcut
    generalize l[i] = o
    obtain ⟨kd, hh, aim, ⟨nm, am⟩, now, fl, co⟩ := o
    repeat first | refine G_seq ?_ | refine G_reg ?_ | refine N_seq ?_ | refine N_block ?_ | refine G_block ?_ | refine G_skip ?_ | refine G_cT ?_ | refine G_cF ?_ | refine G_ret ?_ | refine U_seq_ret ?_ | refine U_block_ret ?_ | refine U_nil ?_ | refine S_nil ?_ | refine S_auto ?_
    refine G_gen (fun a1 h1 => a1.n = 163 ∧ a1.at 5 = .pointer (some ⟨p, 0, none⟩) ∧ a1.at 6 = .pointer (some ⟨mb, 0, none⟩) ∧ a1.at 29 = .slice (some ⟨b, 0, none⟩) l.length (CAPX + 1) ∧ a1.at 30 = .int .i64 (l.length : Int) ∧ a1.at 31 = .int .i64 (i : Int) ∧ a1.at 8 = .pointer (some ⟨h.next, 0, none⟩) ∧ a1.at 9 = .bool true ∧ a1.at 10 = .bool true ∧ a1.at 36 = .int .i64 kd ∧ a1.at 37 = .bool (decide (kd = 1)) ∧ h1.get h.next = some (.cells (opC (kd, hh, aim, (nm, am), now, fl, co)) true) ∧ h1.next = h.next + 1 ∧ Keep h h1 []) ⟨by simp only [at_put, at_none, n_put, reduceIte, Nat.reduceEqDiff, Nat.reduceLT, zq, *]; first | done | rfl, by simp only [at_put, at_none, n_put, reduceIte, Nat.reduceEqDiff, Nat.reduceLT, zq, *]; first | done | rfl, by simp only [at_put, at_none, n_put, reduceIte, Nat.reduceEqDiff, Nat.reduceLT, zq, *]; first | done | rfl, by simp only [at_put, at_none, n_put, reduceIte, Nat.reduceEqDiff, Nat.reduceLT, zq, *]; first | done | rfl, by simp only [at_put, at_none, n_put, reduceIte, Nat.reduceEqDiff, Nat.reduceLT, zq, *]; first | done | rfl, by simp only [at_put, at_none, n_put, reduceIte, Nat.reduceEqDiff, Nat.reduceLT, zq, *]; first | done | rfl, by simp only [at_put, at_none, n_put, reduceIte, Nat.reduceEqDiff, Nat.reduceLT, zq, *]; first | done | rfl, by simp only [at_put, at_none, n_put, reduceIte, Nat.reduceEqDiff, Nat.reduceLT, zq, *]; first | done | rfl, by simp only [at_put, at_none, n_put, reduceIte, Nat.reduceEqDiff, Nat.reduceLT, zq, *]; first | done | rfl, by simp only [at_put, at_none, n_put, reduceIte, Nat.reduceEqDiff, Nat.reduceLT, zq, *]; first | done | rfl, by simp only [at_put, at_none, n_put, reduceIte, Nat.reduceEqDiff, Nat.reduceLT, zq, *]; first | done | rfl, by simp (disch := omega) only [get_set_self, get_new_self, get_set_ne, get_new_ne, get_bump, next_set, next_new, Nat.lt_irrefl, reduceIte, next_kill, next_bump, *]; first | done | rfl, by simp (disch := omega) only [at_put, at_none, n_put, reduceIte, Nat.reduceEqDiff, Nat.reduceLT, get_set_self, get_new_self, get_set_ne, get_new_ne, get_bump, next_set, next_new, Nat.lt_irrefl, next_kill, next_bump, cond_true, cond_false, *]; first | done | rfl, by simp only [next_set, next_new, Nat.lt_irrefl, reduceIte]; omega, fun q hq _ => by rw [get_set_ne (by omega), get_new_ne (by omega)]⟩ ?_
    clear e5 e6 e29 e30 e31 hna a hgb
    rintro a h1 ⟨hna, e5, e6, e29, e30, e31, e8, e9, e10, e36, e37, gob, hnx, hk1⟩
    have hB1 := hB.keep hk1
    generalize hob : h.next = ob at *
    have hobO : ob ∉ O := fun hi => by have := hB.pool.lt ob hi; omega
    have hobm : ob ≠ mb := by have := hB.mbO.2.2; omega
    have hobs : ob < h1.next := by omega
    have hdl : d.all.length ≤ 64 := by have h1 := hB1.wf.len; have h2 := hB1.wf.most; have h3 := hR.len; omega
    have hmbs := hB1.mbO.2.2
    have hgm := hB1.cell
    clear hB hk1 hnx hob h
    refine G_joinB (fun a2 h2 => a2.n = 163 ∧ a2.at 5 = .pointer (some ⟨p, 0, none⟩) ∧ a2.at 6 = .pointer (some ⟨mb, 0, none⟩) ∧ a2.at 29 = .slice (some ⟨b, 0, none⟩) l.length (CAPX + 1) ∧ a2.at 30 = .int .i64 (l.length : Int) ∧ a2.at 31 = .int .i64 (i : Int) ∧ a2.at 8 = .pointer (some ⟨ob, 0, none⟩) ∧ (∃ bb, a2.at 9 = .bool bb ∧ a2.at 10 = .bool bb) ∧ h2.get ob = some (.cells (opC (kd, hh, aim, (nm, am), now, fl, co)) true) ∧ ob < h2.next ∧ ∃ (s : PS) (O : List Nat) (d : DP) (dsv : Value) (Od : List Nat), PPre p mb (.slice (some ⟨b, 0, none⟩) l.length (CAPX + 1)) l [b] h2 s O d dsv Od ∧ Rel s d ∧ 0 ≤ d.rests ∧ d.rests ≤ i + 1 ∧ s.last ≤ i + 1) ?_ ?_
    · by_cases k1 : kd = 1
      · repeat first | refine G_seq ?_ | refine G_reg ?_ | refine N_seq ?_ | refine N_block ?_ | refine G_block ?_ | refine G_skip ?_ | refine G_cT ?_ | refine G_cF ?_ | refine G_ret ?_ | refine U_seq_ret ?_ | refine U_block_ret ?_ | refine U_nil ?_ | refine S_nil ?_ | refine S_auto ?_
        refine S_call wants0 (by simp only [aev_tmp, aev_const, aev_func, aev_global, at_put, at_none, n_put, reduceIte, Nat.reduceEqDiff, Nat.reduceLT, zq, *]; first | done | rfl) (E_Y _) (by simp only [List.map, aev_tmp, aev_const, aev_func, aev_global, at_put, at_none, n_put, reduceIte, Nat.reduceEqDiff, Nat.reduceLT, zq, *]; first | done | rfl) ?_
        refine C_le (show n' - 1 + 2 = n' + 1 by omega) ?_
        refine (dtake_spec hB1.doc (by omega) (by omega) ⟨by rw [hR.last]; exact hB1.wf.last, by rw [hR.last]; omega⟩ aim).mono ?_
        rintro r h2 ⟨H', S', F', e', d', dsv', Od', rfl, hTd, hd2, hk2, hO2⟩
        have gob2 : h2.get ob = some (.cells (opC (kd, hh, aim, (nm, am), now, fl, co)) true) := (hk2.2 ob hobs (by simp)).trans gob
        have gm2 : h2.get mb = some (.cells (dcells d dsv) true) := (hk2.2 mb hmbs (by simp)).trans hgm
        have hob2 : ob < h2.next := Nat.lt_of_lt_of_le hobs hk2.1
        have hlt1 : ∀ q ∈ O, q < h2.next := fun q hq => Nat.lt_of_lt_of_le (hB1.pool.lt q hq) hk2.1
        have hmb2 : mb < h2.next := Nat.lt_of_lt_of_le hmbs hk2.1
        obtain ⟨A', c', rfl⟩ := hd2.1.len
        repeat first | refine G_seq ?_ | refine G_reg ?_ | refine N_seq ?_ | refine N_block ?_ | refine G_block ?_ | refine G_skip ?_ | refine G_cT ?_ | refine G_cF ?_ | refine G_ret ?_ | refine U_seq_ret ?_ | refine U_block_ret ?_ | refine U_nil ?_ | refine S_nil ?_ | refine S_auto ?_
        refine S_gen (fun a h3 => a.n = 163 ∧ a.at 5 = .pointer (some ⟨p, 0, none⟩) ∧ a.at 6 = .pointer (some ⟨mb, 0, none⟩) ∧ a.at 29 = .slice (some ⟨b, 0, none⟩) l.length (CAPX + 1) ∧ a.at 30 = .int .i64 (l.length : Int) ∧ a.at 31 = .int .i64 (i : Int) ∧ a.at 8 = .pointer (some ⟨ob, 0, none⟩) ∧ a.at 9 = .bool true ∧ a.at 10 = .bool true ∧ a.at 12 = .pointer (some ⟨h2.next + 1, 0, none⟩) ∧ a.at 13 = .int .i64 e' ∧ a.at 49 = .pointer (some ⟨p, 0, none⟩) ∧ a.at 51 = .string aim ∧ h3.get ob = some (.cells (opC (kd, hh, aim, (nm, am), now, fl, co)) true) ∧ h2.next + 2 ≤ h3.next ∧ h3.get (h2.next + 1) = some (.cells [.int .i64 H', .int .i64 S', .bool F'] true) ∧ PPre p mb (.slice (some ⟨b, 0, none⟩) l.length (CAPX + 1)) l [b] h3 s O d' (.slice A' d'.all.length c') Od') ⟨by simp only [at_put, at_none, n_put, reduceIte, Nat.reduceEqDiff, Nat.reduceLT, zq, *]; first | done | rfl, by simp only [at_put, at_none, n_put, reduceIte, Nat.reduceEqDiff, Nat.reduceLT, zq, *]; first | done | rfl, by simp only [at_put, at_none, n_put, reduceIte, Nat.reduceEqDiff, Nat.reduceLT, zq, *]; first | done | rfl, by simp only [at_put, at_none, n_put, reduceIte, Nat.reduceEqDiff, Nat.reduceLT, zq, *]; first | done | rfl, by simp only [at_put, at_none, n_put, reduceIte, Nat.reduceEqDiff, Nat.reduceLT, zq, *]; first | done | rfl, by simp only [at_put, at_none, n_put, reduceIte, Nat.reduceEqDiff, Nat.reduceLT, zq, *]; first | done | rfl, by simp only [at_put, at_none, n_put, reduceIte, Nat.reduceEqDiff, Nat.reduceLT, zq, *]; first | done | rfl, by simp only [at_put, at_none, n_put, reduceIte, Nat.reduceEqDiff, Nat.reduceLT, zq, *]; first | done | rfl, by simp only [at_put, at_none, n_put, reduceIte, Nat.reduceEqDiff, Nat.reduceLT, zq, *]; first | done | rfl, by simp (disch := omega) only [at_put, at_none, n_put, reduceIte, Nat.reduceEqDiff, Nat.reduceLT, get_set_self, get_new_self, get_set_ne, get_new_ne, get_bump, next_set, next_new, Nat.lt_irrefl, next_kill, next_bump, cond_true, cond_false, *]; first | done | rfl, by simp only [at_put, at_none, n_put, reduceIte, Nat.reduceEqDiff, Nat.reduceLT, zq, *]; first | done | rfl, by simp only [at_put, at_none, n_put, reduceIte, Nat.reduceEqDiff, Nat.reduceLT, zq, *]; first | done | rfl, by simp only [at_put, at_none, n_put, reduceIte, Nat.reduceEqDiff, Nat.reduceLT, zq, *]; first | done | rfl, by simp (disch := omega) only [get_set_self, get_new_self, get_set_ne, get_new_ne, get_bump, next_set, next_new, Nat.lt_irrefl, reduceIte, next_kill, next_bump, *]; first | done | rfl, by simp only [next_bump, next_set, next_new, Nat.lt_irrefl, reduceIte]; omega, by simp (disch := omega) only [get_set_self, get_new_self, get_set_ne, get_new_ne, get_bump, next_set, next_new, Nat.lt_irrefl, reduceIte, next_kill, next_bump, *]; first | done | rfl, ?_⟩ ?_
        · refine hB1.doc' (h' := (((h2.new h2.next _).new _ _).set h2.next _).set _ _) ⟨by simp only [next_bump, next_set, next_new, Nat.lt_irrefl, reduceIte]; have := hk2.1; omega, fun q hq _ => ?_⟩ (hd2.keep ⟨by simp only [next_bump, next_set, next_new, Nat.lt_irrefl, reduceIte]; omega, fun q hq _ => ?_⟩) hO2
          · have := hk2.1
            rw [← hk2.2 q hq (by simp)]; simp (disch := omega) only [get_set_self, get_new_self, get_set_ne, get_new_ne, get_bump, next_set, next_new, Nat.lt_irrefl, reduceIte, next_kill, next_bump, *]; first | done | rfl
          · simp (disch := omega) only [get_set_self, get_new_self, get_set_ne, get_new_ne, get_bump, next_set, next_new, Nat.lt_irrefl, reduceIte, next_kill, next_bump, *]; first | done | rfl
        clear hna e5 e6 e29 e30 e31 e8 e9 e10 e36 e37 a gob2 gm2 hgm gob hd2 hk2 hO2
        rintro a h3 ⟨hna, e5, e6, e29, e30, e31, e8, e9, e10, e12, e13, e49, e51, gob, hnx3, gls, hB3⟩
        obtain ⟨m, v, OI, hi, hOe⟩ := hB3.pool
        refine S_call wants0 (by simp only [aev_tmp, aev_const, aev_func, aev_global, at_put, at_none, n_put, reduceIte, Nat.reduceEqDiff, Nat.reduceLT, zq, *]; first | done | rfl) (E_Y _) (by simp only [List.map, aev_tmp, aev_const, aev_func, aev_global, at_put, at_none, n_put, reduceIte, Nat.reduceEqDiff, Nat.reduceLT, zq, *]; first | done | rfl) ?_
        refine C_le (show n' - 2 + 3 = n' + 1 by omega) ?_
        refine (take_spec hi hB3.wf (by omega) (by omega) aim).mono ?_
        rintro r h4 ⟨H, S, F, e, s', rfl, ht, hu⟩
        rw [← hOe] at hu
        obtain ⟨rfl, rfl, rfl, rfl, hR'⟩ := hR.take hB3.wf hr0 ht hTd
        have hoth : ∀ q, q < h3.next → q ∉ O → h4.get q = h3.get q := by
          obtain ⟨O', _, g2, _⟩ := hu
          exact g2.2
        have hnx4 : h3.next ≤ h4.next := by
          obtain ⟨O', _, g2, _⟩ := hu
          exact g2.1
        have gob4 : h4.get ob = some (.cells (opC (kd, hh, aim, (nm, am), now, fl, co)) true) := (hoth ob (by omega) hobO).trans gob
        have gls4 : h4.get (h2.next + 1) = some (.cells [.int .i64 H', .int .i64 S', .bool F'] true) := (hoth _ (by omega) (fun hm => by have := hlt1 _ hm; omega)).trans gls
        obtain ⟨O4, hB4⟩ := hB3.upd hu (hB3.wf.take ht)
        have cz : ∀ x : Int, (x ≠ x) = False := fun x => by simp
        have hrs := hTd.rests
        have hls := ht.last
        clear hu hB3 hi gob gls hoth ht hTd
        have hK : ∀ o1 o2 : AObj, Keep h4 ((h4.new h4.next o1).set h4.next o2) [] := fun o1 o2 => ⟨by simp only [next_bump, next_set, next_new, Nat.lt_irrefl, reduceIte]; omega, fun q hq _ => by rw [get_set_ne (by omega), get_new_ne (by omega)]⟩
        repeat first | refine G_seq ?_ | refine G_reg ?_ | refine N_seq ?_ | refine N_block ?_ | refine G_block ?_ | refine G_skip ?_ | refine G_cT ?_ | refine G_cF ?_ | refine G_ret ?_ | refine U_seq_ret ?_ | refine U_block_ret ?_ | refine U_nil ?_ | refine S_nil ?_ | refine S_noG ?_ | refine S_auto ?_
        refine S_step (by first | exact wants0 | exact (wantsG rfl rfl (by simp only [n_put, *]; decide) (by simp only [at_put, at_none, n_put, reduceIte, Nat.reduceEqDiff, Nat.reduceLT, cond_true, cond_false, ne_eq, not_true_eq_false, not_false_eq_true, decide_true, decide_false, Bool.not_true, Bool.not_false, eq_self, Int.lt_irrefl, Int.le_refl, *]; first | done | rfl)).trans rfl) (o_bin (by simp only [aev_tmp, aev_const, aev_func, aev_global, at_put, at_none, n_put, reduceIte, Nat.reduceEqDiff, Nat.reduceLT, zq, *]; first | done | rfl) (by simp only [aev_tmp, aev_const, aev_func, aev_global, at_put, at_none, n_put, reduceIte, Nat.reduceEqDiff, Nat.reduceLT, zq, *]; first | done | rfl) b_bneq) ?_
        repeat first | refine G_seq ?_ | refine G_reg ?_ | refine N_seq ?_ | refine N_block ?_ | refine G_block ?_ | refine G_skip ?_ | refine G_cT ?_ | refine G_cF ?_ | refine G_ret ?_ | refine U_seq_ret ?_ | refine U_block_ret ?_ | refine U_nil ?_ | refine S_nil ?_ | refine S_noG ?_ | refine S_auto ?_
        refine N_nil ?_
        exact JQ_n ⟨by simp only [at_put, at_none, n_put, reduceIte, Nat.reduceEqDiff, Nat.reduceLT, zq, *]; first | done | rfl, by simp only [at_put, at_none, n_put, reduceIte, Nat.reduceEqDiff, Nat.reduceLT, zq, *]; first | done | rfl, by simp only [at_put, at_none, n_put, reduceIte, Nat.reduceEqDiff, Nat.reduceLT, zq, *]; first | done | rfl, by simp only [at_put, at_none, n_put, reduceIte, Nat.reduceEqDiff, Nat.reduceLT, zq, *]; first | done | rfl, by simp only [at_put, at_none, n_put, reduceIte, Nat.reduceEqDiff, Nat.reduceLT, zq, *]; first | done | rfl, by simp only [at_put, at_none, n_put, reduceIte, Nat.reduceEqDiff, Nat.reduceLT, zq, *]; first | done | rfl, by simp only [at_put, at_none, n_put, reduceIte, Nat.reduceEqDiff, Nat.reduceLT, zq, *]; first | done | rfl, ⟨_, by simp only [at_put, at_none, n_put, reduceIte, Nat.reduceEqDiff, Nat.reduceLT, zq, *]; first | done | rfl, by simp only [at_put, at_none, n_put, reduceIte, Nat.reduceEqDiff, Nat.reduceLT, zq, *]; first | done | rfl⟩, by simp (disch := omega) only [get_set_self, get_new_self, get_set_ne, get_new_ne, get_bump, next_set, next_new, Nat.lt_irrefl, reduceIte, next_kill, next_bump, *]; first | done | rfl, by simp only [next_bump, next_set, next_new, Nat.lt_irrefl, reduceIte]; omega, _, O4, _, _, Od', hB4.keep (hK _ _), hR', by omega, by omega, by omega⟩
      by_cases k2 : kd = 2
      · repeat first | refine G_seq ?_ | refine G_reg ?_ | refine N_seq ?_ | refine N_block ?_ | refine G_block ?_ | refine G_skip ?_ | refine G_cT ?_ | refine G_cF ?_ | refine G_ret ?_ | refine U_seq_ret ?_ | refine U_block_ret ?_ | refine U_nil ?_ | refine S_nil ?_ | refine S_auto ?_
        refine S_call wants0 (by simp only [aev_tmp, aev_const, aev_func, aev_global, at_put, at_none, n_put, reduceIte, Nat.reduceEqDiff, Nat.reduceLT, zq, *]; first | done | rfl) (E_Y _) (by simp only [List.map, aev_tmp, aev_const, aev_func, aev_global, at_put, at_none, n_put, reduceIte, Nat.reduceEqDiff, Nat.reduceLT, zq, *]; first | done | rfl) ?_
        refine C_le (show n' - 1 + 2 = n' + 1 by omega) ?_
        refine (djoined_spec hB1.doc (by omega) (by omega) hh).mono ?_
        rintro r h2 ⟨dsv', Od', rfl, hd2, hk2, hO2⟩
        have gob2 : h2.get ob = some (.cells (opC (kd, hh, aim, (nm, am), now, fl, co)) true) := (hk2.2 ob hobs (by simp)).trans gob
        have gm2 : h2.get mb = some (.cells (dcells d dsv) true) := (hk2.2 mb hmbs (by simp)).trans hgm
        have hob2 : ob < h2.next := Nat.lt_of_lt_of_le hobs hk2.1
        have hrel := hR.joined hB1.wf hh
        have hB2 := hB1.doc' hk2 hd2 hO2
        obtain ⟨A', c', rfl⟩ := hd2.1.len
        clear hk2 hd2 hO2
        repeat first | refine G_seq ?_ | refine G_reg ?_ | refine N_seq ?_ | refine N_block ?_ | refine G_block ?_ | refine G_skip ?_ | refine G_cT ?_ | refine G_cF ?_ | refine G_ret ?_ | refine U_seq_ret ?_ | refine U_block_ret ?_ | refine U_nil ?_ | refine S_nil ?_ | refine S_auto ?_
        refine S_gen (fun a h3 => a.n = 163 ∧ a.at 5 = .pointer (some ⟨p, 0, none⟩) ∧ a.at 6 = .pointer (some ⟨mb, 0, none⟩) ∧ a.at 29 = .slice (some ⟨b, 0, none⟩) l.length (CAPX + 1) ∧ a.at 30 = .int .i64 (l.length : Int) ∧ a.at 31 = .int .i64 (i : Int) ∧ a.at 8 = .pointer (some ⟨ob, 0, none⟩) ∧ a.at 10 = .bool (joinD d hh).2 ∧ a.at 88 = .pointer (some ⟨p, 0, none⟩) ∧ a.at 90 = .int .i64 hh ∧ h3.get ob = some (.cells (opC (kd, hh, aim, (nm, am), now, fl, co)) true) ∧ ob < h3.next ∧ PPre p mb (.slice (some ⟨b, 0, none⟩) l.length (CAPX + 1)) l [b] h3 s O (joinD d hh).1 (.slice A' (joinD d hh).1.all.length c') Od') ⟨by simp only [at_put, at_none, n_put, reduceIte, Nat.reduceEqDiff, Nat.reduceLT, zq, *]; first | done | rfl, by simp only [at_put, at_none, n_put, reduceIte, Nat.reduceEqDiff, Nat.reduceLT, zq, *]; first | done | rfl, by simp only [at_put, at_none, n_put, reduceIte, Nat.reduceEqDiff, Nat.reduceLT, zq, *]; first | done | rfl, by simp only [at_put, at_none, n_put, reduceIte, Nat.reduceEqDiff, Nat.reduceLT, zq, *]; first | done | rfl, by simp only [at_put, at_none, n_put, reduceIte, Nat.reduceEqDiff, Nat.reduceLT, zq, *]; first | done | rfl, by simp only [at_put, at_none, n_put, reduceIte, Nat.reduceEqDiff, Nat.reduceLT, zq, *]; first | done | rfl, by simp only [at_put, at_none, n_put, reduceIte, Nat.reduceEqDiff, Nat.reduceLT, zq, *]; first | done | rfl, by simp only [at_put, at_none, n_put, reduceIte, Nat.reduceEqDiff, Nat.reduceLT, zq, *]; first | done | rfl, by simp only [at_put, at_none, n_put, reduceIte, Nat.reduceEqDiff, Nat.reduceLT, zq, *]; first | done | rfl, by simp only [at_put, at_none, n_put, reduceIte, Nat.reduceEqDiff, Nat.reduceLT, zq, *]; first | done | rfl, by simp (disch := omega) only [get_set_self, get_new_self, get_set_ne, get_new_ne, get_bump, next_set, next_new, Nat.lt_irrefl, reduceIte, next_kill, next_bump, *]; first | done | rfl, by simp only [next_bump, next_set, next_new, Nat.lt_irrefl, reduceIte]; omega, hB2⟩ ?_
        clear hna e5 e6 e29 e30 e31 e8 e9 e10 e36 e37 a gob2 gm2 hob2 hB2 hgm gob
        rintro a h3 ⟨hna, e5, e6, e29, e30, e31, e8, e10, et1, et2, gob, hob3, hB3⟩
        obtain ⟨m, v, OI, hi, hOe⟩ := hB3.pool
        refine S_call wants0 (by simp only [aev_tmp, aev_const, aev_func, aev_global, at_put, at_none, n_put, reduceIte, Nat.reduceEqDiff, Nat.reduceLT, zq, *]; first | done | rfl) (E_Y _) (by simp only [List.map, aev_tmp, aev_const, aev_func, aev_global, at_put, at_none, n_put, reduceIte, Nat.reduceEqDiff, Nat.reduceLT, zq, *]; first | done | rfl) ?_
        refine C_le (show n' - 2 + 3 = n' + 1 by omega) ?_
        refine (joined_spec hi hh).mono ?_
        rintro r h4 ⟨rfl, hu⟩
        rw [← hOe] at hu
        have gob4 : h4.get ob = some (.cells (opC (kd, hh, aim, (nm, am), now, fl, co)) true) := by
          obtain ⟨O', _, g2, _⟩ := hu
          rw [g2.2 ob hob3 hobO]; exact gob
        have hob4 : ob < h4.next := by
          obtain ⟨O', _, g2, _⟩ := hu
          exact Nat.lt_of_lt_of_le hob3 g2.1
        obtain ⟨O4, hB4⟩ := hB3.upd hu (by split; exact hB1.wf.joined (by assumption); exact hB1.wf)
        obtain ⟨hrel1, hrel2⟩ := hrel
        rw [hrel1] at e10
        clear hu hB3 hi gob
        repeat first | refine G_seq ?_ | refine G_reg ?_ | refine N_seq ?_ | refine N_block ?_ | refine G_block ?_ | refine G_skip ?_ | refine G_cT ?_ | refine G_cF ?_ | refine G_ret ?_ | refine U_seq_ret ?_ | refine U_block_ret ?_ | refine U_nil ?_ | refine S_nil ?_ | refine S_auto ?_
        refine N_nil ?_
        exact JQ_n ⟨by simp only [at_put, at_none, n_put, reduceIte, Nat.reduceEqDiff, Nat.reduceLT, zq, *]; first | done | rfl, by simp only [at_put, at_none, n_put, reduceIte, Nat.reduceEqDiff, Nat.reduceLT, zq, *]; first | done | rfl, by simp only [at_put, at_none, n_put, reduceIte, Nat.reduceEqDiff, Nat.reduceLT, zq, *]; first | done | rfl, by simp only [at_put, at_none, n_put, reduceIte, Nat.reduceEqDiff, Nat.reduceLT, zq, *]; first | done | rfl, by simp only [at_put, at_none, n_put, reduceIte, Nat.reduceEqDiff, Nat.reduceLT, zq, *]; first | done | rfl, by simp only [at_put, at_none, n_put, reduceIte, Nat.reduceEqDiff, Nat.reduceLT, zq, *]; first | done | rfl, by simp only [at_put, at_none, n_put, reduceIte, Nat.reduceEqDiff, Nat.reduceLT, zq, *]; first | done | rfl, ⟨_, by simp only [at_put, at_none, n_put, reduceIte, Nat.reduceEqDiff, Nat.reduceLT, zq, *]; first | done | rfl, by simp only [at_put, at_none, n_put, reduceIte, Nat.reduceEqDiff, Nat.reduceLT, zq, *]; first | done | rfl⟩, gob4, hob4, _, O4, _, _, Od', hB4, hrel2, by rw [joinD_rests]; omega, by rw [joinD_rests]; omega, by split <;> (show s.last ≤ _; omega)⟩
      by_cases k3 : kd = 3
      · repeat first | refine G_seq ?_ | refine G_reg ?_ | refine N_seq ?_ | refine N_block ?_ | refine G_block ?_ | refine G_skip ?_ | refine G_cT ?_ | refine G_cF ?_ | refine G_ret ?_ | refine U_seq_ret ?_ | refine U_block_ret ?_ | refine U_nil ?_ | refine S_nil ?_ | refine S_auto ?_
        refine S_call wants0 (by simp only [aev_tmp, aev_const, aev_func, aev_global, at_put, at_none, n_put, reduceIte, Nat.reduceEqDiff, Nat.reduceLT, zq, *]; first | done | rfl) (E_Y _) (by simp only [List.map, aev_tmp, aev_const, aev_func, aev_global, at_put, at_none, n_put, reduceIte, Nat.reduceEqDiff, Nat.reduceLT, zq, *]; first | done | rfl) ?_
        refine C_le (show n' - 1 + 2 = n' + 1 by omega) ?_
        refine (drest_spec hB1.doc (by omega) (by omega) ⟨by omega, by omega⟩ hh).mono ?_
        rintro r h2 ⟨dsv', Od', rfl, hd2, hk2, hO2⟩
        have gob2 : h2.get ob = some (.cells (opC (kd, hh, aim, (nm, am), now, fl, co)) true) := (hk2.2 ob hobs (by simp)).trans gob
        have gm2 : h2.get mb = some (.cells (dcells d dsv) true) := (hk2.2 mb hmbs (by simp)).trans hgm
        have hob2 : ob < h2.next := Nat.lt_of_lt_of_le hobs hk2.1
        have hrel := hR.rest hB1.wf hh
        have hB2 := hB1.doc' hk2 hd2 hO2
        obtain ⟨A', c', rfl⟩ := hd2.1.len
        clear hk2 hd2 hO2
        repeat first | refine G_seq ?_ | refine G_reg ?_ | refine N_seq ?_ | refine N_block ?_ | refine G_block ?_ | refine G_skip ?_ | refine G_cT ?_ | refine G_cF ?_ | refine G_ret ?_ | refine U_seq_ret ?_ | refine U_block_ret ?_ | refine U_nil ?_ | refine S_nil ?_ | refine S_auto ?_
        refine S_gen (fun a h3 => a.n = 163 ∧ a.at 5 = .pointer (some ⟨p, 0, none⟩) ∧ a.at 6 = .pointer (some ⟨mb, 0, none⟩) ∧ a.at 29 = .slice (some ⟨b, 0, none⟩) l.length (CAPX + 1) ∧ a.at 30 = .int .i64 (l.length : Int) ∧ a.at 31 = .int .i64 (i : Int) ∧ a.at 8 = .pointer (some ⟨ob, 0, none⟩) ∧ a.at 10 = .bool (restD d hh).2 ∧ a.at 101 = .pointer (some ⟨p, 0, none⟩) ∧ a.at 103 = .int .i64 hh ∧ h3.get ob = some (.cells (opC (kd, hh, aim, (nm, am), now, fl, co)) true) ∧ ob < h3.next ∧ PPre p mb (.slice (some ⟨b, 0, none⟩) l.length (CAPX + 1)) l [b] h3 s O (restD d hh).1 (.slice A' (restD d hh).1.all.length c') Od') ⟨by simp only [at_put, at_none, n_put, reduceIte, Nat.reduceEqDiff, Nat.reduceLT, zq, *]; first | done | rfl, by simp only [at_put, at_none, n_put, reduceIte, Nat.reduceEqDiff, Nat.reduceLT, zq, *]; first | done | rfl, by simp only [at_put, at_none, n_put, reduceIte, Nat.reduceEqDiff, Nat.reduceLT, zq, *]; first | done | rfl, by simp only [at_put, at_none, n_put, reduceIte, Nat.reduceEqDiff, Nat.reduceLT, zq, *]; first | done | rfl, by simp only [at_put, at_none, n_put, reduceIte, Nat.reduceEqDiff, Nat.reduceLT, zq, *]; first | done | rfl, by simp only [at_put, at_none, n_put, reduceIte, Nat.reduceEqDiff, Nat.reduceLT, zq, *]; first | done | rfl, by simp only [at_put, at_none, n_put, reduceIte, Nat.reduceEqDiff, Nat.reduceLT, zq, *]; first | done | rfl, by simp only [at_put, at_none, n_put, reduceIte, Nat.reduceEqDiff, Nat.reduceLT, zq, *]; first | done | rfl, by simp only [at_put, at_none, n_put, reduceIte, Nat.reduceEqDiff, Nat.reduceLT, zq, *]; first | done | rfl, by simp only [at_put, at_none, n_put, reduceIte, Nat.reduceEqDiff, Nat.reduceLT, zq, *]; first | done | rfl, by simp (disch := omega) only [get_set_self, get_new_self, get_set_ne, get_new_ne, get_bump, next_set, next_new, Nat.lt_irrefl, reduceIte, next_kill, next_bump, *]; first | done | rfl, by simp only [next_bump, next_set, next_new, Nat.lt_irrefl, reduceIte]; omega, hB2⟩ ?_
        clear hna e5 e6 e29 e30 e31 e8 e9 e10 e36 e37 a gob2 gm2 hob2 hB2 hgm gob
        rintro a h3 ⟨hna, e5, e6, e29, e30, e31, e8, e10, et1, et2, gob, hob3, hB3⟩
        obtain ⟨m, v, OI, hi, hOe⟩ := hB3.pool
        refine S_call wants0 (by simp only [aev_tmp, aev_const, aev_func, aev_global, at_put, at_none, n_put, reduceIte, Nat.reduceEqDiff, Nat.reduceLT, zq, *]; first | done | rfl) (E_Y _) (by simp only [List.map, aev_tmp, aev_const, aev_func, aev_global, at_put, at_none, n_put, reduceIte, Nat.reduceEqDiff, Nat.reduceLT, zq, *]; first | done | rfl) ?_
        refine C_le (show n' - 2 + 3 = n' + 1 by omega) ?_
        refine (rest_spec hi (by have := hB1.wf.ilen; have := hB1.wf.len; have := hB1.wf.most; omega) hh).mono ?_
        rintro r h4 ⟨rfl, hu⟩
        rw [← hOe] at hu
        have gob4 : h4.get ob = some (.cells (opC (kd, hh, aim, (nm, am), now, fl, co)) true) := by
          obtain ⟨O', _, g2, _⟩ := hu
          rw [g2.2 ob hob3 hobO]; exact gob
        have hob4 : ob < h4.next := by
          obtain ⟨O', _, g2, _⟩ := hu
          exact Nat.lt_of_lt_of_le hob3 g2.1
        obtain ⟨O4, hB4⟩ := hB3.upd hu (by split; exact hB1.wf.rest (by assumption); exact hB1.wf)
        obtain ⟨hrel1, hrel2⟩ := hrel
        rw [hrel1] at e10
        clear hu hB3 hi gob
        repeat first | refine G_seq ?_ | refine G_reg ?_ | refine N_seq ?_ | refine N_block ?_ | refine G_block ?_ | refine G_skip ?_ | refine G_cT ?_ | refine G_cF ?_ | refine G_ret ?_ | refine U_seq_ret ?_ | refine U_block_ret ?_ | refine U_nil ?_ | refine S_nil ?_ | refine S_auto ?_
        refine N_nil ?_
        exact JQ_n ⟨by simp only [at_put, at_none, n_put, reduceIte, Nat.reduceEqDiff, Nat.reduceLT, zq, *]; first | done | rfl, by simp only [at_put, at_none, n_put, reduceIte, Nat.reduceEqDiff, Nat.reduceLT, zq, *]; first | done | rfl, by simp only [at_put, at_none, n_put, reduceIte, Nat.reduceEqDiff, Nat.reduceLT, zq, *]; first | done | rfl, by simp only [at_put, at_none, n_put, reduceIte, Nat.reduceEqDiff, Nat.reduceLT, zq, *]; first | done | rfl, by simp only [at_put, at_none, n_put, reduceIte, Nat.reduceEqDiff, Nat.reduceLT, zq, *]; first | done | rfl, by simp only [at_put, at_none, n_put, reduceIte, Nat.reduceEqDiff, Nat.reduceLT, zq, *]; first | done | rfl, by simp only [at_put, at_none, n_put, reduceIte, Nat.reduceEqDiff, Nat.reduceLT, zq, *]; first | done | rfl, ⟨_, by simp only [at_put, at_none, n_put, reduceIte, Nat.reduceEqDiff, Nat.reduceLT, zq, *]; first | done | rfl, by simp only [at_put, at_none, n_put, reduceIte, Nat.reduceEqDiff, Nat.reduceLT, zq, *]; first | done | rfl⟩, gob4, hob4, _, O4, _, _, Od', hB4, hrel2, by have := restD_rests d hh; omega, by have := restD_rests d hh; omega, by split <;> (show s.last ≤ _; omega)⟩
      by_cases k4 : kd = 4
      · repeat first | refine G_seq ?_ | refine G_reg ?_ | refine N_seq ?_ | refine N_block ?_ | refine G_block ?_ | refine G_skip ?_ | refine G_cT ?_ | refine G_cF ?_ | refine G_ret ?_ | refine U_seq_ret ?_ | refine U_block_ret ?_ | refine U_nil ?_ | refine S_nil ?_ | refine S_auto ?_
        refine S_call wants0 (by simp only [aev_tmp, aev_const, aev_func, aev_global, at_put, at_none, n_put, reduceIte, Nat.reduceEqDiff, Nat.reduceLT, zq, *]; first | done | rfl) (E_Y _) (by simp only [List.map, aev_tmp, aev_const, aev_func, aev_global, at_put, at_none, n_put, reduceIte, Nat.reduceEqDiff, Nat.reduceLT, zq, *]; first | done | rfl) ?_
        refine (dshut_spec hB1.doc (by omega) (by omega) hh).mono ?_
        rintro r h2 ⟨dsv', Od', rfl, hd2, hk2, hO2⟩
        have gob2 : h2.get ob = some (.cells (opC (kd, hh, aim, (nm, am), now, fl, co)) true) := (hk2.2 ob hobs (by simp)).trans gob
        have gm2 : h2.get mb = some (.cells (dcells d dsv) true) := (hk2.2 mb hmbs (by simp)).trans hgm
        have hob2 : ob < h2.next := Nat.lt_of_lt_of_le hobs hk2.1
        have hrel := And.intro (hR.shutB hh) (hR.shut hh)
        have hB2 := hB1.doc' hk2 hd2 fun q hq => .inr (hO2 q hq)
        obtain ⟨A', c', rfl⟩ := hd2.1.len
        clear hk2 hd2 hO2
        repeat first | refine G_seq ?_ | refine G_reg ?_ | refine N_seq ?_ | refine N_block ?_ | refine G_block ?_ | refine G_skip ?_ | refine G_cT ?_ | refine G_cF ?_ | refine G_ret ?_ | refine U_seq_ret ?_ | refine U_block_ret ?_ | refine U_nil ?_ | refine S_nil ?_ | refine S_auto ?_
        refine S_gen (fun a h3 => a.n = 163 ∧ a.at 5 = .pointer (some ⟨p, 0, none⟩) ∧ a.at 6 = .pointer (some ⟨mb, 0, none⟩) ∧ a.at 29 = .slice (some ⟨b, 0, none⟩) l.length (CAPX + 1) ∧ a.at 30 = .int .i64 (l.length : Int) ∧ a.at 31 = .int .i64 (i : Int) ∧ a.at 8 = .pointer (some ⟨ob, 0, none⟩) ∧ a.at 10 = .bool (decide ((outF hh d.all).length < d.all.length)) ∧ a.at 114 = .pointer (some ⟨p, 0, none⟩) ∧ a.at 116 = .int .i64 hh ∧ h3.get ob = some (.cells (opC (kd, hh, aim, (nm, am), now, fl, co)) true) ∧ ob < h3.next ∧ PPre p mb (.slice (some ⟨b, 0, none⟩) l.length (CAPX + 1)) l [b] h3 s O ({ d with all := outF hh d.all } : DP) (.slice A' ({ d with all := outF hh d.all } : DP).all.length c') Od') ⟨by simp only [at_put, at_none, n_put, reduceIte, Nat.reduceEqDiff, Nat.reduceLT, zq, *]; first | done | rfl, by simp only [at_put, at_none, n_put, reduceIte, Nat.reduceEqDiff, Nat.reduceLT, zq, *]; first | done | rfl, by simp only [at_put, at_none, n_put, reduceIte, Nat.reduceEqDiff, Nat.reduceLT, zq, *]; first | done | rfl, by simp only [at_put, at_none, n_put, reduceIte, Nat.reduceEqDiff, Nat.reduceLT, zq, *]; first | done | rfl, by simp only [at_put, at_none, n_put, reduceIte, Nat.reduceEqDiff, Nat.reduceLT, zq, *]; first | done | rfl, by simp only [at_put, at_none, n_put, reduceIte, Nat.reduceEqDiff, Nat.reduceLT, zq, *]; first | done | rfl, by simp only [at_put, at_none, n_put, reduceIte, Nat.reduceEqDiff, Nat.reduceLT, zq, *]; first | done | rfl, by simp only [at_put, at_none, n_put, reduceIte, Nat.reduceEqDiff, Nat.reduceLT, zq, *]; first | done | rfl, by simp only [at_put, at_none, n_put, reduceIte, Nat.reduceEqDiff, Nat.reduceLT, zq, *]; first | done | rfl, by simp only [at_put, at_none, n_put, reduceIte, Nat.reduceEqDiff, Nat.reduceLT, zq, *]; first | done | rfl, by simp (disch := omega) only [get_set_self, get_new_self, get_set_ne, get_new_ne, get_bump, next_set, next_new, Nat.lt_irrefl, reduceIte, next_kill, next_bump, *]; first | done | rfl, by simp only [next_bump, next_set, next_new, Nat.lt_irrefl, reduceIte]; omega, hB2⟩ ?_
        clear hna e5 e6 e29 e30 e31 e8 e9 e10 e36 e37 a gob2 gm2 hob2 hB2 hgm gob
        rintro a h3 ⟨hna, e5, e6, e29, e30, e31, e8, e10, et1, et2, gob, hob3, hB3⟩
        obtain ⟨m, v, OI, hi, hOe⟩ := hB3.pool
        refine S_call wants0 (by simp only [aev_tmp, aev_const, aev_func, aev_global, at_put, at_none, n_put, reduceIte, Nat.reduceEqDiff, Nat.reduceLT, zq, *]; first | done | rfl) (E_Y _) (by simp only [List.map, aev_tmp, aev_const, aev_func, aev_global, at_put, at_none, n_put, reduceIte, Nat.reduceEqDiff, Nat.reduceLT, zq, *]; first | done | rfl) ?_
        refine C_le (show n' - 1 + 2 = n' + 1 by omega) ?_
        refine (shut_spec hi (by have := hB1.wf.ilen; have := hB1.wf.len; have := hB1.wf.most; omega) (by have := hB1.wf.ilen; have := hB1.wf.len; have := hB1.wf.most; omega) hh).mono ?_
        rintro r h4 ⟨rfl, hu⟩
        rw [← hOe] at hu
        have gob4 : h4.get ob = some (.cells (opC (kd, hh, aim, (nm, am), now, fl, co)) true) := by
          obtain ⟨O', _, g2, _⟩ := hu
          rw [g2.2 ob hob3 hobO]; exact gob
        have hob4 : ob < h4.next := by
          obtain ⟨O', _, g2, _⟩ := hu
          exact Nat.lt_of_lt_of_le hob3 g2.1
        obtain ⟨O4, hB4⟩ := hB3.upd hu (hB1.wf.shut hh)
        obtain ⟨hrel1, hrel2⟩ := hrel
        rw [hrel1] at e10
        clear hu hB3 hi gob
        repeat first | refine G_seq ?_ | refine G_reg ?_ | refine N_seq ?_ | refine N_block ?_ | refine G_block ?_ | refine G_skip ?_ | refine G_cT ?_ | refine G_cF ?_ | refine G_ret ?_ | refine U_seq_ret ?_ | refine U_block_ret ?_ | refine U_nil ?_ | refine S_nil ?_ | refine S_auto ?_
        refine N_nil ?_
        exact JQ_n ⟨by simp only [at_put, at_none, n_put, reduceIte, Nat.reduceEqDiff, Nat.reduceLT, zq, *]; first | done | rfl, by simp only [at_put, at_none, n_put, reduceIte, Nat.reduceEqDiff, Nat.reduceLT, zq, *]; first | done | rfl, by simp only [at_put, at_none, n_put, reduceIte, Nat.reduceEqDiff, Nat.reduceLT, zq, *]; first | done | rfl, by simp only [at_put, at_none, n_put, reduceIte, Nat.reduceEqDiff, Nat.reduceLT, zq, *]; first | done | rfl, by simp only [at_put, at_none, n_put, reduceIte, Nat.reduceEqDiff, Nat.reduceLT, zq, *]; first | done | rfl, by simp only [at_put, at_none, n_put, reduceIte, Nat.reduceEqDiff, Nat.reduceLT, zq, *]; first | done | rfl, by simp only [at_put, at_none, n_put, reduceIte, Nat.reduceEqDiff, Nat.reduceLT, zq, *]; first | done | rfl, ⟨_, by simp only [at_put, at_none, n_put, reduceIte, Nat.reduceEqDiff, Nat.reduceLT, zq, *]; first | done | rfl, by simp only [at_put, at_none, n_put, reduceIte, Nat.reduceEqDiff, Nat.reduceLT, zq, *]; first | done | rfl⟩, gob4, hob4, _, O4, _, _, Od', hB4, hrel2, by show 0 ≤ d.rests; omega, by show d.rests ≤ _; omega, by show s.last ≤ _; omega⟩
      repeat first | refine G_seq ?_ | refine G_reg ?_ | refine N_seq ?_ | refine N_block ?_ | refine G_block ?_ | refine G_skip ?_ | refine G_cT ?_ | refine G_cF ?_ | refine G_ret ?_ | refine U_seq_ret ?_ | refine U_block_ret ?_ | refine U_nil ?_ | refine S_nil ?_ | refine S_auto ?_
      refine N_nil ?_
      exact JQ_n ⟨by simp only [at_put, at_none, n_put, reduceIte, Nat.reduceEqDiff, Nat.reduceLT, zq, *]; first | done | rfl, by simp only [at_put, at_none, n_put, reduceIte, Nat.reduceEqDiff, Nat.reduceLT, zq, *]; first | done | rfl, by simp only [at_put, at_none, n_put, reduceIte, Nat.reduceEqDiff, Nat.reduceLT, zq, *]; first | done | rfl, by simp only [at_put, at_none, n_put, reduceIte, Nat.reduceEqDiff, Nat.reduceLT, zq, *]; first | done | rfl, by simp only [at_put, at_none, n_put, reduceIte, Nat.reduceEqDiff, Nat.reduceLT, zq, *]; first | done | rfl, by simp only [at_put, at_none, n_put, reduceIte, Nat.reduceEqDiff, Nat.reduceLT, zq, *]; first | done | rfl, by simp only [at_put, at_none, n_put, reduceIte, Nat.reduceEqDiff, Nat.reduceLT, zq, *]; first | done | rfl, ⟨true, by simp only [at_put, at_none, n_put, reduceIte, Nat.reduceEqDiff, Nat.reduceLT, zq, *]; first | done | rfl, by simp only [at_put, at_none, n_put, reduceIte, Nat.reduceEqDiff, Nat.reduceLT, zq, *]; first | done | rfl⟩, gob, hobs, s, O, d, dsv, Od, hB1, hR, by omega, by omega, by omega⟩
    · clear hna e5 e6 e29 e30 e31 e8 e9 e10 e36 e37 gob hobO hobs hobm hdl hmbs hgm hB1 hR hr0 hr1 hla a h1 s O d dsv Od
      rintro a h2 ⟨hna, e5, e6, e29, e30, e31, e8, ⟨bb, e9, e10⟩, gob, hobs, s, O, d, dsv, Od, hB, hR, hr0, hr1, hla⟩
      have hlen := hR.lens
      have hst := (hR.state hh).symm
      have hst2 := (hR.state d.last).symm
      have hai := (hR.aim hh).symm
      have gm := hB.cell
      have hmbs := hB.mbO.2.2
      have hdl : d.all.length ≤ 64 := by have h1 := hB.wf.len; have h2 := hB.wf.most; omega
      obtain ⟨m, v, OI, hi, hOe⟩ := hB.pool
      obtain ⟨A, c, rfl⟩ := hB.doc.1.len
      have hvq : veq (.slice A d.all.length c) (.slice A d.all.length c) = true := hB.doc.1.veq
      have hva : veq (dv d (.slice A d.all.length c)) (dv d (.slice A d.all.length c)) = true := veq_dv hB.doc.1.vok
      have cz : ∀ x : Int, (x ≠ x) = False := fun x => by simp
      have czs : ∀ x : ByteArray, (x ≠ x) = False := fun x => by simp
      repeat first | refine G_seq ?_ | refine G_reg ?_ | refine N_seq ?_ | refine N_block ?_ | refine G_block ?_ | refine G_skip ?_ | refine G_cT ?_ | refine G_cF ?_ | refine G_ret ?_ | refine U_seq_ret ?_ | refine U_block_ret ?_ | refine U_nil ?_ | refine S_nil ?_ | refine S_auto ?_
      refine G_draw [5, 15] [20, 21, 25, 27, 29, 31, 32, 36, 38, 40, 42, 43] (by kernel_rfl) ?_
      repeat first | refine D1_nil0 ?_ | refine D2_nil ?_ | refine D_noG ?_ | refine D_pure ?_ | refine D_rd ?_ | refine D2_pure' ?_
      refine D1_rd wants0 rfl rfl (fun _ => o_bin (by simp only [aev_tmp, aev_const, aev_func, aev_global, at_put, at_none, n_put, reduceIte, Nat.reduceEqDiff, Nat.reduceLT, zq, *]; first | done | rfl) (by simp only [aev_tmp, aev_const, aev_func, aev_global, at_put, at_none, n_put, reduceIte, Nat.reduceEqDiff, Nat.reduceLT, zq, *]; first | done | rfl) b_bneq) (by first | exact veq_self rfl | assumption) ?_
      repeat first | refine D1_nil0 ?_ | refine D2_nil ?_ | refine D_noG ?_ | refine D_pure ?_ | refine D_rd ?_ | refine D2_pure' ?_
      refine D1_qcall (by first | exact wants0 | exact (wantsG rfl rfl (by simp only [n_put, *]; decide) (by simp only [at_put, at_none, n_put, reduceIte, Nat.reduceEqDiff, Nat.reduceLT, cond_true, cond_false, ne_eq, not_true_eq_false, not_false_eq_true, decide_true, decide_false, Bool.not_true, Bool.not_false, eq_self, Int.lt_irrefl, Int.le_refl, *]; first | done | rfl)).trans rfl) rfl (by simp only [aev_tmp, aev_const, aev_func, aev_global, at_put, at_none, n_put, reduceIte, Nat.reduceEqDiff, Nat.reduceLT, zq, *]; first | done | rfl) (E_Y _) (by simp only [List.map, aev_tmp, aev_const, aev_func, aev_global, at_put, at_none, n_put, reduceIte, Nat.reduceEqDiff, Nat.reduceLT, zq, *]; first | done | rfl) ?_
      refine (len_spec (n := n') (hi.bump 44)).mono ?_
      rintro r h3 ⟨rfl, rfl⟩
      refine ⟨rfl, ?_⟩
      repeat first | refine D1_nil0 ?_ | refine D2_nil ?_ | refine D_noG ?_ | refine D_pure ?_ | refine D_rd ?_ | refine D2_pure' ?_
      refine D1_rd (by first | exact wants0 | exact (wantsG rfl rfl (by simp only [n_put, *]; decide) (by simp only [at_put, at_none, n_put, reduceIte, Nat.reduceEqDiff, Nat.reduceLT, cond_true, cond_false, ne_eq, not_true_eq_false, not_false_eq_true, decide_true, decide_false, Bool.not_true, Bool.not_false, eq_self, Int.lt_irrefl, Int.le_refl, *]; first | done | rfl)).trans rfl) rfl rfl (fun _ => o_builtin (by simp only [List.map, aev_tmp, aev_const, aev_func, aev_global, at_put, at_none, n_put, reduceIte, Nat.reduceEqDiff, Nat.reduceLT, zq, *]; first | done | rfl) (hB.doc.1.lenB (TL rfl))) (by first | exact veq_self rfl | assumption) ?_
      repeat first | refine D1_nil0 ?_ | refine D2_nil ?_ | refine D_noG ?_ | refine D_pure ?_ | refine D_rd ?_ | refine D2_pure' ?_
      refine D1_qcall (by first | exact wants0 | exact (wantsG rfl rfl (by simp only [n_put, *]; decide) (by simp only [at_put, at_none, n_put, reduceIte, Nat.reduceEqDiff, Nat.reduceLT, cond_true, cond_false, ne_eq, not_true_eq_false, not_false_eq_true, decide_true, decide_false, Bool.not_true, Bool.not_false, eq_self, Int.lt_irrefl, Int.le_refl, *]; first | done | rfl)).trans rfl) rfl (by simp only [aev_tmp, aev_const, aev_func, aev_global, at_put, at_none, n_put, reduceIte, Nat.reduceEqDiff, Nat.reduceLT, zq, *]; first | done | rfl) (E_Y _) (by simp only [List.map, aev_tmp, aev_const, aev_func, aev_global, at_put, at_none, n_put, reduceIte, Nat.reduceEqDiff, Nat.reduceLT, zq, *]; first | done | rfl) ?_
      refine (state_spec (n := n') (hi.bump 44) hh).mono ?_
      rintro r h3 ⟨rfl, rfl⟩
      refine ⟨rfl, ?_⟩
      repeat first | refine D1_nil0 ?_ | refine D2_nil ?_ | refine D_noG ?_ | refine D_pure ?_ | refine D_rd ?_ | refine D2_pure' ?_
      have hd0 : DPAt (bump h2 44) d (.slice A d.all.length c) Od := hB.doc.keep (Keep.bump h2 44 [])
      refine D1_call (by first | exact wants0 | exact (wantsG rfl rfl (by simp only [n_put, *]; decide) (by simp only [at_put, at_none, n_put, reduceIte, Nat.reduceEqDiff, Nat.reduceLT, cond_true, cond_false, ne_eq, not_true_eq_false, not_false_eq_true, decide_true, decide_false, Bool.not_true, Bool.not_false, eq_self, Int.lt_irrefl, Int.le_refl, *]; first | done | rfl)).trans rfl) rfl (by simp only [aev_tmp, aev_const, aev_func, aev_global, at_put, at_none, n_put, reduceIte, Nat.reduceEqDiff, Nat.reduceLT, zq, *]; first | done | rfl) (E_Y _) (by simp only [List.map, aev_tmp, aev_const, aev_func, aev_global, at_put, at_none, n_put, reduceIte, Nat.reduceEqDiff, Nat.reduceLT, zq, *]; first | done | rfl) ?_
      refine C_le (show n' - 1 + 2 = n' + 1 by omega) ?_
      refine (dstate_spec hd0 (by omega) (by omega) hh).mono ?_
      rintro r g1 ⟨rfl, hk1⟩
      refine ⟨.nil, ?_⟩
      have hi1 := (hi.bump 44).keep hk1
      have hd1 := hd0.keep hk1
      have gm1 : g1.get mb = some (.cells (dcells d (.slice A d.all.length c)) true) := (hk1.2 mb (by rw [next_bump]; omega) (by simp)).trans gm
      have gob1 : g1.get ob = some (.cells (opC (kd, hh, aim, (nm, am), now, fl, co)) true) := (hk1.2 ob (by rw [next_bump]; omega) (by simp)).trans gob
      have hf : ∀ x ∈ [g1, bump h2 44], x.get mb = some (.cells (dcells d (.slice A d.all.length c)) true) ∧ x.get ob = some (.cells (opC (kd, hh, aim, (nm, am), now, fl, co)) true) := by
        intro x hx
        rcases List.mem_cons.1 hx with rfl | hx
        · exact ⟨gm1, gob1⟩
        · rw [List.mem_singleton.1 hx]; exact ⟨gm, gob⟩
      refine D2_rd (by first | exact wants0 | exact (wantsG rfl rfl (by simp only [n_put, *]; decide) (by simp only [at_put, at_none, n_put, reduceIte, Nat.reduceEqDiff, Nat.reduceLT, cond_true, cond_false, ne_eq, not_true_eq_false, not_false_eq_true, decide_true, decide_false, Bool.not_true, Bool.not_false, eq_self, Int.lt_irrefl, Int.le_refl, *]; first | done | rfl)).trans rfl) rfl rfl (fun _ _ _ => o_bin (by simp only [aev_tmp, aev_const, aev_func, aev_global, at_put, at_none, n_put, reduceIte, Nat.reduceEqDiff, Nat.reduceLT, zq, *]; first | done | rfl) (by simp only [aev_tmp, aev_const, aev_func, aev_global, at_put, at_none, n_put, reduceIte, Nat.reduceEqDiff, Nat.reduceLT, zq, *]; first | done | rfl) b_neq) (by first | exact veq_self rfl | assumption) ?_
      refine D2_rd wants0 rfl rfl (fun _ _ _ => o_pickF (by first | (simp only [aev_tmp, aev_const, at_put, at_none, n_put, reduceIte, Nat.reduceEqDiff, Nat.reduceLT, cond_true, cond_false, ne_eq, not_true_eq_false, not_false_eq_true, decide_true, decide_false, Bool.not_true, Bool.not_false, eq_self, Int.lt_irrefl, Int.le_refl, *]; done) | (simp only [aev_tmp, aev_const, at_put, at_none, n_put, reduceIte, Nat.reduceEqDiff, Nat.reduceLT, cond_true, cond_false, ne_eq, not_true_eq_false, not_false_eq_true, decide_true, decide_false, Bool.not_true, Bool.not_false, eq_self, Int.lt_irrefl, Int.le_refl, *]; rfl)) (by simp only [aev_tmp, aev_const, aev_func, aev_global, at_put, at_none, n_put, reduceIte, Nat.reduceEqDiff, Nat.reduceLT, zq, *]; first | done | rfl)) (by first | exact veq_self rfl | assumption) ?_
      repeat first | refine D1_nil0 ?_ | refine D2_nil ?_ | refine D_noG ?_ | refine D_pure ?_ | refine D_rd ?_ | refine D2_pure' ?_
      refine D2_rd (by first | exact wants0 | exact (wantsG rfl rfl (by simp only [n_put, *]; decide) (by simp only [at_put, at_none, n_put, reduceIte, Nat.reduceEqDiff, Nat.reduceLT, cond_true, cond_false, ne_eq, not_true_eq_false, not_false_eq_true, decide_true, decide_false, Bool.not_true, Bool.not_false, eq_self, Int.lt_irrefl, Int.le_refl, *]; first | done | rfl)).trans rfl) rfl rfl (fun x hx _ => o_ld (by simp only [aev_tmp, aev_const, aev_func, aev_global, at_put, at_none, n_put, reduceIte, Nat.reduceEqDiff, Nat.reduceLT, zq, *]; first | done | rfl) (TL rfl) rfl (rd_cells (hf x hx).2) rfl) (by first | exact veq_self rfl | assumption) ?_
      refine D2_call (by first | exact wants0 | exact (wantsG rfl rfl (by simp only [n_put, *]; decide) (by simp only [at_put, at_none, n_put, reduceIte, Nat.reduceEqDiff, Nat.reduceLT, cond_true, cond_false, ne_eq, not_true_eq_false, not_false_eq_true, decide_true, decide_false, Bool.not_true, Bool.not_false, eq_self, Int.lt_irrefl, Int.le_refl, *]; first | done | rfl)).trans rfl) rfl (by simp only [aev_tmp, aev_const, aev_func, aev_global, at_put, at_none, n_put, reduceIte, Nat.reduceEqDiff, Nat.reduceLT, zq, *]; first | done | rfl) (E_Y _) (by simp only [List.map, aev_tmp, aev_const, aev_func, aev_global, at_put, at_none, n_put, reduceIte, Nat.reduceEqDiff, Nat.reduceLT, zq, *]; first | done | rfl) ?_
      refine (aim_spec (n := n') hi1 hh).mono ?_
      rintro r g2 ⟨rfl, rfl⟩
      refine ⟨?_, ?_⟩
      · repeat first | exact .nil | refine .cons (fun _ => by first | exact o_ld (by simp only [aev_tmp, aev_const, aev_func, aev_global, at_put, at_none, n_put, reduceIte, Nat.reduceEqDiff, Nat.reduceLT, zq, *]; first | done | rfl) (TL rfl) rfl (rd_cells (by simp (disch := omega) only [get_set_self, get_new_self, get_set_ne, get_new_ne, get_bump, next_set, next_new, Nat.lt_irrefl, reduceIte, next_kill, next_bump, *]; first | done | rfl)) rfl | exact o_ldA (by simp only [aev_tmp, aev_const, aev_func, aev_global, at_put, at_none, n_put, reduceIte, Nat.reduceEqDiff, Nat.reduceLT, zq, *]; first | done | rfl) (TL rfl) rfl (rd_cells (by simp (disch := omega) only [get_set_self, get_new_self, get_set_ne, get_new_ne, get_bump, next_set, next_new, Nat.lt_irrefl, reduceIte, next_kill, next_bump, *]; first | done | rfl)) rfl | exact o_bin (by simp only [aev_tmp, aev_const, aev_func, aev_global, at_put, at_none, n_put, reduceIte, Nat.reduceEqDiff, Nat.reduceLT, zq, *]; first | done | rfl) (by simp only [aev_tmp, aev_const, aev_func, aev_global, at_put, at_none, n_put, reduceIte, Nat.reduceEqDiff, Nat.reduceLT, zq, *]; first | done | rfl) (by first | exact b_lss | exact b_leq | exact b_gtr | exact b_geq | exact b_eql | exact b_neq | exact b_add (by omega) (by omega) | exact b_sub (by omega) (by omega) | exact b_seql | exact b_sneq) | exact o_pickF (by first | (simp only [aev_tmp, aev_const, at_put, at_none, n_put, reduceIte, Nat.reduceEqDiff, Nat.reduceLT, cond_true, cond_false, ne_eq, not_true_eq_false, not_false_eq_true, decide_true, decide_false, Bool.not_true, Bool.not_false, eq_self, Int.lt_irrefl, Int.le_refl, *]; done) | (simp only [aev_tmp, aev_const, at_put, at_none, n_put, reduceIte, Nat.reduceEqDiff, Nat.reduceLT, cond_true, cond_false, ne_eq, not_true_eq_false, not_false_eq_true, decide_true, decide_false, Bool.not_true, Bool.not_false, eq_self, Int.lt_irrefl, Int.le_refl, *]; rfl)) (by simp only [aev_tmp, aev_const, aev_func, aev_global, at_put, at_none, n_put, reduceIte, Nat.reduceEqDiff, Nat.reduceLT, zq, *]; first | done | rfl)) ?_
      replace hf := List.forall_mem_cons.2 ⟨⟨gm1, gob1⟩, hf⟩
      refine D2_rd (by first | exact wants0 | exact (wantsG rfl rfl (by simp only [n_put, *]; decide) (by simp only [at_put, at_none, n_put, reduceIte, Nat.reduceEqDiff, Nat.reduceLT, cond_true, cond_false, ne_eq, not_true_eq_false, not_false_eq_true, decide_true, decide_false, Bool.not_true, Bool.not_false, eq_self, Int.lt_irrefl, Int.le_refl, *]; first | done | rfl)).trans rfl) rfl rfl (fun x hx _ => o_ldA (by simp only [aev_tmp, aev_const, aev_func, aev_global, at_put, at_none, n_put, reduceIte, Nat.reduceEqDiff, Nat.reduceLT, zq, *]; first | done | rfl) (TL rfl) rfl (rd_cells (hf x hx).1) rfl) (by first | exact veq_self rfl | assumption) ?_
      repeat first | refine D1_nil0 ?_ | refine D2_nil ?_ | refine D_noG ?_ | refine D_pure ?_ | refine D_rd ?_ | refine D2_pure' ?_
      refine D2_rd (by first | exact wants0 | exact (wantsG rfl rfl (by simp only [n_put, *]; decide) (by simp only [at_put, at_none, n_put, reduceIte, Nat.reduceEqDiff, Nat.reduceLT, cond_true, cond_false, ne_eq, not_true_eq_false, not_false_eq_true, decide_true, decide_false, Bool.not_true, Bool.not_false, eq_self, Int.lt_irrefl, Int.le_refl, *]; first | done | rfl)).trans rfl) rfl rfl (fun x hx _ => o_ld (by simp only [aev_tmp, aev_const, aev_func, aev_global, at_put, at_none, n_put, reduceIte, Nat.reduceEqDiff, Nat.reduceLT, zq, *]; first | done | rfl) (TL rfl) rfl (rd_cells (hf x hx).2) rfl) (by first | exact veq_self rfl | assumption) ?_
      refine D2_call (by first | exact wants0 | exact (wantsG rfl rfl (by simp only [n_put, *]; decide) (by simp only [at_put, at_none, n_put, reduceIte, Nat.reduceEqDiff, Nat.reduceLT, cond_true, cond_false, ne_eq, not_true_eq_false, not_false_eq_true, decide_true, decide_false, Bool.not_true, Bool.not_false, eq_self, Int.lt_irrefl, Int.le_refl, *]; first | done | rfl)).trans rfl) rfl (by simp only [aev_tmp, aev_const, aev_func, aev_global, at_put, at_none, n_put, reduceIte, Nat.reduceEqDiff, Nat.reduceLT, zq, *]; first | done | rfl) (E_Y _) (by simp only [List.map, aev_tmp, aev_const, aev_func, aev_global, at_put, at_none, n_put, reduceIte, Nat.reduceEqDiff, Nat.reduceLT, zq, *]; first | done | rfl) ?_
      refine C_le (show n' - 1 + 2 = n' + 1 by omega) ?_
      refine (daim_spec hd1 (by omega) (by omega) hh).mono ?_
      rintro r g2' ⟨rfl, hk2⟩
      refine ⟨?_, ?_⟩
      · have gm2 : g2'.get mb = some (.cells (dcells d (.slice A d.all.length c)) true) := (hk2.2 mb (by have := hk1.1; rw [next_bump] at this; omega) (by simp)).trans gm1
        have gob2 : g2'.get ob = some (.cells (opC (kd, hh, aim, (nm, am), now, fl, co)) true) := (hk2.2 ob (by have := hk1.1; rw [next_bump] at this; omega) (by simp)).trans gob1
        clear gm1 gob1 gm gob
        repeat first | exact .nil | refine .cons (fun _ => by first | exact o_ld (by simp only [aev_tmp, aev_const, aev_func, aev_global, at_put, at_none, n_put, reduceIte, Nat.reduceEqDiff, Nat.reduceLT, zq, *]; first | done | rfl) (TL rfl) rfl (rd_cells (by simp (disch := omega) only [get_set_self, get_new_self, get_set_ne, get_new_ne, get_bump, next_set, next_new, Nat.lt_irrefl, reduceIte, next_kill, next_bump, *]; first | done | rfl)) rfl | exact o_ldA (by simp only [aev_tmp, aev_const, aev_func, aev_global, at_put, at_none, n_put, reduceIte, Nat.reduceEqDiff, Nat.reduceLT, zq, *]; first | done | rfl) (TL rfl) rfl (rd_cells (by simp (disch := omega) only [get_set_self, get_new_self, get_set_ne, get_new_ne, get_bump, next_set, next_new, Nat.lt_irrefl, reduceIte, next_kill, next_bump, *]; first | done | rfl)) rfl | exact o_bin (by simp only [aev_tmp, aev_const, aev_func, aev_global, at_put, at_none, n_put, reduceIte, Nat.reduceEqDiff, Nat.reduceLT, zq, *]; first | done | rfl) (by simp only [aev_tmp, aev_const, aev_func, aev_global, at_put, at_none, n_put, reduceIte, Nat.reduceEqDiff, Nat.reduceLT, zq, *]; first | done | rfl) (by first | exact b_lss | exact b_leq | exact b_gtr | exact b_geq | exact b_eql | exact b_neq | exact b_add (by omega) (by omega) | exact b_sub (by omega) (by omega) | exact b_seql | exact b_sneq) | exact o_pickF (by first | (simp only [aev_tmp, aev_const, at_put, at_none, n_put, reduceIte, Nat.reduceEqDiff, Nat.reduceLT, cond_true, cond_false, ne_eq, not_true_eq_false, not_false_eq_true, decide_true, decide_false, Bool.not_true, Bool.not_false, eq_self, Int.lt_irrefl, Int.le_refl, *]; done) | (simp only [aev_tmp, aev_const, at_put, at_none, n_put, reduceIte, Nat.reduceEqDiff, Nat.reduceLT, cond_true, cond_false, ne_eq, not_true_eq_false, not_false_eq_true, decide_true, decide_false, Bool.not_true, Bool.not_false, eq_self, Int.lt_irrefl, Int.le_refl, *]; rfl)) (by simp only [aev_tmp, aev_const, aev_func, aev_global, at_put, at_none, n_put, reduceIte, Nat.reduceEqDiff, Nat.reduceLT, zq, *]; first | done | rfl)) ?_
      have hm1 := hk1.1
      rw [next_bump] at hm1
      have gm2 : g2'.get mb = some (.cells (dcells d (.slice A d.all.length c)) true) := (hk2.2 mb (by omega) (by simp)).trans gm1
      have gob2 : g2'.get ob = some (.cells (opC (kd, hh, aim, (nm, am), now, fl, co)) true) := (hk2.2 ob (by omega) (by simp)).trans gob1
      replace hf := List.forall_mem_cons.2 ⟨⟨gm2, gob2⟩, hf⟩
      have hi2 := hi1.keep hk2
      have hd2 := hd1.keep hk2
      refine D2_rd (by first | exact wants0 | exact (wantsG rfl rfl (by simp only [n_put, *]; decide) (by simp only [at_put, at_none, n_put, reduceIte, Nat.reduceEqDiff, Nat.reduceLT, cond_true, cond_false, ne_eq, not_true_eq_false, not_false_eq_true, decide_true, decide_false, Bool.not_true, Bool.not_false, eq_self, Int.lt_irrefl, Int.le_refl, *]; first | done | rfl)).trans rfl) rfl rfl (fun _ _ _ => o_bin (by simp only [aev_tmp, aev_const, aev_func, aev_global, at_put, at_none, n_put, reduceIte, Nat.reduceEqDiff, Nat.reduceLT, zq, *]; first | done | rfl) (by simp only [aev_tmp, aev_const, aev_func, aev_global, at_put, at_none, n_put, reduceIte, Nat.reduceEqDiff, Nat.reduceLT, zq, *]; first | done | rfl) b_sneq) (by first | exact veq_self rfl | assumption) ?_
      refine D2_rd wants0 rfl rfl (fun _ _ _ => o_pickF (by first | (simp only [aev_tmp, aev_const, at_put, at_none, n_put, reduceIte, Nat.reduceEqDiff, Nat.reduceLT, cond_true, cond_false, ne_eq, not_true_eq_false, not_false_eq_true, decide_true, decide_false, Bool.not_true, Bool.not_false, eq_self, Int.lt_irrefl, Int.le_refl, *]; done) | (simp only [aev_tmp, aev_const, at_put, at_none, n_put, reduceIte, Nat.reduceEqDiff, Nat.reduceLT, cond_true, cond_false, ne_eq, not_true_eq_false, not_false_eq_true, decide_true, decide_false, Bool.not_true, Bool.not_false, eq_self, Int.lt_irrefl, Int.le_refl, *]; rfl)) (by simp only [aev_tmp, aev_const, aev_func, aev_global, at_put, at_none, n_put, reduceIte, Nat.reduceEqDiff, Nat.reduceLT, zq, *]; first | done | rfl)) (by first | exact veq_self rfl | assumption) ?_
      repeat first | refine D1_nil0 ?_ | refine D2_nil ?_ | refine D_noG ?_ | refine D_pure ?_ | refine D_rd ?_ | refine D2_pure' ?_
      refine D2_rd (by first | exact wants0 | exact (wantsG rfl rfl (by simp only [n_put, *]; decide) (by simp only [at_put, at_none, n_put, reduceIte, Nat.reduceEqDiff, Nat.reduceLT, cond_true, cond_false, ne_eq, not_true_eq_false, not_false_eq_true, decide_true, decide_false, Bool.not_true, Bool.not_false, eq_self, Int.lt_irrefl, Int.le_refl, *]; first | done | rfl)).trans rfl) rfl rfl (fun x hx _ => o_ld (by simp only [aev_tmp, aev_const, aev_func, aev_global, at_put, at_none, n_put, reduceIte, Nat.reduceEqDiff, Nat.reduceLT, zq, *]; first | done | rfl) (TL rfl) rfl (rd_cells (hf x hx).1) rfl) (by first | exact veq_self rfl | assumption) ?_
      refine D2_call (by first | exact wants0 | exact (wantsG rfl rfl (by simp only [n_put, *]; decide) (by simp only [at_put, at_none, n_put, reduceIte, Nat.reduceEqDiff, Nat.reduceLT, cond_true, cond_false, ne_eq, not_true_eq_false, not_false_eq_true, decide_true, decide_false, Bool.not_true, Bool.not_false, eq_self, Int.lt_irrefl, Int.le_refl, *]; first | done | rfl)).trans rfl) rfl (by simp only [aev_tmp, aev_const, aev_func, aev_global, at_put, at_none, n_put, reduceIte, Nat.reduceEqDiff, Nat.reduceLT, zq, *]; first | done | rfl) (E_Y _) (by simp only [List.map, aev_tmp, aev_const, aev_func, aev_global, at_put, at_none, n_put, reduceIte, Nat.reduceEqDiff, Nat.reduceLT, zq, *]; first | done | rfl) ?_
      refine (state_spec (n := n') hi2 d.last).mono ?_
      rintro r g3 ⟨rfl, rfl⟩
      refine ⟨?_, ?_⟩
      · clear gm1 gob1 gm gob
        repeat first | exact .nil | refine .cons (fun _ => by first | exact o_ld (by simp only [aev_tmp, aev_const, aev_func, aev_global, at_put, at_none, n_put, reduceIte, Nat.reduceEqDiff, Nat.reduceLT, zq, *]; first | done | rfl) (TL rfl) rfl (rd_cells (by simp (disch := omega) only [get_set_self, get_new_self, get_set_ne, get_new_ne, get_bump, next_set, next_new, Nat.lt_irrefl, reduceIte, next_kill, next_bump, *]; first | done | rfl)) rfl | exact o_ldA (by simp only [aev_tmp, aev_const, aev_func, aev_global, at_put, at_none, n_put, reduceIte, Nat.reduceEqDiff, Nat.reduceLT, zq, *]; first | done | rfl) (TL rfl) rfl (rd_cells (by simp (disch := omega) only [get_set_self, get_new_self, get_set_ne, get_new_ne, get_bump, next_set, next_new, Nat.lt_irrefl, reduceIte, next_kill, next_bump, *]; first | done | rfl)) rfl | exact o_bin (by simp only [aev_tmp, aev_const, aev_func, aev_global, at_put, at_none, n_put, reduceIte, Nat.reduceEqDiff, Nat.reduceLT, zq, *]; first | done | rfl) (by simp only [aev_tmp, aev_const, aev_func, aev_global, at_put, at_none, n_put, reduceIte, Nat.reduceEqDiff, Nat.reduceLT, zq, *]; first | done | rfl) (by first | exact b_lss | exact b_leq | exact b_gtr | exact b_geq | exact b_eql | exact b_neq | exact b_add (by omega) (by omega) | exact b_sub (by omega) (by omega) | exact b_seql | exact b_sneq) | exact o_pickF (by first | (simp only [aev_tmp, aev_const, at_put, at_none, n_put, reduceIte, Nat.reduceEqDiff, Nat.reduceLT, cond_true, cond_false, ne_eq, not_true_eq_false, not_false_eq_true, decide_true, decide_false, Bool.not_true, Bool.not_false, eq_self, Int.lt_irrefl, Int.le_refl, *]; done) | (simp only [aev_tmp, aev_const, at_put, at_none, n_put, reduceIte, Nat.reduceEqDiff, Nat.reduceLT, cond_true, cond_false, ne_eq, not_true_eq_false, not_false_eq_true, decide_true, decide_false, Bool.not_true, Bool.not_false, eq_self, Int.lt_irrefl, Int.le_refl, *]; rfl)) (by simp only [aev_tmp, aev_const, aev_func, aev_global, at_put, at_none, n_put, reduceIte, Nat.reduceEqDiff, Nat.reduceLT, zq, *]; first | done | rfl)) ?_
      replace hf := List.forall_mem_cons.2 ⟨⟨gm2, gob2⟩, hf⟩
      refine D2_rd (by first | exact wants0 | exact (wantsG rfl rfl (by simp only [n_put, *]; decide) (by simp only [at_put, at_none, n_put, reduceIte, Nat.reduceEqDiff, Nat.reduceLT, cond_true, cond_false, ne_eq, not_true_eq_false, not_false_eq_true, decide_true, decide_false, Bool.not_true, Bool.not_false, eq_self, Int.lt_irrefl, Int.le_refl, *]; first | done | rfl)).trans rfl) rfl rfl (fun x hx _ => o_ldA (by simp only [aev_tmp, aev_const, aev_func, aev_global, at_put, at_none, n_put, reduceIte, Nat.reduceEqDiff, Nat.reduceLT, zq, *]; first | done | rfl) (TL rfl) rfl (rd_cells (hf x hx).1) rfl) (by first | exact veq_self rfl | assumption) ?_
      repeat first | refine D1_nil0 ?_ | refine D2_nil ?_ | refine D_noG ?_ | refine D_pure ?_ | refine D_rd ?_ | refine D2_pure' ?_
      refine D2_rd (by first | exact wants0 | exact (wantsG rfl rfl (by simp only [n_put, *]; decide) (by simp only [at_put, at_none, n_put, reduceIte, Nat.reduceEqDiff, Nat.reduceLT, cond_true, cond_false, ne_eq, not_true_eq_false, not_false_eq_true, decide_true, decide_false, Bool.not_true, Bool.not_false, eq_self, Int.lt_irrefl, Int.le_refl, *]; first | done | rfl)).trans rfl) rfl rfl (fun x hx _ => o_ld (by simp only [aev_tmp, aev_const, aev_func, aev_global, at_put, at_none, n_put, reduceIte, Nat.reduceEqDiff, Nat.reduceLT, zq, *]; first | done | rfl) (TL rfl) rfl (rd_cells (hf x hx).1) rfl) (by first | exact veq_self rfl | assumption) ?_
      refine D2_call (by first | exact wants0 | exact (wantsG rfl rfl (by simp only [n_put, *]; decide) (by simp only [at_put, at_none, n_put, reduceIte, Nat.reduceEqDiff, Nat.reduceLT, cond_true, cond_false, ne_eq, not_true_eq_false, not_false_eq_true, decide_true, decide_false, Bool.not_true, Bool.not_false, eq_self, Int.lt_irrefl, Int.le_refl, *]; first | done | rfl)).trans rfl) rfl (by simp only [aev_tmp, aev_const, aev_func, aev_global, at_put, at_none, n_put, reduceIte, Nat.reduceEqDiff, Nat.reduceLT, zq, *]; first | done | rfl) (E_Y _) (by simp only [List.map, aev_tmp, aev_const, aev_func, aev_global, at_put, at_none, n_put, reduceIte, Nat.reduceEqDiff, Nat.reduceLT, zq, *]; first | done | rfl) ?_
      refine C_le (show n' - 1 + 2 = n' + 1 by omega) ?_
      refine (dstate_spec hd2 (by omega) (by omega) d.last).mono ?_
      rintro r g4 ⟨rfl, hk4⟩
      have hm2 := hk2.1
      have gm4 : g4.get mb = some (.cells (dcells d (.slice A d.all.length c)) true) := (hk4.2 mb (by omega) (by simp)).trans gm2
      have gob4 : g4.get ob = some (.cells (opC (kd, hh, aim, (nm, am), now, fl, co)) true) := (hk4.2 ob (by omega) (by simp)).trans gob2
      refine ⟨?_, ?_⟩
      · clear gm1 gob1 gm gob gm2 gob2
        repeat first | exact .nil | refine .cons (fun _ => by first | exact o_ld (by simp only [aev_tmp, aev_const, aev_func, aev_global, at_put, at_none, n_put, reduceIte, Nat.reduceEqDiff, Nat.reduceLT, zq, *]; first | done | rfl) (TL rfl) rfl (rd_cells (by simp (disch := omega) only [get_set_self, get_new_self, get_set_ne, get_new_ne, get_bump, next_set, next_new, Nat.lt_irrefl, reduceIte, next_kill, next_bump, *]; first | done | rfl)) rfl | exact o_ldA (by simp only [aev_tmp, aev_const, aev_func, aev_global, at_put, at_none, n_put, reduceIte, Nat.reduceEqDiff, Nat.reduceLT, zq, *]; first | done | rfl) (TL rfl) rfl (rd_cells (by simp (disch := omega) only [get_set_self, get_new_self, get_set_ne, get_new_ne, get_bump, next_set, next_new, Nat.lt_irrefl, reduceIte, next_kill, next_bump, *]; first | done | rfl)) rfl | exact o_bin (by simp only [aev_tmp, aev_const, aev_func, aev_global, at_put, at_none, n_put, reduceIte, Nat.reduceEqDiff, Nat.reduceLT, zq, *]; first | done | rfl) (by simp only [aev_tmp, aev_const, aev_func, aev_global, at_put, at_none, n_put, reduceIte, Nat.reduceEqDiff, Nat.reduceLT, zq, *]; first | done | rfl) (by first | exact b_lss | exact b_leq | exact b_gtr | exact b_geq | exact b_eql | exact b_neq | exact b_add (by omega) (by omega) | exact b_sub (by omega) (by omega) | exact b_seql | exact b_sneq) | exact o_pickF (by first | (simp only [aev_tmp, aev_const, at_put, at_none, n_put, reduceIte, Nat.reduceEqDiff, Nat.reduceLT, cond_true, cond_false, ne_eq, not_true_eq_false, not_false_eq_true, decide_true, decide_false, Bool.not_true, Bool.not_false, eq_self, Int.lt_irrefl, Int.le_refl, *]; done) | (simp only [aev_tmp, aev_const, at_put, at_none, n_put, reduceIte, Nat.reduceEqDiff, Nat.reduceLT, cond_true, cond_false, ne_eq, not_true_eq_false, not_false_eq_true, decide_true, decide_false, Bool.not_true, Bool.not_false, eq_self, Int.lt_irrefl, Int.le_refl, *]; rfl)) (by simp only [aev_tmp, aev_const, aev_func, aev_global, at_put, at_none, n_put, reduceIte, Nat.reduceEqDiff, Nat.reduceLT, zq, *]; first | done | rfl)) ?_
      have hBf := ((hB.keep (Keep.bump h2 44 [])).keep hk1).keep (hk2.trans hk4 fun i hi => .inl hi)
      refine D2_rd (by first | exact wants0 | exact (wantsG rfl rfl (by simp only [n_put, *]; decide) (by simp only [at_put, at_none, n_put, reduceIte, Nat.reduceEqDiff, Nat.reduceLT, cond_true, cond_false, ne_eq, not_true_eq_false, not_false_eq_true, decide_true, decide_false, Bool.not_true, Bool.not_false, eq_self, Int.lt_irrefl, Int.le_refl, *]; first | done | rfl)).trans rfl) rfl rfl (fun _ _ _ => o_bin (by simp only [aev_tmp, aev_const, aev_func, aev_global, at_put, at_none, n_put, reduceIte, Nat.reduceEqDiff, Nat.reduceLT, zq, *]; first | done | rfl) (by simp only [aev_tmp, aev_const, aev_func, aev_global, at_put, at_none, n_put, reduceIte, Nat.reduceEqDiff, Nat.reduceLT, zq, *]; first | done | rfl) b_neq) (by first | exact veq_self rfl | assumption) ?_
      refine D2_rd wants0 rfl rfl (fun _ _ _ => o_pickF (by first | (simp only [aev_tmp, aev_const, at_put, at_none, n_put, reduceIte, Nat.reduceEqDiff, Nat.reduceLT, cond_true, cond_false, ne_eq, not_true_eq_false, not_false_eq_true, decide_true, decide_false, Bool.not_true, Bool.not_false, eq_self, Int.lt_irrefl, Int.le_refl, *]; done) | (simp only [aev_tmp, aev_const, at_put, at_none, n_put, reduceIte, Nat.reduceEqDiff, Nat.reduceLT, cond_true, cond_false, ne_eq, not_true_eq_false, not_false_eq_true, decide_true, decide_false, Bool.not_true, Bool.not_false, eq_self, Int.lt_irrefl, Int.le_refl, *]; rfl)) (by simp only [aev_tmp, aev_const, aev_func, aev_global, at_put, at_none, n_put, reduceIte, Nat.reduceEqDiff, Nat.reduceLT, zq, *]; first | done | rfl)) (by first | exact veq_self rfl | assumption) ?_
      clear hi hi1 hi2 hd0 hd1 hd2 hf hB gm1 gob1 gm gob gm2 gob2 hk1 hk2 hk4
      repeat first | refine D1_nil0 ?_ | refine D2_nil ?_ | refine D_noG ?_ | refine D_pure ?_ | refine D_rd ?_ | refine D2_pure' ?_
      repeat first | refine G_seq ?_ | refine G_reg ?_ | refine N_seq ?_ | refine N_block ?_ | refine G_block ?_ | refine G_skip ?_ | refine G_cT ?_ | refine G_cF ?_ | refine G_ret ?_ | refine U_seq_ret ?_ | refine U_block_ret ?_ | refine U_nil ?_ | refine S_nil ?_ | refine S_auto ?_
      refine N_nil ?_
      exact LQ_n (j - 1) (by omega) ⟨i + 1, s, O, d, _, Od, by omega, by simp only [at_put, at_none, n_put, reduceIte, Nat.reduceEqDiff, Nat.reduceLT, zq, *]; first | done | rfl, by simp only [at_put, at_none, n_put, reduceIte, Nat.reduceEqDiff, Nat.reduceLT, zq, *]; first | done | rfl, by simp only [at_put, at_none, n_put, reduceIte, Nat.reduceEqDiff, Nat.reduceLT, zq, *]; first | done | rfl, by simp only [at_put, at_none, n_put, reduceIte, Nat.reduceEqDiff, Nat.reduceLT, zq, *]; first | done | rfl, by simp only [at_put, at_none, n_put, reduceIte, Nat.reduceEqDiff, Nat.reduceLT, zq, *]; first | done | rfl, by rw [Int.natCast_add]; simp only [at_put, at_none, n_put, reduceIte, Nat.reduceEqDiff, Nat.reduceLT, zq, *]; first | done | rfl, hBf, hR, hr0, by omega, by omega⟩
  · have hil' : ¬ (i : Int) < (l.length : Int) := by omega
    repeat first | refine G_seq ?_ | refine G_reg ?_ | refine N_seq ?_ | refine N_block ?_ | refine G_block ?_ | refine G_skip ?_ | refine G_cT ?_ | refine G_cF ?_ | refine G_ret ?_ | refine U_seq_ret ?_ | refine U_block_ret ?_ | refine U_nil ?_ | refine S_nil ?_ | refine S_auto ?_
    refine G_exit ?_
    repeat first | refine U_seq_exit ?_ | refine U_nil ?_ | refine LQ_exit ?_ | refine U_block_hit ?_
    repeat first | refine G_seq ?_ | refine G_reg ?_ | refine N_seq ?_ | refine N_block ?_ | refine G_block ?_ | refine G_skip ?_ | refine G_cT ?_ | refine G_cF ?_ | refine G_ret ?_ | refine U_seq_ret ?_ | refine U_block_ret ?_ | refine U_nil ?_ | refine S_nil ?_ | refine S_auto ?_
    refine FQ_in (by first | exact .inr rfl | exact .inl rfl) (by first | exact ares1 (by simp only [at_put, at_none, n_put, reduceIte, Nat.reduceEqDiff, Nat.reduceLT, zq, *]; first | done | rfl) | exact ares2 (by simp only [at_put, at_none, n_put, reduceIte, Nat.reduceEqDiff, Nat.reduceLT, zq, *]; first | done | rfl) (by simp only [at_put, at_none, n_put, reduceIte, Nat.reduceEqDiff, Nat.reduceLT, zq, *]; first | done | rfl)) ?_
    rfl
end
end Go.Proofs.Ytffockklleanmaa.AM.SX
