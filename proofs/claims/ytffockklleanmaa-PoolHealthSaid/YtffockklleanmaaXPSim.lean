/- The program's health and the document's: the same answers, step by step. -/
import Derived.Test.YtffockklleanmaaXHealth
import Derived.Test.YtffockklleanmaaXPRef3
namespace Go.Proofs.Ytffockklleanmaa.X
open Go.RowKit Go.MapKept Go.ChangeMaps Go.Proofs.YtffockklleanmaaW.PrintWords Go.Proofs.YtffockklleanmaaW.PrintMore
set_option linter.unusedVariables false

theorem mark_put (l : List Mk) (m : Mk) (b : ByteArray) : markM (putM l m) b = if m.1 = b then m else markM l b := by
  unfold putM
  simp only [markM]
  by_cases h : m.1 = b
  · rw [if_pos h, if_pos h]
  · rw [if_neg h, if_neg h]
    induction l with
    | nil => rfl
    | cons p l ih =>
      by_cases hp : p.1 = m.1
      · rw [List.filter_cons, if_neg (by simp [hp]), ih]
        simp only [markM]
        rw [if_neg (by rw [hp]; exact h)]
      · rw [List.filter_cons, if_pos (by simp [hp])]
        simp only [markM]
        rw [ih]
theorem mark_key (l : List Mk) (a : ByteArray) : (markM l a).1 = a := by
  induction l with
  | nil => rfl
  | cons p l ih =>
    simp only [markM]
    by_cases h : p.1 = a
    · rw [if_pos h]; exact h
    · rw [if_neg h]; exact ih
theorem turn_app (l : List Tn) (p : Tn) (m : ByteArray) (a : Int) : turnR (l ++ [p]) m a = if p.1 = m then p.2 else turnR l m a := by
  induction l generalizing a with
  | nil => rfl
  | cons q l ih => simp only [List.cons_append, turnR]; exact ih _
theorem turn_rest (l : List Tn) (n m : ByteArray) (a : Int) (h : n ≠ m) : turnR (restR l n) m a = turnR l m a := by
  unfold restR
  induction l generalizing a with
  | nil => rfl
  | cons q l ih =>
    by_cases hq : q.1 = n
    · rw [List.filter_cons, if_neg (by simp [hq])]
      simp only [turnR]
      rw [if_neg (by rw [hq]; exact h), ih]
    · rw [List.filter_cons, if_pos (by simp [hq])]
      simp only [turnR]
      rw [ih]
/-- alike, after j calls -/
structure Sim (j : Nat) (s : HSt) (ml : List Mk) (tl : List Tn) : Prop where
  f : ∀ a, (aget s.f a).getD 0 = (markM ml a).2.1
  u : ∀ a, (aget s.u a).getD 0 = (markM ml a).2.2
  t : ∀ n, (aget s.t n).getD 0 = turnR tl n 0
  fb : ∀ a, 0 ≤ (markM ml a).2.1 ∧ (markM ml a).2.1 ≤ (j : Int)
  tb : ∀ n, 0 ≤ turnR tl n 0 ∧ turnR tl n 0 ≤ 20
  nf : (s.f.map (·.1)).Nodup
  lm : ml.length ≤ j
  lt : tl.length ≤ j
theorem Sim.zero : Sim 0 ⟨[], [], []⟩ [] [] := ⟨fun _ => rfl, fun _ => rfl, fun _ => rfl, fun _ => ⟨Int.le_refl _, Int.le_refl _⟩, fun _ => ⟨Int.le_refl _, by show (0 : Int) ≤ 20; omega⟩, List.nodup_nil, Nat.le_refl _, Nat.le_refl _⟩
theorem Sim.next {j : Nat} {s : HSt} {ml : List Mk} {tl : List Tn} (h : Sim j s ml tl) : Sim (j + 1) s ml tl :=
  ⟨h.f, h.u, h.t, fun a => ⟨(h.fb a).1, by have := (h.fb a).2; omega⟩, h.tb, h.nf, by have := h.lm; omega, by have := h.lt; omega⟩
theorem Sim.sick {j : Nat} {s : HSt} {ml : List Mk} {tl : List Tn} (h : Sim j s ml tl) (a : ByteArray) (now : Int) : sickM s a now = sickR ml a now := by
  unfold sickM sickR; rw [h.u]
theorem put_len (l : List Mk) (m : Mk) : (putM l m).length ≤ l.length + 1 := putM_len l m
theorem Sim.good {j : Nat} {s : HSt} {ml : List Mk} {tl : List Tn} (h : Sim j s ml tl) (a : ByteArray) : Sim (j + 1) (goodM s a) (goodR ml a) tl := by
  unfold goodM goodR
  refine ⟨fun b => ?_, fun b => ?_, h.t, fun b => ?_, h.tb, adel_nodup h.nf a, ?_, by have := h.lt; omega⟩
  · rw [aget_adel h.nf, mark_put, mark_key]
    by_cases hb : a = b
    · rw [if_pos hb, if_pos hb]; rfl
    · rw [if_neg hb, if_neg hb]; exact h.f b
  · rw [mark_put, mark_key]
    by_cases hb : a = b
    · rw [if_pos hb, ← hb]; exact h.u a
    · rw [if_neg hb]; exact h.u b
  · rw [mark_put]
    have := h.fb b
    split
    · show (0 : Int) ≤ 0 ∧ (0 : Int) ≤ ((j + 1 : Nat) : Int); omega
    · omega
  · have := put_len ml ((markM ml a).1, 0, (markM ml a).2.2); have := h.lm; omega
theorem Sim.bad {j : Nat} {s : HSt} {ml : List Mk} {tl : List Tn} (h : Sim j s ml tl) (hj : j ≤ 1000) (a : ByteArray) (now f c : Int) : (badM s a now f c).2 = (badR ml a now f c).2 ∧ Sim (j + 1) (badM s a now f c).1 (badR ml a now f c).1 tl := by
  have h0 := h.fb a
  have hw : wrap64 ((markM ml a).2.1 + 1) = (markM ml a).2.1 + 1 := wrap64_in (by omega) (by omega)
  unfold badM badR
  rw [h.f a, hw]
  by_cases hlt : (markM ml a).2.1 + 1 < f
  · rw [if_pos hlt, if_pos hlt]
    refine ⟨rfl, fun b => ?_, fun b => ?_, h.t, fun b => ?_, h.tb, aput_nodup h.nf _ _, ?_, by have := h.lt; omega⟩
    · simp only
      rw [aget_aput, mark_put, mark_key]
      by_cases hb : a = b
      · rw [if_pos hb, if_pos hb]; rfl
      · rw [if_neg hb, if_neg hb]; exact h.f b
    · simp only
      rw [mark_put, mark_key]
      by_cases hb : a = b
      · rw [if_pos hb, ← hb]; exact h.u a
      · rw [if_neg hb]; exact h.u b
    · simp only
      rw [mark_put]
      have := h.fb b
      split
      · simp only; omega
      · omega
    · have := put_len ml ((markM ml a).1, (markM ml a).2.1 + 1, (markM ml a).2.2); have := h.lm; simp only; omega
  · rw [if_neg hlt, if_neg hlt]
    refine ⟨rfl, fun b => ?_, fun b => ?_, h.t, fun b => ?_, h.tb, adel_nodup (aput_nodup h.nf _ _) a, ?_, by have := h.lt; omega⟩
    · simp only
      rw [aget_adel (aput_nodup h.nf _ _), aget_aput, mark_put, mark_key]
      by_cases hb : a = b
      · rw [if_pos hb, if_pos hb]; rfl
      · rw [if_neg hb, if_neg hb, if_neg hb]; exact h.f b
    · simp only
      rw [aget_aput, mark_put, mark_key]
      by_cases hb : a = b
      · rw [if_pos hb, if_pos hb]; rfl
      · rw [if_neg hb, if_neg hb]; exact h.u b
    · simp only
      rw [mark_put]
      have := h.fb b
      split
      · simp only; omega
      · omega
    · have := put_len ml ((markM ml a).1, 0, wrap64 (now + c)); have := h.lm; simp only; omega
theorem pick_same {s : HSt} {ml : List Mk} (name : ByteArray) (aims : List ByteArray) (now a0 : Int) (h0 : (aget s.t name).getD 0 = a0) (hs : ∀ a, sickM s a now = sickR ml a now) (hb : 0 ≤ a0 ∧ a0 ≤ 20) (hl : aims.length ≤ 20) : ∀ d i, d + i = aims.length →
    (pickM s name aims now d i = some (s, ⟨#[]⟩, 4) ∧ pickR ml aims now a0 d i = some none) ∨
    ∃ k r, 0 ≤ k ∧ k < (aims.length : Int) ∧ pickM s name aims now d i = some (⟨aput s.t name (k + 1), s.f, s.u⟩, r, 0) ∧ pickR ml aims now a0 d i = some (some (k, r))
  | 0, i, _ => .inl ⟨rfl, rfl⟩
  | d + 1, i, hd => by
    simp only [pickM, pickR]
    rw [h0]
    have hw : wrap64 (a0 + (i : Int)) = a0 + (i : Int) := wrap64_in (by omega) (by omega)
    rw [hw]
    have k0 : 0 ≤ Int.tmod (a0 + (i : Int)) (aims.length : Int) := Int.tmod_nonneg _ (by omega)
    have k1 : Int.tmod (a0 + (i : Int)) (aims.length : Int) < (aims.length : Int) := Int.tmod_lt_of_pos _ (by omega)
    rw [if_pos k0, if_pos k0, hs]
    by_cases hq : sickR ml (rdOf ByteArray.empty aims (Int.tmod (a0 + (i : Int)) (aims.length : Int))) now = true
    · rw [if_pos hq, if_pos hq]
      exact pick_same name aims now a0 h0 hs hb hl d (i + 1) (by omega)
    · rw [if_neg hq, if_neg hq, wrap64_in (by omega) (by omega)]
      exact .inr ⟨_, _, k0, k1, rfl, rfl⟩
theorem Sim.pick {j : Nat} {s : HSt} {ml : List Mk} {tl : List Tn} (h : Sim j s ml tl) (name : ByteArray) (aims : List ByteArray) (now : Int) (hl : aims.length ≤ 20) :
    ∃ s' tl' r e, pickM s name aims now aims.length 0 = some (s', r, e) ∧ pickRes tl name (pickR ml aims now (turnR tl name 0) aims.length 0) = some (tl', r, e) ∧ Sim (j + 1) s' ml tl' := by
  rcases pick_same (s := s) (ml := ml) name aims now (turnR tl name 0) (h.t name) (fun a => h.sick a now) (h.tb name) hl aims.length 0 (by omega) with ⟨h1, h2⟩ | ⟨k, r, k0, k1, h1, h2⟩
  · exact ⟨s, tl, _, _, h1, by rw [h2]; rfl, h.next⟩
  · refine ⟨_, _, _, _, h1, by rw [h2]; rfl, ⟨h.next.f, h.next.u, fun n => ?_, h.next.fb, fun n => ?_, h.nf, h.next.lm, ?_⟩⟩
    · simp only
      rw [aget_aput, turn_app]
      by_cases hn : name = n
      · rw [if_pos hn, if_pos hn]; rfl
      · rw [if_neg hn, if_neg hn, turn_rest _ _ _ _ hn]; exact h.t n
    · rw [turn_app]
      by_cases hn : name = n
      · rw [if_pos hn]; simp only; omega
      · rw [if_neg hn, turn_rest _ _ _ _ hn]; exact h.tb n
    · rw [List.length_append]; have := restR_len tl name; have := h.lt; simp only [List.length_cons, List.length_nil]; omega
end Go.Proofs.Ytffockklleanmaa.X
