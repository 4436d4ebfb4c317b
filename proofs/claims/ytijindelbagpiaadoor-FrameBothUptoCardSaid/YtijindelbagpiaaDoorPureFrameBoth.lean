/- With both lengths, or two that aren't the same, there is no body: for every input of a bulk of at most 1048576 (no other condition). -/
import Derived.Test.YtijindelbagpiaaDoorPFramex8
import Derived.Test.YtijindelbagpiaaDoorKFrameXBulk
import Derived.Test.YtijindelbagpiaaDoorKFrameXAliveF
import Derived.Test.YtijindelbagpiaaDoorKFrameXFrame
import Derived.Test.YtijindelbagpiaaDoorKFrameXText
import Derived.Test.YtijindelbagpiaaDoorXBits
namespace Go.Proofs.YtijindelbagpiaaDoor.Pure
open Go.RowKit Go.Proofs.YtijindelbagpiaaDoor.PFrame Go.Proofs.YtijindelbagpiaaDoor.X Go.Proofs.YtijindelbagpiaaDoorW.PrintWords Go.Proofs.YtijindelbagpiaaDoorW.PrintMore
set_option linter.unusedVariables false
set_option linter.unusedSimpArgs false

def uCL : ByteArray := ⟨#[67, 79, 78, 84, 69, 78, 84, 45, 108, 101, 110, 103, 116, 104]⟩
def lTE : ByteArray := ⟨#[116, 114, 97, 110, 115, 102, 101, 114, 45, 101, 110, 99, 111, 100, 105, 110, 103]⟩
def tGET : ByteArray := ⟨#[71, 69, 84]⟩
theorem s1 : sameB uCL nCL = true := by decide +kernel
theorem s2 : sameB uCL nTE = false := by decide +kernel
theorem s3 : sameB lTE nTE = true := by decide +kernel
theorem s4 : sameB lTE nCL = false := by decide +kernel
theorem s5 : sameB nCL nCL = true := by decide +kernel
theorem s6 : sameB nCL nTE = false := by decide +kernel
theorem bare_get : bare tGET 200 = false := by decide +kernel
theorem lite_more {fs : List FdT} (h : Lite fs) (hl : fs.length ≤ 100) (x y : FdT) (hx : x.f0.size ≤ 100 ∧ x.f1.size ≤ 100) (hy : y.f0.size ≤ 100 ∧ y.f1.size ≤ 100) : Lite ([x] ++ fs ++ [y]) := by
  refine ⟨by simp; omega, fun z hz => ?_⟩
  simp only [List.mem_append, List.mem_singleton] at hz
  rcases hz with (rfl | hz) | rfl
  · omega
  · exact h.2 z hz
  · omega
theorem get_one (x : FdT) (n : ByteArray) : getM [x] n = if sameB x.f0 n = true then [x.f1] else [] := by
  unfold getM
  rw [List.filter_cons]
  split <;> rfl
theorem list_one (x : FdT) (n : ByteArray) : listM [x] n = if sameB x.f0 n = true then parts x.f1 else [] := by
  unfold listM flatP
  rw [get_one]
  split
  · simp
  · rfl
theorem has_app (a b : List FdT) (n : ByteArray) : hasN (a ++ b) n = (hasN a n || hasN b n) := by
  unfold hasN
  rw [getM_app, List.length_append]
  rw [Bool.eq_iff_iff, Bool.or_eq_true, decide_eq_true_iff, decide_eq_true_iff, decide_eq_true_iff]; omega
theorem has_one (x : FdT) (n : ByteArray) : hasN [x] n = sameB x.f0 n := by
  unfold hasN
  rw [get_one]
  cases sameB x.f0 n <;> rfl
/-- the lengths that such fields tell -/
theorem len_both (a b : Nat) (ta tb : ByteArray) (ps : List ByteArray) (ha : decM ta = some a) (hb : decM tb = some b) : lenM ([ta] ++ ps ++ [tb]) = none ∨ (a = b ∧ lenM ([ta] ++ ps ++ [tb]) = some a) := by
  have e : [ta] ++ ps ++ [tb] = ta :: (ps ++ [tb]) := rfl
  rw [e]
  show ((decM ta).bind fun n => if ((ps ++ [tb]).all fun q => decM q == some n) = true then some n else none) = none ∨ (a = b ∧ ((decM ta).bind fun n => if ((ps ++ [tb]).all fun q => decM q == some n) = true then some n else none) = some a)
  rw [ha, Option.bind_some]
  by_cases h : ((ps ++ [tb]).all fun q => decM q == some a) = true
  · rw [if_pos h]
    right
    rw [List.all_append, Bool.and_eq_true] at h
    have h2 := h.2
    simp only [List.all_cons, List.all_nil, Bool.and_true, hb, beq_iff_eq, Option.some.injEq] at h2
    exact ⟨h2.symm, rfl⟩
  · rw [if_neg h]; exact .inl rfl
theorem both_j0 (a b : Nat) (ha : a < 4096) (hb : b < 4096) (both : Bool) (more : List FdT) (hm : Lite more) (hcl : hasN more nCL = true) (hboth : both = true → hasN more nTE = true)
    (hlen : both = false → hasN more nTE = false → (lenM (listM more nCL) = none ∨ (a = b ∧ lenM (listM more nCL) = some a))) (k : Nat) (hk : 4398046511200 < k) :
    tollbarlaw07_FrameBoth.j0 k (a : Int) (b : Int) both more = some true := by
  obtain ⟨k, rfl, _⟩ := suc hk
  simp only [tollbarlaw07_FrameBoth.j0]
  rw [request_spec more hm.mid 1 k (by omega), Option.bind_some]
  show (frame_Response.f k tGET 200 _ 1 more []).bind _ = _
  rw [response_spec tGET 200 _ 1 more [] hm.mid k (by omega), Option.bind_some]
  unfold respM
  simp only [bare_get, Bool.false_eq_true, if_false]
  simp only [Option.bind_some]
  cases hte : hasN more nTE with
  | true =>
    have hr : reqM more 1 = (0, false, 400) := by unfold reqM; rw [hte, hcl]; rfl
    rw [hr]
    cases both with
    | true => rfl
    | false =>
      by_cases hab : (a : Int) = (b : Int) <;> simp [hab]
  | false =>
    cases both with
    | true => rw [hboth rfl] at hte; cases hte
    | false =>
      rcases hlen rfl hte with hl | ⟨hab, hl⟩
      · have hr : reqM more 1 = (0, false, 400) := by unfold reqM; rw [hte, hcl, hl]; rfl
        rw [hr]
        by_cases hab : (a : Int) = (b : Int) <;> simp [hab]
      · have hr : reqM more 1 = ((a : Int), false, 0) := by
          unfold reqM
          rw [hte, hcl, hl]
          simp
          omega
        rw [hr, hcl]
        have hab' : (a : Int) = (b : Int) := by omega
        simp [hab']
theorem FrameBoth : tollbarlaw07_FrameBoth.Pure := by
  intro fs x y both hfs hx hy hbk
  have hf : Lite fs := lite_of (by omega)
  suffices hh : ∀ k, 4398046511999 < k → tollbarlaw07_FrameBoth.f k fs x y both = some true from ⟨4398046512000, hh _ (by omega)⟩
  intro K hK
  unfold tollbarlaw07_FrameBoth.f
  rw [alive_ok _ (by omega), Option.bind_some, if_pos rfl]
  by_cases h : (fs.length : Int) > 100
  · rw [if_pos h]
  · rw [if_neg h, and4095, and4095]
    have hl : fs.length ≤ 100 := by omega
    obtain ⟨a, ha⟩ : ∃ a : Nat, x % 4096 = (a : Int) := ⟨(x % 4096).toNat, by omega⟩
    obtain ⟨b, hb⟩ : ∃ b : Nat, y % 4096 = (b : Int) := ⟨(y % 4096).toNat, by omega⟩
    rw [ha, hb]
    obtain ⟨ta, ea, da, pa, sa, _⟩ := text_spec a (by omega) K (by omega)
    obtain ⟨tb, eb, db, pb, sb, _⟩ := text_spec b (by omega) K (by omega)
    rw [ea, Option.bind_some]
    simp only [tollbarlaw07_of.f, Option.bind_some]
    rw [eb, Option.bind_some, if_pos (by simp; omega), if_pos (by simp; omega)]
    have n1 : uCL.size ≤ 100 := by decide
    have n2 : lTE.size ≤ 100 := by decide
    have n3 : nCL.size ≤ 100 := by decide
    have n4 : tCh.size ≤ 100 := by decide
    cases both with
    | false =>
      rw [if_neg (by simp)]
      refine both_j0 a b (by omega) (by omega) false ([(⟨uCL, ta⟩ : FdT)] ++ fs ++ [(⟨nCL, tb⟩ : FdT)]) (lite_more hf hl _ _ ⟨n1, by show ta.size ≤ 100; omega⟩ ⟨n3, by show tb.size ≤ 100; omega⟩) ?_ (fun h => by cases h) ?_ _ (by omega)
      · rw [has_app, has_app, has_one, has_one]
        show (sameB uCL nCL || hasN fs nCL || sameB nCL nCL) = true
        rw [s1]; rfl
      · intro _ _
        rw [listM_app, listM_app, list_one, list_one]
        show lenM ((if sameB uCL nCL = true then parts ta else []) ++ listM fs nCL ++ (if sameB nCL nCL = true then parts tb else [])) = none ∨ _
        rw [s1, s5, if_pos rfl, if_pos rfl, pa, pb]
        exact len_both a b ta tb _ da db
    | true =>
      rw [if_pos rfl, if_pos (by simp; omega), Option.bind_some, if_pos (by simp; omega)]
      refine both_j0 a b (by omega) (by omega) true ([(⟨lTE, tCh⟩ : FdT)] ++ fs ++ [(⟨nCL, tb⟩ : FdT)]) (lite_more hf hl _ _ ⟨n2, n4⟩ ⟨n3, by show tb.size ≤ 100; omega⟩) ?_ ?_ (fun h => by cases h) _ (by omega)
      · rw [has_app, has_app, has_one, has_one]
        show (sameB lTE nCL || hasN fs nCL || sameB nCL nCL) = true
        rw [s5]; simp
      · intro _
        rw [has_app, has_app, has_one, has_one]
        show (sameB lTE nTE || hasN fs nTE || sameB nCL nTE) = true
        rw [s3]; rfl
end Go.Proofs.YtijindelbagpiaaDoor.Pure
