/- Fields with one turned are others: for every input (no condition). -/
import Derived.Test.YtijindelbagpiaaDoorPFieldSamex7
import Derived.Test.YtijindelbagpiaaDoorKFieldSameXField2
import Derived.Test.YtijindelbagpiaaDoorXBits
import Derived.Test.YtijindelbagpiaaDoorKFieldSameXAliveL
namespace Go.Proofs.YtijindelbagpiaaDoor.Pure
open Go.RowKit Go.Proofs.YtijindelbagpiaaDoor.PFieldSame Go.Proofs.YtijindelbagpiaaDoor.X Go.Proofs.YtijindelbagpiaaDoorW.PrintWords Go.Proofs.YtijindelbagpiaaDoorW.PrintMore
set_option linter.unusedVariables false
set_option linter.unusedSimpArgs false

theorem nil_app {α : Type} (l : List α) : ([] : List α) ++ l = l := rfl
theorem turned_ne (l : List FdT) (i : Nat) (h : i < l.length) : l ≠ l.set i ⟨l[i].f0, l[i].f1 ++ (⟨#[120]⟩ : ByteArray)⟩ := by
  intro e
  have e1 := congrArg (fun z => z[i]?) e
  simp only [List.getElem?_set_self h, List.getElem?_eq_getElem h, Option.some.injEq] at e1
  have e2 := congrArg (fun z : FdT => z.f1.size) e1
  simp only [size_append] at e2
  have e3 : (⟨#[120]⟩ : ByteArray).size = 1 := rfl
  omega
theorem j0_ok (l : List FdT) (a : Int) (k : Nat) (hl : l.length ≤ 100) (hf : Fit l) (hk : 200 ≤ k) : tollbarlaw04_FieldSame.j0 (k + 1) l a false = some true := by
  simp only [tollbarlaw04_FieldSame.j0]
  rw [if_neg (by simp)]
  by_cases h0 : (l.length : Int) = 0
  · rw [if_pos h0]
  · rw [if_neg h0]
    have hi := idx_in a l.length (by omega) (by omega)
    obtain ⟨i, e, hi⟩ := hi
    simp only [Option.bind_some, nil_app, List.length_nil, e]
    rw [if_pos (by omega), if_pos (by omega), if_pos (by omega), rd_fd l i hi, if_pos (by have := (hf.at i hi).2; omega), Int.toNat_natCast, fsame_spec _ _ (by omega) (by rw [List.length_set]; omega) k (by omega), Option.bind_some, sameM_ne (turned_ne l i hi), if_neg (by simp)]
    rw [w_pred _ (by omega) (by omega), if_pos (by omega), if_pos (by omega), Int.toNat_natCast, fsame_spec _ _ (by rw [List.length_take, List.length_set]; omega) (by omega) k (by rw [List.length_take, List.length_set]; omega), Option.bind_some, sameM_ne]
    · rfl
    · intro e2
      have := congrArg List.length e2
      rw [List.length_take, List.length_set] at this
      omega
theorem FieldSame : tollbarlaw04_FieldSame.Pure := by
  intro l a m hl ha hm
  refine ⟨1000, ?_⟩
  unfold tollbarlaw04_FieldSame.f
  rw [looking_ok _ (by omega), Option.bind_some, if_pos rfl]
  by_cases h : (l.length : Int) > 100
  · rw [if_pos h]
  · rw [if_neg h]
    simp only [Option.bind_some, nil_app, List.length_nil, List.length_singleton]
    have hn : l ≠ l ++ [(⟨m.f0, m.f1⟩ : FdT)] := fun e => by
      have := congrArg List.length e
      rw [List.length_append, List.length_singleton] at this
      omega
    rw [if_pos (by omega), if_pos (by omega), if_pos (by omega), fsame_spec l l (by omega) (by omega) _ (by omega), Option.bind_some, sameM_self, if_pos rfl, fsame_spec l _ (by omega) (by rw [List.length_append, List.length_singleton]; omega) _ (by omega), Option.bind_some, sameM_ne hn, if_neg (by simp), fsame_spec _ l (by rw [List.length_append, List.length_singleton]; omega) (by omega) _ (by rw [List.length_append, List.length_singleton]; omega), Option.bind_some, sameM_ne hn.symm]
    exact j0_ok l a 999 (by omega) hl.2 (by omega)
end Go.Proofs.YtijindelbagpiaaDoor.Pure
