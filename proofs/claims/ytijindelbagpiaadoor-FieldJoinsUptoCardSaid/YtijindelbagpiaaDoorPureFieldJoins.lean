/- What stands in two lists of fields is what stands in both: for every input of a bulk of at most 1048576 (no other condition). -/
import Derived.Test.YtijindelbagpiaaDoorPFieldJoinsx8
import Derived.Test.YtijindelbagpiaaDoorKFieldJoinsXBulk
import Derived.Test.YtijindelbagpiaaDoorKFieldJoinsXAliveL
import Derived.Test.YtijindelbagpiaaDoorKFieldJoinsXFoldR
import Derived.Test.YtijindelbagpiaaDoorKFieldJoinsXSameR
namespace Go.Proofs.YtijindelbagpiaaDoor.Pure
open Go.RowKit Go.Proofs.YtijindelbagpiaaDoor.PFieldJoins Go.Proofs.YtijindelbagpiaaDoor.X Go.Proofs.YtijindelbagpiaaDoorW.PrintWords Go.Proofs.YtijindelbagpiaaDoorW.PrintMore
set_option linter.unusedVariables false
set_option linter.unusedSimpArgs false

theorem lite_app {a b : List FdT} (ha : Lite a) (hb : Lite b) (h : a.length + b.length ≤ 1048576) : Lite (a ++ b) := by
  refine ⟨by rw [List.length_append]; exact h, fun x hx => ?_⟩
  rcases List.mem_append.1 hx with hx | hx
  · exact ha.2 x hx
  · exact hb.2 x hx
theorem same_fold (a n : ByteArray) : sameB a (foldB n) = sameB a n := by
  unfold sameB foldB; rw [L_mkB, foldL_fold]
theorem get_fold (fs : List FdT) (n : ByteArray) : getM fs (foldB n) = getM fs n := by
  unfold getM
  congr 1
  exact List.filter_congr fun x _ => same_fold x.f0 n
theorem with_app (a b : List FdT) (ns : List ByteArray) : withM (a ++ b) ns = withM a ns ++ withM b ns := by simp [withM]
theorem has_app (a b : List FdT) (n p : ByteArray) : hasM (a ++ b) n p = (hasM a n p || hasM b n p) := by
  unfold hasM anyM; rw [listM_app, List.any_append]
theorem right_app (a b : List FdT) : rightM (a ++ b) = (rightM a && rightM b && decide ((a ++ b).length ≤ 40)) := by
  unfold rightM
  rw [List.all_append, List.length_append]
  by_cases h : a.length + b.length ≤ 40
  · rw [decide_eq_true h, decide_eq_true (show a.length ≤ 40 by omega), decide_eq_true (show b.length ≤ 40 by omega)]
    simp
  · rw [decide_eq_false h]; simp
theorem nil_app {α : Type} (l : List α) : ([] : List α) ++ l = l := rfl
theorem j2_ok (a b : List FdT) (n : ByteArray) (ha : Lite a) (hb : Lite b) (h50 : a.length ≤ 50 ∧ b.length ≤ 50) (hn : n.size ≤ 1048576) (k : Nat) (hk : 1100000000000 < k) : tollbarlaw04_FieldJoins.j2 (k + 1) a b n (a ++ b) false = some true := by
  have hab := lite_app ha hb (by omega)
  have hla : (a ++ b).length ≤ 100 := by rw [List.length_append]; omega
  have hn1 : ∀ p ∈ [n], p.size ≤ 140737488351232 := fun p hp => by rw [List.mem_singleton.1 hp]; omega
  have hwa : (withM a [n]).length ≤ a.length := List.length_filter_le _ _
  have hwb : (withM b [n]).length ≤ b.length := List.length_filter_le _ _
  have hg := getM_len (a ++ b) n
  simp only [tollbarlaw04_FieldJoins.j2]
  rw [if_neg (by simp), without_spec a _ ha.fit hn1 (by omega), Option.bind_some, without_spec b _ hb.fit hn1 (by omega), Option.bind_some, if_pos (by omega), rfold_spec n (by omega) k (by omega), Option.bind_some, without_spec _ _ hab.fit hn1 (by omega), Option.bind_some, with_app, rsames_self _ (by rw [List.length_append]; omega) k (by rw [List.length_append]; omega), Option.bind_some, if_pos rfl]
  rw [get_spec _ _ hab.fit (by rw [size_foldB]; omega) (by omega) k (by omega), Option.bind_some, get_spec _ _ hab.fit (by omega) (by omega) k (by omega), Option.bind_some, get_fold, texts_self _ (by omega) k (by omega), Option.bind_some, if_pos rfl]
  rw [frights_spec _ hab.fit 1048577 hab.b1 (by omega) k (by omega), Option.bind_some, frights_spec _ ha.fit 1048577 ha.b1 (by omega) k (by omega), Option.bind_some, frights_spec _ hb.fit 1048577 hb.b1 (by omega) k (by omega), right_app]
  have e : decide (((a ++ b).length : Int) ≤ 40) = decide ((a ++ b).length ≤ 40) := by congr 1; simp only [eq_iff_iff]; omega
  rw [e]
  cases rightM a <;> cases rightM b <;> simp
theorem j1_ok (a b : List FdT) (n p : ByteArray) (ha : Lite a) (hb : Lite b) (h50 : a.length ≤ 50 ∧ b.length ≤ 50) (hn : n.size ≤ 1048576) (hp : p.size ≤ 1048576) (k : Nat) (hk : 1100000000001 < k) : tollbarlaw04_FieldJoins.j1 (k + 1) a b n p (a ++ b) false = some true := by
  have hab := lite_app ha hb (by omega)
  have hla : (a ++ b).length ≤ 100 := by rw [List.length_append]; omega
  simp only [tollbarlaw04_FieldJoins.j1]
  rw [if_neg (by simp), has_spec _ n p hab.fit (by omega) (by omega) (hab.get n) (by omega) k (by omega) (by omega), Option.bind_some, has_spec _ n p ha.fit (by omega) (by omega) (ha.get n) (by omega) k (by omega) (by omega), Option.bind_some, has_spec _ n p hb.fit (by omega) (by omega) (hb.get n) (by omega) k (by omega) (by omega), Option.bind_some, has_app]
  obtain ⟨k, rfl, _⟩ := suc (show 0 < k by omega)
  have hj := j2_ok a b n ha hb h50 hn k (by omega)
  cases hasM a n p <;> cases hasM b n p <;> simpa using hj
theorem j0_ok (a b : List FdT) (n p : ByteArray) (ha : Lite a) (hb : Lite b) (h50 : a.length ≤ 50 ∧ b.length ≤ 50) (hn : n.size ≤ 1048576) (hp : p.size ≤ 1048576) (k : Nat) (hk : 1100000000002 < k) : tollbarlaw04_FieldJoins.j0 (k + 1) a b n p false = some true := by
  have hab := lite_app ha hb (by omega)
  have hla : (a ++ b).length ≤ 100 := by rw [List.length_append]; omega
  have hg := getM_len (a ++ b) n
  have hga := getM_len a n
  have hgb := getM_len b n
  have l1 := listM_len hab n
  have l2 := listM_len ha n
  have l3 := listM_len hb n
  simp only [tollbarlaw04_FieldJoins.j0, Option.bind_some, nil_app, List.length_nil]
  rw [if_neg (by simp), if_pos (by omega), if_pos (by omega), get_spec _ _ hab.fit (by omega) (by omega) k (by omega), Option.bind_some, get_spec _ _ ha.fit (by omega) (by omega) k (by omega), Option.bind_some, get_spec _ _ hb.fit (by omega) (by omega) k (by omega), Option.bind_some, if_pos (by omega), ← getM_app, texts_self _ (by omega) k (by omega), Option.bind_some, if_pos rfl]
  rw [list_spec _ _ hab.fit (by omega) (hab.get n) (by omega) k (by omega) (by omega), Option.bind_some, list_spec _ _ ha.fit (by omega) (ha.get n) (by omega) k (by omega) (by omega), Option.bind_some, list_spec _ _ hb.fit (by omega) (hb.get n) (by omega) k (by omega) (by omega), Option.bind_some, if_pos (by omega), ← listM_app, texts_self _ (by omega) k (by omega), Option.bind_some]
  obtain ⟨k, rfl, _⟩ := suc (show 0 < k by omega)
  exact j1_ok a b n p ha hb h50 hn hp k (by omega)
theorem FieldJoins : tollbarlaw04_FieldJoins.Pure := by
  intro a b n p hfa hfb hn hp hbk
  have ha : Lite a := lite_of (by omega)
  have hb : Lite b := lite_of (by omega)
  refine ⟨1100002000000, ?_⟩
  unfold tollbarlaw04_FieldJoins.f
  rw [looking_ok _ (by omega), Option.bind_some, if_pos rfl]
  have key : ∀ c : Bool, (c = false → a.length ≤ 50 ∧ b.length ≤ 50) → tollbarlaw04_FieldJoins.j0 (1100001999999 + 1) a b n p c = some true := by
    intro c hc
    cases c with
    | true => simp only [tollbarlaw04_FieldJoins.j0]; rw [if_pos trivial]
    | false => exact j0_ok a b n p ha hb (hc rfl) (by omega) (by omega) _ (by omega)
  split
  · exact key _ (fun h => by cases h)
  · exact key _ (fun h => by
      have := of_decide_eq_false h
      omega)
end Go.Proofs.YtijindelbagpiaaDoor.Pure
