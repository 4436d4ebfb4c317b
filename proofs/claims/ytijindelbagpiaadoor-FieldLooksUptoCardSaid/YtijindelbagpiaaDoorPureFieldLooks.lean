/- What stands in fields, and what is left of them, is as said: for every input of a bulk of at most 1048576 (no other condition). -/
import Derived.Test.YtijindelbagpiaaDoorPAllx11
import Derived.Test.YtijindelbagpiaaDoorXBulk
import Derived.Test.YtijindelbagpiaaDoorXAliveL
import Derived.Test.YtijindelbagpiaaDoorXWithR
import Derived.Test.YtijindelbagpiaaDoorXSameR
namespace Go.Proofs.YtijindelbagpiaaDoor.Pure
open Go.RowKit Go.Proofs.YtijindelbagpiaaDoor.PAll Go.Proofs.YtijindelbagpiaaDoor.X Go.Proofs.YtijindelbagpiaaDoorW.PrintWords Go.Proofs.YtijindelbagpiaaDoorW.PrintMore
set_option linter.unusedVariables false
set_option linter.unusedSimpArgs false

theorem looks_loop (fs : List FdT) (ns : List ByteArray) (p : ByteArray) (hf : Lite fs) (hns : ns.length ≤ 1048576 ∧ ∀ n ∈ ns, n.size ≤ 1048576) (hp : p.size ≤ 1048576) : ∀ d i k, i + d = ns.length → d + 1100000000000 < k → tollbarlaw04_FieldLooks.l0 k fs ns p ns (ns.length : Int) (i : Int) = some true := by
  have hl := hf.1
  have hnl := hns.1
  have hpn : ∀ q ∈ ns, q.size ≤ 140737488351232 ∧ q.size < 1048577 := fun q hq => by have := hns.2 q hq; omega
  intro d
  induction d with
  | zero =>
    intro i k hi hk; obtain ⟨k, rfl, _⟩ := suc hk
    simp only [tollbarlaw04_FieldLooks.l0]
    rw [if_neg (by omega), frights_spec fs hf.fit 1048577 hf.b1 (by omega) k (by omega), Option.bind_some, rright_spec fs hf.fit 1048577 hf.b1 (by omega) k (by omega), Option.bind_some, if_pos (by simp), without_spec fs ns hf.fit (fun q hq => (hpn q hq).1) (by omega), Option.bind_some, rwith_spec fs ns hf.fit 1048577 hf.b0 hpn (by omega) (by omega) k (by omega), Option.bind_some]
    have hw : (withM fs ns).length ≤ fs.length := List.length_filter_le _ _
    rw [rsames_self _ (by omega) k (by omega)]; rfl
  | succ d ih =>
    intro i k hi hk; obtain ⟨k, rfl, _⟩ := suc hk
    have h : i < ns.length := by omega
    have hn := hns.2 _ (List.getElem_mem h)
    have hg := getM_len fs ns[i]
    have hll := listM_len hf ns[i]
    simp only [tollbarlaw04_FieldLooks.l0]
    rw [if_pos (by omega), if_pos (by omega), if_pos (by omega), rd_get _ ns i h]
    rw [get_spec fs _ hf.fit (by omega) (by omega) k (by omega), Option.bind_some, rget_spec fs _ hf.fit (by omega) (by omega) 1048577 hf.b0 (by omega) k (by omega), Option.bind_some, texts_self _ (by omega) k (by omega), Option.bind_some, if_pos rfl]
    rw [list_spec fs _ hf.fit (by omega) (hf.get _) (by omega) k (by omega) (by omega), Option.bind_some, rlist_spec fs _ hf.fit (by omega) (hf.get _) (by omega) 1048577 hf.b0 (by omega) k (by omega) (by omega), Option.bind_some, texts_self _ (by omega) k (by omega), Option.bind_some, if_pos rfl]
    rw [has_spec fs _ p hf.fit (by omega) (by omega) (hf.get _) (by omega) k (by omega) (by omega), Option.bind_some, rhas_spec fs _ p hf.fit (by omega) (by omega) (hf.get _) (by omega) 1048577 hf.b0 (by omega) (by omega) (by omega) k (by omega) (by omega), Option.bind_some, if_neg (by simp), succ_cast i (by omega), ih (i + 1) k (by omega) (by omega)]
theorem FieldLooks : tollbarlaw04_FieldLooks.Pure := by
  intro fs ns p hfs hns hp hb
  have hf : Lite fs := lite_of (by omega)
  have hn1 : ns.length ≤ (ns.map (fun x_ => (x_.size + 1))).sum := len_sum (fun x_ : ByteArray => x_.size + 1) (fun x => by show 1 ≤ x.size + 1; omega) ns
  have hn2 : ∀ n ∈ ns, n.size + 1 ≤ (ns.map (fun x_ => (x_.size + 1))).sum := mem_sum (fun x_ : ByteArray => x_.size + 1) ns
  generalize (ns.map (fun x_ => (x_.size + 1))).sum = e at *
  generalize (fs.map (fun x_ => ((x_.f0.size + 1) + (x_.f1.size + 1)))).sum = e' at *
  refine ⟨1100002000000, ?_⟩
  unfold tollbarlaw04_FieldLooks.f
  rw [looking_ok _ (by omega), Option.bind_some, if_pos rfl]
  have key : ∀ b : Bool, tollbarlaw04_FieldLooks.j0 (1100001999999 + 1) fs ns p b = some true := by
    intro b
    simp only [tollbarlaw04_FieldLooks.j0]
    cases b with
    | true => rw [if_pos rfl]
    | false =>
      rw [if_neg (by simp)]
      have h := looks_loop fs ns p hf ⟨by omega, fun n hn => by have := hn2 n hn; omega⟩ (by omega) ns.length 0 1100001999999 (by omega) (by omega)
      rw [Int.natCast_zero] at h
      exact h
  split
  · exact key _
  · exact key _
end Go.Proofs.YtijindelbagpiaaDoor.Pure
