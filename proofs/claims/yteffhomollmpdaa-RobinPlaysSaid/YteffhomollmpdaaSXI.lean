import Derived.Test.YteffhomollmpdaaSXR
import Derived.Test.YteffhomollmpdaaAMZ2
/- What a law's arguments hold, laid as read-only objects of the machine. -/
namespace Go.Proofs.Yteffhomollmpdaa.AM.SX
open Go
set_option linter.unusedVariables false
noncomputable def inH (G : Nat) (objs : List (List Value)) : AHeap := ⟨Tr.ofList (objs.map AObj.ro) G .nil, G + objs.length⟩
theorem inH_get (G : Nat) (objs : List (List Value)) (i : Nat) (hi : i < objs.length) : (inH G objs).get (G + i) = some (.ro objs[i]) := by
  show Tr.get (Tr.ofList _ G .nil) (G + i) = _
  rw [Tr.get_ofList, if_pos ⟨by omega, by rw [List.length_map]; omega⟩]
  simp [hi]
theorem inH_inv {G : Nat} {objs : List (List Value)} {id : Nat} {o : AObj} (h : (inH G objs).get id = some o) : ∃ i, ∃ hi : i < objs.length, id = G + i ∧ o = .ro objs[i] := by
  replace h : Tr.get (Tr.ofList (objs.map AObj.ro) G .nil) id = some o := h
  rw [Tr.get_ofList] at h
  split at h
  · rename_i hh
    rw [List.length_map] at hh
    have hi : id - G < objs.length := by omega
    refine ⟨id - G, hi, by omega, ?_⟩
    simp [hi] at h
    exact h.symm
  · cases h
def piO (G : Nat) (locs : Nat → Loc) (n : Nat) : Pi := fun id => if id < G then some ⟨id, 0, 0⟩ else if id < G + n then some (locs (id - G)) else none
theorem piO_at {G n i : Nat} {locs : Nat → Loc} (hi : i < n) : piO G locs n (G + i) = some (locs i) := by
  unfold piO
  rw [if_neg (by omega), if_pos (by omega), Nat.add_sub_cancel_left]
theorem piO_gr {G n : Nat} {locs : Nat → Loc} : GR G (piO G locs n) := fun g hg => ⟨0, by unfold piO; rw [if_pos hg]⟩
theorem hr_in [Tok] {G N : Nat} {W : World} {objs : List (List Value)} {locs : Nat → Loc} (hb : BaseOk N W) (h : ∀ i (hi : i < objs.length), (locs i).b < N ∧ ∃ ds t fr, W.heap[(locs i).b]? = some (.cells ds t fr) ∧ CR (piO G locs objs.length) objs[i] ds (locs i).d) : HR (piO G locs objs.length) N (inH G objs).get (inH G objs).next W := by
  refine ⟨fun id o ho => ?_, fun i j o p L M hi hj hor => ?_, fun id hid => ?_, hb⟩
  · obtain ⟨i, hi, rfl, rfl⟩ := inH_inv ho
    obtain ⟨h1, h2⟩ := h i hi
    exact ⟨locs i, piO_at hi, h1, h2⟩
  · obtain ⟨_, _, _, rfl⟩ := inH_inv hi
    cases hor
  · replace hid : G + objs.length ≤ id := hid
    unfold piO
    rw [if_neg (by omega), if_neg (by omega)]
theorem own_in [Tok] {G b : Nat} {objs : List (List Value)} {π : Pi} : ¬ Own π (inH G objs).get b := by
  rintro ⟨id, o, L, h, hor, _⟩
  obtain ⟨_, _, _, rfl⟩ := inH_inv h
  cases hor
end Go.Proofs.Yteffhomollmpdaa.AM.SX
