/- From a bound on the sum of a list's bulks to bounds on its length and its members. -/
import Derived.Test.YtijindelbagpiaaDoorKFieldPartsXField2
namespace Go.Proofs.YtijindelbagpiaaDoor.X
open Go.RowKit Go.Proofs.YtijindelbagpiaaDoor.PFieldParts Go.Proofs.YtijindelbagpiaaDoorW.PrintWords Go.Proofs.YtijindelbagpiaaDoorW.PrintMore
theorem mem_sum {α : Type} (f : α → Nat) : ∀ (l : List α) (x : α), x ∈ l → f x ≤ (l.map f).sum
  | y :: l, x, h => by
    rw [List.map_cons, List.sum_cons]
    rcases List.mem_cons.1 h with rfl | h
    · omega
    · have := mem_sum f l x h; omega
theorem len_sum {α : Type} (f : α → Nat) (hf : ∀ x, 1 ≤ f x) : ∀ l : List α, l.length ≤ (l.map f).sum
  | [] => by simp
  | y :: l => by
    rw [List.map_cons, List.sum_cons, List.length_cons]
    have := len_sum f hf l
    have := hf y
    omega
/-- fields of a bulk of at most a MB -/
def Lite (fs : List FdT) : Prop := fs.length ≤ 1048576 ∧ ∀ x ∈ fs, x.f0.size ≤ 1048576 ∧ x.f1.size ≤ 1048576
theorem lite_of {fs : List S24} (h : (fs.map (fun x_ => ((x_.f0.size + 1) + (x_.f1.size + 1)))).sum ≤ 1048576) : Lite fs := by
  refine ⟨?_, fun x hx => ?_⟩
  · have := len_sum (fun x_ : S24 => ((x_.f0.size + 1) + (x_.f1.size + 1))) (fun x => by show 1 ≤ (x.f0.size + 1) + (x.f1.size + 1); omega) fs
    omega
  · have := mem_sum (fun x_ : S24 => ((x_.f0.size + 1) + (x_.f1.size + 1))) fs x hx
    omega
theorem Lite.fit {fs : List FdT} (h : Lite fs) : Fit fs := fun x hx => by have := h.2 x hx; omega
theorem Lite.b0 {fs : List FdT} (h : Lite fs) : ∀ x ∈ fs, x.f0.size < 1048577 := fun x hx => by have := h.2 x hx; omega
theorem Lite.b1 {fs : List FdT} (h : Lite fs) : ∀ x ∈ fs, x.f0.size < 1048577 ∧ x.f1.size < 1048577 := fun x hx => by have := h.2 x hx; omega
theorem Lite.get {fs : List FdT} (h : Lite fs) (n : ByteArray) : Small (getM fs n) := by
  refine ⟨Nat.le_trans (getM_len fs n) h.1, fun v hv => ?_⟩
  obtain ⟨f, hf, rfl⟩ := getM_mem hv
  exact (h.2 f hf).2
theorem listM_len {fs : List FdT} (h : Lite fs) (n : ByteArray) : (listM fs n).length ≤ 1099512676352 := by
  have h1 := flatP_len (getM fs n) (h.get n).2
  have h2 := (h.get n).1
  have h3 : (listM fs n).length = (flatP (getM fs n)).length := rfl
  omega
end Go.Proofs.YtijindelbagpiaaDoor.X
