import Derived.Test.YteffhomollmpdaaQZ3
/- RobinPlays: the law's calls. -/
namespace Go.Proofs.Yteffhomollmpdaa.X
open Go Go.RowKit Go.Proofs Go.Proofs.Yteffhomollmpdaa.AM Go.Proofs.Yteffhomollmpdaa.AM.SX Go.Proofs.YteffhomollmpdaaW.PrintWords Go.Proofs.YteffhomollmpdaaW.PrintMore
set_option linter.unusedVariables false
def lens : List (List (Int × Int)) → Nat
  | [] => 0
  | l :: r => l.length + lens r
theorem lens_mem : ∀ {ls : List (List (Int × Int))} {l : List (Int × Int)}, l ∈ ls → l.length ≤ lens ls
  | x :: r, l, h => by
    rcases List.mem_cons.1 h with rfl | h
    · exact Nat.le_add_right _ _
    · exact Nat.le_trans (lens_mem h) (Nat.le_add_left _ _)
theorem robinPlays_calls (q : Int) (A : Option Addr) (c : Nat) (ls : List (List (Int × Int))) (w : World) (hr : Kd.C kRows w A ls.length ls) (hlc : ls.length ≤ c) :
    Calls Try.prog 3 #[.int .i64 q, .slice A ls.length c] w fun e w' => e = .returned (.bool true) ∧ Below w.heap.size w w' :=
  law_rows (n := 3000000 + lens ls + 1) hr hlc fun h0 sv vs hs => plays_run (n := 3000000 + lens ls) (K := 2100000) ⟨by omega, by omega⟩ (by omega) q ls (fun l hl => by have := lens_mem hl; omega) h0 sv vs hs
theorem C_rows {α : Type} {d : Kd α} {t : Nat} (f : α → Int × Int) (hs : d.sz = kP.sz) (hK : ∀ w x cs, d.K w x cs → kP.K w (f x) cs) {w : World} {A : Option Addr} {n : Nat} {xs : List (List α)} (h : Kd.C (Kd.slice t d) w A n xs) : Kd.C kRows w A n (xs.map (·.map f)) := by
  refine C_map (d := Kd.slice t d) (d' := kRows) (fun l => l.map f) rfl (fun w x cs hx => ?_) h
  obtain ⟨A', c', rfl, h1, h2⟩ := hx
  have h3 := C_map f hs hK h2
  refine ⟨A', c', by rw [List.length_map], by rw [List.length_map]; exact h1, ?_⟩
  rw [List.length_map]; exact h3
end Go.Proofs.Yteffhomollmpdaa.X
