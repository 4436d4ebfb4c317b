/- What a call turns: its own blocks alone, and new ones. -/
import Derived.Test.YteffhomollmpdaaXMap
import Derived.Test.YteffhomollmpdaaWWords
import Derived.Test.YteffhomollmpdaaWMore
namespace Go.Proofs.Yteffhomollmpdaa.X
open Go.RowKit Go.MapKept Go.ChangeMaps Go.Proofs.YteffhomollmpdaaW.PrintWords Go.Proofs.YteffhomollmpdaaW.PrintMore
set_option linter.unusedVariables false

/-- between the two worlds only blocks of F have turned (and new ones were laid) -/
structure Chg (F : Nat → Prop) (w w' : World) : Prop where
  os : w'.os = w.os
  tape : w'.tape = w.tape
  output : w'.output = w.output
  size : w.heap.size ≤ w'.heap.size
  block : ∀ k, k < w.heap.size → ¬ F k → w'.heap[k]? = w.heap[k]?
theorem Chg.refl (F : Nat → Prop) (w : World) : Chg F w w := ⟨rfl, rfl, rfl, Nat.le_refl _, fun _ _ _ => rfl⟩
theorem Chg.of_below {F : Nat → Prop} {w w' : World} (h : Below w.heap.size w w') : Chg F w w' := ⟨h.os, h.tape, h.output, h.size, fun k hk _ => h.block k hk⟩
theorem Chg.trans {F : Nat → Prop} {a b c : World} (h : Chg F a b) (k : Chg F b c) : Chg F a c :=
  ⟨k.os.trans h.os, k.tape.trans h.tape, k.output.trans h.output, Nat.le_trans h.size k.size, fun i hi hF => (k.block i (Nat.lt_of_lt_of_le hi h.size) hF).trans (h.block i hi hF)⟩
theorem Chg.mono {F G : Nat → Prop} {w w' : World} (h : Chg F w w') (hFG : ∀ k, k < w.heap.size → F k → G k) : Chg G w w' := ⟨h.os, h.tape, h.output, h.size, fun k hk hG => h.block k hk (fun hf => hG (hFG k hk hf))⟩
theorem Chg.turned {F : Nat → Prop} {w w' : World} {b : Nat} (h : w.mapTurned w' b) (hb : F b) : Chg F w w' := by
  have hg := h.grown
  exact ⟨hg.os, hg.tape, hg.output, hg.size, fun k hk hF => hg.block k hk (fun e => hF (by injection e with e; rw [e]; exact hb))⟩
theorem Chg.set {F : Nat → Prop} {w : World} {p : Addr} (u : Value) (hb : F p.block) : Chg F w (w.setCell p u) :=
  ⟨rfl, rfl, rfl, by simp [World.setCell], fun k hk hF => Below.heap_setCell w p u k (fun e => hF (by rw [e]; exact hb))⟩
theorem Chg.grown {F : Nat → Prop} {w w' : World} {row : Option Nat} (h : w.grownBy w' row) (hr : ∀ k, row = some k → F k) : Chg F w w' :=
  ⟨h.os, h.tape, h.output, h.size, fun k hk hF => h.block k hk (fun e => hF (hr k e.symm))⟩
theorem Chg.alloc {F : Nat → Prop} {w w' : World} (h : Chg F w w') (o : Obj) : Chg F w (w'.alloc o) := h.trans (Chg.of_below (below_alloc (Below.refl _ _) o))
theorem Chg.drewN {F : Nat → Prop} {w w' : World} (h : Chg F w w') (n : Nat) : Chg F w (w'.drewN n) := ⟨h.os, h.tape, h.output, h.size, h.block⟩
theorem Chg.below {F : Nat → Prop} {B : Nat} {w w' : World} (h : Chg F w w') (hF : ∀ k, F k → B ≤ k) (hB : B ≤ w.heap.size) : Below B w w' :=
  ⟨h.os, h.tape, h.output, h.size, fun k hk => h.block k (Nat.lt_of_lt_of_le hk hB) (fun hf => absurd (hF k hf) (by omega))⟩
theorem Chg.blk {F : Nat → Prop} {w w' : World} {b : Nat} {o : Obj} (h : Chg F w w') (hb : w.heap[b]? = some o) (hF : ¬ F b) : w'.heap[b]? = some o := (h.block b (blk_lt hb) hF).trans hb
theorem MapK.below {κ ν : Type} [DecidableEq κ] {kv : κ → Value} {vv : ν → Value} {w w' : World} {b : Nat} {l : List (κ × ν)} (h : MapK kv vv w b l) (hc : Below w.heap.size w w') : MapK kv vv w' b l := h.same (hc.block b h.lt)
theorem MapK.drewN {κ ν : Type} {kv : κ → Value} {vv : ν → Value} {w : World} {b : Nat} {l : List (κ × ν)} (h : MapK kv vv w b l) (n : Nat) : MapK kv vv (w.drewN n) b l := h
end Go.Proofs.Yteffhomollmpdaa.X
