/- A health in memory: three maps behind a struct. -/
import Derived.Test.YtffockklleanmaaXChg
namespace Go.Proofs.Ytffockklleanmaa.X
open Go.RowKit Go.MapKept Go.ChangeMaps Go.Proofs.YtffockklleanmaaW.PrintWords Go.Proofs.YtffockklleanmaaW.PrintMore
set_option linter.unusedVariables false

def kS : ByteArray → Value := fun k => .string k
def vI : Int → Value := fun n => .int .i64 n
/-- turns, fails, until -/
structure HSt where
  t : List (ByteArray × Int)
  f : List (ByteArray × Int)
  u : List (ByteArray × Int)
def HIn (w : World) (F : Nat → Prop) (p mt mf mu : Nat) (s : HSt) : Prop :=
  F p ∧ F mt ∧ F mf ∧ F mu ∧ mt ≠ mf ∧ mt ≠ mu ∧ mf ≠ mu ∧ w.heap[p]? = some (.cells #[.map (some mt), .map (some mf), .map (some mu)] 84 (0, 0)) ∧ MapK kS vI w mt s.t ∧ MapK kS vI w mf s.f ∧ MapK kS vI w mu s.u
def HAt (w : World) (F : Nat → Prop) (p : Nat) (s : HSt) : Prop := ∃ mt mf mu, HIn w F p mt mf mu s
theorem HAt.chg {w w' : World} {F G : Nat → Prop} {p : Nat} {s : HSt} (h : HAt w F p s) (hc : Chg G w w') (hd : ∀ k, F k → ¬ G k) : HAt w' F p s := by
  obtain ⟨mt, mf, mu, h1, h2, h3, h4, n1, n2, n3, hb, m1, m2, m3⟩ := h
  exact ⟨mt, mf, mu, h1, h2, h3, h4, n1, n2, n3, hc.blk hb (hd _ h1), m1.chg hc (hd _ h2), m2.chg hc (hd _ h3), m3.chg hc (hd _ h4)⟩
theorem HAt.below {w w' : World} {F : Nat → Prop} {p : Nat} {s : HSt} (h : HAt w F p s) (hc : Below w.heap.size w w') : HAt w' F p s :=
  h.chg (G := fun _ => False) (Chg.of_below hc) (fun _ _ h => h)
theorem HAt.drewN {w : World} {F : Nat → Prop} {p : Nat} {s : HSt} (h : HAt w F p s) (n : Nat) : HAt (w.drewN n) F p s := h
theorem map_ne {w : World} {p b : Nat} {κ ν : Type} {kv : κ → Value} {vv : ν → Value} {l : List (κ × ν)} {cs : Array Value} {t : TypeId} {fr : Nat × Nat} (h : w.heap[p]? = some (.cells cs t fr)) (m : MapK kv vv w b l) : p ≠ b := by
  intro e
  obtain ⟨es, c, hb, _⟩ := m
  rw [← e, h] at hb; cases hb
/-- the model's steps -/
def sickM (s : HSt) (aim : ByteArray) (now : Int) : Bool := decide (now < (aget s.u aim).getD 0)
def badM (s : HSt) (aim : ByteArray) (now fails cool : Int) : HSt × Bool :=
  if wrap64 ((aget s.f aim).getD 0 + 1) < fails then (⟨s.t, aput s.f aim (wrap64 ((aget s.f aim).getD 0 + 1)), s.u⟩, false)
  else (⟨s.t, adel (aput s.f aim (wrap64 ((aget s.f aim).getD 0 + 1))) aim, aput s.u aim (wrap64 (now + cool))⟩, true)
def goodM (s : HSt) (aim : ByteArray) : HSt := ⟨s.t, adel s.f aim, s.u⟩
/-- from the i-th try on -/
def pickM (s : HSt) (name : ByteArray) (aims : List ByteArray) (now : Int) : Nat → Nat → Option (HSt × ByteArray × Int)
  | 0, _ => some (s, ⟨#[]⟩, 4)
  | d + 1, i =>
    let at_ := Int.tmod (wrap64 ((aget s.t name).getD 0 + (i : Int))) (aims.length : Int)
    if 0 ≤ at_ then
      if sickM s (rdOf ByteArray.empty aims at_) now = true then pickM s name aims now d (i + 1)
      else some (⟨aput s.t name (wrap64 (at_ + 1)), s.f, s.u⟩, rdOf ByteArray.empty aims at_, 0)
    else none
end Go.Proofs.Ytffockklleanmaa.X
