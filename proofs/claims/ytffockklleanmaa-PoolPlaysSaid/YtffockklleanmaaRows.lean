/-
  No cell of these rows narrows 'for every input' (looked for: loops, veiled, ifaces, maps, wideKeys, modest, calm, conditions, laid).
  DERIVED. THE GIVEN ROWS OF THIS SEAT. 6 by the template 'for every input the law returns true; each argument reads behind the call as it read before'; 0 by the template 'total and deterministic' (their statements: YtffockklleanmaaTotals.lean).
  GIVEN WITH THE SEED: the statements are not yours to turn. If you find one false, say at which input.
  Laid BY PROGRAM, IN A SANDBOX (cutbox-rows.mjs): the forced cells as the released guide's own fill.sh prints them over the translation 20644c3cd47e48c6… (all of the seat's roots in one cut). By AI agents, Wed Nov 11 2026. No macro, syntax, notation, axiom, sorry.
-/
import Derived.Test.YtffockklleanmaaChecked
import GoSem.Claim
import GoSem.ClaimJoined
import GoSem.ClaimMapViews
import Derived.JoinedTies
import Derived.KernelRfl
namespace Go.Proofs.Ytffockklleanmaa
/- THE CELL 'sum', in the pinned program and in every row, IS THE sha256 OF THE DUMP (.gsa) THAT YtffockklleanmaaProg.lean LOADS. Nothing in Lean hashes anything: it is a label: what it is worth is what the hold of that sum in a sandbox is worth. -/
noncomputable def Try.pinned : Pinned := { name := "ytffockklleanmaa", sum := "20644c3cd47e48c6d5d49dccc7a6bd1d590cbe9b529ec7a03183577d001a5f77", checked := Try.checked }
namespace Rows
def none {H : Type} : Left H := { results := [], args := [] }

/-- 'tollbarlaw17.PoolHealth': WHATEVER THE INPUT: true; the input reads as it did. -/
def poolHealthSpec : ChangeSpec := { name := "poolHealth", fn := fun _ => fun
  | [d] => { results := [.lit (.bool true)], args := [d] }
  | _ => none }
def poolHealthRow : OpenClaim := { program := "ytffockklleanmaa", sum := "20644c3cd47e48c6d5d49dccc7a6bd1d590cbe9b529ec7a03183577d001a5f77", func := "tollbar/tollbarlaw17.PoolHealth", spec := "poolHealth", apart := false }
def PoolHealthSaid : Prop := poolHealthRow.holds Try.pinned (OpenSpec.ofChange poolHealthSpec)

/-- ITS FALSE NEIGHBOUR: 'it returns false'. Refute it at one input. -/
def poolHealthWrong : ChangeSpec := { name := "poolHealth", fn := fun _ => fun
  | [d] => { results := [.lit (.bool false)], args := [d] }
  | _ => none }
def PoolHealthWrongFalsely : Prop := poolHealthRow.holds Try.pinned (OpenSpec.ofChange poolHealthWrong)

/-- 'tollbarlaw17.PoolTurns': WHATEVER THE INPUT: true; the input reads as it did. -/
def poolTurnsSpec : ChangeSpec := { name := "poolTurns", fn := fun _ => fun
  | [d1, d2, d3] => { results := [.lit (.bool true)], args := [d1, d2, d3] }
  | _ => none }
def poolTurnsRow : OpenClaim := { program := "ytffockklleanmaa", sum := "20644c3cd47e48c6d5d49dccc7a6bd1d590cbe9b529ec7a03183577d001a5f77", func := "tollbar/tollbarlaw17.PoolTurns", spec := "poolTurns", apart := false }
def PoolTurnsSaid : Prop := poolTurnsRow.holds Try.pinned (OpenSpec.ofChange poolTurnsSpec)

/-- ITS FALSE NEIGHBOUR: 'it returns false'. Refute it at one input. -/
def poolTurnsWrong : ChangeSpec := { name := "poolTurns", fn := fun _ => fun
  | [d1, d2, d3] => { results := [.lit (.bool false)], args := [d1, d2, d3] }
  | _ => none }
def PoolTurnsWrongFalsely : Prop := poolTurnsRow.holds Try.pinned (OpenSpec.ofChange poolTurnsWrong)

/-- 'tollbarlaw17.PoolRows': WHATEVER THE INPUT: true; the input reads as it did. -/
def poolRowsSpec : ChangeSpec := { name := "poolRows", fn := fun _ => fun
  | [d1, d2, d3, d4] => { results := [.lit (.bool true)], args := [d1, d2, d3, d4] }
  | _ => none }
def poolRowsRow : OpenClaim := { program := "ytffockklleanmaa", sum := "20644c3cd47e48c6d5d49dccc7a6bd1d590cbe9b529ec7a03183577d001a5f77", func := "tollbar/tollbarlaw17.PoolRows", spec := "poolRows", apart := false }
def PoolRowsSaid : Prop := poolRowsRow.holds Try.pinned (OpenSpec.ofChange poolRowsSpec)

/-- ITS FALSE NEIGHBOUR: 'it returns false'. Refute it at one input. -/
def poolRowsWrong : ChangeSpec := { name := "poolRows", fn := fun _ => fun
  | [d1, d2, d3, d4] => { results := [.lit (.bool false)], args := [d1, d2, d3, d4] }
  | _ => none }
def PoolRowsWrongFalsely : Prop := poolRowsRow.holds Try.pinned (OpenSpec.ofChange poolRowsWrong)

/-- 'tollbarlaw17.PoolPlays': WHATEVER THE INPUT: true; the input reads as it did. -/
def poolPlaysSpec : ChangeSpec := { name := "poolPlays", fn := fun _ => fun
  | [d1, d2] => { results := [.lit (.bool true)], args := [d1, d2] }
  | _ => none }
def poolPlaysRow : OpenClaim := { program := "ytffockklleanmaa", sum := "20644c3cd47e48c6d5d49dccc7a6bd1d590cbe9b529ec7a03183577d001a5f77", func := "tollbar/tollbarlaw17.PoolPlays", spec := "poolPlays", unfollowed := true, recurses := true, apart := false }
def PoolPlaysSaid : Prop := poolPlaysRow.holds Try.pinned (OpenSpec.ofChange poolPlaysSpec)

/-- ITS FALSE NEIGHBOUR: 'it returns false'. Refute it at one input. -/
def poolPlaysWrong : ChangeSpec := { name := "poolPlays", fn := fun _ => fun
  | [d1, d2] => { results := [.lit (.bool false)], args := [d1, d2] }
  | _ => none }
def PoolPlaysWrongFalsely : Prop := poolPlaysRow.holds Try.pinned (OpenSpec.ofChange poolPlaysWrong)

/-- 'tollbarlaw17.PoolBound': WHATEVER THE INPUT: true; the input reads as it did. -/
def poolBoundSpec : ChangeSpec := { name := "poolBound", fn := fun _ => fun
  | [d1, d2] => { results := [.lit (.bool true)], args := [d1, d2] }
  | _ => none }
def poolBoundRow : OpenClaim := { program := "ytffockklleanmaa", sum := "20644c3cd47e48c6d5d49dccc7a6bd1d590cbe9b529ec7a03183577d001a5f77", func := "tollbar/tollbarlaw17.PoolBound", spec := "poolBound", unfollowed := true, recurses := true, apart := false }
def PoolBoundSaid : Prop := poolBoundRow.holds Try.pinned (OpenSpec.ofChange poolBoundSpec)

/-- ITS FALSE NEIGHBOUR: 'it returns false'. Refute it at one input. -/
def poolBoundWrong : ChangeSpec := { name := "poolBound", fn := fun _ => fun
  | [d1, d2] => { results := [.lit (.bool false)], args := [d1, d2] }
  | _ => none }
def PoolBoundWrongFalsely : Prop := poolBoundRow.holds Try.pinned (OpenSpec.ofChange poolBoundWrong)

/-- 'tollbarlaw17.PoolReuses': WHATEVER THE INPUT: true; the input reads as it did. -/
def poolReusesSpec : ChangeSpec := { name := "poolReuses", fn := fun _ => fun
  | [d1, d2] => { results := [.lit (.bool true)], args := [d1, d2] }
  | _ => none }
def poolReusesRow : OpenClaim := { program := "ytffockklleanmaa", sum := "20644c3cd47e48c6d5d49dccc7a6bd1d590cbe9b529ec7a03183577d001a5f77", func := "tollbar/tollbarlaw17.PoolReuses", spec := "poolReuses", unfollowed := true, recurses := true, apart := false }
def PoolReusesSaid : Prop := poolReusesRow.holds Try.pinned (OpenSpec.ofChange poolReusesSpec)

/-- ITS FALSE NEIGHBOUR: 'it returns false'. Refute it at one input. -/
def poolReusesWrong : ChangeSpec := { name := "poolReuses", fn := fun _ => fun
  | [d1, d2] => { results := [.lit (.bool false)], args := [d1, d2] }
  | _ => none }
def PoolReusesWrongFalsely : Prop := poolReusesRow.holds Try.pinned (OpenSpec.ofChange poolReusesWrong)

/- THE SECOND FORM. 'bulk': how many values and letters a reading holds, each counted each time it is reached (what is shared counts as often as it is met; a slice's spare places count too). A statement '..UptoSaid' is the law's where the arguments, and the package variables that the reading takes, are together of bulk at most 1048576: NARROWER than '..Said'. Prove '..Said' where nothing that the law and all that it calls make is longer than what came in: it says more and counts as full. Else prove '..UptoSaid'. A law counts once. -/
mutual
def uptoBulk {H : Type} : DataW H → Nat
  | .lit (.string bytes) => bytes.length + 1
  | .lit _ => 1
  | .nil => 1
  | .ptr d => uptoBulk d + 1
  | .slice elems spare => uptoBulkAll elems + uptoBulkAll spare + 1
  | .agg parts => uptoBulkAll parts + 1
  | .iface _ d => uptoBulk d + 1
  | .map entries => uptoBulkEntries entries + 1
  | .held _ => 1
def uptoBulkAll {H : Type} : List (DataW H) → Nat
  | [] => 0
  | d :: r => uptoBulk d + uptoBulkAll r
def uptoBulkEntries {H : Type} : List (Lit × DataW H) → Nat
  | [] => 0
  | x :: r => uptoBulkEntry x + uptoBulkEntries r
def uptoBulkEntry {H : Type} : Lit × DataW H → Nat
  | (.string bytes, d) => bytes.length + uptoBulk d + 1
  | (_, d) => uptoBulk d + 1
 end
def uptoSmall : (H : Type) → List (DataW H) → Bool := fun _ ds => decide (uptoBulkAll ds ≤ 1048576)
def OpenSpec.upto (s : _root_.Go.ChangeSpec) : _root_.Go.OpenSpec := { _root_.Go.OpenSpec.ofChange s with cond := some uptoSmall }

/-- 'tollbarlaw17.PoolHealth', WHERE WHAT IT READS IS OF BULK AT MOST 1048576: true; the input reads as it did. -/
def poolHealthUptoRow : OpenClaim := { program := "ytffockklleanmaa", sum := "20644c3cd47e48c6d5d49dccc7a6bd1d590cbe9b529ec7a03183577d001a5f77", func := "tollbar/tollbarlaw17.PoolHealth", spec := "poolHealth", apart := false, narrowed := true }
def PoolHealthUptoSaid : Prop := poolHealthUptoRow.holds Try.pinned (OpenSpec.upto poolHealthSpec)

/-- 'tollbarlaw17.PoolTurns', WHERE WHAT IT READS IS OF BULK AT MOST 1048576: true; the input reads as it did. -/
def poolTurnsUptoRow : OpenClaim := { program := "ytffockklleanmaa", sum := "20644c3cd47e48c6d5d49dccc7a6bd1d590cbe9b529ec7a03183577d001a5f77", func := "tollbar/tollbarlaw17.PoolTurns", spec := "poolTurns", apart := false, narrowed := true }
def PoolTurnsUptoSaid : Prop := poolTurnsUptoRow.holds Try.pinned (OpenSpec.upto poolTurnsSpec)

/-- 'tollbarlaw17.PoolRows', WHERE WHAT IT READS IS OF BULK AT MOST 1048576: true; the input reads as it did. -/
def poolRowsUptoRow : OpenClaim := { program := "ytffockklleanmaa", sum := "20644c3cd47e48c6d5d49dccc7a6bd1d590cbe9b529ec7a03183577d001a5f77", func := "tollbar/tollbarlaw17.PoolRows", spec := "poolRows", apart := false, narrowed := true }
def PoolRowsUptoSaid : Prop := poolRowsUptoRow.holds Try.pinned (OpenSpec.upto poolRowsSpec)

/-- 'tollbarlaw17.PoolPlays', WHERE WHAT IT READS IS OF BULK AT MOST 1048576: true; the input reads as it did. -/
def poolPlaysUptoRow : OpenClaim := { program := "ytffockklleanmaa", sum := "20644c3cd47e48c6d5d49dccc7a6bd1d590cbe9b529ec7a03183577d001a5f77", func := "tollbar/tollbarlaw17.PoolPlays", spec := "poolPlays", unfollowed := true, recurses := true, apart := false, narrowed := true }
def PoolPlaysUptoSaid : Prop := poolPlaysUptoRow.holds Try.pinned (OpenSpec.upto poolPlaysSpec)

/-- 'tollbarlaw17.PoolBound', WHERE WHAT IT READS IS OF BULK AT MOST 1048576: true; the input reads as it did. -/
def poolBoundUptoRow : OpenClaim := { program := "ytffockklleanmaa", sum := "20644c3cd47e48c6d5d49dccc7a6bd1d590cbe9b529ec7a03183577d001a5f77", func := "tollbar/tollbarlaw17.PoolBound", spec := "poolBound", unfollowed := true, recurses := true, apart := false, narrowed := true }
def PoolBoundUptoSaid : Prop := poolBoundUptoRow.holds Try.pinned (OpenSpec.upto poolBoundSpec)

/-- 'tollbarlaw17.PoolReuses', WHERE WHAT IT READS IS OF BULK AT MOST 1048576: true; the input reads as it did. -/
def poolReusesUptoRow : OpenClaim := { program := "ytffockklleanmaa", sum := "20644c3cd47e48c6d5d49dccc7a6bd1d590cbe9b529ec7a03183577d001a5f77", func := "tollbar/tollbarlaw17.PoolReuses", spec := "poolReuses", unfollowed := true, recurses := true, apart := false, narrowed := true }
def PoolReusesUptoSaid : Prop := poolReusesUptoRow.holds Try.pinned (OpenSpec.upto poolReusesSpec)

end Rows
end Go.Proofs.Ytffockklleanmaa
