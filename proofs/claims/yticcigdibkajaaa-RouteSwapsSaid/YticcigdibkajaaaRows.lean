/-
  No cell of these rows narrows 'for every input' (looked for: loops, veiled, ifaces, maps, wideKeys, modest, calm, conditions, laid).
  DERIVED. THE GIVEN ROWS OF THIS SEAT. 4 by the template 'for every input the law returns true; each argument reads behind the call as it read before'; 0 by the template 'total and deterministic' (their statements: YticcigdibkajaaaTotals.lean).
  GIVEN WITH THE SEED: the statements are not yours to turn. If you find one false, say at which input.
  Laid BY PROGRAM, IN A SANDBOX (cutbox-rows.mjs): the forced cells as the released guide's own fill.sh prints them over the translation 560cd29ff7e86df9… (all of the seat's roots in one cut). By AI agents, Wed Nov 11 2026. No macro, syntax, notation, axiom, sorry.
-/
import Derived.Test.YticcigdibkajaaaChecked
import GoSem.Claim
import GoSem.ClaimJoined
import GoSem.ClaimMapViews
import Derived.JoinedTies
import Derived.KernelRfl
namespace Go.Proofs.Yticcigdibkajaaa
/- THE CELL 'sum', in the pinned program and in every row, IS THE sha256 OF THE DUMP (.gsa) THAT YticcigdibkajaaaProg.lean LOADS. Nothing in Lean hashes anything: it is a label: what it is worth is what the hold of that sum in a sandbox is worth. -/
noncomputable def Try.pinned : Pinned := { name := "yticcigdibkajaaa", sum := "560cd29ff7e86df9836c67c7ee9ae288d5deb00bcd3503a771068954fcd7d5fb", checked := Try.checked }
namespace Rows
def none {H : Type} : Left H := { results := [], args := [] }

/-- 'tollbarlaw11.RouteMatches': WHATEVER THE INPUT: true; the input reads as it did. -/
def routeMatchesSpec : ChangeSpec := { name := "routeMatches", fn := fun _ => fun
  | [d1, d2] => { results := [.lit (.bool true)], args := [d1, d2] }
  | _ => none }
def routeMatchesRow : OpenClaim := { program := "yticcigdibkajaaa", sum := "560cd29ff7e86df9836c67c7ee9ae288d5deb00bcd3503a771068954fcd7d5fb", func := "tollbar/tollbarlaw11.RouteMatches", spec := "routeMatches", inPlace := ["internal/bytealg.IndexByteString", "internal/bytealg.IndexString"], named := ["internal/bytealg.MaxLen"], apart := false }
def RouteMatchesSaid : Prop := routeMatchesRow.holds Try.pinned (OpenSpec.ofChange routeMatchesSpec)

/-- ITS FALSE NEIGHBOUR: 'it returns false'. Refute it at one input. -/
def routeMatchesWrong : ChangeSpec := { name := "routeMatches", fn := fun _ => fun
  | [d1, d2] => { results := [.lit (.bool false)], args := [d1, d2] }
  | _ => none }
def RouteMatchesWrongFalsely : Prop := routeMatchesRow.holds Try.pinned (OpenSpec.ofChange routeMatchesWrong)

/-- 'tollbarlaw11.RouteBest': WHATEVER THE INPUT: true; the input reads as it did. -/
def routeBestSpec : ChangeSpec := { name := "routeBest", fn := fun _ => fun
  | [d1, d2] => { results := [.lit (.bool true)], args := [d1, d2] }
  | _ => none }
def routeBestRow : OpenClaim := { program := "yticcigdibkajaaa", sum := "560cd29ff7e86df9836c67c7ee9ae288d5deb00bcd3503a771068954fcd7d5fb", func := "tollbar/tollbarlaw11.RouteBest", spec := "routeBest", inPlace := ["internal/bytealg.IndexByteString", "internal/bytealg.IndexString"], named := ["internal/bytealg.MaxLen"], apart := false }
def RouteBestSaid : Prop := routeBestRow.holds Try.pinned (OpenSpec.ofChange routeBestSpec)

/-- ITS FALSE NEIGHBOUR: 'it returns false'. Refute it at one input. -/
def routeBestWrong : ChangeSpec := { name := "routeBest", fn := fun _ => fun
  | [d1, d2] => { results := [.lit (.bool false)], args := [d1, d2] }
  | _ => none }
def RouteBestWrongFalsely : Prop := routeBestRow.holds Try.pinned (OpenSpec.ofChange routeBestWrong)

/-- 'tollbarlaw11.RouteSwaps': WHATEVER THE INPUT: true; the input reads as it did. -/
def routeSwapsSpec : ChangeSpec := { name := "routeSwaps", fn := fun _ => fun
  | [d1, d2, d3, d4] => { results := [.lit (.bool true)], args := [d1, d2, d3, d4] }
  | _ => none }
def routeSwapsRow : OpenClaim := { program := "yticcigdibkajaaa", sum := "560cd29ff7e86df9836c67c7ee9ae288d5deb00bcd3503a771068954fcd7d5fb", func := "tollbar/tollbarlaw11.RouteSwaps", spec := "routeSwaps", inPlace := ["internal/bytealg.IndexByteString", "internal/bytealg.IndexString"], unfollowed := true, recurses := true, named := ["internal/bytealg.MaxLen"], apart := false }
def RouteSwapsSaid : Prop := routeSwapsRow.holds Try.pinned (OpenSpec.ofChange routeSwapsSpec)

/-- ITS FALSE NEIGHBOUR: 'it returns false'. Refute it at one input. -/
def routeSwapsWrong : ChangeSpec := { name := "routeSwaps", fn := fun _ => fun
  | [d1, d2, d3, d4] => { results := [.lit (.bool false)], args := [d1, d2, d3, d4] }
  | _ => none }
def RouteSwapsWrongFalsely : Prop := routeSwapsRow.holds Try.pinned (OpenSpec.ofChange routeSwapsWrong)

/-- 'tollbarlaw11.RouteWhole': WHATEVER THE INPUT: true; the input reads as it did. -/
def routeWholeSpec : ChangeSpec := { name := "routeWhole", fn := fun _ => fun
  | [d1, d2, d3] => { results := [.lit (.bool true)], args := [d1, d2, d3] }
  | _ => none }
def routeWholeRow : OpenClaim := { program := "yticcigdibkajaaa", sum := "560cd29ff7e86df9836c67c7ee9ae288d5deb00bcd3503a771068954fcd7d5fb", func := "tollbar/tollbarlaw11.RouteWhole", spec := "routeWhole", inPlace := ["internal/bytealg.IndexByteString", "internal/bytealg.IndexString"], named := ["internal/bytealg.MaxLen"], apart := false }
def RouteWholeSaid : Prop := routeWholeRow.holds Try.pinned (OpenSpec.ofChange routeWholeSpec)

/-- ITS FALSE NEIGHBOUR: 'it returns false'. Refute it at one input. -/
def routeWholeWrong : ChangeSpec := { name := "routeWhole", fn := fun _ => fun
  | [d1, d2, d3] => { results := [.lit (.bool false)], args := [d1, d2, d3] }
  | _ => none }
def RouteWholeWrongFalsely : Prop := routeWholeRow.holds Try.pinned (OpenSpec.ofChange routeWholeWrong)

/- THE SECOND FORM. 'bulk': how many values and letters a reading holds, each counted each time it is reached (what is shared counts as often as it is met; a slice's spare places count too). A statement '..UptoSaid' is the law's where the arguments, and the package variables that the reading takes, are together of bulk at most 1048576: NARROWER than '..Said'. Prove '..Said' where nothing that the law and all that it calls make is longer than what came in: it says more and counts as full. Else prove '..UptoSaid'. A law counts once. -/
mutual
def uptoBulk {H : Type} : DataW H → Nat
  | .lit (.string bytes) => bytes.length + 1
  | .lit _ => 1
  | .nil => 1
  | .ptr d => uptoBulk d + 1
  | .slice elems spare => uptoBulkAll elems + uptoBulkAll spare + 1
  | .agg parts => uptoBulkAll parts + 1
  | .iface _ d => uptoBulk d + 1
  | .map entries => uptoBulkEntries entries + 1
  | .held _ => 1
def uptoBulkAll {H : Type} : List (DataW H) → Nat
  | [] => 0
  | d :: r => uptoBulk d + uptoBulkAll r
def uptoBulkEntries {H : Type} : List (Lit × DataW H) → Nat
  | [] => 0
  | x :: r => uptoBulkEntry x + uptoBulkEntries r
def uptoBulkEntry {H : Type} : Lit × DataW H → Nat
  | (.string bytes, d) => bytes.length + uptoBulk d + 1
  | (_, d) => uptoBulk d + 1
 end
def uptoSmall : (H : Type) → List (DataW H) → Bool := fun _ ds => decide (uptoBulkAll ds ≤ 1048576)
def OpenSpec.upto (s : _root_.Go.ChangeSpec) : _root_.Go.OpenSpec := { _root_.Go.OpenSpec.ofChange s with cond := some uptoSmall }

/-- 'tollbarlaw11.RouteMatches', WHERE WHAT IT READS IS OF BULK AT MOST 1048576: true; the input reads as it did. -/
def routeMatchesUptoRow : OpenClaim := { program := "yticcigdibkajaaa", sum := "560cd29ff7e86df9836c67c7ee9ae288d5deb00bcd3503a771068954fcd7d5fb", func := "tollbar/tollbarlaw11.RouteMatches", spec := "routeMatches", inPlace := ["internal/bytealg.IndexByteString", "internal/bytealg.IndexString"], named := ["internal/bytealg.MaxLen"], apart := false, narrowed := true }
def RouteMatchesUptoSaid : Prop := routeMatchesUptoRow.holds Try.pinned (OpenSpec.upto routeMatchesSpec)

/-- 'tollbarlaw11.RouteBest', WHERE WHAT IT READS IS OF BULK AT MOST 1048576: true; the input reads as it did. -/
def routeBestUptoRow : OpenClaim := { program := "yticcigdibkajaaa", sum := "560cd29ff7e86df9836c67c7ee9ae288d5deb00bcd3503a771068954fcd7d5fb", func := "tollbar/tollbarlaw11.RouteBest", spec := "routeBest", inPlace := ["internal/bytealg.IndexByteString", "internal/bytealg.IndexString"], named := ["internal/bytealg.MaxLen"], apart := false, narrowed := true }
def RouteBestUptoSaid : Prop := routeBestUptoRow.holds Try.pinned (OpenSpec.upto routeBestSpec)

/-- 'tollbarlaw11.RouteSwaps', WHERE WHAT IT READS IS OF BULK AT MOST 1048576: true; the input reads as it did. -/
def routeSwapsUptoRow : OpenClaim := { program := "yticcigdibkajaaa", sum := "560cd29ff7e86df9836c67c7ee9ae288d5deb00bcd3503a771068954fcd7d5fb", func := "tollbar/tollbarlaw11.RouteSwaps", spec := "routeSwaps", inPlace := ["internal/bytealg.IndexByteString", "internal/bytealg.IndexString"], unfollowed := true, recurses := true, named := ["internal/bytealg.MaxLen"], apart := false, narrowed := true }
def RouteSwapsUptoSaid : Prop := routeSwapsUptoRow.holds Try.pinned (OpenSpec.upto routeSwapsSpec)

/-- 'tollbarlaw11.RouteWhole', WHERE WHAT IT READS IS OF BULK AT MOST 1048576: true; the input reads as it did. -/
def routeWholeUptoRow : OpenClaim := { program := "yticcigdibkajaaa", sum := "560cd29ff7e86df9836c67c7ee9ae288d5deb00bcd3503a771068954fcd7d5fb", func := "tollbar/tollbarlaw11.RouteWhole", spec := "routeWhole", inPlace := ["internal/bytealg.IndexByteString", "internal/bytealg.IndexString"], named := ["internal/bytealg.MaxLen"], apart := false, narrowed := true }
def RouteWholeUptoSaid : Prop := routeWholeUptoRow.holds Try.pinned (OpenSpec.upto routeWholeSpec)

end Rows
end Go.Proofs.Yticcigdibkajaaa
