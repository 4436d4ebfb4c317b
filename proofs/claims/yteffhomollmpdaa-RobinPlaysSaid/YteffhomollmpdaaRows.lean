/-
  No cell of these rows narrows 'for every input' (looked for: loops, veiled, ifaces, maps, wideKeys, modest, calm, conditions, laid).
  DERIVED. THE GIVEN ROWS OF THIS SEAT. 5 by the template 'for every input the law returns true; each argument reads behind the call as it read before'; 0 by the template 'total and deterministic' (their statements: YteffhomollmpdaaTotals.lean).
  GIVEN WITH THE SEED: the statements are not yours to turn. If you find one false, say at which input.
  Laid BY PROGRAM, IN A SANDBOX (cutbox-rows.mjs): the forced cells as the released guide's own fill.sh prints them over the translation 104ee3871e07db62… (all of the seat's roots in one cut). By AI agents, Wed Nov 11 2026. No macro, syntax, notation, axiom, sorry.
-/
import Derived.Test.YteffhomollmpdaaChecked
import GoSem.Claim
import GoSem.ClaimJoined
import GoSem.ClaimMapViews
import Derived.JoinedTies
import Derived.KernelRfl
namespace Go.Proofs.Yteffhomollmpdaa
/- THE CELL 'sum', in the pinned program and in every row, IS THE sha256 OF THE DUMP (.gsa) THAT YteffhomollmpdaaProg.lean LOADS. Nothing in Lean hashes anything: it is a label: what it is worth is what the hold of that sum in a sandbox is worth. -/
noncomputable def Try.pinned : Pinned := { name := "yteffhomollmpdaa", sum := "104ee3871e07db6234985ea6b008b7003f8babae74c07f8124f58fc0a561c235", checked := Try.checked }
namespace Rows
def none {H : Type} : Left H := { results := [], args := [] }

/-- 'tollbarlaw16.RobinPlays': WHATEVER THE INPUT: true; the input reads as it did. -/
def robinPlaysSpec : ChangeSpec := { name := "robinPlays", fn := fun _ => fun
  | [d1, d2] => { results := [.lit (.bool true)], args := [d1, d2] }
  | _ => none }
def robinPlaysRow : OpenClaim := { program := "yteffhomollmpdaa", sum := "104ee3871e07db6234985ea6b008b7003f8babae74c07f8124f58fc0a561c235", func := "tollbar/tollbarlaw16.RobinPlays", spec := "robinPlays", unfollowed := true, recurses := true, apart := false }
def RobinPlaysSaid : Prop := robinPlaysRow.holds Try.pinned (OpenSpec.ofChange robinPlaysSpec)

/-- ITS FALSE NEIGHBOUR: 'it returns false'. Refute it at one input. -/
def robinPlaysWrong : ChangeSpec := { name := "robinPlays", fn := fun _ => fun
  | [d1, d2] => { results := [.lit (.bool false)], args := [d1, d2] }
  | _ => none }
def RobinPlaysWrongFalsely : Prop := robinPlaysRow.holds Try.pinned (OpenSpec.ofChange robinPlaysWrong)

/-- 'tollbarlaw16.RobinBounds': WHATEVER THE INPUT: true; the input reads as it did. -/
def robinBoundsSpec : ChangeSpec := { name := "robinBounds", fn := fun _ => fun
  | [d1, d2, d3] => { results := [.lit (.bool true)], args := [d1, d2, d3] }
  | _ => none }
def robinBoundsRow : OpenClaim := { program := "yteffhomollmpdaa", sum := "104ee3871e07db6234985ea6b008b7003f8babae74c07f8124f58fc0a561c235", func := "tollbar/tollbarlaw16.RobinBounds", spec := "robinBounds", unfollowed := true, recurses := true, apart := false }
def RobinBoundsSaid : Prop := robinBoundsRow.holds Try.pinned (OpenSpec.ofChange robinBoundsSpec)

/-- ITS FALSE NEIGHBOUR: 'it returns false'. Refute it at one input. -/
def robinBoundsWrong : ChangeSpec := { name := "robinBounds", fn := fun _ => fun
  | [d1, d2, d3] => { results := [.lit (.bool false)], args := [d1, d2, d3] }
  | _ => none }
def RobinBoundsWrongFalsely : Prop := robinBoundsRow.holds Try.pinned (OpenSpec.ofChange robinBoundsWrong)

/-- 'tollbarlaw16.RobinTurns': WHATEVER THE INPUT: true; the input reads as it did. -/
def robinTurnsSpec : ChangeSpec := { name := "robinTurns", fn := fun _ => fun
  | [d1, d2, d3] => { results := [.lit (.bool true)], args := [d1, d2, d3] }
  | _ => none }
def robinTurnsRow : OpenClaim := { program := "yteffhomollmpdaa", sum := "104ee3871e07db6234985ea6b008b7003f8babae74c07f8124f58fc0a561c235", func := "tollbar/tollbarlaw16.RobinTurns", spec := "robinTurns", unfollowed := true, recurses := true, apart := false }
def RobinTurnsSaid : Prop := robinTurnsRow.holds Try.pinned (OpenSpec.ofChange robinTurnsSpec)

/-- ITS FALSE NEIGHBOUR: 'it returns false'. Refute it at one input. -/
def robinTurnsWrong : ChangeSpec := { name := "robinTurns", fn := fun _ => fun
  | [d1, d2, d3] => { results := [.lit (.bool false)], args := [d1, d2, d3] }
  | _ => none }
def RobinTurnsWrongFalsely : Prop := robinTurnsRow.holds Try.pinned (OpenSpec.ofChange robinTurnsWrong)

/-- 'tollbarlaw16.RobinNothing': WHATEVER THE INPUT: true; the input reads as it did. -/
def robinNothingSpec : ChangeSpec := { name := "robinNothing", fn := fun _ => fun
  | [d1, d2] => { results := [.lit (.bool true)], args := [d1, d2] }
  | _ => none }
def robinNothingRow : OpenClaim := { program := "yteffhomollmpdaa", sum := "104ee3871e07db6234985ea6b008b7003f8babae74c07f8124f58fc0a561c235", func := "tollbar/tollbarlaw16.RobinNothing", spec := "robinNothing", unfollowed := true, recurses := true, apart := false }
def RobinNothingSaid : Prop := robinNothingRow.holds Try.pinned (OpenSpec.ofChange robinNothingSpec)

/-- ITS FALSE NEIGHBOUR: 'it returns false'. Refute it at one input. -/
def robinNothingWrong : ChangeSpec := { name := "robinNothing", fn := fun _ => fun
  | [d1, d2] => { results := [.lit (.bool false)], args := [d1, d2] }
  | _ => none }
def RobinNothingWrongFalsely : Prop := robinNothingRow.holds Try.pinned (OpenSpec.ofChange robinNothingWrong)

/-- 'tollbarlaw16.RobinOrder': WHATEVER THE INPUT: true; the input reads as it did. -/
def robinOrderSpec : ChangeSpec := { name := "robinOrder", fn := fun _ => fun
  | [d1, d2, d3, d4] => { results := [.lit (.bool true)], args := [d1, d2, d3, d4] }
  | _ => none }
def robinOrderRow : OpenClaim := { program := "yteffhomollmpdaa", sum := "104ee3871e07db6234985ea6b008b7003f8babae74c07f8124f58fc0a561c235", func := "tollbar/tollbarlaw16.RobinOrder", spec := "robinOrder", unfollowed := true, recurses := true, apart := false }
def RobinOrderSaid : Prop := robinOrderRow.holds Try.pinned (OpenSpec.ofChange robinOrderSpec)

/-- ITS FALSE NEIGHBOUR: 'it returns false'. Refute it at one input. -/
def robinOrderWrong : ChangeSpec := { name := "robinOrder", fn := fun _ => fun
  | [d1, d2, d3, d4] => { results := [.lit (.bool false)], args := [d1, d2, d3, d4] }
  | _ => none }
def RobinOrderWrongFalsely : Prop := robinOrderRow.holds Try.pinned (OpenSpec.ofChange robinOrderWrong)

/- THE SECOND FORM. 'bulk': how many values and letters a reading holds, each counted each time it is reached (what is shared counts as often as it is met; a slice's spare places count too). A statement '..UptoSaid' is the law's where the arguments, and the package variables that the reading takes, are together of bulk at most 1048576: NARROWER than '..Said'. Prove '..Said' where nothing that the law and all that it calls make is longer than what came in: it says more and counts as full. Else prove '..UptoSaid'. A law counts once. -/
mutual
def uptoBulk {H : Type} : DataW H → Nat
  | .lit (.string bytes) => bytes.length + 1
  | .lit _ => 1
  | .nil => 1
  | .ptr d => uptoBulk d + 1
  | .slice elems spare => uptoBulkAll elems + uptoBulkAll spare + 1
  | .agg parts => uptoBulkAll parts + 1
  | .iface _ d => uptoBulk d + 1
  | .map entries => uptoBulkEntries entries + 1
  | .held _ => 1
def uptoBulkAll {H : Type} : List (DataW H) → Nat
  | [] => 0
  | d :: r => uptoBulk d + uptoBulkAll r
def uptoBulkEntries {H : Type} : List (Lit × DataW H) → Nat
  | [] => 0
  | x :: r => uptoBulkEntry x + uptoBulkEntries r
def uptoBulkEntry {H : Type} : Lit × DataW H → Nat
  | (.string bytes, d) => bytes.length + uptoBulk d + 1
  | (_, d) => uptoBulk d + 1
 end
def uptoSmall : (H : Type) → List (DataW H) → Bool := fun _ ds => decide (uptoBulkAll ds ≤ 1048576)
def OpenSpec.upto (s : _root_.Go.ChangeSpec) : _root_.Go.OpenSpec := { _root_.Go.OpenSpec.ofChange s with cond := some uptoSmall }

/-- 'tollbarlaw16.RobinPlays', WHERE WHAT IT READS IS OF BULK AT MOST 1048576: true; the input reads as it did. -/
def robinPlaysUptoRow : OpenClaim := { program := "yteffhomollmpdaa", sum := "104ee3871e07db6234985ea6b008b7003f8babae74c07f8124f58fc0a561c235", func := "tollbar/tollbarlaw16.RobinPlays", spec := "robinPlays", unfollowed := true, recurses := true, apart := false, narrowed := true }
def RobinPlaysUptoSaid : Prop := robinPlaysUptoRow.holds Try.pinned (OpenSpec.upto robinPlaysSpec)

/-- 'tollbarlaw16.RobinBounds', WHERE WHAT IT READS IS OF BULK AT MOST 1048576: true; the input reads as it did. -/
def robinBoundsUptoRow : OpenClaim := { program := "yteffhomollmpdaa", sum := "104ee3871e07db6234985ea6b008b7003f8babae74c07f8124f58fc0a561c235", func := "tollbar/tollbarlaw16.RobinBounds", spec := "robinBounds", unfollowed := true, recurses := true, apart := false, narrowed := true }
def RobinBoundsUptoSaid : Prop := robinBoundsUptoRow.holds Try.pinned (OpenSpec.upto robinBoundsSpec)

/-- 'tollbarlaw16.RobinTurns', WHERE WHAT IT READS IS OF BULK AT MOST 1048576: true; the input reads as it did. -/
def robinTurnsUptoRow : OpenClaim := { program := "yteffhomollmpdaa", sum := "104ee3871e07db6234985ea6b008b7003f8babae74c07f8124f58fc0a561c235", func := "tollbar/tollbarlaw16.RobinTurns", spec := "robinTurns", unfollowed := true, recurses := true, apart := false, narrowed := true }
def RobinTurnsUptoSaid : Prop := robinTurnsUptoRow.holds Try.pinned (OpenSpec.upto robinTurnsSpec)

/-- 'tollbarlaw16.RobinNothing', WHERE WHAT IT READS IS OF BULK AT MOST 1048576: true; the input reads as it did. -/
def robinNothingUptoRow : OpenClaim := { program := "yteffhomollmpdaa", sum := "104ee3871e07db6234985ea6b008b7003f8babae74c07f8124f58fc0a561c235", func := "tollbar/tollbarlaw16.RobinNothing", spec := "robinNothing", unfollowed := true, recurses := true, apart := false, narrowed := true }
def RobinNothingUptoSaid : Prop := robinNothingUptoRow.holds Try.pinned (OpenSpec.upto robinNothingSpec)

/-- 'tollbarlaw16.RobinOrder', WHERE WHAT IT READS IS OF BULK AT MOST 1048576: true; the input reads as it did. -/
def robinOrderUptoRow : OpenClaim := { program := "yteffhomollmpdaa", sum := "104ee3871e07db6234985ea6b008b7003f8babae74c07f8124f58fc0a561c235", func := "tollbar/tollbarlaw16.RobinOrder", spec := "robinOrder", unfollowed := true, recurses := true, apart := false, narrowed := true }
def RobinOrderUptoSaid : Prop := robinOrderUptoRow.holds Try.pinned (OpenSpec.upto robinOrderSpec)

end Rows
end Go.Proofs.Yteffhomollmpdaa
