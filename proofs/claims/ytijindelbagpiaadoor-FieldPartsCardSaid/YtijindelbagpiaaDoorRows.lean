/-
  NARROWER THAN 'FOR EVERY INPUT', by the rows' own cells (each row's printed sentence says how): FieldParses: laid · FieldLooks: laid · FieldParts: laid · FieldSame: laid · FieldJoins: laid · FieldBack: laid · FieldBounds: laid · FrameRequests: laid · FrameResponses: laid · FrameBoth: laid · FrameNone: laid · FrameSizes: laid.
  DERIVED. THE GIVEN ROWS OF THIS SEAT. 12 by the template 'for every input the law returns true; each argument reads behind the call as it read before'; 0 by the template 'total and deterministic' (their statements: YtijindelbagpiaaDoorTotals.lean).
  GIVEN WITH THE SEED: the statements are not yours to turn. If you find one false, say at which input.
  Laid BY PROGRAM, IN A SANDBOX (cutbox-rows.mjs): the forced cells as the released guide's own fill.sh prints them over the translation e4a78e255ab312fb… (all of the seat's roots in one cut). By AI agents, Wed Nov 11 2026. No macro, syntax, notation, axiom, sorry.
-/
import Derived.Test.YtijindelbagpiaaDoorChecked
import GoSem.PinnedTables
import GoSem.Claim
import GoSem.ClaimJoined
import GoSem.ClaimMapViews
import Derived.JoinedTies
import Derived.KernelRfl
namespace Go.Proofs.YtijindelbagpiaaDoor
/- THE CELL 'sum', in the pinned program and in every row, IS THE sha256 OF THE DUMP (.gsa) THAT YtijindelbagpiaaDoorProg.lean LOADS. Nothing in Lean hashes anything: it is a label: what it is worth is what the hold of that sum in a sandbox is worth. -/
noncomputable def Tryd.pinned : Pinned := { name := "ytijindelbagpiaadoor", sum := "e4a78e255ab312fb6114c9993175393f28459305ce5d42adc89c4691a9f5cf3f", checked := Tryd.checked }
namespace Rows
def none {H : Type} : Left H := { results := [], args := [] }

/- WHAT THE LISTED PACKAGE-LEVEL VARIABLES READ AS WHEN THE CALL BEGINS. Each datum BY PROGRAM (the guide's laid-datum.mjs) off the statement by which the dump's own 'gosem.cut.vars' lays the variable. In a bare row this is a premise. The card (YtijindelbagpiaaDoorCards.lean) ties it to the program's text. -/
def laid_unicode_utf8_acceptRanges {H : Type} : DataW H := .agg [.agg [.lit (.int .u8 128), .lit (.int .u8 191)], .agg [.lit (.int .u8 160), .lit (.int .u8 191)], .agg [.lit (.int .u8 128), .lit (.int .u8 159)], .agg [.lit (.int .u8 144), .lit (.int .u8 191)], .agg [.lit (.int .u8 128), .lit (.int .u8 143)], .agg [.lit (.int .u8 0), .lit (.int .u8 0)], .agg [.lit (.int .u8 0), .lit (.int .u8 0)], .agg [.lit (.int .u8 0), .lit (.int .u8 0)], .agg [.lit (.int .u8 0), .lit (.int .u8 0)], .agg [.lit (.int .u8 0), .lit (.int .u8 0)], .agg [.lit (.int .u8 0), .lit (.int .u8 0)], .agg [.lit (.int .u8 0), .lit (.int .u8 0)], .agg [.lit (.int .u8 0), .lit (.int .u8 0)], .agg [.lit (.int .u8 0), .lit (.int .u8 0)], .agg [.lit (.int .u8 0), .lit (.int .u8 0)], .agg [.lit (.int .u8 0), .lit (.int .u8 0)]]
/-- One of Go's own tables, pinned by name: the form's constant. -/
def laid_unicode_utf8_first : DataW Unit := Go.Pinned.utf8First

/-- 'tollbarlaw04.FieldParses': WHATEVER THE INPUT: true; the input reads as it did. -/
def fieldParsesSpec : ChangeSpec := { name := "fieldParses", fn := fun _ => fun
  | [d] => { results := [.lit (.bool true)], args := [d] }
  | _ => none }
def fieldParsesRow : OpenClaim := { program := "ytijindelbagpiaadoor", sum := "e4a78e255ab312fb6114c9993175393f28459305ce5d42adc89c4691a9f5cf3f", func := "tollbar/tollbarlaw04.FieldParses", spec := "fieldParses", inPlace := ["internal/bytealg.IndexByteString", "internal/bytealg.IndexString"], unfollowed := true, recurses := true, named := ["internal/bytealg.MaxLen", "unicode/utf8.first", "unicode/utf8.acceptRanges"], apart := false, laid := [("unicode/utf8.acceptRanges", laid_unicode_utf8_acceptRanges), ("unicode/utf8.first", laid_unicode_utf8_first)] }
def FieldParsesSaid : Prop := fieldParsesRow.holds Tryd.pinned (OpenSpec.ofChange fieldParsesSpec)

/-- ITS FALSE NEIGHBOUR: 'it returns false'. Refute it at one input. -/
def fieldParsesWrong : ChangeSpec := { name := "fieldParses", fn := fun _ => fun
  | [d] => { results := [.lit (.bool false)], args := [d] }
  | _ => none }
def FieldParsesWrongFalsely : Prop := fieldParsesRow.holds Tryd.pinned (OpenSpec.ofChange fieldParsesWrong)

/-- 'tollbarlaw04.FieldLooks': WHATEVER THE INPUT: true; the input reads as it did. -/
def fieldLooksSpec : ChangeSpec := { name := "fieldLooks", fn := fun _ => fun
  | [d1, d2, d3] => { results := [.lit (.bool true)], args := [d1, d2, d3] }
  | _ => none }
def fieldLooksRow : OpenClaim := { program := "ytijindelbagpiaadoor", sum := "e4a78e255ab312fb6114c9993175393f28459305ce5d42adc89c4691a9f5cf3f", func := "tollbar/tollbarlaw04.FieldLooks", spec := "fieldLooks", inPlace := ["internal/bytealg.CountString", "internal/bytealg.IndexByteString", "internal/bytealg.IndexString"], unfollowed := true, recurses := true, named := ["unicode/utf8.first", "unicode/utf8.acceptRanges", "internal/bytealg.MaxLen"], apart := false, laid := [("unicode/utf8.acceptRanges", laid_unicode_utf8_acceptRanges), ("unicode/utf8.first", laid_unicode_utf8_first)] }
def FieldLooksSaid : Prop := fieldLooksRow.holds Tryd.pinned (OpenSpec.ofChange fieldLooksSpec)

/-- ITS FALSE NEIGHBOUR: 'it returns false'. Refute it at one input. -/
def fieldLooksWrong : ChangeSpec := { name := "fieldLooks", fn := fun _ => fun
  | [d1, d2, d3] => { results := [.lit (.bool false)], args := [d1, d2, d3] }
  | _ => none }
def FieldLooksWrongFalsely : Prop := fieldLooksRow.holds Tryd.pinned (OpenSpec.ofChange fieldLooksWrong)

/-- 'tollbarlaw04.FieldParts': WHATEVER THE INPUT: true; the input reads as it did. -/
def fieldPartsSpec : ChangeSpec := { name := "fieldParts", fn := fun _ => fun
  | [d1, d2] => { results := [.lit (.bool true)], args := [d1, d2] }
  | _ => none }
def fieldPartsRow : OpenClaim := { program := "ytijindelbagpiaadoor", sum := "e4a78e255ab312fb6114c9993175393f28459305ce5d42adc89c4691a9f5cf3f", func := "tollbar/tollbarlaw04.FieldParts", spec := "fieldParts", inPlace := ["internal/bytealg.CountString", "internal/bytealg.IndexByteString", "internal/bytealg.IndexString"], unfollowed := true, recurses := true, named := ["unicode/utf8.first", "unicode/utf8.acceptRanges", "internal/bytealg.MaxLen"], apart := false, laid := [("unicode/utf8.acceptRanges", laid_unicode_utf8_acceptRanges), ("unicode/utf8.first", laid_unicode_utf8_first)] }
def FieldPartsSaid : Prop := fieldPartsRow.holds Tryd.pinned (OpenSpec.ofChange fieldPartsSpec)

/-- ITS FALSE NEIGHBOUR: 'it returns false'. Refute it at one input. -/
def fieldPartsWrong : ChangeSpec := { name := "fieldParts", fn := fun _ => fun
  | [d1, d2] => { results := [.lit (.bool false)], args := [d1, d2] }
  | _ => none }
def FieldPartsWrongFalsely : Prop := fieldPartsRow.holds Tryd.pinned (OpenSpec.ofChange fieldPartsWrong)

/-- 'tollbarlaw04.FieldSame': WHATEVER THE INPUT: true; the input reads as it did. -/
def fieldSameSpec : ChangeSpec := { name := "fieldSame", fn := fun _ => fun
  | [d1, d2, d3] => { results := [.lit (.bool true)], args := [d1, d2, d3] }
  | _ => none }
def fieldSameRow : OpenClaim := { program := "ytijindelbagpiaadoor", sum := "e4a78e255ab312fb6114c9993175393f28459305ce5d42adc89c4691a9f5cf3f", func := "tollbar/tollbarlaw04.FieldSame", spec := "fieldSame", inPlace := ["internal/bytealg.CountString", "internal/bytealg.IndexByteString", "internal/bytealg.IndexString"], unfollowed := true, recurses := true, named := ["unicode/utf8.first", "unicode/utf8.acceptRanges", "internal/bytealg.MaxLen"], apart := false, laid := [("unicode/utf8.acceptRanges", laid_unicode_utf8_acceptRanges), ("unicode/utf8.first", laid_unicode_utf8_first)] }
def FieldSameSaid : Prop := fieldSameRow.holds Tryd.pinned (OpenSpec.ofChange fieldSameSpec)

/-- ITS FALSE NEIGHBOUR: 'it returns false'. Refute it at one input. -/
def fieldSameWrong : ChangeSpec := { name := "fieldSame", fn := fun _ => fun
  | [d1, d2, d3] => { results := [.lit (.bool false)], args := [d1, d2, d3] }
  | _ => none }
def FieldSameWrongFalsely : Prop := fieldSameRow.holds Tryd.pinned (OpenSpec.ofChange fieldSameWrong)

/-- 'tollbarlaw04.FieldJoins': WHATEVER THE INPUT: true; the input reads as it did. -/
def fieldJoinsSpec : ChangeSpec := { name := "fieldJoins", fn := fun _ => fun
  | [d1, d2, d3, d4] => { results := [.lit (.bool true)], args := [d1, d2, d3, d4] }
  | _ => none }
def fieldJoinsRow : OpenClaim := { program := "ytijindelbagpiaadoor", sum := "e4a78e255ab312fb6114c9993175393f28459305ce5d42adc89c4691a9f5cf3f", func := "tollbar/tollbarlaw04.FieldJoins", spec := "fieldJoins", inPlace := ["internal/bytealg.CountString", "internal/bytealg.IndexByteString", "internal/bytealg.IndexString"], unfollowed := true, recurses := true, named := ["unicode/utf8.first", "unicode/utf8.acceptRanges", "internal/bytealg.MaxLen"], apart := false, laid := [("unicode/utf8.acceptRanges", laid_unicode_utf8_acceptRanges), ("unicode/utf8.first", laid_unicode_utf8_first)] }
def FieldJoinsSaid : Prop := fieldJoinsRow.holds Tryd.pinned (OpenSpec.ofChange fieldJoinsSpec)

/-- ITS FALSE NEIGHBOUR: 'it returns false'. Refute it at one input. -/
def fieldJoinsWrong : ChangeSpec := { name := "fieldJoins", fn := fun _ => fun
  | [d1, d2, d3, d4] => { results := [.lit (.bool false)], args := [d1, d2, d3, d4] }
  | _ => none }
def FieldJoinsWrongFalsely : Prop := fieldJoinsRow.holds Tryd.pinned (OpenSpec.ofChange fieldJoinsWrong)

/-- 'tollbarlaw04.FieldBack': WHATEVER THE INPUT: true; the input reads as it did. -/
def fieldBackSpec : ChangeSpec := { name := "fieldBack", fn := fun _ => fun
  | [d] => { results := [.lit (.bool true)], args := [d] }
  | _ => none }
def fieldBackRow : OpenClaim := { program := "ytijindelbagpiaadoor", sum := "e4a78e255ab312fb6114c9993175393f28459305ce5d42adc89c4691a9f5cf3f", func := "tollbar/tollbarlaw04.FieldBack", spec := "fieldBack", inPlace := ["internal/bytealg.IndexByteString", "internal/bytealg.IndexString", "internal/bytealg.CountString"], unfollowed := true, recurses := true, named := ["internal/bytealg.MaxLen", "unicode/utf8.first", "unicode/utf8.acceptRanges"], apart := false, laid := [("unicode/utf8.acceptRanges", laid_unicode_utf8_acceptRanges), ("unicode/utf8.first", laid_unicode_utf8_first)] }
def FieldBackSaid : Prop := fieldBackRow.holds Tryd.pinned (OpenSpec.ofChange fieldBackSpec)

/-- ITS FALSE NEIGHBOUR: 'it returns false'. Refute it at one input. -/
def fieldBackWrong : ChangeSpec := { name := "fieldBack", fn := fun _ => fun
  | [d] => { results := [.lit (.bool false)], args := [d] }
  | _ => none }
def FieldBackWrongFalsely : Prop := fieldBackRow.holds Tryd.pinned (OpenSpec.ofChange fieldBackWrong)

/-- 'tollbarlaw04.FieldBounds': WHATEVER THE INPUT: true; the input reads as it did. -/
def fieldBoundsSpec : ChangeSpec := { name := "fieldBounds", fn := fun _ => fun
  | [d1, d2, d3] => { results := [.lit (.bool true)], args := [d1, d2, d3] }
  | _ => none }
def fieldBoundsRow : OpenClaim := { program := "ytijindelbagpiaadoor", sum := "e4a78e255ab312fb6114c9993175393f28459305ce5d42adc89c4691a9f5cf3f", func := "tollbar/tollbarlaw04.FieldBounds", spec := "fieldBounds", inPlace := ["internal/bytealg.IndexByteString", "internal/bytealg.IndexString", "internal/bytealg.CountString"], unfollowed := true, recurses := true, named := ["internal/bytealg.MaxLen", "unicode/utf8.first", "unicode/utf8.acceptRanges"], apart := false, laid := [("unicode/utf8.acceptRanges", laid_unicode_utf8_acceptRanges), ("unicode/utf8.first", laid_unicode_utf8_first)] }
def FieldBoundsSaid : Prop := fieldBoundsRow.holds Tryd.pinned (OpenSpec.ofChange fieldBoundsSpec)

/-- ITS FALSE NEIGHBOUR: 'it returns false'. Refute it at one input. -/
def fieldBoundsWrong : ChangeSpec := { name := "fieldBounds", fn := fun _ => fun
  | [d1, d2, d3] => { results := [.lit (.bool false)], args := [d1, d2, d3] }
  | _ => none }
def FieldBoundsWrongFalsely : Prop := fieldBoundsRow.holds Tryd.pinned (OpenSpec.ofChange fieldBoundsWrong)

/-- 'tollbarlaw07.FrameRequests': WHATEVER THE INPUT: true; the input reads as it did. -/
def frameRequestsSpec : ChangeSpec := { name := "frameRequests", fn := fun _ => fun
  | [d1, d2] => { results := [.lit (.bool true)], args := [d1, d2] }
  | _ => none }
def frameRequestsRow : OpenClaim := { program := "ytijindelbagpiaadoor", sum := "e4a78e255ab312fb6114c9993175393f28459305ce5d42adc89c4691a9f5cf3f", func := "tollbar/tollbarlaw07.FrameRequests", spec := "frameRequests", inPlace := ["internal/bytealg.CountString", "internal/bytealg.IndexByteString", "internal/bytealg.IndexString"], unfollowed := true, recurses := true, named := ["unicode/utf8.first", "unicode/utf8.acceptRanges", "internal/bytealg.MaxLen"], apart := false, laid := [("unicode/utf8.acceptRanges", laid_unicode_utf8_acceptRanges), ("unicode/utf8.first", laid_unicode_utf8_first)] }
def FrameRequestsSaid : Prop := frameRequestsRow.holds Tryd.pinned (OpenSpec.ofChange frameRequestsSpec)

/-- ITS FALSE NEIGHBOUR: 'it returns false'. Refute it at one input. -/
def frameRequestsWrong : ChangeSpec := { name := "frameRequests", fn := fun _ => fun
  | [d1, d2] => { results := [.lit (.bool false)], args := [d1, d2] }
  | _ => none }
def FrameRequestsWrongFalsely : Prop := frameRequestsRow.holds Tryd.pinned (OpenSpec.ofChange frameRequestsWrong)

/-- 'tollbarlaw07.FrameResponses': WHATEVER THE INPUT: true; the input reads as it did. -/
def frameResponsesSpec : ChangeSpec := { name := "frameResponses", fn := fun _ => fun
  | [d1, d2] => { results := [.lit (.bool true)], args := [d1, d2] }
  | _ => none }
def frameResponsesRow : OpenClaim := { program := "ytijindelbagpiaadoor", sum := "e4a78e255ab312fb6114c9993175393f28459305ce5d42adc89c4691a9f5cf3f", func := "tollbar/tollbarlaw07.FrameResponses", spec := "frameResponses", inPlace := ["internal/bytealg.CountString", "internal/bytealg.IndexByteString", "internal/bytealg.IndexString"], unfollowed := true, recurses := true, named := ["unicode/utf8.first", "unicode/utf8.acceptRanges", "internal/bytealg.MaxLen"], apart := false, laid := [("unicode/utf8.acceptRanges", laid_unicode_utf8_acceptRanges), ("unicode/utf8.first", laid_unicode_utf8_first)] }
def FrameResponsesSaid : Prop := frameResponsesRow.holds Tryd.pinned (OpenSpec.ofChange frameResponsesSpec)

/-- ITS FALSE NEIGHBOUR: 'it returns false'. Refute it at one input. -/
def frameResponsesWrong : ChangeSpec := { name := "frameResponses", fn := fun _ => fun
  | [d1, d2] => { results := [.lit (.bool false)], args := [d1, d2] }
  | _ => none }
def FrameResponsesWrongFalsely : Prop := frameResponsesRow.holds Tryd.pinned (OpenSpec.ofChange frameResponsesWrong)

/-- 'tollbarlaw07.FrameBoth': WHATEVER THE INPUT: true; the input reads as it did. -/
def frameBothSpec : ChangeSpec := { name := "frameBoth", fn := fun _ => fun
  | [d1, d2, d3, d4] => { results := [.lit (.bool true)], args := [d1, d2, d3, d4] }
  | _ => none }
def frameBothRow : OpenClaim := { program := "ytijindelbagpiaadoor", sum := "e4a78e255ab312fb6114c9993175393f28459305ce5d42adc89c4691a9f5cf3f", func := "tollbar/tollbarlaw07.FrameBoth", spec := "frameBoth", inPlace := ["internal/bytealg.CountString", "internal/bytealg.IndexByteString", "internal/bytealg.IndexString"], unfollowed := true, recurses := true, named := ["unicode/utf8.first", "unicode/utf8.acceptRanges", "internal/bytealg.MaxLen"], apart := false, laid := [("unicode/utf8.acceptRanges", laid_unicode_utf8_acceptRanges), ("unicode/utf8.first", laid_unicode_utf8_first)] }
def FrameBothSaid : Prop := frameBothRow.holds Tryd.pinned (OpenSpec.ofChange frameBothSpec)

/-- ITS FALSE NEIGHBOUR: 'it returns false'. Refute it at one input. -/
def frameBothWrong : ChangeSpec := { name := "frameBoth", fn := fun _ => fun
  | [d1, d2, d3, d4] => { results := [.lit (.bool false)], args := [d1, d2, d3, d4] }
  | _ => none }
def FrameBothWrongFalsely : Prop := frameBothRow.holds Tryd.pinned (OpenSpec.ofChange frameBothWrong)

/-- 'tollbarlaw07.FrameNone': WHATEVER THE INPUT: true; the input reads as it did. -/
def frameNoneSpec : ChangeSpec := { name := "frameNone", fn := fun _ => fun
  | [d1, d2, d3] => { results := [.lit (.bool true)], args := [d1, d2, d3] }
  | _ => none }
def frameNoneRow : OpenClaim := { program := "ytijindelbagpiaadoor", sum := "e4a78e255ab312fb6114c9993175393f28459305ce5d42adc89c4691a9f5cf3f", func := "tollbar/tollbarlaw07.FrameNone", spec := "frameNone", inPlace := ["internal/bytealg.CountString", "internal/bytealg.IndexByteString", "internal/bytealg.IndexString"], unfollowed := true, recurses := true, named := ["unicode/utf8.first", "unicode/utf8.acceptRanges", "internal/bytealg.MaxLen"], apart := false, laid := [("unicode/utf8.acceptRanges", laid_unicode_utf8_acceptRanges), ("unicode/utf8.first", laid_unicode_utf8_first)] }
def FrameNoneSaid : Prop := frameNoneRow.holds Tryd.pinned (OpenSpec.ofChange frameNoneSpec)

/-- ITS FALSE NEIGHBOUR: 'it returns false'. Refute it at one input. -/
def frameNoneWrong : ChangeSpec := { name := "frameNone", fn := fun _ => fun
  | [d1, d2, d3] => { results := [.lit (.bool false)], args := [d1, d2, d3] }
  | _ => none }
def FrameNoneWrongFalsely : Prop := frameNoneRow.holds Tryd.pinned (OpenSpec.ofChange frameNoneWrong)

/-- 'tollbarlaw07.FrameSizes': WHATEVER THE INPUT: true; the input reads as it did. -/
def frameSizesSpec : ChangeSpec := { name := "frameSizes", fn := fun _ => fun
  | [d1, d2, d3, d4] => { results := [.lit (.bool true)], args := [d1, d2, d3, d4] }
  | _ => none }
def frameSizesRow : OpenClaim := { program := "ytijindelbagpiaadoor", sum := "e4a78e255ab312fb6114c9993175393f28459305ce5d42adc89c4691a9f5cf3f", func := "tollbar/tollbarlaw07.FrameSizes", spec := "frameSizes", inPlace := ["internal/bytealg.CountString", "internal/bytealg.IndexByteString", "internal/bytealg.IndexString"], unfollowed := true, recurses := true, named := ["unicode/utf8.first", "unicode/utf8.acceptRanges", "internal/bytealg.MaxLen"], apart := false, laid := [("unicode/utf8.acceptRanges", laid_unicode_utf8_acceptRanges), ("unicode/utf8.first", laid_unicode_utf8_first)] }
def FrameSizesSaid : Prop := frameSizesRow.holds Tryd.pinned (OpenSpec.ofChange frameSizesSpec)

/-- ITS FALSE NEIGHBOUR: 'it returns false'. Refute it at one input. -/
def frameSizesWrong : ChangeSpec := { name := "frameSizes", fn := fun _ => fun
  | [d1, d2, d3, d4] => { results := [.lit (.bool false)], args := [d1, d2, d3, d4] }
  | _ => none }
def FrameSizesWrongFalsely : Prop := frameSizesRow.holds Tryd.pinned (OpenSpec.ofChange frameSizesWrong)

/- THE SECOND FORM. 'bulk': how many values and letters a reading holds, each counted each time it is reached (what is shared counts as often as it is met; a slice's spare places count too). A statement '..UptoSaid' is the law's where the arguments, and the package variables that the reading takes, are together of bulk at most 1048576: NARROWER than '..Said'. Prove '..Said' where nothing that the law and all that it calls make is longer than what came in: it says more and counts as full. Else prove '..UptoSaid'. A law counts once. -/
mutual
def uptoBulk {H : Type} : DataW H → Nat
  | .lit (.string bytes) => bytes.length + 1
  | .lit _ => 1
  | .nil => 1
  | .ptr d => uptoBulk d + 1
  | .slice elems spare => uptoBulkAll elems + uptoBulkAll spare + 1
  | .agg parts => uptoBulkAll parts + 1
  | .iface _ d => uptoBulk d + 1
  | .map entries => uptoBulkEntries entries + 1
  | .held _ => 1
def uptoBulkAll {H : Type} : List (DataW H) → Nat
  | [] => 0
  | d :: r => uptoBulk d + uptoBulkAll r
def uptoBulkEntries {H : Type} : List (Lit × DataW H) → Nat
  | [] => 0
  | x :: r => uptoBulkEntry x + uptoBulkEntries r
def uptoBulkEntry {H : Type} : Lit × DataW H → Nat
  | (.string bytes, d) => bytes.length + uptoBulk d + 1
  | (_, d) => uptoBulk d + 1
 end
def uptoSmall : (H : Type) → List (DataW H) → Bool := fun _ ds => decide (uptoBulkAll ds ≤ 1048576)
def OpenSpec.upto (s : _root_.Go.ChangeSpec) : _root_.Go.OpenSpec := { _root_.Go.OpenSpec.ofChange s with cond := some uptoSmall }

/-- 'tollbarlaw04.FieldParses', WHERE WHAT IT READS IS OF BULK AT MOST 1048576: true; the input reads as it did. -/
def fieldParsesUptoRow : OpenClaim := { program := "ytijindelbagpiaadoor", sum := "e4a78e255ab312fb6114c9993175393f28459305ce5d42adc89c4691a9f5cf3f", func := "tollbar/tollbarlaw04.FieldParses", spec := "fieldParses", inPlace := ["internal/bytealg.IndexByteString", "internal/bytealg.IndexString"], unfollowed := true, recurses := true, named := ["internal/bytealg.MaxLen", "unicode/utf8.first", "unicode/utf8.acceptRanges"], apart := false, laid := [("unicode/utf8.acceptRanges", laid_unicode_utf8_acceptRanges), ("unicode/utf8.first", laid_unicode_utf8_first)], narrowed := true }
def FieldParsesUptoSaid : Prop := fieldParsesUptoRow.holds Tryd.pinned (OpenSpec.upto fieldParsesSpec)

/-- 'tollbarlaw04.FieldLooks', WHERE WHAT IT READS IS OF BULK AT MOST 1048576: true; the input reads as it did. -/
def fieldLooksUptoRow : OpenClaim := { program := "ytijindelbagpiaadoor", sum := "e4a78e255ab312fb6114c9993175393f28459305ce5d42adc89c4691a9f5cf3f", func := "tollbar/tollbarlaw04.FieldLooks", spec := "fieldLooks", inPlace := ["internal/bytealg.CountString", "internal/bytealg.IndexByteString", "internal/bytealg.IndexString"], unfollowed := true, recurses := true, named := ["unicode/utf8.first", "unicode/utf8.acceptRanges", "internal/bytealg.MaxLen"], apart := false, laid := [("unicode/utf8.acceptRanges", laid_unicode_utf8_acceptRanges), ("unicode/utf8.first", laid_unicode_utf8_first)], narrowed := true }
def FieldLooksUptoSaid : Prop := fieldLooksUptoRow.holds Tryd.pinned (OpenSpec.upto fieldLooksSpec)

/-- 'tollbarlaw04.FieldParts', WHERE WHAT IT READS IS OF BULK AT MOST 1048576: true; the input reads as it did. -/
def fieldPartsUptoRow : OpenClaim := { program := "ytijindelbagpiaadoor", sum := "e4a78e255ab312fb6114c9993175393f28459305ce5d42adc89c4691a9f5cf3f", func := "tollbar/tollbarlaw04.FieldParts", spec := "fieldParts", inPlace := ["internal/bytealg.CountString", "internal/bytealg.IndexByteString", "internal/bytealg.IndexString"], unfollowed := true, recurses := true, named := ["unicode/utf8.first", "unicode/utf8.acceptRanges", "internal/bytealg.MaxLen"], apart := false, laid := [("unicode/utf8.acceptRanges", laid_unicode_utf8_acceptRanges), ("unicode/utf8.first", laid_unicode_utf8_first)], narrowed := true }
def FieldPartsUptoSaid : Prop := fieldPartsUptoRow.holds Tryd.pinned (OpenSpec.upto fieldPartsSpec)

/-- 'tollbarlaw04.FieldSame', WHERE WHAT IT READS IS OF BULK AT MOST 1048576: true; the input reads as it did. -/
def fieldSameUptoRow : OpenClaim := { program := "ytijindelbagpiaadoor", sum := "e4a78e255ab312fb6114c9993175393f28459305ce5d42adc89c4691a9f5cf3f", func := "tollbar/tollbarlaw04.FieldSame", spec := "fieldSame", inPlace := ["internal/bytealg.CountString", "internal/bytealg.IndexByteString", "internal/bytealg.IndexString"], unfollowed := true, recurses := true, named := ["unicode/utf8.first", "unicode/utf8.acceptRanges", "internal/bytealg.MaxLen"], apart := false, laid := [("unicode/utf8.acceptRanges", laid_unicode_utf8_acceptRanges), ("unicode/utf8.first", laid_unicode_utf8_first)], narrowed := true }
def FieldSameUptoSaid : Prop := fieldSameUptoRow.holds Tryd.pinned (OpenSpec.upto fieldSameSpec)

/-- 'tollbarlaw04.FieldJoins', WHERE WHAT IT READS IS OF BULK AT MOST 1048576: true; the input reads as it did. -/
def fieldJoinsUptoRow : OpenClaim := { program := "ytijindelbagpiaadoor", sum := "e4a78e255ab312fb6114c9993175393f28459305ce5d42adc89c4691a9f5cf3f", func := "tollbar/tollbarlaw04.FieldJoins", spec := "fieldJoins", inPlace := ["internal/bytealg.CountString", "internal/bytealg.IndexByteString", "internal/bytealg.IndexString"], unfollowed := true, recurses := true, named := ["unicode/utf8.first", "unicode/utf8.acceptRanges", "internal/bytealg.MaxLen"], apart := false, laid := [("unicode/utf8.acceptRanges", laid_unicode_utf8_acceptRanges), ("unicode/utf8.first", laid_unicode_utf8_first)], narrowed := true }
def FieldJoinsUptoSaid : Prop := fieldJoinsUptoRow.holds Tryd.pinned (OpenSpec.upto fieldJoinsSpec)

/-- 'tollbarlaw04.FieldBack', WHERE WHAT IT READS IS OF BULK AT MOST 1048576: true; the input reads as it did. -/
def fieldBackUptoRow : OpenClaim := { program := "ytijindelbagpiaadoor", sum := "e4a78e255ab312fb6114c9993175393f28459305ce5d42adc89c4691a9f5cf3f", func := "tollbar/tollbarlaw04.FieldBack", spec := "fieldBack", inPlace := ["internal/bytealg.IndexByteString", "internal/bytealg.IndexString", "internal/bytealg.CountString"], unfollowed := true, recurses := true, named := ["internal/bytealg.MaxLen", "unicode/utf8.first", "unicode/utf8.acceptRanges"], apart := false, laid := [("unicode/utf8.acceptRanges", laid_unicode_utf8_acceptRanges), ("unicode/utf8.first", laid_unicode_utf8_first)], narrowed := true }
def FieldBackUptoSaid : Prop := fieldBackUptoRow.holds Tryd.pinned (OpenSpec.upto fieldBackSpec)

/-- 'tollbarlaw04.FieldBounds', WHERE WHAT IT READS IS OF BULK AT MOST 1048576: true; the input reads as it did. -/
def fieldBoundsUptoRow : OpenClaim := { program := "ytijindelbagpiaadoor", sum := "e4a78e255ab312fb6114c9993175393f28459305ce5d42adc89c4691a9f5cf3f", func := "tollbar/tollbarlaw04.FieldBounds", spec := "fieldBounds", inPlace := ["internal/bytealg.IndexByteString", "internal/bytealg.IndexString", "internal/bytealg.CountString"], unfollowed := true, recurses := true, named := ["internal/bytealg.MaxLen", "unicode/utf8.first", "unicode/utf8.acceptRanges"], apart := false, laid := [("unicode/utf8.acceptRanges", laid_unicode_utf8_acceptRanges), ("unicode/utf8.first", laid_unicode_utf8_first)], narrowed := true }
def FieldBoundsUptoSaid : Prop := fieldBoundsUptoRow.holds Tryd.pinned (OpenSpec.upto fieldBoundsSpec)

/-- 'tollbarlaw07.FrameRequests', WHERE WHAT IT READS IS OF BULK AT MOST 1048576: true; the input reads as it did. -/
def frameRequestsUptoRow : OpenClaim := { program := "ytijindelbagpiaadoor", sum := "e4a78e255ab312fb6114c9993175393f28459305ce5d42adc89c4691a9f5cf3f", func := "tollbar/tollbarlaw07.FrameRequests", spec := "frameRequests", inPlace := ["internal/bytealg.CountString", "internal/bytealg.IndexByteString", "internal/bytealg.IndexString"], unfollowed := true, recurses := true, named := ["unicode/utf8.first", "unicode/utf8.acceptRanges", "internal/bytealg.MaxLen"], apart := false, laid := [("unicode/utf8.acceptRanges", laid_unicode_utf8_acceptRanges), ("unicode/utf8.first", laid_unicode_utf8_first)], narrowed := true }
def FrameRequestsUptoSaid : Prop := frameRequestsUptoRow.holds Tryd.pinned (OpenSpec.upto frameRequestsSpec)

/-- 'tollbarlaw07.FrameResponses', WHERE WHAT IT READS IS OF BULK AT MOST 1048576: true; the input reads as it did. -/
def frameResponsesUptoRow : OpenClaim := { program := "ytijindelbagpiaadoor", sum := "e4a78e255ab312fb6114c9993175393f28459305ce5d42adc89c4691a9f5cf3f", func := "tollbar/tollbarlaw07.FrameResponses", spec := "frameResponses", inPlace := ["internal/bytealg.CountString", "internal/bytealg.IndexByteString", "internal/bytealg.IndexString"], unfollowed := true, recurses := true, named := ["unicode/utf8.first", "unicode/utf8.acceptRanges", "internal/bytealg.MaxLen"], apart := false, laid := [("unicode/utf8.acceptRanges", laid_unicode_utf8_acceptRanges), ("unicode/utf8.first", laid_unicode_utf8_first)], narrowed := true }
def FrameResponsesUptoSaid : Prop := frameResponsesUptoRow.holds Tryd.pinned (OpenSpec.upto frameResponsesSpec)

/-- 'tollbarlaw07.FrameBoth', WHERE WHAT IT READS IS OF BULK AT MOST 1048576: true; the input reads as it did. -/
def frameBothUptoRow : OpenClaim := { program := "ytijindelbagpiaadoor", sum := "e4a78e255ab312fb6114c9993175393f28459305ce5d42adc89c4691a9f5cf3f", func := "tollbar/tollbarlaw07.FrameBoth", spec := "frameBoth", inPlace := ["internal/bytealg.CountString", "internal/bytealg.IndexByteString", "internal/bytealg.IndexString"], unfollowed := true, recurses := true, named := ["unicode/utf8.first", "unicode/utf8.acceptRanges", "internal/bytealg.MaxLen"], apart := false, laid := [("unicode/utf8.acceptRanges", laid_unicode_utf8_acceptRanges), ("unicode/utf8.first", laid_unicode_utf8_first)], narrowed := true }
def FrameBothUptoSaid : Prop := frameBothUptoRow.holds Tryd.pinned (OpenSpec.upto frameBothSpec)

/-- 'tollbarlaw07.FrameNone', WHERE WHAT IT READS IS OF BULK AT MOST 1048576: true; the input reads as it did. -/
def frameNoneUptoRow : OpenClaim := { program := "ytijindelbagpiaadoor", sum := "e4a78e255ab312fb6114c9993175393f28459305ce5d42adc89c4691a9f5cf3f", func := "tollbar/tollbarlaw07.FrameNone", spec := "frameNone", inPlace := ["internal/bytealg.CountString", "internal/bytealg.IndexByteString", "internal/bytealg.IndexString"], unfollowed := true, recurses := true, named := ["unicode/utf8.first", "unicode/utf8.acceptRanges", "internal/bytealg.MaxLen"], apart := false, laid := [("unicode/utf8.acceptRanges", laid_unicode_utf8_acceptRanges), ("unicode/utf8.first", laid_unicode_utf8_first)], narrowed := true }
def FrameNoneUptoSaid : Prop := frameNoneUptoRow.holds Tryd.pinned (OpenSpec.upto frameNoneSpec)

/-- 'tollbarlaw07.FrameSizes', WHERE WHAT IT READS IS OF BULK AT MOST 1048576: true; the input reads as it did. -/
def frameSizesUptoRow : OpenClaim := { program := "ytijindelbagpiaadoor", sum := "e4a78e255ab312fb6114c9993175393f28459305ce5d42adc89c4691a9f5cf3f", func := "tollbar/tollbarlaw07.FrameSizes", spec := "frameSizes", inPlace := ["internal/bytealg.CountString", "internal/bytealg.IndexByteString", "internal/bytealg.IndexString"], unfollowed := true, recurses := true, named := ["unicode/utf8.first", "unicode/utf8.acceptRanges", "internal/bytealg.MaxLen"], apart := false, laid := [("unicode/utf8.acceptRanges", laid_unicode_utf8_acceptRanges), ("unicode/utf8.first", laid_unicode_utf8_first)], narrowed := true }
def FrameSizesUptoSaid : Prop := frameSizesUptoRow.holds Tryd.pinned (OpenSpec.upto frameSizesSpec)

end Rows
end Go.Proofs.YtijindelbagpiaaDoor
