/-
  DERIVED. GIVEN WITH THE SEED: THE CARDS: each row of YtijindelbagpiaaDoorRows.lean that lists a variable, with what it lists TIED to the program's text (the seventh form; the later family's looks); each row that meets fmt, with fmt's text TOLD by the authors' own Lean function (tested against real Go, not proved from fmt's source: count such statements apart). THE CARD IS WHAT COUNTS. Prove the row's statement (the work); the ties are given (YtijindelbagpiaaDoorTie.lean); close each card by the builder's one call (the guide's Derived/Test/ToyasCard.lean, 'card_holds'). Laid BY PROGRAM, IN A SANDBOX (cutbox-door.mjs). By AI agents, Wed Nov 11 2026. No macro, syntax, notation, axiom, sorry.
-/
import Derived.Test.YtijindelbagpiaaDoorRows
import GoSem.ClaimSeven
namespace Go.Proofs.YtijindelbagpiaaDoor
namespace Rows

/-- THE TIED CARD OF 'tollbarlaw04.FieldParses'. -/
def fieldParsesCard : Claim7 := { stood := { row := fieldParsesRow, standIns := [], harness := (true, "7573ee317338763bd15823681f6413a4110d60b8d1697ced93e1540f879d7029"), looks := false }, kinds := [], alts := [], laidByText := true, laidKinds := [.data, .pinned], laidTests := true, laidLooks := .later }
def FieldParsesCardSaid : Prop := Claim7.holds Tryd.pinned (.plain (OpenSpec.ofChange fieldParsesSpec)) fieldParsesCard

/-- THE TIED CARD OF 'tollbarlaw04.FieldLooks'. -/
def fieldLooksCard : Claim7 := { stood := { row := fieldLooksRow, standIns := [], harness := (true, "7573ee317338763bd15823681f6413a4110d60b8d1697ced93e1540f879d7029"), looks := false }, kinds := [], alts := [], laidByText := true, laidKinds := [.data, .pinned], laidTests := true, laidLooks := .later }
def FieldLooksCardSaid : Prop := Claim7.holds Tryd.pinned (.plain (OpenSpec.ofChange fieldLooksSpec)) fieldLooksCard

/-- THE TIED CARD OF 'tollbarlaw04.FieldParts'. -/
def fieldPartsCard : Claim7 := { stood := { row := fieldPartsRow, standIns := [], harness := (true, "7573ee317338763bd15823681f6413a4110d60b8d1697ced93e1540f879d7029"), looks := false }, kinds := [], alts := [], laidByText := true, laidKinds := [.data, .pinned], laidTests := true, laidLooks := .later }
def FieldPartsCardSaid : Prop := Claim7.holds Tryd.pinned (.plain (OpenSpec.ofChange fieldPartsSpec)) fieldPartsCard

/-- THE TIED CARD OF 'tollbarlaw04.FieldSame'. -/
def fieldSameCard : Claim7 := { stood := { row := fieldSameRow, standIns := [], harness := (true, "7573ee317338763bd15823681f6413a4110d60b8d1697ced93e1540f879d7029"), looks := false }, kinds := [], alts := [], laidByText := true, laidKinds := [.data, .pinned], laidTests := true, laidLooks := .later }
def FieldSameCardSaid : Prop := Claim7.holds Tryd.pinned (.plain (OpenSpec.ofChange fieldSameSpec)) fieldSameCard

/-- THE TIED CARD OF 'tollbarlaw04.FieldJoins'. -/
def fieldJoinsCard : Claim7 := { stood := { row := fieldJoinsRow, standIns := [], harness := (true, "7573ee317338763bd15823681f6413a4110d60b8d1697ced93e1540f879d7029"), looks := false }, kinds := [], alts := [], laidByText := true, laidKinds := [.data, .pinned], laidTests := true, laidLooks := .later }
def FieldJoinsCardSaid : Prop := Claim7.holds Tryd.pinned (.plain (OpenSpec.ofChange fieldJoinsSpec)) fieldJoinsCard

/-- THE TIED CARD OF 'tollbarlaw04.FieldBack'. -/
def fieldBackCard : Claim7 := { stood := { row := fieldBackRow, standIns := [], harness := (true, "7573ee317338763bd15823681f6413a4110d60b8d1697ced93e1540f879d7029"), looks := false }, kinds := [], alts := [], laidByText := true, laidKinds := [.data, .pinned], laidTests := true, laidLooks := .later }
def FieldBackCardSaid : Prop := Claim7.holds Tryd.pinned (.plain (OpenSpec.ofChange fieldBackSpec)) fieldBackCard

/-- THE TIED CARD OF 'tollbarlaw04.FieldBounds'. -/
def fieldBoundsCard : Claim7 := { stood := { row := fieldBoundsRow, standIns := [], harness := (true, "7573ee317338763bd15823681f6413a4110d60b8d1697ced93e1540f879d7029"), looks := false }, kinds := [], alts := [], laidByText := true, laidKinds := [.data, .pinned], laidTests := true, laidLooks := .later }
def FieldBoundsCardSaid : Prop := Claim7.holds Tryd.pinned (.plain (OpenSpec.ofChange fieldBoundsSpec)) fieldBoundsCard

/-- THE TIED CARD OF 'tollbarlaw07.FrameRequests'. -/
def frameRequestsCard : Claim7 := { stood := { row := frameRequestsRow, standIns := [], harness := (true, "7573ee317338763bd15823681f6413a4110d60b8d1697ced93e1540f879d7029"), looks := false }, kinds := [], alts := [], laidByText := true, laidKinds := [.data, .pinned], laidTests := true, laidLooks := .later }
def FrameRequestsCardSaid : Prop := Claim7.holds Tryd.pinned (.plain (OpenSpec.ofChange frameRequestsSpec)) frameRequestsCard

/-- THE TIED CARD OF 'tollbarlaw07.FrameResponses'. -/
def frameResponsesCard : Claim7 := { stood := { row := frameResponsesRow, standIns := [], harness := (true, "7573ee317338763bd15823681f6413a4110d60b8d1697ced93e1540f879d7029"), looks := false }, kinds := [], alts := [], laidByText := true, laidKinds := [.data, .pinned], laidTests := true, laidLooks := .later }
def FrameResponsesCardSaid : Prop := Claim7.holds Tryd.pinned (.plain (OpenSpec.ofChange frameResponsesSpec)) frameResponsesCard

/-- THE TIED CARD OF 'tollbarlaw07.FrameBoth'. -/
def frameBothCard : Claim7 := { stood := { row := frameBothRow, standIns := [], harness := (true, "7573ee317338763bd15823681f6413a4110d60b8d1697ced93e1540f879d7029"), looks := false }, kinds := [], alts := [], laidByText := true, laidKinds := [.data, .pinned], laidTests := true, laidLooks := .later }
def FrameBothCardSaid : Prop := Claim7.holds Tryd.pinned (.plain (OpenSpec.ofChange frameBothSpec)) frameBothCard

/-- THE TIED CARD OF 'tollbarlaw07.FrameNone'. -/
def frameNoneCard : Claim7 := { stood := { row := frameNoneRow, standIns := [], harness := (true, "7573ee317338763bd15823681f6413a4110d60b8d1697ced93e1540f879d7029"), looks := false }, kinds := [], alts := [], laidByText := true, laidKinds := [.data, .pinned], laidTests := true, laidLooks := .later }
def FrameNoneCardSaid : Prop := Claim7.holds Tryd.pinned (.plain (OpenSpec.ofChange frameNoneSpec)) frameNoneCard

/-- THE TIED CARD OF 'tollbarlaw07.FrameSizes'. -/
def frameSizesCard : Claim7 := { stood := { row := frameSizesRow, standIns := [], harness := (true, "7573ee317338763bd15823681f6413a4110d60b8d1697ced93e1540f879d7029"), looks := false }, kinds := [], alts := [], laidByText := true, laidKinds := [.data, .pinned], laidTests := true, laidLooks := .later }
def FrameSizesCardSaid : Prop := Claim7.holds Tryd.pinned (.plain (OpenSpec.ofChange frameSizesSpec)) frameSizesCard

/-- THE SECOND FORM's CARD OF 'tollbarlaw04.FieldParses'. -/
def fieldParsesUptoCard : Claim7 := { stood := { row := fieldParsesUptoRow, standIns := [], harness := (true, "7573ee317338763bd15823681f6413a4110d60b8d1697ced93e1540f879d7029"), looks := false }, kinds := [], alts := [], laidByText := true, laidKinds := [.data, .pinned], laidTests := true, laidLooks := .later }
def FieldParsesUptoCardSaid : Prop := Claim7.holds Tryd.pinned (.plain (OpenSpec.upto fieldParsesSpec)) fieldParsesUptoCard

/-- THE SECOND FORM's CARD OF 'tollbarlaw04.FieldLooks'. -/
def fieldLooksUptoCard : Claim7 := { stood := { row := fieldLooksUptoRow, standIns := [], harness := (true, "7573ee317338763bd15823681f6413a4110d60b8d1697ced93e1540f879d7029"), looks := false }, kinds := [], alts := [], laidByText := true, laidKinds := [.data, .pinned], laidTests := true, laidLooks := .later }
def FieldLooksUptoCardSaid : Prop := Claim7.holds Tryd.pinned (.plain (OpenSpec.upto fieldLooksSpec)) fieldLooksUptoCard

/-- THE SECOND FORM's CARD OF 'tollbarlaw04.FieldParts'. -/
def fieldPartsUptoCard : Claim7 := { stood := { row := fieldPartsUptoRow, standIns := [], harness := (true, "7573ee317338763bd15823681f6413a4110d60b8d1697ced93e1540f879d7029"), looks := false }, kinds := [], alts := [], laidByText := true, laidKinds := [.data, .pinned], laidTests := true, laidLooks := .later }
def FieldPartsUptoCardSaid : Prop := Claim7.holds Tryd.pinned (.plain (OpenSpec.upto fieldPartsSpec)) fieldPartsUptoCard

/-- THE SECOND FORM's CARD OF 'tollbarlaw04.FieldSame'. -/
def fieldSameUptoCard : Claim7 := { stood := { row := fieldSameUptoRow, standIns := [], harness := (true, "7573ee317338763bd15823681f6413a4110d60b8d1697ced93e1540f879d7029"), looks := false }, kinds := [], alts := [], laidByText := true, laidKinds := [.data, .pinned], laidTests := true, laidLooks := .later }
def FieldSameUptoCardSaid : Prop := Claim7.holds Tryd.pinned (.plain (OpenSpec.upto fieldSameSpec)) fieldSameUptoCard

/-- THE SECOND FORM's CARD OF 'tollbarlaw04.FieldJoins'. -/
def fieldJoinsUptoCard : Claim7 := { stood := { row := fieldJoinsUptoRow, standIns := [], harness := (true, "7573ee317338763bd15823681f6413a4110d60b8d1697ced93e1540f879d7029"), looks := false }, kinds := [], alts := [], laidByText := true, laidKinds := [.data, .pinned], laidTests := true, laidLooks := .later }
def FieldJoinsUptoCardSaid : Prop := Claim7.holds Tryd.pinned (.plain (OpenSpec.upto fieldJoinsSpec)) fieldJoinsUptoCard

/-- THE SECOND FORM's CARD OF 'tollbarlaw04.FieldBack'. -/
def fieldBackUptoCard : Claim7 := { stood := { row := fieldBackUptoRow, standIns := [], harness := (true, "7573ee317338763bd15823681f6413a4110d60b8d1697ced93e1540f879d7029"), looks := false }, kinds := [], alts := [], laidByText := true, laidKinds := [.data, .pinned], laidTests := true, laidLooks := .later }
def FieldBackUptoCardSaid : Prop := Claim7.holds Tryd.pinned (.plain (OpenSpec.upto fieldBackSpec)) fieldBackUptoCard

/-- THE SECOND FORM's CARD OF 'tollbarlaw04.FieldBounds'. -/
def fieldBoundsUptoCard : Claim7 := { stood := { row := fieldBoundsUptoRow, standIns := [], harness := (true, "7573ee317338763bd15823681f6413a4110d60b8d1697ced93e1540f879d7029"), looks := false }, kinds := [], alts := [], laidByText := true, laidKinds := [.data, .pinned], laidTests := true, laidLooks := .later }
def FieldBoundsUptoCardSaid : Prop := Claim7.holds Tryd.pinned (.plain (OpenSpec.upto fieldBoundsSpec)) fieldBoundsUptoCard

/-- THE SECOND FORM's CARD OF 'tollbarlaw07.FrameRequests'. -/
def frameRequestsUptoCard : Claim7 := { stood := { row := frameRequestsUptoRow, standIns := [], harness := (true, "7573ee317338763bd15823681f6413a4110d60b8d1697ced93e1540f879d7029"), looks := false }, kinds := [], alts := [], laidByText := true, laidKinds := [.data, .pinned], laidTests := true, laidLooks := .later }
def FrameRequestsUptoCardSaid : Prop := Claim7.holds Tryd.pinned (.plain (OpenSpec.upto frameRequestsSpec)) frameRequestsUptoCard

/-- THE SECOND FORM's CARD OF 'tollbarlaw07.FrameResponses'. -/
def frameResponsesUptoCard : Claim7 := { stood := { row := frameResponsesUptoRow, standIns := [], harness := (true, "7573ee317338763bd15823681f6413a4110d60b8d1697ced93e1540f879d7029"), looks := false }, kinds := [], alts := [], laidByText := true, laidKinds := [.data, .pinned], laidTests := true, laidLooks := .later }
def FrameResponsesUptoCardSaid : Prop := Claim7.holds Tryd.pinned (.plain (OpenSpec.upto frameResponsesSpec)) frameResponsesUptoCard

/-- THE SECOND FORM's CARD OF 'tollbarlaw07.FrameBoth'. -/
def frameBothUptoCard : Claim7 := { stood := { row := frameBothUptoRow, standIns := [], harness := (true, "7573ee317338763bd15823681f6413a4110d60b8d1697ced93e1540f879d7029"), looks := false }, kinds := [], alts := [], laidByText := true, laidKinds := [.data, .pinned], laidTests := true, laidLooks := .later }
def FrameBothUptoCardSaid : Prop := Claim7.holds Tryd.pinned (.plain (OpenSpec.upto frameBothSpec)) frameBothUptoCard

/-- THE SECOND FORM's CARD OF 'tollbarlaw07.FrameNone'. -/
def frameNoneUptoCard : Claim7 := { stood := { row := frameNoneUptoRow, standIns := [], harness := (true, "7573ee317338763bd15823681f6413a4110d60b8d1697ced93e1540f879d7029"), looks := false }, kinds := [], alts := [], laidByText := true, laidKinds := [.data, .pinned], laidTests := true, laidLooks := .later }
def FrameNoneUptoCardSaid : Prop := Claim7.holds Tryd.pinned (.plain (OpenSpec.upto frameNoneSpec)) frameNoneUptoCard

/-- THE SECOND FORM's CARD OF 'tollbarlaw07.FrameSizes'. -/
def frameSizesUptoCard : Claim7 := { stood := { row := frameSizesUptoRow, standIns := [], harness := (true, "7573ee317338763bd15823681f6413a4110d60b8d1697ced93e1540f879d7029"), looks := false }, kinds := [], alts := [], laidByText := true, laidKinds := [.data, .pinned], laidTests := true, laidLooks := .later }
def FrameSizesUptoCardSaid : Prop := Claim7.holds Tryd.pinned (.plain (OpenSpec.upto frameSizesSpec)) frameSizesUptoCard
end Rows
end Go.Proofs.YtijindelbagpiaaDoor
