/-
  DERIVED. GIVEN WITH THE SEED: THE CARDS: each row of YtenoganbeccanaaGreatDoorRows.lean that lists a variable, with what it lists TIED to the program's text (the seventh form; the later family's looks); each row that meets fmt, with fmt's text TOLD by the authors' own Lean function (tested against real Go, not proved from fmt's source: count such statements apart). THE CARD IS WHAT COUNTS. Prove the row's statement (the work); the ties are given (YtenoganbeccanaaGreatDoorTie.lean); close each card by the builder's one call (the guide's Derived/Test/ToyasCard.lean, 'card_holds'). Laid BY PROGRAM, IN A SANDBOX (cutbox-door.mjs). By AI agents, Wed Nov 11 2026. No macro, syntax, notation, axiom, sorry.
-/
import Derived.Test.YtenoganbeccanaaGreatDoorRows
import GoSem.ClaimSeven
namespace Go.Proofs.YtenoganbeccanaaGreatDoor
namespace Rows

/-- THE TIED CARD OF 'metrolablaw02.RatioRing'. -/
def ratioRingCard : Claim7 := { stood := { row := ratioRingRow, standIns := [], harness := (true, "03dd193051032c64a0b964481d5c0b65982fdf6f8d32e88fa60cd7b06c099cd5"), looks := true }, kinds := [], alts := [], laidByText := true, laidKinds := [.data, .data, .data, .data, .sentinel, .sentinel, .pinned], laidTests := true, laidLooks := .later }
def RatioRingCardSaid : Prop := Claim7.holds Tryz.pinned (.plain (OpenSpec.ofChange ratioRingSpec)) ratioRingCard

/-- THE TIED CARD OF 'metrolablaw34.OrientLines'. -/
def orientLinesCard : Claim7 := { stood := { row := orientLinesRow, standIns := [], harness := (true, "03dd193051032c64a0b964481d5c0b65982fdf6f8d32e88fa60cd7b06c099cd5"), looks := true }, kinds := [], alts := [], laidByText := true, laidKinds := [.data, .data, .data, .data, .sentinel, .sentinel, .pinned], laidTests := true, laidLooks := .later }
def OrientLinesCardSaid : Prop := Claim7.holds Tryz.pinned (.plain (OpenSpec.ofChange orientLinesSpec)) orientLinesCard

/-- THE TIED CARD OF 'metrolablaw34.OrientPlanes'. -/
def orientPlanesCard : Claim7 := { stood := { row := orientPlanesRow, standIns := [], harness := (true, "03dd193051032c64a0b964481d5c0b65982fdf6f8d32e88fa60cd7b06c099cd5"), looks := true }, kinds := [], alts := [], laidByText := true, laidKinds := [.data, .data, .data, .data, .sentinel, .sentinel, .pinned], laidTests := true, laidLooks := .later }
def OrientPlanesCardSaid : Prop := Claim7.holds Tryz.pinned (.plain (OpenSpec.ofChange orientPlanesSpec)) orientPlanesCard

/-- THE TIED CARD OF 'metrolablaw34.OrientStands'. -/
def orientStandsCard : Claim7 := { stood := { row := orientStandsRow, standIns := [], harness := (true, "03dd193051032c64a0b964481d5c0b65982fdf6f8d32e88fa60cd7b06c099cd5"), looks := true }, kinds := [], alts := [], laidByText := true, laidKinds := [.data, .data, .data, .data, .sentinel, .sentinel, .pinned], laidTests := true, laidLooks := .later }
def OrientStandsCardSaid : Prop := Claim7.holds Tryz.pinned (.plain (OpenSpec.ofChange orientStandsSpec)) orientStandsCard

/-- THE TIED CARD OF 'metrolablaw34.OrientTurns'. -/
def orientTurnsCard : Claim7 := { stood := { row := orientTurnsRow, standIns := [], harness := (true, "03dd193051032c64a0b964481d5c0b65982fdf6f8d32e88fa60cd7b06c099cd5"), looks := true }, kinds := [], alts := [], laidByText := true, laidKinds := [.data, .data, .data, .data, .sentinel, .sentinel, .pinned], laidTests := true, laidLooks := .later }
def OrientTurnsCardSaid : Prop := Claim7.holds Tryz.pinned (.plain (OpenSpec.ofChange orientTurnsSpec)) orientTurnsCard

/-- THE TIED CARD OF 'metrolablaw34.OrientLifts'. -/
def orientLiftsCard : Claim7 := { stood := { row := orientLiftsRow, standIns := [], harness := (true, "03dd193051032c64a0b964481d5c0b65982fdf6f8d32e88fa60cd7b06c099cd5"), looks := true }, kinds := [], alts := [], laidByText := true, laidKinds := [.data, .data, .data, .data, .sentinel, .sentinel, .pinned], laidTests := true, laidLooks := .later }
def OrientLiftsCardSaid : Prop := Claim7.holds Tryz.pinned (.plain (OpenSpec.ofChange orientLiftsSpec)) orientLiftsCard

/-- THE TIED CARD OF 'metrolablaw34.OrientSlides'. -/
def orientSlidesCard : Claim7 := { stood := { row := orientSlidesRow, standIns := [], harness := (true, "03dd193051032c64a0b964481d5c0b65982fdf6f8d32e88fa60cd7b06c099cd5"), looks := true }, kinds := [], alts := [], laidByText := true, laidKinds := [.data, .data, .data, .data, .sentinel, .sentinel, .pinned], laidTests := true, laidLooks := .later }
def OrientSlidesCardSaid : Prop := Claim7.holds Tryz.pinned (.plain (OpenSpec.ofChange orientSlidesSpec)) orientSlidesCard

/-- THE TIED CARD OF 'metrolablaw34.OrientProves'. -/
def orientProvesCard : Claim7 := { stood := { row := orientProvesRow, standIns := [], harness := (true, "03dd193051032c64a0b964481d5c0b65982fdf6f8d32e88fa60cd7b06c099cd5"), looks := true }, kinds := [], alts := [], laidByText := true, laidKinds := [.data, .data, .data, .data, .sentinel, .sentinel, .pinned], laidTests := true, laidLooks := .later }
def OrientProvesCardSaid : Prop := Claim7.holds Tryz.pinned (.plain (OpenSpec.ofChange orientProvesSpec)) orientProvesCard

/-- THE TIED CARD OF 'metrolablaw34.OrientLeast'. -/
def orientLeastCard : Claim7 := { stood := { row := orientLeastRow, standIns := [], harness := (true, "03dd193051032c64a0b964481d5c0b65982fdf6f8d32e88fa60cd7b06c099cd5"), looks := true }, kinds := [], alts := [], laidByText := true, laidKinds := [.data, .data, .data, .data, .sentinel, .sentinel, .pinned], laidTests := true, laidLooks := .later }
def OrientLeastCardSaid : Prop := Claim7.holds Tryz.pinned (.plain (OpenSpec.ofChange orientLeastSpec)) orientLeastCard

/-- THE SECOND FORM's CARD OF 'metrolablaw02.RatioRing'. -/
def ratioRingUptoCard : Claim7 := { stood := { row := ratioRingUptoRow, standIns := [], harness := (true, "03dd193051032c64a0b964481d5c0b65982fdf6f8d32e88fa60cd7b06c099cd5"), looks := true }, kinds := [], alts := [], laidByText := true, laidKinds := [.data, .data, .data, .data, .sentinel, .sentinel, .pinned], laidTests := true, laidLooks := .later }
def RatioRingUptoCardSaid : Prop := Claim7.holds Tryz.pinned (.plain (OpenSpec.upto ratioRingSpec)) ratioRingUptoCard

/-- THE SECOND FORM's CARD OF 'metrolablaw34.OrientLines'. -/
def orientLinesUptoCard : Claim7 := { stood := { row := orientLinesUptoRow, standIns := [], harness := (true, "03dd193051032c64a0b964481d5c0b65982fdf6f8d32e88fa60cd7b06c099cd5"), looks := true }, kinds := [], alts := [], laidByText := true, laidKinds := [.data, .data, .data, .data, .sentinel, .sentinel, .pinned], laidTests := true, laidLooks := .later }
def OrientLinesUptoCardSaid : Prop := Claim7.holds Tryz.pinned (.plain (OpenSpec.upto orientLinesSpec)) orientLinesUptoCard

/-- THE SECOND FORM's CARD OF 'metrolablaw34.OrientPlanes'. -/
def orientPlanesUptoCard : Claim7 := { stood := { row := orientPlanesUptoRow, standIns := [], harness := (true, "03dd193051032c64a0b964481d5c0b65982fdf6f8d32e88fa60cd7b06c099cd5"), looks := true }, kinds := [], alts := [], laidByText := true, laidKinds := [.data, .data, .data, .data, .sentinel, .sentinel, .pinned], laidTests := true, laidLooks := .later }
def OrientPlanesUptoCardSaid : Prop := Claim7.holds Tryz.pinned (.plain (OpenSpec.upto orientPlanesSpec)) orientPlanesUptoCard

/-- THE SECOND FORM's CARD OF 'metrolablaw34.OrientStands'. -/
def orientStandsUptoCard : Claim7 := { stood := { row := orientStandsUptoRow, standIns := [], harness := (true, "03dd193051032c64a0b964481d5c0b65982fdf6f8d32e88fa60cd7b06c099cd5"), looks := true }, kinds := [], alts := [], laidByText := true, laidKinds := [.data, .data, .data, .data, .sentinel, .sentinel, .pinned], laidTests := true, laidLooks := .later }
def OrientStandsUptoCardSaid : Prop := Claim7.holds Tryz.pinned (.plain (OpenSpec.upto orientStandsSpec)) orientStandsUptoCard

/-- THE SECOND FORM's CARD OF 'metrolablaw34.OrientTurns'. -/
def orientTurnsUptoCard : Claim7 := { stood := { row := orientTurnsUptoRow, standIns := [], harness := (true, "03dd193051032c64a0b964481d5c0b65982fdf6f8d32e88fa60cd7b06c099cd5"), looks := true }, kinds := [], alts := [], laidByText := true, laidKinds := [.data, .data, .data, .data, .sentinel, .sentinel, .pinned], laidTests := true, laidLooks := .later }
def OrientTurnsUptoCardSaid : Prop := Claim7.holds Tryz.pinned (.plain (OpenSpec.upto orientTurnsSpec)) orientTurnsUptoCard

/-- THE SECOND FORM's CARD OF 'metrolablaw34.OrientLifts'. -/
def orientLiftsUptoCard : Claim7 := { stood := { row := orientLiftsUptoRow, standIns := [], harness := (true, "03dd193051032c64a0b964481d5c0b65982fdf6f8d32e88fa60cd7b06c099cd5"), looks := true }, kinds := [], alts := [], laidByText := true, laidKinds := [.data, .data, .data, .data, .sentinel, .sentinel, .pinned], laidTests := true, laidLooks := .later }
def OrientLiftsUptoCardSaid : Prop := Claim7.holds Tryz.pinned (.plain (OpenSpec.upto orientLiftsSpec)) orientLiftsUptoCard

/-- THE SECOND FORM's CARD OF 'metrolablaw34.OrientSlides'. -/
def orientSlidesUptoCard : Claim7 := { stood := { row := orientSlidesUptoRow, standIns := [], harness := (true, "03dd193051032c64a0b964481d5c0b65982fdf6f8d32e88fa60cd7b06c099cd5"), looks := true }, kinds := [], alts := [], laidByText := true, laidKinds := [.data, .data, .data, .data, .sentinel, .sentinel, .pinned], laidTests := true, laidLooks := .later }
def OrientSlidesUptoCardSaid : Prop := Claim7.holds Tryz.pinned (.plain (OpenSpec.upto orientSlidesSpec)) orientSlidesUptoCard

/-- THE SECOND FORM's CARD OF 'metrolablaw34.OrientProves'. -/
def orientProvesUptoCard : Claim7 := { stood := { row := orientProvesUptoRow, standIns := [], harness := (true, "03dd193051032c64a0b964481d5c0b65982fdf6f8d32e88fa60cd7b06c099cd5"), looks := true }, kinds := [], alts := [], laidByText := true, laidKinds := [.data, .data, .data, .data, .sentinel, .sentinel, .pinned], laidTests := true, laidLooks := .later }
def OrientProvesUptoCardSaid : Prop := Claim7.holds Tryz.pinned (.plain (OpenSpec.upto orientProvesSpec)) orientProvesUptoCard

/-- THE SECOND FORM's CARD OF 'metrolablaw34.OrientLeast'. -/
def orientLeastUptoCard : Claim7 := { stood := { row := orientLeastUptoRow, standIns := [], harness := (true, "03dd193051032c64a0b964481d5c0b65982fdf6f8d32e88fa60cd7b06c099cd5"), looks := true }, kinds := [], alts := [], laidByText := true, laidKinds := [.data, .data, .data, .data, .sentinel, .sentinel, .pinned], laidTests := true, laidLooks := .later }
def OrientLeastUptoCardSaid : Prop := Claim7.holds Tryz.pinned (.plain (OpenSpec.upto orientLeastSpec)) orientLeastUptoCard
end Rows
end Go.Proofs.YtenoganbeccanaaGreatDoor
