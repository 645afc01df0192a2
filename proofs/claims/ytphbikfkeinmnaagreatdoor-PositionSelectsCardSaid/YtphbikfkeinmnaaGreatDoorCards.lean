/-
  DERIVED. GIVEN WITH THE SEED: THE CARDS: each row of YtphbikfkeinmnaaGreatDoorRows.lean that lists a variable, with what it lists TIED to the program's text (the seventh form; the later family's looks); each row that meets fmt, with fmt's text TOLD by the authors' own Lean function (tested against real Go, not proved from fmt's source: count such statements apart). THE CARD IS WHAT COUNTS. Prove the row's statement (the work); the ties are given (YtphbikfkeinmnaaGreatDoorTie.lean); close each card by the builder's one call (the guide's Derived/Test/ToyasCard.lean, 'card_holds'). Laid BY PROGRAM, IN A SANDBOX (cutbox-door.mjs). By AI agents, Wed Nov 11 2026. No macro, syntax, notation, axiom, sorry.
-/
import Derived.Test.YtphbikfkeinmnaaGreatDoorRows
import GoSem.ClaimSeven
namespace Go.Proofs.YtphbikfkeinmnaaGreatDoor
namespace Rows

/-- THE TIED CARD OF 'metrolablaw43.PositionWorsens'. -/
def positionWorsensCard : Claim7 := { stood := { row := positionWorsensRow, standIns := [], harness := (true, "f162d723b2fa949cc506678def7a998205fbdec5168f0df076ee761e938a00af"), looks := true }, kinds := [], alts := [], laidByText := true, laidKinds := [.data, .data, .data, .data, .sentinel, .sentinel, .pinned], laidTests := true, laidLooks := .later }
def PositionWorsensCardSaid : Prop := Claim7.holds Tryz.pinned (.plain (OpenSpec.ofChange positionWorsensSpec)) positionWorsensCard

/-- THE TIED CARD OF 'metrolablaw43.PositionJudges'. -/
def positionJudgesCard : Claim7 := { stood := { row := positionJudgesRow, standIns := [], harness := (true, "f162d723b2fa949cc506678def7a998205fbdec5168f0df076ee761e938a00af"), looks := true }, kinds := [], alts := [], laidByText := true, laidKinds := [.data, .data, .data, .data, .sentinel, .sentinel, .pinned], laidTests := true, laidLooks := .later }
def PositionJudgesCardSaid : Prop := Claim7.holds Tryz.pinned (.plain (OpenSpec.ofChange positionJudgesSpec)) positionJudgesCard

/-- THE TIED CARD OF 'metrolablaw43.PositionNests'. -/
def positionNestsCard : Claim7 := { stood := { row := positionNestsRow, standIns := [], harness := (true, "f162d723b2fa949cc506678def7a998205fbdec5168f0df076ee761e938a00af"), looks := true }, kinds := [], alts := [], laidByText := true, laidKinds := [.data, .data, .data, .data, .sentinel, .sentinel, .pinned], laidTests := true, laidLooks := .later }
def PositionNestsCardSaid : Prop := Claim7.holds Tryz.pinned (.plain (OpenSpec.ofChange positionNestsSpec)) positionNestsCard

/-- THE TIED CARD OF 'metrolablaw43.PositionWidens'. -/
def positionWidensCard : Claim7 := { stood := { row := positionWidensRow, standIns := [], harness := (true, "f162d723b2fa949cc506678def7a998205fbdec5168f0df076ee761e938a00af"), looks := true }, kinds := [], alts := [], laidByText := true, laidKinds := [.data, .data, .data, .data, .sentinel, .sentinel, .pinned], laidTests := true, laidLooks := .later }
def PositionWidensCardSaid : Prop := Claim7.holds Tryz.pinned (.plain (OpenSpec.ofChange positionWidensSpec)) positionWidensCard

/-- THE TIED CARD OF 'metrolablaw43.PositionMeasures'. -/
def positionMeasuresCard : Claim7 := { stood := { row := positionMeasuresRow, standIns := [], harness := (true, "f162d723b2fa949cc506678def7a998205fbdec5168f0df076ee761e938a00af"), looks := true }, kinds := [], alts := [], laidByText := true, laidKinds := [.data, .data, .data, .data, .sentinel, .sentinel, .pinned], laidTests := true, laidLooks := .later }
def PositionMeasuresCardSaid : Prop := Claim7.holds Tryz.pinned (.plain (OpenSpec.ofChange positionMeasuresSpec)) positionMeasuresCard

/-- THE TIED CARD OF 'metrolablaw43.PositionMoves'. -/
def positionMovesCard : Claim7 := { stood := { row := positionMovesRow, standIns := [], harness := (true, "f162d723b2fa949cc506678def7a998205fbdec5168f0df076ee761e938a00af"), looks := true }, kinds := [], alts := [], laidByText := true, laidKinds := [.data, .data, .data, .data, .sentinel, .sentinel, .pinned], laidTests := true, laidLooks := .later }
def PositionMovesCardSaid : Prop := Claim7.holds Tryz.pinned (.plain (OpenSpec.ofChange positionMovesSpec)) positionMovesCard

/-- THE TIED CARD OF 'metrolablaw43.PositionSelects'. -/
def positionSelectsCard : Claim7 := { stood := { row := positionSelectsRow, standIns := [], harness := (true, "f162d723b2fa949cc506678def7a998205fbdec5168f0df076ee761e938a00af"), looks := true }, kinds := [], alts := [], laidByText := true, laidKinds := [.data, .data, .data, .data, .sentinel, .sentinel, .pinned], laidTests := true, laidLooks := .later }
def PositionSelectsCardSaid : Prop := Claim7.holds Tryz.pinned (.plain (OpenSpec.ofChange positionSelectsSpec)) positionSelectsCard

/-- THE TIED CARD OF 'metrolablaw43.PositionChooses'. -/
def positionChoosesCard : Claim7 := { stood := { row := positionChoosesRow, standIns := [], harness := (true, "f162d723b2fa949cc506678def7a998205fbdec5168f0df076ee761e938a00af"), looks := true }, kinds := [], alts := [], laidByText := true, laidKinds := [.data, .data, .data, .data, .sentinel, .sentinel, .pinned], laidTests := true, laidLooks := .later }
def PositionChoosesCardSaid : Prop := Claim7.holds Tryz.pinned (.plain (OpenSpec.ofChange positionChoosesSpec)) positionChoosesCard

/-- THE SECOND FORM's CARD OF 'metrolablaw43.PositionWorsens'. -/
def positionWorsensUptoCard : Claim7 := { stood := { row := positionWorsensUptoRow, standIns := [], harness := (true, "f162d723b2fa949cc506678def7a998205fbdec5168f0df076ee761e938a00af"), looks := true }, kinds := [], alts := [], laidByText := true, laidKinds := [.data, .data, .data, .data, .sentinel, .sentinel, .pinned], laidTests := true, laidLooks := .later }
def PositionWorsensUptoCardSaid : Prop := Claim7.holds Tryz.pinned (.plain (OpenSpec.upto positionWorsensSpec)) positionWorsensUptoCard

/-- THE SECOND FORM's CARD OF 'metrolablaw43.PositionJudges'. -/
def positionJudgesUptoCard : Claim7 := { stood := { row := positionJudgesUptoRow, standIns := [], harness := (true, "f162d723b2fa949cc506678def7a998205fbdec5168f0df076ee761e938a00af"), looks := true }, kinds := [], alts := [], laidByText := true, laidKinds := [.data, .data, .data, .data, .sentinel, .sentinel, .pinned], laidTests := true, laidLooks := .later }
def PositionJudgesUptoCardSaid : Prop := Claim7.holds Tryz.pinned (.plain (OpenSpec.upto positionJudgesSpec)) positionJudgesUptoCard

/-- THE SECOND FORM's CARD OF 'metrolablaw43.PositionNests'. -/
def positionNestsUptoCard : Claim7 := { stood := { row := positionNestsUptoRow, standIns := [], harness := (true, "f162d723b2fa949cc506678def7a998205fbdec5168f0df076ee761e938a00af"), looks := true }, kinds := [], alts := [], laidByText := true, laidKinds := [.data, .data, .data, .data, .sentinel, .sentinel, .pinned], laidTests := true, laidLooks := .later }
def PositionNestsUptoCardSaid : Prop := Claim7.holds Tryz.pinned (.plain (OpenSpec.upto positionNestsSpec)) positionNestsUptoCard

/-- THE SECOND FORM's CARD OF 'metrolablaw43.PositionWidens'. -/
def positionWidensUptoCard : Claim7 := { stood := { row := positionWidensUptoRow, standIns := [], harness := (true, "f162d723b2fa949cc506678def7a998205fbdec5168f0df076ee761e938a00af"), looks := true }, kinds := [], alts := [], laidByText := true, laidKinds := [.data, .data, .data, .data, .sentinel, .sentinel, .pinned], laidTests := true, laidLooks := .later }
def PositionWidensUptoCardSaid : Prop := Claim7.holds Tryz.pinned (.plain (OpenSpec.upto positionWidensSpec)) positionWidensUptoCard

/-- THE SECOND FORM's CARD OF 'metrolablaw43.PositionMeasures'. -/
def positionMeasuresUptoCard : Claim7 := { stood := { row := positionMeasuresUptoRow, standIns := [], harness := (true, "f162d723b2fa949cc506678def7a998205fbdec5168f0df076ee761e938a00af"), looks := true }, kinds := [], alts := [], laidByText := true, laidKinds := [.data, .data, .data, .data, .sentinel, .sentinel, .pinned], laidTests := true, laidLooks := .later }
def PositionMeasuresUptoCardSaid : Prop := Claim7.holds Tryz.pinned (.plain (OpenSpec.upto positionMeasuresSpec)) positionMeasuresUptoCard

/-- THE SECOND FORM's CARD OF 'metrolablaw43.PositionMoves'. -/
def positionMovesUptoCard : Claim7 := { stood := { row := positionMovesUptoRow, standIns := [], harness := (true, "f162d723b2fa949cc506678def7a998205fbdec5168f0df076ee761e938a00af"), looks := true }, kinds := [], alts := [], laidByText := true, laidKinds := [.data, .data, .data, .data, .sentinel, .sentinel, .pinned], laidTests := true, laidLooks := .later }
def PositionMovesUptoCardSaid : Prop := Claim7.holds Tryz.pinned (.plain (OpenSpec.upto positionMovesSpec)) positionMovesUptoCard

/-- THE SECOND FORM's CARD OF 'metrolablaw43.PositionSelects'. -/
def positionSelectsUptoCard : Claim7 := { stood := { row := positionSelectsUptoRow, standIns := [], harness := (true, "f162d723b2fa949cc506678def7a998205fbdec5168f0df076ee761e938a00af"), looks := true }, kinds := [], alts := [], laidByText := true, laidKinds := [.data, .data, .data, .data, .sentinel, .sentinel, .pinned], laidTests := true, laidLooks := .later }
def PositionSelectsUptoCardSaid : Prop := Claim7.holds Tryz.pinned (.plain (OpenSpec.upto positionSelectsSpec)) positionSelectsUptoCard

/-- THE SECOND FORM's CARD OF 'metrolablaw43.PositionChooses'. -/
def positionChoosesUptoCard : Claim7 := { stood := { row := positionChoosesUptoRow, standIns := [], harness := (true, "f162d723b2fa949cc506678def7a998205fbdec5168f0df076ee761e938a00af"), looks := true }, kinds := [], alts := [], laidByText := true, laidKinds := [.data, .data, .data, .data, .sentinel, .sentinel, .pinned], laidTests := true, laidLooks := .later }
def PositionChoosesUptoCardSaid : Prop := Claim7.holds Tryz.pinned (.plain (OpenSpec.upto positionChoosesSpec)) positionChoosesUptoCard
end Rows
end Go.Proofs.YtphbikfkeinmnaaGreatDoor
