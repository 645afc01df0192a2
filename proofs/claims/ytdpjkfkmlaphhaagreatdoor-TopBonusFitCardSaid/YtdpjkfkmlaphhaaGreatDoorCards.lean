/-
  DERIVED. GIVEN WITH THE SEED: THE CARDS: each row of YtdpjkfkmlaphhaaGreatDoorRows.lean that lists a variable, with what it lists TIED to the program's text (the seventh form; the later family's looks); each row that meets fmt, with fmt's text TOLD by the authors' own Lean function (tested against real Go, not proved from fmt's source: count such statements apart). THE CARD IS WHAT COUNTS. Prove the row's statement (the work); the ties are given (YtdpjkfkmlaphhaaGreatDoorTie.lean); close each card by the builder's one call (the guide's Derived/Test/ToyasCard.lean, 'card_holds'). Laid BY PROGRAM, IN A SANDBOX (cutbox-door.mjs). By AI agents, Wed Nov 11 2026. No macro, syntax, notation, axiom, sorry.
-/
import Derived.Test.YtdpjkfkmlaphhaaGreatDoorRows
import GoSem.ClaimSeven
namespace Go.Proofs.YtdpjkfkmlaphhaaGreatDoor
namespace Rows

/-- THE TIED CARD OF 'metrolablaw43.PositionMoves'. -/
def positionMovesCard : Claim7 := { stood := { row := positionMovesRow, standIns := [], harness := (true, "6c4e8fd3f3336bc2550bef0e2824bf39db00b0cde1e9933ab855230409a63e45"), looks := true }, kinds := [], alts := [], laidByText := true, laidKinds := [.data, .data, .data, .data, .sentinel, .sentinel, .pinned], laidTests := true, laidLooks := .later }
def PositionMovesCardSaid : Prop := Claim7.holds Tryz.pinned (.plain (OpenSpec.ofChange positionMovesSpec)) positionMovesCard

/-- THE TIED CARD OF 'metrolabtop.TopBonusFrames'. -/
def topBonusFramesCard : Claim7 := { stood := { row := topBonusFramesRow, standIns := [], harness := (true, "6c4e8fd3f3336bc2550bef0e2824bf39db00b0cde1e9933ab855230409a63e45"), looks := true }, kinds := [], alts := [], laidByText := true, laidKinds := [.data, .data, .data, .data, .data, .sentinel, .sentinel, .pinned], laidTests := true, laidLooks := .later }
def TopBonusFramesCardSaid : Prop := Claim7.holds Tryz.pinned (.plain (OpenSpec.ofChange topBonusFramesSpec)) topBonusFramesCard

/-- THE TIED CARD OF 'metrolabtop.TopBonusFit'. -/
def topBonusFitCard : Claim7 := { stood := { row := topBonusFitRow, standIns := [], harness := (true, "6c4e8fd3f3336bc2550bef0e2824bf39db00b0cde1e9933ab855230409a63e45"), looks := true }, kinds := [], alts := [], laidByText := true, laidKinds := [.data, .data, .data, .data, .data, .sentinel, .sentinel, .pinned], laidTests := true, laidLooks := .later }
def TopBonusFitCardSaid : Prop := Claim7.holds Tryz.pinned (.plain (OpenSpec.ofChange topBonusFitSpec)) topBonusFitCard

/-- THE TIED CARD OF 'metrolabtop.TopBonusDiscs'. -/
def topBonusDiscsCard : Claim7 := { stood := { row := topBonusDiscsRow, standIns := [], harness := (true, "6c4e8fd3f3336bc2550bef0e2824bf39db00b0cde1e9933ab855230409a63e45"), looks := true }, kinds := [], alts := [], laidByText := true, laidKinds := [.data, .data, .data, .data, .data, .sentinel, .sentinel, .pinned], laidTests := true, laidLooks := .later }
def TopBonusDiscsCardSaid : Prop := Claim7.holds Tryz.pinned (.plain (OpenSpec.ofChange topBonusDiscsSpec)) topBonusDiscsCard

/-- THE SECOND FORM's CARD OF 'metrolablaw43.PositionMoves'. -/
def positionMovesUptoCard : Claim7 := { stood := { row := positionMovesUptoRow, standIns := [], harness := (true, "6c4e8fd3f3336bc2550bef0e2824bf39db00b0cde1e9933ab855230409a63e45"), looks := true }, kinds := [], alts := [], laidByText := true, laidKinds := [.data, .data, .data, .data, .sentinel, .sentinel, .pinned], laidTests := true, laidLooks := .later }
def PositionMovesUptoCardSaid : Prop := Claim7.holds Tryz.pinned (.plain (OpenSpec.upto positionMovesSpec)) positionMovesUptoCard

/-- THE SECOND FORM's CARD OF 'metrolabtop.TopBonusFrames'. -/
def topBonusFramesUptoCard : Claim7 := { stood := { row := topBonusFramesUptoRow, standIns := [], harness := (true, "6c4e8fd3f3336bc2550bef0e2824bf39db00b0cde1e9933ab855230409a63e45"), looks := true }, kinds := [], alts := [], laidByText := true, laidKinds := [.data, .data, .data, .data, .data, .sentinel, .sentinel, .pinned], laidTests := true, laidLooks := .later }
def TopBonusFramesUptoCardSaid : Prop := Claim7.holds Tryz.pinned (.plain (OpenSpec.upto topBonusFramesSpec)) topBonusFramesUptoCard

/-- THE SECOND FORM's CARD OF 'metrolabtop.TopBonusFit'. -/
def topBonusFitUptoCard : Claim7 := { stood := { row := topBonusFitUptoRow, standIns := [], harness := (true, "6c4e8fd3f3336bc2550bef0e2824bf39db00b0cde1e9933ab855230409a63e45"), looks := true }, kinds := [], alts := [], laidByText := true, laidKinds := [.data, .data, .data, .data, .data, .sentinel, .sentinel, .pinned], laidTests := true, laidLooks := .later }
def TopBonusFitUptoCardSaid : Prop := Claim7.holds Tryz.pinned (.plain (OpenSpec.upto topBonusFitSpec)) topBonusFitUptoCard

/-- THE SECOND FORM's CARD OF 'metrolabtop.TopBonusDiscs'. -/
def topBonusDiscsUptoCard : Claim7 := { stood := { row := topBonusDiscsUptoRow, standIns := [], harness := (true, "6c4e8fd3f3336bc2550bef0e2824bf39db00b0cde1e9933ab855230409a63e45"), looks := true }, kinds := [], alts := [], laidByText := true, laidKinds := [.data, .data, .data, .data, .data, .sentinel, .sentinel, .pinned], laidTests := true, laidLooks := .later }
def TopBonusDiscsUptoCardSaid : Prop := Claim7.holds Tryz.pinned (.plain (OpenSpec.upto topBonusDiscsSpec)) topBonusDiscsUptoCard
end Rows
end Go.Proofs.YtdpjkfkmlaphhaaGreatDoor
