/-
  DERIVED. GIVEN WITH THE SEED: THE CARDS: each row of YtjopphkhpmoedaaGreatDoorRows.lean that lists a variable, with what it lists TIED to the program's text (the seventh form; the later family's looks); each row that meets fmt, with fmt's text TOLD by the authors' own Lean function (tested against real Go, not proved from fmt's source: count such statements apart). THE CARD IS WHAT COUNTS. Prove the row's statement (the work); the ties are given (YtjopphkhpmoedaaGreatDoorTie.lean); close each card by the builder's one call (the guide's Derived/Test/ToyasCard.lean, 'card_holds'). Laid BY PROGRAM, IN A SANDBOX (cutbox-door.mjs). By AI agents, Wed Nov 11 2026. No macro, syntax, notation, axiom, sorry.
-/
import Derived.Test.YtjopphkhpmoedaaGreatDoorRows
import GoSem.ClaimSeven
namespace Go.Proofs.YtjopphkhpmoedaaGreatDoor
namespace Rows

/-- THE TIED CARD OF 'metrolablaw32.StraightJudges'. -/
def straightJudgesCard : Claim7 := { stood := { row := straightJudgesRow, standIns := [], harness := (true, "60527de6a696762ad541377ad1fe57e22bb77cccf0326a7a6b0e895bbe784466"), looks := true }, kinds := [], alts := [], laidByText := true, laidKinds := [.data, .data, .data, .data, .sentinel, .sentinel, .pinned], laidTests := true, laidLooks := .later }
def StraightJudgesCardSaid : Prop := Claim7.holds Tryz.pinned (.plain (OpenSpec.ofChange straightJudgesSpec)) straightJudgesCard

/-- THE TIED CARD OF 'metrolablaw32.StraightCrosses'. -/
def straightCrossesCard : Claim7 := { stood := { row := straightCrossesRow, standIns := [], harness := (true, "60527de6a696762ad541377ad1fe57e22bb77cccf0326a7a6b0e895bbe784466"), looks := true }, kinds := [], alts := [], laidByText := true, laidKinds := [.data, .data, .data, .data, .sentinel, .sentinel, .pinned], laidTests := true, laidLooks := .later }
def StraightCrossesCardSaid : Prop := Claim7.holds Tryz.pinned (.plain (OpenSpec.ofChange straightCrossesSpec)) straightCrossesCard

/-- THE TIED CARD OF 'metrolablaw32.StraightTriangles'. -/
def straightTrianglesCard : Claim7 := { stood := { row := straightTrianglesRow, standIns := [], harness := (true, "60527de6a696762ad541377ad1fe57e22bb77cccf0326a7a6b0e895bbe784466"), looks := true }, kinds := [], alts := [], laidByText := true, laidKinds := [.data, .data, .data, .data, .sentinel, .sentinel, .pinned], laidTests := true, laidLooks := .later }
def StraightTrianglesCardSaid : Prop := Claim7.holds Tryz.pinned (.plain (OpenSpec.ofChange straightTrianglesSpec)) straightTrianglesCard

/-- THE TIED CARD OF 'metrolablaw32.StraightRejects'. -/
def straightRejectsCard : Claim7 := { stood := { row := straightRejectsRow, standIns := [], harness := (true, "60527de6a696762ad541377ad1fe57e22bb77cccf0326a7a6b0e895bbe784466"), looks := true }, kinds := [], alts := [], laidByText := true, laidKinds := [.data, .data, .data, .data, .sentinel, .sentinel, .pinned], laidTests := true, laidLooks := .later }
def StraightRejectsCardSaid : Prop := Claim7.holds Tryz.pinned (.plain (OpenSpec.ofChange straightRejectsSpec)) straightRejectsCard

/-- THE TIED CARD OF 'metrolablaw32.StraightKeeps'. -/
def straightKeepsCard : Claim7 := { stood := { row := straightKeepsRow, standIns := [], harness := (true, "60527de6a696762ad541377ad1fe57e22bb77cccf0326a7a6b0e895bbe784466"), looks := true }, kinds := [], alts := [], laidByText := true, laidKinds := [.data, .data, .data, .data, .sentinel, .sentinel, .pinned], laidTests := true, laidLooks := .later }
def StraightKeepsCardSaid : Prop := Claim7.holds Tryz.pinned (.plain (OpenSpec.ofChange straightKeepsSpec)) straightKeepsCard

/-- THE TIED CARD OF 'metrolablaw32.StraightVerifies'. -/
def straightVerifiesCard : Claim7 := { stood := { row := straightVerifiesRow, standIns := [], harness := (true, "60527de6a696762ad541377ad1fe57e22bb77cccf0326a7a6b0e895bbe784466"), looks := true }, kinds := [], alts := [], laidByText := true, laidKinds := [.data, .data, .data, .data, .sentinel, .sentinel, .pinned], laidTests := true, laidLooks := .later }
def StraightVerifiesCardSaid : Prop := Claim7.holds Tryz.pinned (.plain (OpenSpec.ofChange straightVerifiesSpec)) straightVerifiesCard

/-- THE TIED CARD OF 'metrolablaw32.StraightWidths'. -/
def straightWidthsCard : Claim7 := { stood := { row := straightWidthsRow, standIns := [], harness := (true, "60527de6a696762ad541377ad1fe57e22bb77cccf0326a7a6b0e895bbe784466"), looks := true }, kinds := [], alts := [], laidByText := true, laidKinds := [.data, .data, .data, .data, .sentinel, .sentinel, .pinned], laidTests := true, laidLooks := .later }
def StraightWidthsCardSaid : Prop := Claim7.holds Tryz.pinned (.plain (OpenSpec.ofChange straightWidthsSpec)) straightWidthsCard

/-- THE TIED CARD OF 'metrolablaw32.StraightLeast'. -/
def straightLeastCard : Claim7 := { stood := { row := straightLeastRow, standIns := [], harness := (true, "60527de6a696762ad541377ad1fe57e22bb77cccf0326a7a6b0e895bbe784466"), looks := true }, kinds := [], alts := [], laidByText := true, laidKinds := [.data, .data, .data, .data, .sentinel, .sentinel, .pinned], laidTests := true, laidLooks := .later }
def StraightLeastCardSaid : Prop := Claim7.holds Tryz.pinned (.plain (OpenSpec.ofChange straightLeastSpec)) straightLeastCard

/-- THE SECOND FORM's CARD OF 'metrolablaw32.StraightJudges'. -/
def straightJudgesUptoCard : Claim7 := { stood := { row := straightJudgesUptoRow, standIns := [], harness := (true, "60527de6a696762ad541377ad1fe57e22bb77cccf0326a7a6b0e895bbe784466"), looks := true }, kinds := [], alts := [], laidByText := true, laidKinds := [.data, .data, .data, .data, .sentinel, .sentinel, .pinned], laidTests := true, laidLooks := .later }
def StraightJudgesUptoCardSaid : Prop := Claim7.holds Tryz.pinned (.plain (OpenSpec.upto straightJudgesSpec)) straightJudgesUptoCard

/-- THE SECOND FORM's CARD OF 'metrolablaw32.StraightCrosses'. -/
def straightCrossesUptoCard : Claim7 := { stood := { row := straightCrossesUptoRow, standIns := [], harness := (true, "60527de6a696762ad541377ad1fe57e22bb77cccf0326a7a6b0e895bbe784466"), looks := true }, kinds := [], alts := [], laidByText := true, laidKinds := [.data, .data, .data, .data, .sentinel, .sentinel, .pinned], laidTests := true, laidLooks := .later }
def StraightCrossesUptoCardSaid : Prop := Claim7.holds Tryz.pinned (.plain (OpenSpec.upto straightCrossesSpec)) straightCrossesUptoCard

/-- THE SECOND FORM's CARD OF 'metrolablaw32.StraightTriangles'. -/
def straightTrianglesUptoCard : Claim7 := { stood := { row := straightTrianglesUptoRow, standIns := [], harness := (true, "60527de6a696762ad541377ad1fe57e22bb77cccf0326a7a6b0e895bbe784466"), looks := true }, kinds := [], alts := [], laidByText := true, laidKinds := [.data, .data, .data, .data, .sentinel, .sentinel, .pinned], laidTests := true, laidLooks := .later }
def StraightTrianglesUptoCardSaid : Prop := Claim7.holds Tryz.pinned (.plain (OpenSpec.upto straightTrianglesSpec)) straightTrianglesUptoCard

/-- THE SECOND FORM's CARD OF 'metrolablaw32.StraightRejects'. -/
def straightRejectsUptoCard : Claim7 := { stood := { row := straightRejectsUptoRow, standIns := [], harness := (true, "60527de6a696762ad541377ad1fe57e22bb77cccf0326a7a6b0e895bbe784466"), looks := true }, kinds := [], alts := [], laidByText := true, laidKinds := [.data, .data, .data, .data, .sentinel, .sentinel, .pinned], laidTests := true, laidLooks := .later }
def StraightRejectsUptoCardSaid : Prop := Claim7.holds Tryz.pinned (.plain (OpenSpec.upto straightRejectsSpec)) straightRejectsUptoCard

/-- THE SECOND FORM's CARD OF 'metrolablaw32.StraightKeeps'. -/
def straightKeepsUptoCard : Claim7 := { stood := { row := straightKeepsUptoRow, standIns := [], harness := (true, "60527de6a696762ad541377ad1fe57e22bb77cccf0326a7a6b0e895bbe784466"), looks := true }, kinds := [], alts := [], laidByText := true, laidKinds := [.data, .data, .data, .data, .sentinel, .sentinel, .pinned], laidTests := true, laidLooks := .later }
def StraightKeepsUptoCardSaid : Prop := Claim7.holds Tryz.pinned (.plain (OpenSpec.upto straightKeepsSpec)) straightKeepsUptoCard

/-- THE SECOND FORM's CARD OF 'metrolablaw32.StraightVerifies'. -/
def straightVerifiesUptoCard : Claim7 := { stood := { row := straightVerifiesUptoRow, standIns := [], harness := (true, "60527de6a696762ad541377ad1fe57e22bb77cccf0326a7a6b0e895bbe784466"), looks := true }, kinds := [], alts := [], laidByText := true, laidKinds := [.data, .data, .data, .data, .sentinel, .sentinel, .pinned], laidTests := true, laidLooks := .later }
def StraightVerifiesUptoCardSaid : Prop := Claim7.holds Tryz.pinned (.plain (OpenSpec.upto straightVerifiesSpec)) straightVerifiesUptoCard

/-- THE SECOND FORM's CARD OF 'metrolablaw32.StraightWidths'. -/
def straightWidthsUptoCard : Claim7 := { stood := { row := straightWidthsUptoRow, standIns := [], harness := (true, "60527de6a696762ad541377ad1fe57e22bb77cccf0326a7a6b0e895bbe784466"), looks := true }, kinds := [], alts := [], laidByText := true, laidKinds := [.data, .data, .data, .data, .sentinel, .sentinel, .pinned], laidTests := true, laidLooks := .later }
def StraightWidthsUptoCardSaid : Prop := Claim7.holds Tryz.pinned (.plain (OpenSpec.upto straightWidthsSpec)) straightWidthsUptoCard

/-- THE SECOND FORM's CARD OF 'metrolablaw32.StraightLeast'. -/
def straightLeastUptoCard : Claim7 := { stood := { row := straightLeastUptoRow, standIns := [], harness := (true, "60527de6a696762ad541377ad1fe57e22bb77cccf0326a7a6b0e895bbe784466"), looks := true }, kinds := [], alts := [], laidByText := true, laidKinds := [.data, .data, .data, .data, .sentinel, .sentinel, .pinned], laidTests := true, laidLooks := .later }
def StraightLeastUptoCardSaid : Prop := Claim7.holds Tryz.pinned (.plain (OpenSpec.upto straightLeastSpec)) straightLeastUptoCard
end Rows
end Go.Proofs.YtjopphkhpmoedaaGreatDoor
