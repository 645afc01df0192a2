/-
  DERIVED. GIVEN WITH THE SEED: THE CARDS: each row of YtnhegeifcneiaaaGreatDoorRows.lean that lists a variable, with what it lists TIED to the program's text (the seventh form; the later family's looks); each row that meets fmt, with fmt's text TOLD by the authors' own Lean function (tested against real Go, not proved from fmt's source: count such statements apart). THE CARD IS WHAT COUNTS. Prove the row's statement (the work); the ties are given (YtnhegeifcneiaaaGreatDoorTie.lean); close each card by the builder's one call (the guide's Derived/Test/ToyasCard.lean, 'card_holds'). Laid BY PROGRAM, IN A SANDBOX (cutbox-door.mjs). By AI agents, Wed Nov 11 2026. No macro, syntax, notation, axiom, sorry.
-/
import Derived.Test.YtnhegeifcneiaaaGreatDoorRows
import GoSem.ClaimSeven
namespace Go.Proofs.YtnhegeifcneiaaaGreatDoor
namespace Rows

/-- THE TIED CARD OF 'metrolablaw56.RegisterTexts'. -/
def registerTextsCard : Claim7 := { stood := { row := registerTextsRow, standIns := [], harness := (true, "473a105795db66c2ea627a7d320bbd7ae1c896194f364bf6af0c48afe1666fdf"), looks := true }, kinds := [], alts := [], laidByText := true, laidKinds := [.data, .data, .data, .data, .sentinel, .sentinel, .pinned], laidTests := true, laidLooks := .later }
def RegisterTextsCardSaid : Prop := Claim7.holds Tryz.pinned (.plain (OpenSpec.ofChange registerTextsSpec)) registerTextsCard

/-- THE TIED CARD OF 'metrolablaw56.RegisterNames'. -/
def registerNamesCard : Claim7 := { stood := { row := registerNamesRow, standIns := [], harness := (true, "473a105795db66c2ea627a7d320bbd7ae1c896194f364bf6af0c48afe1666fdf"), looks := true }, kinds := [], alts := [], laidByText := true, laidKinds := [.data, .data, .data, .data, .sentinel, .sentinel, .pinned], laidTests := true, laidLooks := .later }
def RegisterNamesCardSaid : Prop := Claim7.holds Tryz.pinned (.plain (OpenSpec.ofChange registerNamesSpec)) registerNamesCard

/-- THE TIED CARD OF 'metrolablaw56.RegisterLoads'. -/
def registerLoadsCard : Claim7 := { stood := { row := registerLoadsRow, standIns := [], harness := (true, "473a105795db66c2ea627a7d320bbd7ae1c896194f364bf6af0c48afe1666fdf"), looks := true }, kinds := [], alts := [], laidByText := true, laidKinds := [.data, .data, .data, .data, .sentinel, .sentinel, .pinned], laidTests := true, laidLooks := .later }
def RegisterLoadsCardSaid : Prop := Claim7.holds Tryz.pinned (.plain (OpenSpec.ofChange registerLoadsSpec)) registerLoadsCard

/-- THE TIED CARD OF 'metrolablaw56.RegisterTears'. -/
def registerTearsCard : Claim7 := { stood := { row := registerTearsRow, standIns := [], harness := (true, "473a105795db66c2ea627a7d320bbd7ae1c896194f364bf6af0c48afe1666fdf"), looks := true }, kinds := [], alts := [], laidByText := true, laidKinds := [.data, .data, .data, .data, .sentinel, .sentinel, .pinned], laidTests := true, laidLooks := .later }
def RegisterTearsCardSaid : Prop := Claim7.holds Tryz.pinned (.plain (OpenSpec.ofChange registerTearsSpec)) registerTearsCard

/-- THE TIED CARD OF 'metrolablaw56.RegisterSpoils'. -/
def registerSpoilsCard : Claim7 := { stood := { row := registerSpoilsRow, standIns := [], harness := (true, "473a105795db66c2ea627a7d320bbd7ae1c896194f364bf6af0c48afe1666fdf"), looks := true }, kinds := [], alts := [], laidByText := true, laidKinds := [.data, .data, .data, .data, .sentinel, .sentinel, .pinned], laidTests := true, laidLooks := .later }
def RegisterSpoilsCardSaid : Prop := Claim7.holds Tryz.pinned (.plain (OpenSpec.ofChange registerSpoilsSpec)) registerSpoilsCard

/-- THE SECOND FORM's CARD OF 'metrolablaw56.RegisterTexts'. -/
def registerTextsUptoCard : Claim7 := { stood := { row := registerTextsUptoRow, standIns := [], harness := (true, "473a105795db66c2ea627a7d320bbd7ae1c896194f364bf6af0c48afe1666fdf"), looks := true }, kinds := [], alts := [], laidByText := true, laidKinds := [.data, .data, .data, .data, .sentinel, .sentinel, .pinned], laidTests := true, laidLooks := .later }
def RegisterTextsUptoCardSaid : Prop := Claim7.holds Tryz.pinned (.plain (OpenSpec.upto registerTextsSpec)) registerTextsUptoCard

/-- THE SECOND FORM's CARD OF 'metrolablaw56.RegisterNames'. -/
def registerNamesUptoCard : Claim7 := { stood := { row := registerNamesUptoRow, standIns := [], harness := (true, "473a105795db66c2ea627a7d320bbd7ae1c896194f364bf6af0c48afe1666fdf"), looks := true }, kinds := [], alts := [], laidByText := true, laidKinds := [.data, .data, .data, .data, .sentinel, .sentinel, .pinned], laidTests := true, laidLooks := .later }
def RegisterNamesUptoCardSaid : Prop := Claim7.holds Tryz.pinned (.plain (OpenSpec.upto registerNamesSpec)) registerNamesUptoCard

/-- THE SECOND FORM's CARD OF 'metrolablaw56.RegisterLoads'. -/
def registerLoadsUptoCard : Claim7 := { stood := { row := registerLoadsUptoRow, standIns := [], harness := (true, "473a105795db66c2ea627a7d320bbd7ae1c896194f364bf6af0c48afe1666fdf"), looks := true }, kinds := [], alts := [], laidByText := true, laidKinds := [.data, .data, .data, .data, .sentinel, .sentinel, .pinned], laidTests := true, laidLooks := .later }
def RegisterLoadsUptoCardSaid : Prop := Claim7.holds Tryz.pinned (.plain (OpenSpec.upto registerLoadsSpec)) registerLoadsUptoCard

/-- THE SECOND FORM's CARD OF 'metrolablaw56.RegisterTears'. -/
def registerTearsUptoCard : Claim7 := { stood := { row := registerTearsUptoRow, standIns := [], harness := (true, "473a105795db66c2ea627a7d320bbd7ae1c896194f364bf6af0c48afe1666fdf"), looks := true }, kinds := [], alts := [], laidByText := true, laidKinds := [.data, .data, .data, .data, .sentinel, .sentinel, .pinned], laidTests := true, laidLooks := .later }
def RegisterTearsUptoCardSaid : Prop := Claim7.holds Tryz.pinned (.plain (OpenSpec.upto registerTearsSpec)) registerTearsUptoCard

/-- THE SECOND FORM's CARD OF 'metrolablaw56.RegisterSpoils'. -/
def registerSpoilsUptoCard : Claim7 := { stood := { row := registerSpoilsUptoRow, standIns := [], harness := (true, "473a105795db66c2ea627a7d320bbd7ae1c896194f364bf6af0c48afe1666fdf"), looks := true }, kinds := [], alts := [], laidByText := true, laidKinds := [.data, .data, .data, .data, .sentinel, .sentinel, .pinned], laidTests := true, laidLooks := .later }
def RegisterSpoilsUptoCardSaid : Prop := Claim7.holds Tryz.pinned (.plain (OpenSpec.upto registerSpoilsSpec)) registerSpoilsUptoCard
end Rows
end Go.Proofs.YtnhegeifcneiaaaGreatDoor
