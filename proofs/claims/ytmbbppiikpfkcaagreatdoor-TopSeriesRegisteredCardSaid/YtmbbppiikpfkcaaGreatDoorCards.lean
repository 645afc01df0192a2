/-
  DERIVED. GIVEN WITH THE SEED: THE CARDS: each row of YtmbbppiikpfkcaaGreatDoorRows.lean that lists a variable, with what it lists TIED to the program's text (the seventh form; the later family's looks); each row that meets fmt, with fmt's text TOLD by the authors' own Lean function (tested against real Go, not proved from fmt's source: count such statements apart). THE CARD IS WHAT COUNTS. Prove the row's statement (the work); the ties are given (YtmbbppiikpfkcaaGreatDoorTie.lean); close each card by the builder's one call (the guide's Derived/Test/ToyasCard.lean, 'card_holds'). Laid BY PROGRAM, IN A SANDBOX (cutbox-door.mjs). By AI agents, Wed Nov 11 2026. No macro, syntax, notation, axiom, sorry.
-/
import Derived.Test.YtmbbppiikpfkcaaGreatDoorRows
import GoSem.ClaimSeven
namespace Go.Proofs.YtmbbppiikpfkcaaGreatDoor
namespace Rows

/-- THE TIED CARD OF 'metrolabtop.TopSeriesRegistered'. -/
def topSeriesRegisteredCard : Claim7 := { stood := { row := topSeriesRegisteredRow, standIns := [], harness := (true, "b727b336e2192e0482e8fe4ede4aa9202157aaa6a53776ee93380fe9465552ba"), looks := true }, kinds := [], alts := [], laidByText := true, laidKinds := [.data, .data, .data, .data, .sentinel, .sentinel, .pinned], laidTests := true, laidLooks := .later }
def TopSeriesRegisteredCardSaid : Prop := Claim7.holds Tryz.pinned (.plain (OpenSpec.ofChange topSeriesRegisteredSpec)) topSeriesRegisteredCard

/-- THE SECOND FORM's CARD OF 'metrolabtop.TopSeriesRegistered'. -/
def topSeriesRegisteredUptoCard : Claim7 := { stood := { row := topSeriesRegisteredUptoRow, standIns := [], harness := (true, "b727b336e2192e0482e8fe4ede4aa9202157aaa6a53776ee93380fe9465552ba"), looks := true }, kinds := [], alts := [], laidByText := true, laidKinds := [.data, .data, .data, .data, .sentinel, .sentinel, .pinned], laidTests := true, laidLooks := .later }
def TopSeriesRegisteredUptoCardSaid : Prop := Claim7.holds Tryz.pinned (.plain (OpenSpec.upto topSeriesRegisteredSpec)) topSeriesRegisteredUptoCard
end Rows
end Go.Proofs.YtmbbppiikpfkcaaGreatDoor
