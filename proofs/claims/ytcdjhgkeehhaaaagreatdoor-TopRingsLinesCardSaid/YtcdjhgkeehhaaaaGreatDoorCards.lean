/-
  DERIVED. GIVEN WITH THE SEED: THE CARDS: each row of YtcdjhgkeehhaaaaGreatDoorRows.lean that lists a variable, with what it lists TIED to the program's text (the seventh form; the later family's looks); each row that meets fmt, with fmt's text TOLD by the authors' own Lean function (tested against real Go, not proved from fmt's source: count such statements apart). THE CARD IS WHAT COUNTS. Prove the row's statement (the work); the ties are given (YtcdjhgkeehhaaaaGreatDoorTie.lean); close each card by the builder's one call (the guide's Derived/Test/ToyasCard.lean, 'card_holds'). Laid BY PROGRAM, IN A SANDBOX (cutbox-door.mjs). By AI agents, Wed Nov 11 2026. No macro, syntax, notation, axiom, sorry.
-/
import Derived.Test.YtcdjhgkeehhaaaaGreatDoorRows
import GoSem.ClaimSeven
namespace Go.Proofs.YtcdjhgkeehhaaaaGreatDoor
namespace Rows

/-- THE TIED CARD OF 'metrolabtop.TopRingsLines'. -/
def topRingsLinesCard : Claim7 := { stood := { row := topRingsLinesRow, standIns := [], harness := (true, "f71991dba2a5e8867949e3303df1b800f120fb90daf0b8c900f6be746fd22e2d"), looks := true }, kinds := [], alts := [], laidByText := true, laidKinds := [.data, .data, .data, .data, .sentinel, .sentinel, .pinned], laidTests := true, laidLooks := .later }
def TopRingsLinesCardSaid : Prop := Claim7.holds Tryz.pinned (.plain (OpenSpec.ofChange topRingsLinesSpec)) topRingsLinesCard

/-- THE SECOND FORM's CARD OF 'metrolabtop.TopRingsLines'. -/
def topRingsLinesUptoCard : Claim7 := { stood := { row := topRingsLinesUptoRow, standIns := [], harness := (true, "f71991dba2a5e8867949e3303df1b800f120fb90daf0b8c900f6be746fd22e2d"), looks := true }, kinds := [], alts := [], laidByText := true, laidKinds := [.data, .data, .data, .data, .sentinel, .sentinel, .pinned], laidTests := true, laidLooks := .later }
def TopRingsLinesUptoCardSaid : Prop := Claim7.holds Tryz.pinned (.plain (OpenSpec.upto topRingsLinesSpec)) topRingsLinesUptoCard
end Rows
end Go.Proofs.YtcdjhgkeehhaaaaGreatDoor
