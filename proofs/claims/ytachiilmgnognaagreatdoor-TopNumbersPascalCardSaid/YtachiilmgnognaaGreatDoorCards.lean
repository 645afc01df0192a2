/-
  DERIVED. GIVEN WITH THE SEED: THE CARDS: each row of YtachiilmgnognaaGreatDoorRows.lean that lists a variable, with what it lists TIED to the program's text (the seventh form; the later family's looks); each row that meets fmt, with fmt's text TOLD by the authors' own Lean function (tested against real Go, not proved from fmt's source: count such statements apart). THE CARD IS WHAT COUNTS. Prove the row's statement (the work); the ties are given (YtachiilmgnognaaGreatDoorTie.lean); close each card by the builder's one call (the guide's Derived/Test/ToyasCard.lean, 'card_holds'). Laid BY PROGRAM, IN A SANDBOX (cutbox-door.mjs). By AI agents, Wed Nov 11 2026. No macro, syntax, notation, axiom, sorry.
-/
import Derived.Test.YtachiilmgnognaaGreatDoorRows
import GoSem.ClaimSeven
namespace Go.Proofs.YtachiilmgnognaaGreatDoor
namespace Rows

/-- THE TIED CARD OF 'metrolablaw02.RatioRoots'. -/
def ratioRootsCard : Claim7 := { stood := { row := ratioRootsRow, standIns := [], harness := (true, "9d3502c772479c143337bccacf7d2745a33fd5862145d9e5d3f92ca020af35b3"), looks := true }, kinds := [], alts := [], laidByText := true, laidKinds := [.data, .data, .data, .data, .sentinel, .sentinel, .pinned], laidTests := true, laidLooks := .later }
def RatioRootsCardSaid : Prop := Claim7.holds Tryz.pinned (.plain (OpenSpec.ofChange ratioRootsSpec)) ratioRootsCard

/-- THE TIED CARD OF 'metrolablaw02.RatioComputes'. -/
def ratioComputesCard : Claim7 := { stood := { row := ratioComputesRow, standIns := [], harness := (true, "9d3502c772479c143337bccacf7d2745a33fd5862145d9e5d3f92ca020af35b3"), looks := true }, kinds := [], alts := [], laidByText := true, laidKinds := [.data, .data, .data, .data, .sentinel, .sentinel, .pinned], laidTests := true, laidLooks := .later }
def RatioComputesCardSaid : Prop := Claim7.holds Tryz.pinned (.plain (OpenSpec.ofChange ratioComputesSpec)) ratioComputesCard

/-- THE TIED CARD OF 'metrolablaw02.RatioMakes'. -/
def ratioMakesCard : Claim7 := { stood := { row := ratioMakesRow, standIns := [], harness := (true, "9d3502c772479c143337bccacf7d2745a33fd5862145d9e5d3f92ca020af35b3"), looks := true }, kinds := [], alts := [], laidByText := true, laidKinds := [.data, .data, .data, .data, .sentinel, .sentinel, .pinned], laidTests := true, laidLooks := .later }
def RatioMakesCardSaid : Prop := Claim7.holds Tryz.pinned (.plain (OpenSpec.ofChange ratioMakesSpec)) ratioMakesCard

/-- THE TIED CARD OF 'metrolablaw02.RatioSums'. -/
def ratioSumsCard : Claim7 := { stood := { row := ratioSumsRow, standIns := [], harness := (true, "9d3502c772479c143337bccacf7d2745a33fd5862145d9e5d3f92ca020af35b3"), looks := true }, kinds := [], alts := [], laidByText := true, laidKinds := [.data, .data, .data, .data, .sentinel, .sentinel, .pinned], laidTests := true, laidLooks := .later }
def RatioSumsCardSaid : Prop := Claim7.holds Tryz.pinned (.plain (OpenSpec.ofChange ratioSumsSpec)) ratioSumsCard

/-- THE TIED CARD OF 'metrolablaw02.RatioChecks'. -/
def ratioChecksCard : Claim7 := { stood := { row := ratioChecksRow, standIns := [], harness := (true, "9d3502c772479c143337bccacf7d2745a33fd5862145d9e5d3f92ca020af35b3"), looks := true }, kinds := [], alts := [], laidByText := true, laidKinds := [.data, .data, .data, .data, .sentinel, .sentinel, .pinned], laidTests := true, laidLooks := .later }
def RatioChecksCardSaid : Prop := Claim7.holds Tryz.pinned (.plain (OpenSpec.ofChange ratioChecksSpec)) ratioChecksCard

/-- THE TIED CARD OF 'metrolablaw02.RatioRing'. -/
def ratioRingCard : Claim7 := { stood := { row := ratioRingRow, standIns := [], harness := (true, "9d3502c772479c143337bccacf7d2745a33fd5862145d9e5d3f92ca020af35b3"), looks := true }, kinds := [], alts := [], laidByText := true, laidKinds := [.data, .data, .data, .data, .sentinel, .sentinel, .pinned], laidTests := true, laidLooks := .later }
def RatioRingCardSaid : Prop := Claim7.holds Tryz.pinned (.plain (OpenSpec.ofChange ratioRingSpec)) ratioRingCard

/-- THE TIED CARD OF 'metrolablaw02.RatioOrders'. -/
def ratioOrdersCard : Claim7 := { stood := { row := ratioOrdersRow, standIns := [], harness := (true, "9d3502c772479c143337bccacf7d2745a33fd5862145d9e5d3f92ca020af35b3"), looks := true }, kinds := [], alts := [], laidByText := true, laidKinds := [.data, .data, .data, .data, .sentinel, .sentinel, .pinned], laidTests := true, laidLooks := .later }
def RatioOrdersCardSaid : Prop := Claim7.holds Tryz.pinned (.plain (OpenSpec.ofChange ratioOrdersSpec)) ratioOrdersCard

/-- THE TIED CARD OF 'metrolabtop.TopNumbersPascal'. -/
def topNumbersPascalCard : Claim7 := { stood := { row := topNumbersPascalRow, standIns := [], harness := (true, "9d3502c772479c143337bccacf7d2745a33fd5862145d9e5d3f92ca020af35b3"), looks := true }, kinds := [], alts := [], laidByText := true, laidKinds := [.data, .data, .data, .data, .sentinel, .sentinel, .pinned], laidTests := true, laidLooks := .later }
def TopNumbersPascalCardSaid : Prop := Claim7.holds Tryz.pinned (.plain (OpenSpec.ofChange topNumbersPascalSpec)) topNumbersPascalCard

/-- THE SECOND FORM's CARD OF 'metrolablaw02.RatioRoots'. -/
def ratioRootsUptoCard : Claim7 := { stood := { row := ratioRootsUptoRow, standIns := [], harness := (true, "9d3502c772479c143337bccacf7d2745a33fd5862145d9e5d3f92ca020af35b3"), looks := true }, kinds := [], alts := [], laidByText := true, laidKinds := [.data, .data, .data, .data, .sentinel, .sentinel, .pinned], laidTests := true, laidLooks := .later }
def RatioRootsUptoCardSaid : Prop := Claim7.holds Tryz.pinned (.plain (OpenSpec.upto ratioRootsSpec)) ratioRootsUptoCard

/-- THE SECOND FORM's CARD OF 'metrolablaw02.RatioComputes'. -/
def ratioComputesUptoCard : Claim7 := { stood := { row := ratioComputesUptoRow, standIns := [], harness := (true, "9d3502c772479c143337bccacf7d2745a33fd5862145d9e5d3f92ca020af35b3"), looks := true }, kinds := [], alts := [], laidByText := true, laidKinds := [.data, .data, .data, .data, .sentinel, .sentinel, .pinned], laidTests := true, laidLooks := .later }
def RatioComputesUptoCardSaid : Prop := Claim7.holds Tryz.pinned (.plain (OpenSpec.upto ratioComputesSpec)) ratioComputesUptoCard

/-- THE SECOND FORM's CARD OF 'metrolablaw02.RatioMakes'. -/
def ratioMakesUptoCard : Claim7 := { stood := { row := ratioMakesUptoRow, standIns := [], harness := (true, "9d3502c772479c143337bccacf7d2745a33fd5862145d9e5d3f92ca020af35b3"), looks := true }, kinds := [], alts := [], laidByText := true, laidKinds := [.data, .data, .data, .data, .sentinel, .sentinel, .pinned], laidTests := true, laidLooks := .later }
def RatioMakesUptoCardSaid : Prop := Claim7.holds Tryz.pinned (.plain (OpenSpec.upto ratioMakesSpec)) ratioMakesUptoCard

/-- THE SECOND FORM's CARD OF 'metrolablaw02.RatioSums'. -/
def ratioSumsUptoCard : Claim7 := { stood := { row := ratioSumsUptoRow, standIns := [], harness := (true, "9d3502c772479c143337bccacf7d2745a33fd5862145d9e5d3f92ca020af35b3"), looks := true }, kinds := [], alts := [], laidByText := true, laidKinds := [.data, .data, .data, .data, .sentinel, .sentinel, .pinned], laidTests := true, laidLooks := .later }
def RatioSumsUptoCardSaid : Prop := Claim7.holds Tryz.pinned (.plain (OpenSpec.upto ratioSumsSpec)) ratioSumsUptoCard

/-- THE SECOND FORM's CARD OF 'metrolablaw02.RatioChecks'. -/
def ratioChecksUptoCard : Claim7 := { stood := { row := ratioChecksUptoRow, standIns := [], harness := (true, "9d3502c772479c143337bccacf7d2745a33fd5862145d9e5d3f92ca020af35b3"), looks := true }, kinds := [], alts := [], laidByText := true, laidKinds := [.data, .data, .data, .data, .sentinel, .sentinel, .pinned], laidTests := true, laidLooks := .later }
def RatioChecksUptoCardSaid : Prop := Claim7.holds Tryz.pinned (.plain (OpenSpec.upto ratioChecksSpec)) ratioChecksUptoCard

/-- THE SECOND FORM's CARD OF 'metrolablaw02.RatioRing'. -/
def ratioRingUptoCard : Claim7 := { stood := { row := ratioRingUptoRow, standIns := [], harness := (true, "9d3502c772479c143337bccacf7d2745a33fd5862145d9e5d3f92ca020af35b3"), looks := true }, kinds := [], alts := [], laidByText := true, laidKinds := [.data, .data, .data, .data, .sentinel, .sentinel, .pinned], laidTests := true, laidLooks := .later }
def RatioRingUptoCardSaid : Prop := Claim7.holds Tryz.pinned (.plain (OpenSpec.upto ratioRingSpec)) ratioRingUptoCard

/-- THE SECOND FORM's CARD OF 'metrolablaw02.RatioOrders'. -/
def ratioOrdersUptoCard : Claim7 := { stood := { row := ratioOrdersUptoRow, standIns := [], harness := (true, "9d3502c772479c143337bccacf7d2745a33fd5862145d9e5d3f92ca020af35b3"), looks := true }, kinds := [], alts := [], laidByText := true, laidKinds := [.data, .data, .data, .data, .sentinel, .sentinel, .pinned], laidTests := true, laidLooks := .later }
def RatioOrdersUptoCardSaid : Prop := Claim7.holds Tryz.pinned (.plain (OpenSpec.upto ratioOrdersSpec)) ratioOrdersUptoCard

/-- THE SECOND FORM's CARD OF 'metrolabtop.TopNumbersPascal'. -/
def topNumbersPascalUptoCard : Claim7 := { stood := { row := topNumbersPascalUptoRow, standIns := [], harness := (true, "9d3502c772479c143337bccacf7d2745a33fd5862145d9e5d3f92ca020af35b3"), looks := true }, kinds := [], alts := [], laidByText := true, laidKinds := [.data, .data, .data, .data, .sentinel, .sentinel, .pinned], laidTests := true, laidLooks := .later }
def TopNumbersPascalUptoCardSaid : Prop := Claim7.holds Tryz.pinned (.plain (OpenSpec.upto topNumbersPascalSpec)) topNumbersPascalUptoCard
end Rows
end Go.Proofs.YtachiilmgnognaaGreatDoor
