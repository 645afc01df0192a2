/-
  DERIVED. GIVEN WITH THE SEED: THE CARDS: each row of YtjljappilpkelaaDoorRows.lean that lists a variable, with what it lists TIED to the program's text (the seventh form; the later family's looks); each row that meets fmt, with fmt's text TOLD by the authors' own Lean function (tested against real Go, not proved from fmt's source: count such statements apart). THE CARD IS WHAT COUNTS. Prove the row's statement (the work); the ties are given (YtjljappilpkelaaDoorTie.lean); close each card by the builder's one call (the guide's Derived/Test/ToyasCard.lean, 'card_holds'). Laid BY PROGRAM, IN A SANDBOX (cutbox-door.mjs). By AI agents, Wed Nov 11 2026. No macro, syntax, notation, axiom, sorry.
-/
import Derived.Test.YtjljappilpkelaaDoorRows
import GoSem.ClaimSeven
namespace Go.Proofs.YtjljappilpkelaaDoor
namespace Rows

/-- THE TIED CARD OF 'metrolablaw01.WholeChooses'. -/
def wholeChoosesCard : Claim7 := { stood := { row := wholeChoosesRow, standIns := [], harness := (true, "95466ef83a0f67a0a53597a68dbe9222041a072938a5a01416f58b7743cf14c1"), looks := true }, kinds := [], alts := [], laidByText := true, laidKinds := [.data, .data, .data, .data, .sentinel, .sentinel, .pinned], laidTests := true, laidLooks := .later }
def WholeChoosesCardSaid : Prop := Claim7.holds Tryd.pinned (.plain (OpenSpec.ofChange wholeChoosesSpec)) wholeChoosesCard

/-- THE TIED CARD OF 'metrolablaw01.WholeShares'. -/
def wholeSharesCard : Claim7 := { stood := { row := wholeSharesRow, standIns := [], harness := (true, "95466ef83a0f67a0a53597a68dbe9222041a072938a5a01416f58b7743cf14c1"), looks := true }, kinds := [], alts := [], laidByText := true, laidKinds := [.data, .data, .data, .data, .sentinel, .sentinel, .pinned], laidTests := true, laidLooks := .later }
def WholeSharesCardSaid : Prop := Claim7.holds Tryd.pinned (.plain (OpenSpec.ofChange wholeSharesSpec)) wholeSharesCard

/-- THE TIED CARD OF 'metrolablaw01.WholeDivides'. -/
def wholeDividesCard : Claim7 := { stood := { row := wholeDividesRow, standIns := [], harness := (true, "95466ef83a0f67a0a53597a68dbe9222041a072938a5a01416f58b7743cf14c1"), looks := true }, kinds := [], alts := [], laidByText := true, laidKinds := [.data, .data, .data, .data, .sentinel, .sentinel, .pinned], laidTests := true, laidLooks := .later }
def WholeDividesCardSaid : Prop := Claim7.holds Tryd.pinned (.plain (OpenSpec.ofChange wholeDividesSpec)) wholeDividesCard

/-- THE TIED CARD OF 'metrolablaw01.WholeObeys'. -/
def wholeObeysCard : Claim7 := { stood := { row := wholeObeysRow, standIns := [], harness := (true, "95466ef83a0f67a0a53597a68dbe9222041a072938a5a01416f58b7743cf14c1"), looks := true }, kinds := [], alts := [], laidByText := true, laidKinds := [.data, .data, .data, .data, .sentinel, .sentinel, .pinned], laidTests := true, laidLooks := .later }
def WholeObeysCardSaid : Prop := Claim7.holds Tryd.pinned (.plain (OpenSpec.ofChange wholeObeysSpec)) wholeObeysCard

/-- THE SECOND FORM's CARD OF 'metrolablaw01.WholeChooses'. -/
def wholeChoosesUptoCard : Claim7 := { stood := { row := wholeChoosesUptoRow, standIns := [], harness := (true, "95466ef83a0f67a0a53597a68dbe9222041a072938a5a01416f58b7743cf14c1"), looks := true }, kinds := [], alts := [], laidByText := true, laidKinds := [.data, .data, .data, .data, .sentinel, .sentinel, .pinned], laidTests := true, laidLooks := .later }
def WholeChoosesUptoCardSaid : Prop := Claim7.holds Tryd.pinned (.plain (OpenSpec.upto wholeChoosesSpec)) wholeChoosesUptoCard

/-- THE SECOND FORM's CARD OF 'metrolablaw01.WholeShares'. -/
def wholeSharesUptoCard : Claim7 := { stood := { row := wholeSharesUptoRow, standIns := [], harness := (true, "95466ef83a0f67a0a53597a68dbe9222041a072938a5a01416f58b7743cf14c1"), looks := true }, kinds := [], alts := [], laidByText := true, laidKinds := [.data, .data, .data, .data, .sentinel, .sentinel, .pinned], laidTests := true, laidLooks := .later }
def WholeSharesUptoCardSaid : Prop := Claim7.holds Tryd.pinned (.plain (OpenSpec.upto wholeSharesSpec)) wholeSharesUptoCard

/-- THE SECOND FORM's CARD OF 'metrolablaw01.WholeDivides'. -/
def wholeDividesUptoCard : Claim7 := { stood := { row := wholeDividesUptoRow, standIns := [], harness := (true, "95466ef83a0f67a0a53597a68dbe9222041a072938a5a01416f58b7743cf14c1"), looks := true }, kinds := [], alts := [], laidByText := true, laidKinds := [.data, .data, .data, .data, .sentinel, .sentinel, .pinned], laidTests := true, laidLooks := .later }
def WholeDividesUptoCardSaid : Prop := Claim7.holds Tryd.pinned (.plain (OpenSpec.upto wholeDividesSpec)) wholeDividesUptoCard

/-- THE SECOND FORM's CARD OF 'metrolablaw01.WholeObeys'. -/
def wholeObeysUptoCard : Claim7 := { stood := { row := wholeObeysUptoRow, standIns := [], harness := (true, "95466ef83a0f67a0a53597a68dbe9222041a072938a5a01416f58b7743cf14c1"), looks := true }, kinds := [], alts := [], laidByText := true, laidKinds := [.data, .data, .data, .data, .sentinel, .sentinel, .pinned], laidTests := true, laidLooks := .later }
def WholeObeysUptoCardSaid : Prop := Claim7.holds Tryd.pinned (.plain (OpenSpec.upto wholeObeysSpec)) wholeObeysUptoCard
end Rows
end Go.Proofs.YtjljappilpkelaaDoor
