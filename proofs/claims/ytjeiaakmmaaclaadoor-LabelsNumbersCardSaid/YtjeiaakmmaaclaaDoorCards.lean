/-
  DERIVED. GIVEN WITH THE SEED: THE CARDS: each row of YtjeiaakmmaaclaaDoorRows.lean that lists a variable, with what it lists TIED to the program's text (the seventh form; the later family's looks); each row that meets fmt, with fmt's text TOLD by the authors' own Lean function (tested against real Go, not proved from fmt's source: count such statements apart). THE CARD IS WHAT COUNTS. Prove the row's statement (the work); the ties are given (YtjeiaakmmaaclaaDoorTie.lean); close each card by the builder's one call (the guide's Derived/Test/ToyasCard.lean, 'card_holds'). Laid BY PROGRAM, IN A SANDBOX (cutbox-door.mjs). By AI agents, Wed Nov 11 2026. No macro, syntax, notation, axiom, sorry.
-/
import Derived.Test.YtjeiaakmmaaclaaDoorRows
import GoSem.ClaimSeven
namespace Go.Proofs.YtjeiaakmmaaclaaDoor
namespace Rows

/-- THE TIED CARD OF 'berthlaw03.LabelsNumbers'. -/
def labelsNumbersCard : Claim7 := { stood := { row := labelsNumbersRow, standIns := [], harness := (true, "b9f102a6e7d06fc28642e5b361b6158e21866a483687cfcd513d7adcdd577a97"), looks := false }, kinds := [], alts := [], laidByText := true, laidKinds := [.data, .data, .data], laidTests := true, laidLooks := .later }
def LabelsNumbersCardSaid : Prop := Claim7.holds Tryd.pinned (.plain (OpenSpec.ofChange labelsNumbersSpec)) labelsNumbersCard

/-- THE SECOND FORM's CARD OF 'berthlaw03.LabelsNumbers'. -/
def labelsNumbersUptoCard : Claim7 := { stood := { row := labelsNumbersUptoRow, standIns := [], harness := (true, "b9f102a6e7d06fc28642e5b361b6158e21866a483687cfcd513d7adcdd577a97"), looks := false }, kinds := [], alts := [], laidByText := true, laidKinds := [.data, .data, .data], laidTests := true, laidLooks := .later }
def LabelsNumbersUptoCardSaid : Prop := Claim7.holds Tryd.pinned (.plain (OpenSpec.upto labelsNumbersSpec)) labelsNumbersUptoCard
end Rows
end Go.Proofs.YtjeiaakmmaaclaaDoor
