/-
  DERIVED. GIVEN WITH THE SEED: THE CARDS: each row of YtpipenkaaodlgaaDoorRows.lean that lists a variable, with what it lists TIED to the program's text (the seventh form; the later family's looks); each row that meets fmt, with fmt's text TOLD by the authors' own Lean function (tested against real Go, not proved from fmt's source: count such statements apart). THE CARD IS WHAT COUNTS. Prove the row's statement (the work); the ties are given (YtpipenkaaodlgaaDoorTie.lean); close each card by the builder's one call (the guide's Derived/Test/ToyasCard.lean, 'card_holds'). Laid BY PROGRAM, IN A SANDBOX (cutbox-door.mjs). By AI agents, Wed Nov 11 2026. No macro, syntax, notation, axiom, sorry.
-/
import Derived.Test.YtpipenkaaodlgaaDoorRows
import GoSem.ClaimSeven
namespace Go.Proofs.YtpipenkaaodlgaaDoor
namespace Rows

/-- THE TIED CARD OF 'berthlaw07.PostingRefused'. -/
def postingRefusedCard : Claim7 := { stood := { row := postingRefusedRow, standIns := [], harness := (true, "2c6211405003e3caa39f272010ff148a620a40eb0ef4bc4ad06ac0cf2be4edb5"), looks := false }, kinds := [], alts := [], laidByText := true, laidKinds := [.data, .pinned], laidTests := true, laidLooks := .later }
def PostingRefusedCardSaid : Prop := Claim7.holds Tryd.pinned (.plain (OpenSpec.ofChange postingRefusedSpec)) postingRefusedCard

/-- THE TIED CARD OF 'berthlaw07.PostingSets'. -/
def postingSetsCard : Claim7 := { stood := { row := postingSetsRow, standIns := [], harness := (true, "2c6211405003e3caa39f272010ff148a620a40eb0ef4bc4ad06ac0cf2be4edb5"), looks := false }, kinds := [], alts := [], laidByText := true, laidKinds := [.data, .pinned], laidTests := true, laidLooks := .later }
def PostingSetsCardSaid : Prop := Claim7.holds Tryd.pinned (.plain (OpenSpec.ofChange postingSetsSpec)) postingSetsCard

/-- THE TIED CARD OF 'berthlaw07.PostingRoad'. -/
def postingRoadCard : Claim7 := { stood := { row := postingRoadRow, standIns := [], harness := (true, "2c6211405003e3caa39f272010ff148a620a40eb0ef4bc4ad06ac0cf2be4edb5"), looks := false }, kinds := [], alts := [], laidByText := true, laidKinds := [.data, .pinned], laidTests := true, laidLooks := .later }
def PostingRoadCardSaid : Prop := Claim7.holds Tryd.pinned (.plain (OpenSpec.ofChange postingRoadSpec)) postingRoadCard

/-- THE SECOND FORM's CARD OF 'berthlaw07.PostingRefused'. -/
def postingRefusedUptoCard : Claim7 := { stood := { row := postingRefusedUptoRow, standIns := [], harness := (true, "2c6211405003e3caa39f272010ff148a620a40eb0ef4bc4ad06ac0cf2be4edb5"), looks := false }, kinds := [], alts := [], laidByText := true, laidKinds := [.data, .pinned], laidTests := true, laidLooks := .later }
def PostingRefusedUptoCardSaid : Prop := Claim7.holds Tryd.pinned (.plain (OpenSpec.upto postingRefusedSpec)) postingRefusedUptoCard

/-- THE SECOND FORM's CARD OF 'berthlaw07.PostingSets'. -/
def postingSetsUptoCard : Claim7 := { stood := { row := postingSetsUptoRow, standIns := [], harness := (true, "2c6211405003e3caa39f272010ff148a620a40eb0ef4bc4ad06ac0cf2be4edb5"), looks := false }, kinds := [], alts := [], laidByText := true, laidKinds := [.data, .pinned], laidTests := true, laidLooks := .later }
def PostingSetsUptoCardSaid : Prop := Claim7.holds Tryd.pinned (.plain (OpenSpec.upto postingSetsSpec)) postingSetsUptoCard

/-- THE SECOND FORM's CARD OF 'berthlaw07.PostingRoad'. -/
def postingRoadUptoCard : Claim7 := { stood := { row := postingRoadUptoRow, standIns := [], harness := (true, "2c6211405003e3caa39f272010ff148a620a40eb0ef4bc4ad06ac0cf2be4edb5"), looks := false }, kinds := [], alts := [], laidByText := true, laidKinds := [.data, .pinned], laidTests := true, laidLooks := .later }
def PostingRoadUptoCardSaid : Prop := Claim7.holds Tryd.pinned (.plain (OpenSpec.upto postingRoadSpec)) postingRoadUptoCard
end Rows
end Go.Proofs.YtpipenkaaodlgaaDoor
