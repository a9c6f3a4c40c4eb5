/-
  DERIVED. GIVEN WITH THE SEED: THE CARDS: each row of YtbaglnffgbnekaaDoorRows.lean that lists a variable, with what it lists TIED to the program's text (the seventh form; the later family's looks); each row that meets fmt, with fmt's text TOLD by the authors' own Lean function (tested against real Go, not proved from fmt's source: count such statements apart). THE CARD IS WHAT COUNTS. Prove the row's statement (the work); the ties are given (YtbaglnffgbnekaaDoorTie.lean); close each card by the builder's one call (the guide's Derived/Test/ToyasCard.lean, 'card_holds'). Laid BY PROGRAM, IN A SANDBOX (cutbox-door.mjs). By AI agents, Wed Nov 11 2026. No macro, syntax, notation, axiom, sorry.
-/
import Derived.Test.YtbaglnffgbnekaaDoorRows
import GoSem.ClaimSeven
namespace Go.Proofs.YtbaglnffgbnekaaDoor
namespace Rows

/-- THE TIED CARD OF 'berthlaw01.BitsetWalks'. -/
def bitsetWalksCard : Claim7 := { stood := { row := bitsetWalksRow, standIns := [], harness := (true, "f029cc77df85d0035dc7f6e5fd6b0e15128cba864b4456fe0b046a693f3bcb27"), looks := false }, kinds := [], alts := [], laidByText := true, laidKinds := [.data], laidTests := true, laidLooks := .later }
def BitsetWalksCardSaid : Prop := Claim7.holds Tryd.pinned (.plain (OpenSpec.ofChange bitsetWalksSpec)) bitsetWalksCard

/-- THE TIED CARD OF 'berthlaw01.BitsetNil'. -/
def bitsetNilCard : Claim7 := { stood := { row := bitsetNilRow, standIns := [], harness := (true, "f029cc77df85d0035dc7f6e5fd6b0e15128cba864b4456fe0b046a693f3bcb27"), looks := false }, kinds := [], alts := [], laidByText := true, laidKinds := [.data], laidTests := true, laidLooks := .later }
def BitsetNilCardSaid : Prop := Claim7.holds Tryd.pinned (.plain (OpenSpec.ofChange bitsetNilSpec)) bitsetNilCard

/-- THE TIED CARD OF 'berthlaw01.BitsetPlays'. -/
def bitsetPlaysCard : Claim7 := { stood := { row := bitsetPlaysRow, standIns := [], harness := (true, "f029cc77df85d0035dc7f6e5fd6b0e15128cba864b4456fe0b046a693f3bcb27"), looks := false }, kinds := [], alts := [], laidByText := true, laidKinds := [.data], laidTests := true, laidLooks := .later }
def BitsetPlaysCardSaid : Prop := Claim7.holds Tryd.pinned (.plain (OpenSpec.ofChange bitsetPlaysSpec)) bitsetPlaysCard

/-- THE SECOND FORM's CARD OF 'berthlaw01.BitsetWalks'. -/
def bitsetWalksUptoCard : Claim7 := { stood := { row := bitsetWalksUptoRow, standIns := [], harness := (true, "f029cc77df85d0035dc7f6e5fd6b0e15128cba864b4456fe0b046a693f3bcb27"), looks := false }, kinds := [], alts := [], laidByText := true, laidKinds := [.data], laidTests := true, laidLooks := .later }
def BitsetWalksUptoCardSaid : Prop := Claim7.holds Tryd.pinned (.plain (OpenSpec.upto bitsetWalksSpec)) bitsetWalksUptoCard

/-- THE SECOND FORM's CARD OF 'berthlaw01.BitsetNil'. -/
def bitsetNilUptoCard : Claim7 := { stood := { row := bitsetNilUptoRow, standIns := [], harness := (true, "f029cc77df85d0035dc7f6e5fd6b0e15128cba864b4456fe0b046a693f3bcb27"), looks := false }, kinds := [], alts := [], laidByText := true, laidKinds := [.data], laidTests := true, laidLooks := .later }
def BitsetNilUptoCardSaid : Prop := Claim7.holds Tryd.pinned (.plain (OpenSpec.upto bitsetNilSpec)) bitsetNilUptoCard

/-- THE SECOND FORM's CARD OF 'berthlaw01.BitsetPlays'. -/
def bitsetPlaysUptoCard : Claim7 := { stood := { row := bitsetPlaysUptoRow, standIns := [], harness := (true, "f029cc77df85d0035dc7f6e5fd6b0e15128cba864b4456fe0b046a693f3bcb27"), looks := false }, kinds := [], alts := [], laidByText := true, laidKinds := [.data], laidTests := true, laidLooks := .later }
def BitsetPlaysUptoCardSaid : Prop := Claim7.holds Tryd.pinned (.plain (OpenSpec.upto bitsetPlaysSpec)) bitsetPlaysUptoCard
end Rows
end Go.Proofs.YtbaglnffgbnekaaDoor
