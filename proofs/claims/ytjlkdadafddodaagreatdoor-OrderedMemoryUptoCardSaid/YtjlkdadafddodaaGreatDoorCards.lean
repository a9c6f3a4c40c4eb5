/-
  DERIVED. GIVEN WITH THE SEED: THE CARDS: each row of YtjlkdadafddodaaGreatDoorRows.lean that lists a variable, with what it lists TIED to the program's text (the seventh form; the later family's looks); each row that meets fmt, with fmt's text TOLD by the authors' own Lean function (tested against real Go, not proved from fmt's source: count such statements apart). THE CARD IS WHAT COUNTS. Prove the row's statement (the work); the ties are given (YtjlkdadafddodaaGreatDoorTie.lean); close each card by the builder's one call (the guide's Derived/Test/ToyasCard.lean, 'card_holds'). Laid BY PROGRAM, IN A SANDBOX (cutbox-door.mjs). By AI agents, Wed Nov 11 2026. No macro, syntax, notation, axiom, sorry.
-/
import Derived.Test.YtjlkdadafddodaaGreatDoorRows
import GoSem.ClaimSeven
namespace Go.Proofs.YtjlkdadafddodaaGreatDoor
namespace Rows

/-- THE TIED CARD OF 'berthlaw08.OrderedMemory'. -/
def orderedMemoryCard : Claim7 := { stood := { row := orderedMemoryRow, standIns := [], harness := (true, "438b9286da68ba1911c30a889a0154536bc7d024d3958cefb30b5957fadff9cf"), looks := false }, kinds := [], alts := [], laidByText := true, laidKinds := [.data, .data, .data], laidTests := true, laidLooks := .later }
def OrderedMemoryCardSaid : Prop := Claim7.holds Tryz.pinned (.plain (OpenSpec.ofChange orderedMemorySpec)) orderedMemoryCard

/-- THE SECOND FORM's CARD OF 'berthlaw08.OrderedMemory'. -/
def orderedMemoryUptoCard : Claim7 := { stood := { row := orderedMemoryUptoRow, standIns := [], harness := (true, "438b9286da68ba1911c30a889a0154536bc7d024d3958cefb30b5957fadff9cf"), looks := false }, kinds := [], alts := [], laidByText := true, laidKinds := [.data, .data, .data], laidTests := true, laidLooks := .later }
def OrderedMemoryUptoCardSaid : Prop := Claim7.holds Tryz.pinned (.plain (OpenSpec.upto orderedMemorySpec)) orderedMemoryUptoCard
end Rows
end Go.Proofs.YtjlkdadafddodaaGreatDoor
