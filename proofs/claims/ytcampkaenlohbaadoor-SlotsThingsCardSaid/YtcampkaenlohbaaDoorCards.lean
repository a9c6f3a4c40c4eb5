/-
  DERIVED. GIVEN WITH THE SEED: THE CARDS: each row of YtcampkaenlohbaaDoorRows.lean that lists a variable, with what it lists TIED to the program's text (the seventh form; the later family's looks); each row that meets fmt, with fmt's text TOLD by the authors' own Lean function (tested against real Go, not proved from fmt's source: count such statements apart). THE CARD IS WHAT COUNTS. Prove the row's statement (the work); the ties are given (YtcampkaenlohbaaDoorTie.lean); close each card by the builder's one call (the guide's Derived/Test/ToyasCard.lean, 'card_holds'). Laid BY PROGRAM, IN A SANDBOX (cutbox-door.mjs). By AI agents, Wed Nov 11 2026. No macro, syntax, notation, axiom, sorry.
-/
import Derived.Test.YtcampkaenlohbaaDoorRows
import GoSem.ClaimSeven
namespace Go.Proofs.YtcampkaenlohbaaDoor
namespace Rows

/-- THE TIED CARD OF 'berthlaw05.SlotsFills'. -/
def slotsFillsCard : Claim7 := { stood := { row := slotsFillsRow, standIns := [], harness := (true, "7c160c0cea22255a774c2ac3d89d1053e9bf535192c335c8e7f046bfac28c889"), looks := false }, kinds := [], alts := [], laidByText := true, laidKinds := [.data, .data, .data], laidTests := true, laidLooks := .later }
def SlotsFillsCardSaid : Prop := Claim7.holds Tryd.pinned (.plain (OpenSpec.ofChange slotsFillsSpec)) slotsFillsCard

/-- THE TIED CARD OF 'berthlaw05.SlotsThings'. -/
def slotsThingsCard : Claim7 := { stood := { row := slotsThingsRow, standIns := [], harness := (true, "7c160c0cea22255a774c2ac3d89d1053e9bf535192c335c8e7f046bfac28c889"), looks := false }, kinds := [], alts := [], laidByText := true, laidKinds := [.data, .data, .data], laidTests := true, laidLooks := .later }
def SlotsThingsCardSaid : Prop := Claim7.holds Tryd.pinned (.plain (OpenSpec.ofChange slotsThingsSpec)) slotsThingsCard

/-- THE TIED CARD OF 'berthlaw05.SlotsMemory'. -/
def slotsMemoryCard : Claim7 := { stood := { row := slotsMemoryRow, standIns := [], harness := (true, "7c160c0cea22255a774c2ac3d89d1053e9bf535192c335c8e7f046bfac28c889"), looks := false }, kinds := [], alts := [], laidByText := true, laidKinds := [.data, .data, .data], laidTests := true, laidLooks := .later }
def SlotsMemoryCardSaid : Prop := Claim7.holds Tryd.pinned (.plain (OpenSpec.ofChange slotsMemorySpec)) slotsMemoryCard

/-- THE SECOND FORM's CARD OF 'berthlaw05.SlotsFills'. -/
def slotsFillsUptoCard : Claim7 := { stood := { row := slotsFillsUptoRow, standIns := [], harness := (true, "7c160c0cea22255a774c2ac3d89d1053e9bf535192c335c8e7f046bfac28c889"), looks := false }, kinds := [], alts := [], laidByText := true, laidKinds := [.data, .data, .data], laidTests := true, laidLooks := .later }
def SlotsFillsUptoCardSaid : Prop := Claim7.holds Tryd.pinned (.plain (OpenSpec.upto slotsFillsSpec)) slotsFillsUptoCard

/-- THE SECOND FORM's CARD OF 'berthlaw05.SlotsThings'. -/
def slotsThingsUptoCard : Claim7 := { stood := { row := slotsThingsUptoRow, standIns := [], harness := (true, "7c160c0cea22255a774c2ac3d89d1053e9bf535192c335c8e7f046bfac28c889"), looks := false }, kinds := [], alts := [], laidByText := true, laidKinds := [.data, .data, .data], laidTests := true, laidLooks := .later }
def SlotsThingsUptoCardSaid : Prop := Claim7.holds Tryd.pinned (.plain (OpenSpec.upto slotsThingsSpec)) slotsThingsUptoCard

/-- THE SECOND FORM's CARD OF 'berthlaw05.SlotsMemory'. -/
def slotsMemoryUptoCard : Claim7 := { stood := { row := slotsMemoryUptoRow, standIns := [], harness := (true, "7c160c0cea22255a774c2ac3d89d1053e9bf535192c335c8e7f046bfac28c889"), looks := false }, kinds := [], alts := [], laidByText := true, laidKinds := [.data, .data, .data], laidTests := true, laidLooks := .later }
def SlotsMemoryUptoCardSaid : Prop := Claim7.holds Tryd.pinned (.plain (OpenSpec.upto slotsMemorySpec)) slotsMemoryUptoCard
end Rows
end Go.Proofs.YtcampkaenlohbaaDoor
