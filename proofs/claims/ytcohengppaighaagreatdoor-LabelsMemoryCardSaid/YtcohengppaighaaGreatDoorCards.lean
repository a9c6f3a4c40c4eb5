/-
  DERIVED. GIVEN WITH THE SEED: THE CARDS: each row of YtcohengppaighaaGreatDoorRows.lean that lists a variable, with what it lists TIED to the program's text (the seventh form; the later family's looks); each row that meets fmt, with fmt's text TOLD by the authors' own Lean function (tested against real Go, not proved from fmt's source: count such statements apart). THE CARD IS WHAT COUNTS. Prove the row's statement (the work); the ties are given (YtcohengppaighaaGreatDoorTie.lean); close each card by the builder's one call (the guide's Derived/Test/ToyasCard.lean, 'card_holds'). Laid BY PROGRAM, IN A SANDBOX (cutbox-door.mjs). By AI agents, Wed Nov 11 2026. No macro, syntax, notation, axiom, sorry.
-/
import Derived.Test.YtcohengppaighaaGreatDoorRows
import GoSem.ClaimSeven
namespace Go.Proofs.YtcohengppaighaaGreatDoor
namespace Rows

/-- THE TIED CARD OF 'berthlaw03.LabelsMemory'. -/
def labelsMemoryCard : Claim7 := { stood := { row := labelsMemoryRow, standIns := [], harness := (true, "4d52bf899a8d8472528b0ccc6a6064d7d0e8e33f9a46c92e8c172288e6a2e4d8"), looks := false }, kinds := [], alts := [], laidByText := true, laidKinds := [.data, .pinned], laidTests := true, laidLooks := .later }
def LabelsMemoryCardSaid : Prop := Claim7.holds Tryz.pinned (.plain (OpenSpec.ofChange labelsMemorySpec)) labelsMemoryCard

/-- THE TIED CARD OF 'berthlaw03.LabelsTexts'. -/
def labelsTextsCard : Claim7 := { stood := { row := labelsTextsRow, standIns := [], harness := (true, "4d52bf899a8d8472528b0ccc6a6064d7d0e8e33f9a46c92e8c172288e6a2e4d8"), looks := false }, kinds := [], alts := [], laidByText := true, laidKinds := [.data, .data, .data, .data, .pinned], laidTests := true, laidLooks := .later }
def LabelsTextsCardSaid : Prop := Claim7.holds Tryz.pinned (.plain (OpenSpec.ofChange labelsTextsSpec)) labelsTextsCard

/-- THE TIED CARD OF 'berthlaw03.LabelsLists'. -/
def labelsListsCard : Claim7 := { stood := { row := labelsListsRow, standIns := [], harness := (true, "4d52bf899a8d8472528b0ccc6a6064d7d0e8e33f9a46c92e8c172288e6a2e4d8"), looks := false }, kinds := [], alts := [], laidByText := true, laidKinds := [.data, .data, .data, .data, .pinned], laidTests := true, laidLooks := .later }
def LabelsListsCardSaid : Prop := Claim7.holds Tryz.pinned (.plain (OpenSpec.ofChange labelsListsSpec)) labelsListsCard

/-- THE TIED CARD OF 'berthlaw03.LabelsTurns'. -/
def labelsTurnsCard : Claim7 := { stood := { row := labelsTurnsRow, standIns := [], harness := (true, "4d52bf899a8d8472528b0ccc6a6064d7d0e8e33f9a46c92e8c172288e6a2e4d8"), looks := false }, kinds := [], alts := [], laidByText := true, laidKinds := [.data, .data, .data, .data, .pinned], laidTests := true, laidLooks := .later }
def LabelsTurnsCardSaid : Prop := Claim7.holds Tryz.pinned (.plain (OpenSpec.ofChange labelsTurnsSpec)) labelsTurnsCard

/-- THE TIED CARD OF 'berthlaw03.LabelsAll'. -/
def labelsAllCard : Claim7 := { stood := { row := labelsAllRow, standIns := [], harness := (true, "4d52bf899a8d8472528b0ccc6a6064d7d0e8e33f9a46c92e8c172288e6a2e4d8"), looks := false }, kinds := [], alts := [], laidByText := true, laidKinds := [.data, .data, .data, .data, .pinned], laidTests := true, laidLooks := .later }
def LabelsAllCardSaid : Prop := Claim7.holds Tryz.pinned (.plain (OpenSpec.ofChange labelsAllSpec)) labelsAllCard

/-- THE SECOND FORM's CARD OF 'berthlaw03.LabelsMemory'. -/
def labelsMemoryUptoCard : Claim7 := { stood := { row := labelsMemoryUptoRow, standIns := [], harness := (true, "4d52bf899a8d8472528b0ccc6a6064d7d0e8e33f9a46c92e8c172288e6a2e4d8"), looks := false }, kinds := [], alts := [], laidByText := true, laidKinds := [.data, .pinned], laidTests := true, laidLooks := .later }
def LabelsMemoryUptoCardSaid : Prop := Claim7.holds Tryz.pinned (.plain (OpenSpec.upto labelsMemorySpec)) labelsMemoryUptoCard

/-- THE SECOND FORM's CARD OF 'berthlaw03.LabelsTexts'. -/
def labelsTextsUptoCard : Claim7 := { stood := { row := labelsTextsUptoRow, standIns := [], harness := (true, "4d52bf899a8d8472528b0ccc6a6064d7d0e8e33f9a46c92e8c172288e6a2e4d8"), looks := false }, kinds := [], alts := [], laidByText := true, laidKinds := [.data, .data, .data, .data, .pinned], laidTests := true, laidLooks := .later }
def LabelsTextsUptoCardSaid : Prop := Claim7.holds Tryz.pinned (.plain (OpenSpec.upto labelsTextsSpec)) labelsTextsUptoCard

/-- THE SECOND FORM's CARD OF 'berthlaw03.LabelsLists'. -/
def labelsListsUptoCard : Claim7 := { stood := { row := labelsListsUptoRow, standIns := [], harness := (true, "4d52bf899a8d8472528b0ccc6a6064d7d0e8e33f9a46c92e8c172288e6a2e4d8"), looks := false }, kinds := [], alts := [], laidByText := true, laidKinds := [.data, .data, .data, .data, .pinned], laidTests := true, laidLooks := .later }
def LabelsListsUptoCardSaid : Prop := Claim7.holds Tryz.pinned (.plain (OpenSpec.upto labelsListsSpec)) labelsListsUptoCard

/-- THE SECOND FORM's CARD OF 'berthlaw03.LabelsTurns'. -/
def labelsTurnsUptoCard : Claim7 := { stood := { row := labelsTurnsUptoRow, standIns := [], harness := (true, "4d52bf899a8d8472528b0ccc6a6064d7d0e8e33f9a46c92e8c172288e6a2e4d8"), looks := false }, kinds := [], alts := [], laidByText := true, laidKinds := [.data, .data, .data, .data, .pinned], laidTests := true, laidLooks := .later }
def LabelsTurnsUptoCardSaid : Prop := Claim7.holds Tryz.pinned (.plain (OpenSpec.upto labelsTurnsSpec)) labelsTurnsUptoCard

/-- THE SECOND FORM's CARD OF 'berthlaw03.LabelsAll'. -/
def labelsAllUptoCard : Claim7 := { stood := { row := labelsAllUptoRow, standIns := [], harness := (true, "4d52bf899a8d8472528b0ccc6a6064d7d0e8e33f9a46c92e8c172288e6a2e4d8"), looks := false }, kinds := [], alts := [], laidByText := true, laidKinds := [.data, .data, .data, .data, .pinned], laidTests := true, laidLooks := .later }
def LabelsAllUptoCardSaid : Prop := Claim7.holds Tryz.pinned (.plain (OpenSpec.upto labelsAllSpec)) labelsAllUptoCard
end Rows
end Go.Proofs.YtcohengppaighaaGreatDoor
