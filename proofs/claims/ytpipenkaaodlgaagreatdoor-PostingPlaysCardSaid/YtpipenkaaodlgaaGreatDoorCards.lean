/-
  DERIVED. GIVEN WITH THE SEED: THE CARDS: each row of YtpipenkaaodlgaaGreatDoorRows.lean that lists a variable, with what it lists TIED to the program's text (the seventh form; the later family's looks); each row that meets fmt, with fmt's text TOLD by the authors' own Lean function (tested against real Go, not proved from fmt's source: count such statements apart). THE CARD IS WHAT COUNTS. Prove the row's statement (the work); the ties are given (YtpipenkaaodlgaaGreatDoorTie.lean); close each card by the builder's one call (the guide's Derived/Test/ToyasCard.lean, 'card_holds'). Laid BY PROGRAM, IN A SANDBOX (cutbox-door.mjs). By AI agents, Wed Nov 11 2026. No macro, syntax, notation, axiom, sorry.
-/
import Derived.Test.YtpipenkaaodlgaaGreatDoorRows
import GoSem.ClaimSeven
namespace Go.Proofs.YtpipenkaaodlgaaGreatDoor
namespace Rows

/-- THE TIED CARD OF 'berthlaw07.PostingOwn'. -/
def postingOwnCard : Claim7 := { stood := { row := postingOwnRow, standIns := [], harness := (true, "d82f0f435ed8d723d4c8ba5083f1bf2ca78d1c6f8a3f690fdaaced4f3d1f7682"), looks := false }, kinds := [], alts := [], laidByText := true, laidKinds := [.data, .pinned], laidTests := true, laidLooks := .later }
def PostingOwnCardSaid : Prop := Claim7.holds Tryz.pinned (.plain (OpenSpec.ofChange postingOwnSpec)) postingOwnCard

/-- THE TIED CARD OF 'berthlaw07.PostingPlays'. -/
def postingPlaysCard : Claim7 := { stood := { row := postingPlaysRow, standIns := [], harness := (true, "d82f0f435ed8d723d4c8ba5083f1bf2ca78d1c6f8a3f690fdaaced4f3d1f7682"), looks := false }, kinds := [], alts := [], laidByText := true, laidKinds := [.data, .pinned], laidTests := true, laidLooks := .later }
def PostingPlaysCardSaid : Prop := Claim7.holds Tryz.pinned (.plain (OpenSpec.ofChange postingPlaysSpec)) postingPlaysCard

/-- THE SECOND FORM's CARD OF 'berthlaw07.PostingOwn'. -/
def postingOwnUptoCard : Claim7 := { stood := { row := postingOwnUptoRow, standIns := [], harness := (true, "d82f0f435ed8d723d4c8ba5083f1bf2ca78d1c6f8a3f690fdaaced4f3d1f7682"), looks := false }, kinds := [], alts := [], laidByText := true, laidKinds := [.data, .pinned], laidTests := true, laidLooks := .later }
def PostingOwnUptoCardSaid : Prop := Claim7.holds Tryz.pinned (.plain (OpenSpec.upto postingOwnSpec)) postingOwnUptoCard

/-- THE SECOND FORM's CARD OF 'berthlaw07.PostingPlays'. -/
def postingPlaysUptoCard : Claim7 := { stood := { row := postingPlaysUptoRow, standIns := [], harness := (true, "d82f0f435ed8d723d4c8ba5083f1bf2ca78d1c6f8a3f690fdaaced4f3d1f7682"), looks := false }, kinds := [], alts := [], laidByText := true, laidKinds := [.data, .pinned], laidTests := true, laidLooks := .later }
def PostingPlaysUptoCardSaid : Prop := Claim7.holds Tryz.pinned (.plain (OpenSpec.upto postingPlaysSpec)) postingPlaysUptoCard
end Rows
end Go.Proofs.YtpipenkaaodlgaaGreatDoor
