/-
  DERIVED. GIVEN WITH THE SEED: THE CARDS: each row of YtcohengppaighaaDoorRows.lean that lists a variable, with what it lists TIED to the program's text (the seventh form; the later family's looks); each row that meets fmt, with fmt's text TOLD by the authors' own Lean function (tested against real Go, not proved from fmt's source: count such statements apart). THE CARD IS WHAT COUNTS. Prove the row's statement (the work); the ties are given (YtcohengppaighaaDoorTie.lean); close each card by the builder's one call (the guide's Derived/Test/ToyasCard.lean, 'card_holds'). Laid BY PROGRAM, IN A SANDBOX (cutbox-door.mjs). By AI agents, Wed Nov 11 2026. No macro, syntax, notation, axiom, sorry.
-/
import Derived.Test.YtcohengppaighaaDoorRows
import GoSem.ClaimSeven
namespace Go.Proofs.YtcohengppaighaaDoor
namespace Rows

/-- THE TIED CARD OF 'berthlaw03.LabelsWalk'. -/
def labelsWalkCard : Claim7 := { stood := { row := labelsWalkRow, standIns := [], harness := (true, "4b7d26c8c747157edcf0d8cf98dfd0b7aa69b3ee582fe8cf769b2ec2fda5e3fc"), looks := false }, kinds := [], alts := [], laidByText := true, laidKinds := [.data, .pinned], laidTests := true, laidLooks := .later }
def LabelsWalkCardSaid : Prop := Claim7.holds Tryd.pinned (.plain (OpenSpec.ofChange labelsWalkSpec)) labelsWalkCard

/-- THE TIED CARD OF 'berthlaw03.LabelsRead'. -/
def labelsReadCard : Claim7 := { stood := { row := labelsReadRow, standIns := [], harness := (true, "4b7d26c8c747157edcf0d8cf98dfd0b7aa69b3ee582fe8cf769b2ec2fda5e3fc"), looks := false }, kinds := [], alts := [], laidByText := true, laidKinds := [.data, .pinned], laidTests := true, laidLooks := .later }
def LabelsReadCardSaid : Prop := Claim7.holds Tryd.pinned (.plain (OpenSpec.ofChange labelsReadSpec)) labelsReadCard

/-- THE TIED CARD OF 'berthlaw03.LabelsWay'. -/
def labelsWayCard : Claim7 := { stood := { row := labelsWayRow, standIns := [], harness := (true, "4b7d26c8c747157edcf0d8cf98dfd0b7aa69b3ee582fe8cf769b2ec2fda5e3fc"), looks := false }, kinds := [], alts := [], laidByText := true, laidKinds := [.data, .pinned], laidTests := true, laidLooks := .later }
def LabelsWayCardSaid : Prop := Claim7.holds Tryd.pinned (.plain (OpenSpec.ofChange labelsWaySpec)) labelsWayCard

/-- THE TIED CARD OF 'berthlaw03.LabelsMap'. -/
def labelsMapCard : Claim7 := { stood := { row := labelsMapRow, standIns := [], harness := (true, "4b7d26c8c747157edcf0d8cf98dfd0b7aa69b3ee582fe8cf769b2ec2fda5e3fc"), looks := false }, kinds := [], alts := [], laidByText := true, laidKinds := [.data, .pinned], laidTests := true, laidLooks := .later }
def LabelsMapCardSaid : Prop := Claim7.holds Tryd.pinned (.plain (OpenSpec.ofChange labelsMapSpec)) labelsMapCard

/-- THE TIED CARD OF 'berthlaw03.LabelsOrder'. -/
def labelsOrderCard : Claim7 := { stood := { row := labelsOrderRow, standIns := [], harness := (true, "4b7d26c8c747157edcf0d8cf98dfd0b7aa69b3ee582fe8cf769b2ec2fda5e3fc"), looks := false }, kinds := [], alts := [], laidByText := true, laidKinds := [.data, .pinned], laidTests := true, laidLooks := .later }
def LabelsOrderCardSaid : Prop := Claim7.holds Tryd.pinned (.plain (OpenSpec.ofChange labelsOrderSpec)) labelsOrderCard

/-- THE SECOND FORM's CARD OF 'berthlaw03.LabelsWalk'. -/
def labelsWalkUptoCard : Claim7 := { stood := { row := labelsWalkUptoRow, standIns := [], harness := (true, "4b7d26c8c747157edcf0d8cf98dfd0b7aa69b3ee582fe8cf769b2ec2fda5e3fc"), looks := false }, kinds := [], alts := [], laidByText := true, laidKinds := [.data, .pinned], laidTests := true, laidLooks := .later }
def LabelsWalkUptoCardSaid : Prop := Claim7.holds Tryd.pinned (.plain (OpenSpec.upto labelsWalkSpec)) labelsWalkUptoCard

/-- THE SECOND FORM's CARD OF 'berthlaw03.LabelsRead'. -/
def labelsReadUptoCard : Claim7 := { stood := { row := labelsReadUptoRow, standIns := [], harness := (true, "4b7d26c8c747157edcf0d8cf98dfd0b7aa69b3ee582fe8cf769b2ec2fda5e3fc"), looks := false }, kinds := [], alts := [], laidByText := true, laidKinds := [.data, .pinned], laidTests := true, laidLooks := .later }
def LabelsReadUptoCardSaid : Prop := Claim7.holds Tryd.pinned (.plain (OpenSpec.upto labelsReadSpec)) labelsReadUptoCard

/-- THE SECOND FORM's CARD OF 'berthlaw03.LabelsWay'. -/
def labelsWayUptoCard : Claim7 := { stood := { row := labelsWayUptoRow, standIns := [], harness := (true, "4b7d26c8c747157edcf0d8cf98dfd0b7aa69b3ee582fe8cf769b2ec2fda5e3fc"), looks := false }, kinds := [], alts := [], laidByText := true, laidKinds := [.data, .pinned], laidTests := true, laidLooks := .later }
def LabelsWayUptoCardSaid : Prop := Claim7.holds Tryd.pinned (.plain (OpenSpec.upto labelsWaySpec)) labelsWayUptoCard

/-- THE SECOND FORM's CARD OF 'berthlaw03.LabelsMap'. -/
def labelsMapUptoCard : Claim7 := { stood := { row := labelsMapUptoRow, standIns := [], harness := (true, "4b7d26c8c747157edcf0d8cf98dfd0b7aa69b3ee582fe8cf769b2ec2fda5e3fc"), looks := false }, kinds := [], alts := [], laidByText := true, laidKinds := [.data, .pinned], laidTests := true, laidLooks := .later }
def LabelsMapUptoCardSaid : Prop := Claim7.holds Tryd.pinned (.plain (OpenSpec.upto labelsMapSpec)) labelsMapUptoCard

/-- THE SECOND FORM's CARD OF 'berthlaw03.LabelsOrder'. -/
def labelsOrderUptoCard : Claim7 := { stood := { row := labelsOrderUptoRow, standIns := [], harness := (true, "4b7d26c8c747157edcf0d8cf98dfd0b7aa69b3ee582fe8cf769b2ec2fda5e3fc"), looks := false }, kinds := [], alts := [], laidByText := true, laidKinds := [.data, .pinned], laidTests := true, laidLooks := .later }
def LabelsOrderUptoCardSaid : Prop := Claim7.holds Tryd.pinned (.plain (OpenSpec.upto labelsOrderSpec)) labelsOrderUptoCard
end Rows
end Go.Proofs.YtcohengppaighaaDoor
