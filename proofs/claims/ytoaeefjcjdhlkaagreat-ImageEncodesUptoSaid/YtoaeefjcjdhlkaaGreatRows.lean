/-
  No cell of these rows narrows 'for every input' (looked for: loops, veiled, ifaces, maps, wideKeys, modest, calm, conditions, laid).
  DERIVED. THE GIVEN ROWS OF THIS SEAT. 9 by the template 'for every input the law returns true; each argument reads behind the call as it read before'; 0 by the template 'total and deterministic' (their statements: YtoaeefjcjdhlkaaGreatTotals.lean).
  GIVEN WITH THE SEED: the statements are not yours to turn. If you find one false, say at which input.
  Laid BY PROGRAM, IN A SANDBOX (cutbox-rows.mjs): the forced cells as the released guide's own fill.sh prints them over the translation b08d1b51ff359585… (all of the seat's roots in one cut). By AI agents, Wed Nov 11 2026. No macro, syntax, notation, axiom, sorry.
-/
import Derived.Test.YtoaeefjcjdhlkaaGreatChecked
import GoSem.Claim
import GoSem.ClaimJoined
import GoSem.ClaimMapViews
import Derived.JoinedTies
import Derived.KernelRfl
namespace Go.Proofs.YtoaeefjcjdhlkaaGreat
/- THE CELL 'sum', in the pinned program and in every row, IS THE sha256 OF THE DUMP (.gsa) THAT YtoaeefjcjdhlkaaGreatProg.lean LOADS. Nothing in Lean hashes anything: it is a label: what it is worth is what the hold of that sum in a sandbox is worth. -/
noncomputable def Tryz.pinned : Pinned := { name := "ytoaeefjcjdhlkaagreat", sum := "b08d1b51ff359585f0c686ca12624d61519aa3eb3b47d0e84b5cd580a16ab06b", checked := Tryz.checked }
namespace Rows
def none {H : Type} : Left H := { results := [], args := [] }

/-- 'berthlaw26.ImageEncodes': WHATEVER THE INPUT: true; the input reads as it did. -/
def imageEncodesSpec : ChangeSpec := { name := "imageEncodes", fn := fun _ => fun
  | [d] => { results := [.lit (.bool true)], args := [d] }
  | _ => none }
def imageEncodesRow : OpenClaim := { program := "ytoaeefjcjdhlkaagreat", sum := "b08d1b51ff359585f0c686ca12624d61519aa3eb3b47d0e84b5cd580a16ab06b", func := "berth/berthlaw26.ImageEncodes", spec := "imageEncodes", unfollowed := true, recurses := true, apart := false }
def ImageEncodesSaid : Prop := imageEncodesRow.holds Tryz.pinned (OpenSpec.ofChange imageEncodesSpec)

/-- ITS FALSE NEIGHBOUR: 'it returns false'. Refute it at one input. -/
def imageEncodesWrong : ChangeSpec := { name := "imageEncodes", fn := fun _ => fun
  | [d] => { results := [.lit (.bool false)], args := [d] }
  | _ => none }
def ImageEncodesWrongFalsely : Prop := imageEncodesRow.holds Tryz.pinned (OpenSpec.ofChange imageEncodesWrong)

/-- 'berthlaw26.ImageTurned': WHATEVER THE INPUT: true; the input reads as it did. -/
def imageTurnedSpec : ChangeSpec := { name := "imageTurned", fn := fun _ => fun
  | [d1, d2, d3] => { results := [.lit (.bool true)], args := [d1, d2, d3] }
  | _ => none }
def imageTurnedRow : OpenClaim := { program := "ytoaeefjcjdhlkaagreat", sum := "b08d1b51ff359585f0c686ca12624d61519aa3eb3b47d0e84b5cd580a16ab06b", func := "berth/berthlaw26.ImageTurned", spec := "imageTurned", unfollowed := true, recurses := true, apart := false }
def ImageTurnedSaid : Prop := imageTurnedRow.holds Tryz.pinned (OpenSpec.ofChange imageTurnedSpec)

/-- ITS FALSE NEIGHBOUR: 'it returns false'. Refute it at one input. -/
def imageTurnedWrong : ChangeSpec := { name := "imageTurned", fn := fun _ => fun
  | [d1, d2, d3] => { results := [.lit (.bool false)], args := [d1, d2, d3] }
  | _ => none }
def ImageTurnedWrongFalsely : Prop := imageTurnedRow.holds Tryz.pinned (OpenSpec.ofChange imageTurnedWrong)

/-- 'berthlaw26.ImageTells': WHATEVER THE INPUT: true; the input reads as it did. -/
def imageTellsSpec : ChangeSpec := { name := "imageTells", fn := fun _ => fun
  | [d1, d2] => { results := [.lit (.bool true)], args := [d1, d2] }
  | _ => none }
def imageTellsRow : OpenClaim := { program := "ytoaeefjcjdhlkaagreat", sum := "b08d1b51ff359585f0c686ca12624d61519aa3eb3b47d0e84b5cd580a16ab06b", func := "berth/berthlaw26.ImageTells", spec := "imageTells", unfollowed := true, recurses := true, apart := false }
def ImageTellsSaid : Prop := imageTellsRow.holds Tryz.pinned (OpenSpec.ofChange imageTellsSpec)

/-- ITS FALSE NEIGHBOUR: 'it returns false'. Refute it at one input. -/
def imageTellsWrong : ChangeSpec := { name := "imageTells", fn := fun _ => fun
  | [d1, d2] => { results := [.lit (.bool false)], args := [d1, d2] }
  | _ => none }
def ImageTellsWrongFalsely : Prop := imageTellsRow.holds Tryz.pinned (OpenSpec.ofChange imageTellsWrong)

/-- 'berthlaw26.ImageDecodes': WHATEVER THE INPUT: true; the input reads as it did. -/
def imageDecodesSpec : ChangeSpec := { name := "imageDecodes", fn := fun _ => fun
  | [d] => { results := [.lit (.bool true)], args := [d] }
  | _ => none }
def imageDecodesRow : OpenClaim := { program := "ytoaeefjcjdhlkaagreat", sum := "b08d1b51ff359585f0c686ca12624d61519aa3eb3b47d0e84b5cd580a16ab06b", func := "berth/berthlaw26.ImageDecodes", spec := "imageDecodes", unfollowed := true, recurses := true, apart := false }
def ImageDecodesSaid : Prop := imageDecodesRow.holds Tryz.pinned (OpenSpec.ofChange imageDecodesSpec)

/-- ITS FALSE NEIGHBOUR: 'it returns false'. Refute it at one input. -/
def imageDecodesWrong : ChangeSpec := { name := "imageDecodes", fn := fun _ => fun
  | [d] => { results := [.lit (.bool false)], args := [d] }
  | _ => none }
def ImageDecodesWrongFalsely : Prop := imageDecodesRow.holds Tryz.pinned (OpenSpec.ofChange imageDecodesWrong)

/-- 'berthlaw26.ImageInside': WHATEVER THE INPUT: true; the input reads as it did. -/
def imageInsideSpec : ChangeSpec := { name := "imageInside", fn := fun _ => fun
  | [d] => { results := [.lit (.bool true)], args := [d] }
  | _ => none }
def imageInsideRow : OpenClaim := { program := "ytoaeefjcjdhlkaagreat", sum := "b08d1b51ff359585f0c686ca12624d61519aa3eb3b47d0e84b5cd580a16ab06b", func := "berth/berthlaw26.ImageInside", spec := "imageInside", unfollowed := true, recurses := true, apart := false }
def ImageInsideSaid : Prop := imageInsideRow.holds Tryz.pinned (OpenSpec.ofChange imageInsideSpec)

/-- ITS FALSE NEIGHBOUR: 'it returns false'. Refute it at one input. -/
def imageInsideWrong : ChangeSpec := { name := "imageInside", fn := fun _ => fun
  | [d] => { results := [.lit (.bool false)], args := [d] }
  | _ => none }
def ImageInsideWrongFalsely : Prop := imageInsideRow.holds Tryz.pinned (OpenSpec.ofChange imageInsideWrong)

/-- 'berthlaw26.ImageBack': WHATEVER THE INPUT: true; the input reads as it did. -/
def imageBackSpec : ChangeSpec := { name := "imageBack", fn := fun _ => fun
  | [d] => { results := [.lit (.bool true)], args := [d] }
  | _ => none }
def imageBackRow : OpenClaim := { program := "ytoaeefjcjdhlkaagreat", sum := "b08d1b51ff359585f0c686ca12624d61519aa3eb3b47d0e84b5cd580a16ab06b", func := "berth/berthlaw26.ImageBack", spec := "imageBack", unfollowed := true, recurses := true, apart := false }
def ImageBackSaid : Prop := imageBackRow.holds Tryz.pinned (OpenSpec.ofChange imageBackSpec)

/-- ITS FALSE NEIGHBOUR: 'it returns false'. Refute it at one input. -/
def imageBackWrong : ChangeSpec := { name := "imageBack", fn := fun _ => fun
  | [d] => { results := [.lit (.bool false)], args := [d] }
  | _ => none }
def ImageBackWrongFalsely : Prop := imageBackRow.holds Tryz.pinned (OpenSpec.ofChange imageBackWrong)

/-- 'berthlaw26.ImageOneForm': WHATEVER THE INPUT: true; the input reads as it did. -/
def imageOneFormSpec : ChangeSpec := { name := "imageOneForm", fn := fun _ => fun
  | [d1, d2] => { results := [.lit (.bool true)], args := [d1, d2] }
  | _ => none }
def imageOneFormRow : OpenClaim := { program := "ytoaeefjcjdhlkaagreat", sum := "b08d1b51ff359585f0c686ca12624d61519aa3eb3b47d0e84b5cd580a16ab06b", func := "berth/berthlaw26.ImageOneForm", spec := "imageOneForm", unfollowed := true, recurses := true, apart := false }
def ImageOneFormSaid : Prop := imageOneFormRow.holds Tryz.pinned (OpenSpec.ofChange imageOneFormSpec)

/-- ITS FALSE NEIGHBOUR: 'it returns false'. Refute it at one input. -/
def imageOneFormWrong : ChangeSpec := { name := "imageOneForm", fn := fun _ => fun
  | [d1, d2] => { results := [.lit (.bool false)], args := [d1, d2] }
  | _ => none }
def ImageOneFormWrongFalsely : Prop := imageOneFormRow.holds Tryz.pinned (OpenSpec.ofChange imageOneFormWrong)

/-- 'berthlaw26.ImageCutShort': WHATEVER THE INPUT: true; the input reads as it did. -/
def imageCutShortSpec : ChangeSpec := { name := "imageCutShort", fn := fun _ => fun
  | [d1, d2] => { results := [.lit (.bool true)], args := [d1, d2] }
  | _ => none }
def imageCutShortRow : OpenClaim := { program := "ytoaeefjcjdhlkaagreat", sum := "b08d1b51ff359585f0c686ca12624d61519aa3eb3b47d0e84b5cd580a16ab06b", func := "berth/berthlaw26.ImageCutShort", spec := "imageCutShort", unfollowed := true, recurses := true, apart := false }
def ImageCutShortSaid : Prop := imageCutShortRow.holds Tryz.pinned (OpenSpec.ofChange imageCutShortSpec)

/-- ITS FALSE NEIGHBOUR: 'it returns false'. Refute it at one input. -/
def imageCutShortWrong : ChangeSpec := { name := "imageCutShort", fn := fun _ => fun
  | [d1, d2] => { results := [.lit (.bool false)], args := [d1, d2] }
  | _ => none }
def ImageCutShortWrongFalsely : Prop := imageCutShortRow.holds Tryz.pinned (OpenSpec.ofChange imageCutShortWrong)

/-- 'berthlaw26.ImageLonger': WHATEVER THE INPUT: true; the input reads as it did. -/
def imageLongerSpec : ChangeSpec := { name := "imageLonger", fn := fun _ => fun
  | [d1, d2] => { results := [.lit (.bool true)], args := [d1, d2] }
  | _ => none }
def imageLongerRow : OpenClaim := { program := "ytoaeefjcjdhlkaagreat", sum := "b08d1b51ff359585f0c686ca12624d61519aa3eb3b47d0e84b5cd580a16ab06b", func := "berth/berthlaw26.ImageLonger", spec := "imageLonger", unfollowed := true, recurses := true, apart := false }
def ImageLongerSaid : Prop := imageLongerRow.holds Tryz.pinned (OpenSpec.ofChange imageLongerSpec)

/-- ITS FALSE NEIGHBOUR: 'it returns false'. Refute it at one input. -/
def imageLongerWrong : ChangeSpec := { name := "imageLonger", fn := fun _ => fun
  | [d1, d2] => { results := [.lit (.bool false)], args := [d1, d2] }
  | _ => none }
def ImageLongerWrongFalsely : Prop := imageLongerRow.holds Tryz.pinned (OpenSpec.ofChange imageLongerWrong)

/- THE SECOND FORM. 'bulk': how many values and letters a reading holds, each counted each time it is reached (what is shared counts as often as it is met; a slice's spare places count too). A statement '..UptoSaid' is the law's where the arguments, and the package variables that the reading takes, are together of bulk at most 1048576: NARROWER than '..Said'. Prove '..Said' where nothing that the law and all that it calls make is longer than what came in: it says more and counts as full. Else prove '..UptoSaid'. A law counts once. -/
mutual
def uptoBulk {H : Type} : DataW H → Nat
  | .lit (.string bytes) => bytes.length + 1
  | .lit _ => 1
  | .nil => 1
  | .ptr d => uptoBulk d + 1
  | .slice elems spare => uptoBulkAll elems + uptoBulkAll spare + 1
  | .agg parts => uptoBulkAll parts + 1
  | .iface _ d => uptoBulk d + 1
  | .map entries => uptoBulkEntries entries + 1
  | .held _ => 1
def uptoBulkAll {H : Type} : List (DataW H) → Nat
  | [] => 0
  | d :: r => uptoBulk d + uptoBulkAll r
def uptoBulkEntries {H : Type} : List (Lit × DataW H) → Nat
  | [] => 0
  | x :: r => uptoBulkEntry x + uptoBulkEntries r
def uptoBulkEntry {H : Type} : Lit × DataW H → Nat
  | (.string bytes, d) => bytes.length + uptoBulk d + 1
  | (_, d) => uptoBulk d + 1
 end
def uptoSmall : (H : Type) → List (DataW H) → Bool := fun _ ds => decide (uptoBulkAll ds ≤ 1048576)
def OpenSpec.upto (s : _root_.Go.ChangeSpec) : _root_.Go.OpenSpec := { _root_.Go.OpenSpec.ofChange s with cond := some uptoSmall }

/-- 'berthlaw26.ImageEncodes', WHERE WHAT IT READS IS OF BULK AT MOST 1048576: true; the input reads as it did. -/
def imageEncodesUptoRow : OpenClaim := { program := "ytoaeefjcjdhlkaagreat", sum := "b08d1b51ff359585f0c686ca12624d61519aa3eb3b47d0e84b5cd580a16ab06b", func := "berth/berthlaw26.ImageEncodes", spec := "imageEncodes", unfollowed := true, recurses := true, apart := false, narrowed := true }
def ImageEncodesUptoSaid : Prop := imageEncodesUptoRow.holds Tryz.pinned (OpenSpec.upto imageEncodesSpec)

/-- 'berthlaw26.ImageTurned', WHERE WHAT IT READS IS OF BULK AT MOST 1048576: true; the input reads as it did. -/
def imageTurnedUptoRow : OpenClaim := { program := "ytoaeefjcjdhlkaagreat", sum := "b08d1b51ff359585f0c686ca12624d61519aa3eb3b47d0e84b5cd580a16ab06b", func := "berth/berthlaw26.ImageTurned", spec := "imageTurned", unfollowed := true, recurses := true, apart := false, narrowed := true }
def ImageTurnedUptoSaid : Prop := imageTurnedUptoRow.holds Tryz.pinned (OpenSpec.upto imageTurnedSpec)

/-- 'berthlaw26.ImageTells', WHERE WHAT IT READS IS OF BULK AT MOST 1048576: true; the input reads as it did. -/
def imageTellsUptoRow : OpenClaim := { program := "ytoaeefjcjdhlkaagreat", sum := "b08d1b51ff359585f0c686ca12624d61519aa3eb3b47d0e84b5cd580a16ab06b", func := "berth/berthlaw26.ImageTells", spec := "imageTells", unfollowed := true, recurses := true, apart := false, narrowed := true }
def ImageTellsUptoSaid : Prop := imageTellsUptoRow.holds Tryz.pinned (OpenSpec.upto imageTellsSpec)

/-- 'berthlaw26.ImageDecodes', WHERE WHAT IT READS IS OF BULK AT MOST 1048576: true; the input reads as it did. -/
def imageDecodesUptoRow : OpenClaim := { program := "ytoaeefjcjdhlkaagreat", sum := "b08d1b51ff359585f0c686ca12624d61519aa3eb3b47d0e84b5cd580a16ab06b", func := "berth/berthlaw26.ImageDecodes", spec := "imageDecodes", unfollowed := true, recurses := true, apart := false, narrowed := true }
def ImageDecodesUptoSaid : Prop := imageDecodesUptoRow.holds Tryz.pinned (OpenSpec.upto imageDecodesSpec)

/-- 'berthlaw26.ImageInside', WHERE WHAT IT READS IS OF BULK AT MOST 1048576: true; the input reads as it did. -/
def imageInsideUptoRow : OpenClaim := { program := "ytoaeefjcjdhlkaagreat", sum := "b08d1b51ff359585f0c686ca12624d61519aa3eb3b47d0e84b5cd580a16ab06b", func := "berth/berthlaw26.ImageInside", spec := "imageInside", unfollowed := true, recurses := true, apart := false, narrowed := true }
def ImageInsideUptoSaid : Prop := imageInsideUptoRow.holds Tryz.pinned (OpenSpec.upto imageInsideSpec)

/-- 'berthlaw26.ImageBack', WHERE WHAT IT READS IS OF BULK AT MOST 1048576: true; the input reads as it did. -/
def imageBackUptoRow : OpenClaim := { program := "ytoaeefjcjdhlkaagreat", sum := "b08d1b51ff359585f0c686ca12624d61519aa3eb3b47d0e84b5cd580a16ab06b", func := "berth/berthlaw26.ImageBack", spec := "imageBack", unfollowed := true, recurses := true, apart := false, narrowed := true }
def ImageBackUptoSaid : Prop := imageBackUptoRow.holds Tryz.pinned (OpenSpec.upto imageBackSpec)

/-- 'berthlaw26.ImageOneForm', WHERE WHAT IT READS IS OF BULK AT MOST 1048576: true; the input reads as it did. -/
def imageOneFormUptoRow : OpenClaim := { program := "ytoaeefjcjdhlkaagreat", sum := "b08d1b51ff359585f0c686ca12624d61519aa3eb3b47d0e84b5cd580a16ab06b", func := "berth/berthlaw26.ImageOneForm", spec := "imageOneForm", unfollowed := true, recurses := true, apart := false, narrowed := true }
def ImageOneFormUptoSaid : Prop := imageOneFormUptoRow.holds Tryz.pinned (OpenSpec.upto imageOneFormSpec)

/-- 'berthlaw26.ImageCutShort', WHERE WHAT IT READS IS OF BULK AT MOST 1048576: true; the input reads as it did. -/
def imageCutShortUptoRow : OpenClaim := { program := "ytoaeefjcjdhlkaagreat", sum := "b08d1b51ff359585f0c686ca12624d61519aa3eb3b47d0e84b5cd580a16ab06b", func := "berth/berthlaw26.ImageCutShort", spec := "imageCutShort", unfollowed := true, recurses := true, apart := false, narrowed := true }
def ImageCutShortUptoSaid : Prop := imageCutShortUptoRow.holds Tryz.pinned (OpenSpec.upto imageCutShortSpec)

/-- 'berthlaw26.ImageLonger', WHERE WHAT IT READS IS OF BULK AT MOST 1048576: true; the input reads as it did. -/
def imageLongerUptoRow : OpenClaim := { program := "ytoaeefjcjdhlkaagreat", sum := "b08d1b51ff359585f0c686ca12624d61519aa3eb3b47d0e84b5cd580a16ab06b", func := "berth/berthlaw26.ImageLonger", spec := "imageLonger", unfollowed := true, recurses := true, apart := false, narrowed := true }
def ImageLongerUptoSaid : Prop := imageLongerUptoRow.holds Tryz.pinned (OpenSpec.upto imageLongerSpec)

end Rows
end Go.Proofs.YtoaeefjcjdhlkaaGreat
