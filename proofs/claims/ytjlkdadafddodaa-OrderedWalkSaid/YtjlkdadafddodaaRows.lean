/-
  No cell of these rows narrows 'for every input' (looked for: loops, veiled, ifaces, maps, wideKeys, modest, calm, conditions, laid).
  DERIVED. THE GIVEN ROWS OF THIS SEAT. 5 by the template 'for every input the law returns true; each argument reads behind the call as it read before'; 0 by the template 'total and deterministic' (their statements: YtjlkdadafddodaaTotals.lean).
  GIVEN WITH THE SEED: the statements are not yours to turn. If you find one false, say at which input.
  Laid BY PROGRAM, IN A SANDBOX (cutbox-rows.mjs): the forced cells as the released guide's own fill.sh prints them over the translation d6976cf1e46f0903… (all of the seat's roots in one cut). By AI agents, Wed Nov 11 2026. No macro, syntax, notation, axiom, sorry.
-/
import Derived.Test.YtjlkdadafddodaaChecked
import GoSem.Claim
import GoSem.ClaimJoined
import GoSem.ClaimMapViews
import Derived.JoinedTies
import Derived.KernelRfl
namespace Go.Proofs.Ytjlkdadafddodaa
/- THE CELL 'sum', in the pinned program and in every row, IS THE sha256 OF THE DUMP (.gsa) THAT YtjlkdadafddodaaProg.lean LOADS. Nothing in Lean hashes anything: it is a label: what it is worth is what the hold of that sum in a sandbox is worth. -/
noncomputable def Try.pinned : Pinned := { name := "ytjlkdadafddodaa", sum := "d6976cf1e46f09033feba6d2930efbc12ca39f554de0c1b03c7cab4b85666d02", checked := Try.checked }
namespace Rows
def none {H : Type} : Left H := { results := [], args := [] }

/-- 'berthlaw08.OrderedParts': WHATEVER THE INPUT: true; the input reads as it did. -/
def orderedPartsSpec : ChangeSpec := { name := "orderedParts", fn := fun _ => fun
  | [d1, d2] => { results := [.lit (.bool true)], args := [d1, d2] }
  | _ => none }
def orderedPartsRow : OpenClaim := { program := "ytjlkdadafddodaa", sum := "d6976cf1e46f09033feba6d2930efbc12ca39f554de0c1b03c7cab4b85666d02", func := "berth/berthlaw08.OrderedParts", spec := "orderedParts", inPlace := ["slices.overlaps[berth/ordered.row]"], unfollowed := true, recurses := true, apart := false }
def OrderedPartsSaid : Prop := orderedPartsRow.holds Try.pinned (OpenSpec.ofChange orderedPartsSpec)

/-- ITS FALSE NEIGHBOUR: 'it returns false'. Refute it at one input. -/
def orderedPartsWrong : ChangeSpec := { name := "orderedParts", fn := fun _ => fun
  | [d1, d2] => { results := [.lit (.bool false)], args := [d1, d2] }
  | _ => none }
def OrderedPartsWrongFalsely : Prop := orderedPartsRow.holds Try.pinned (OpenSpec.ofChange orderedPartsWrong)

/-- 'berthlaw08.OrderedRows': WHATEVER THE INPUT: true; the input reads as it did. -/
def orderedRowsSpec : ChangeSpec := { name := "orderedRows", fn := fun _ => fun
  | [d] => { results := [.lit (.bool true)], args := [d] }
  | _ => none }
def orderedRowsRow : OpenClaim := { program := "ytjlkdadafddodaa", sum := "d6976cf1e46f09033feba6d2930efbc12ca39f554de0c1b03c7cab4b85666d02", func := "berth/berthlaw08.OrderedRows", spec := "orderedRows", inPlace := ["slices.overlaps[berth/ordered.row]"], unfollowed := true, recurses := true, apart := false }
def OrderedRowsSaid : Prop := orderedRowsRow.holds Try.pinned (OpenSpec.ofChange orderedRowsSpec)

/-- ITS FALSE NEIGHBOUR: 'it returns false'. Refute it at one input. -/
def orderedRowsWrong : ChangeSpec := { name := "orderedRows", fn := fun _ => fun
  | [d] => { results := [.lit (.bool false)], args := [d] }
  | _ => none }
def OrderedRowsWrongFalsely : Prop := orderedRowsRow.holds Try.pinned (OpenSpec.ofChange orderedRowsWrong)

/-- 'berthlaw08.OrderedWalk': WHATEVER THE INPUT: true; the input reads as it did. -/
def orderedWalkSpec : ChangeSpec := { name := "orderedWalk", fn := fun _ => fun
  | [d1, d2, d3] => { results := [.lit (.bool true)], args := [d1, d2, d3] }
  | _ => none }
def orderedWalkRow : OpenClaim := { program := "ytjlkdadafddodaa", sum := "d6976cf1e46f09033feba6d2930efbc12ca39f554de0c1b03c7cab4b85666d02", func := "berth/berthlaw08.OrderedWalk", spec := "orderedWalk", inPlace := ["slices.overlaps[berth/ordered.row]"], unfollowed := true, recurses := true, apart := false }
def OrderedWalkSaid : Prop := orderedWalkRow.holds Try.pinned (OpenSpec.ofChange orderedWalkSpec)

/-- ITS FALSE NEIGHBOUR: 'it returns false'. Refute it at one input. -/
def orderedWalkWrong : ChangeSpec := { name := "orderedWalk", fn := fun _ => fun
  | [d1, d2, d3] => { results := [.lit (.bool false)], args := [d1, d2, d3] }
  | _ => none }
def OrderedWalkWrongFalsely : Prop := orderedWalkRow.holds Try.pinned (OpenSpec.ofChange orderedWalkWrong)

/-- 'berthlaw08.OrderedBlind': WHATEVER THE INPUT: true; the input reads as it did. -/
def orderedBlindSpec : ChangeSpec := { name := "orderedBlind", fn := fun _ => fun
  | [d1, d2] => { results := [.lit (.bool true)], args := [d1, d2] }
  | _ => none }
def orderedBlindRow : OpenClaim := { program := "ytjlkdadafddodaa", sum := "d6976cf1e46f09033feba6d2930efbc12ca39f554de0c1b03c7cab4b85666d02", func := "berth/berthlaw08.OrderedBlind", spec := "orderedBlind", inPlace := ["slices.overlaps[berth/ordered.row]"], unfollowed := true, recurses := true, apart := false }
def OrderedBlindSaid : Prop := orderedBlindRow.holds Try.pinned (OpenSpec.ofChange orderedBlindSpec)

/-- ITS FALSE NEIGHBOUR: 'it returns false'. Refute it at one input. -/
def orderedBlindWrong : ChangeSpec := { name := "orderedBlind", fn := fun _ => fun
  | [d1, d2] => { results := [.lit (.bool false)], args := [d1, d2] }
  | _ => none }
def OrderedBlindWrongFalsely : Prop := orderedBlindRow.holds Try.pinned (OpenSpec.ofChange orderedBlindWrong)

/-- 'berthlaw08.OrderedAnswers': WHATEVER THE INPUT: true; the input reads as it did. -/
def orderedAnswersSpec : ChangeSpec := { name := "orderedAnswers", fn := fun _ => fun
  | [d] => { results := [.lit (.bool true)], args := [d] }
  | _ => none }
def orderedAnswersRow : OpenClaim := { program := "ytjlkdadafddodaa", sum := "d6976cf1e46f09033feba6d2930efbc12ca39f554de0c1b03c7cab4b85666d02", func := "berth/berthlaw08.OrderedAnswers", spec := "orderedAnswers", inPlace := ["slices.overlaps[berth/ordered.row]"], unfollowed := true, recurses := true, apart := false }
def OrderedAnswersSaid : Prop := orderedAnswersRow.holds Try.pinned (OpenSpec.ofChange orderedAnswersSpec)

/-- ITS FALSE NEIGHBOUR: 'it returns false'. Refute it at one input. -/
def orderedAnswersWrong : ChangeSpec := { name := "orderedAnswers", fn := fun _ => fun
  | [d] => { results := [.lit (.bool false)], args := [d] }
  | _ => none }
def OrderedAnswersWrongFalsely : Prop := orderedAnswersRow.holds Try.pinned (OpenSpec.ofChange orderedAnswersWrong)

/- THE SECOND FORM. 'bulk': how many values and letters a reading holds, each counted each time it is reached (what is shared counts as often as it is met; a slice's spare places count too). A statement '..UptoSaid' is the law's where the arguments, and the package variables that the reading takes, are together of bulk at most 1048576: NARROWER than '..Said'. Prove '..Said' where nothing that the law and all that it calls make is longer than what came in: it says more and counts as full. Else prove '..UptoSaid'. A law counts once. -/
mutual
def uptoBulk {H : Type} : DataW H → Nat
  | .lit (.string bytes) => bytes.length + 1
  | .lit _ => 1
  | .nil => 1
  | .ptr d => uptoBulk d + 1
  | .slice elems spare => uptoBulkAll elems + uptoBulkAll spare + 1
  | .agg parts => uptoBulkAll parts + 1
  | .iface _ d => uptoBulk d + 1
  | .map entries => uptoBulkEntries entries + 1
  | .held _ => 1
def uptoBulkAll {H : Type} : List (DataW H) → Nat
  | [] => 0
  | d :: r => uptoBulk d + uptoBulkAll r
def uptoBulkEntries {H : Type} : List (Lit × DataW H) → Nat
  | [] => 0
  | x :: r => uptoBulkEntry x + uptoBulkEntries r
def uptoBulkEntry {H : Type} : Lit × DataW H → Nat
  | (.string bytes, d) => bytes.length + uptoBulk d + 1
  | (_, d) => uptoBulk d + 1
 end
def uptoSmall : (H : Type) → List (DataW H) → Bool := fun _ ds => decide (uptoBulkAll ds ≤ 1048576)
def OpenSpec.upto (s : _root_.Go.ChangeSpec) : _root_.Go.OpenSpec := { _root_.Go.OpenSpec.ofChange s with cond := some uptoSmall }

/-- 'berthlaw08.OrderedParts', WHERE WHAT IT READS IS OF BULK AT MOST 1048576: true; the input reads as it did. -/
def orderedPartsUptoRow : OpenClaim := { program := "ytjlkdadafddodaa", sum := "d6976cf1e46f09033feba6d2930efbc12ca39f554de0c1b03c7cab4b85666d02", func := "berth/berthlaw08.OrderedParts", spec := "orderedParts", inPlace := ["slices.overlaps[berth/ordered.row]"], unfollowed := true, recurses := true, apart := false, narrowed := true }
def OrderedPartsUptoSaid : Prop := orderedPartsUptoRow.holds Try.pinned (OpenSpec.upto orderedPartsSpec)

/-- 'berthlaw08.OrderedRows', WHERE WHAT IT READS IS OF BULK AT MOST 1048576: true; the input reads as it did. -/
def orderedRowsUptoRow : OpenClaim := { program := "ytjlkdadafddodaa", sum := "d6976cf1e46f09033feba6d2930efbc12ca39f554de0c1b03c7cab4b85666d02", func := "berth/berthlaw08.OrderedRows", spec := "orderedRows", inPlace := ["slices.overlaps[berth/ordered.row]"], unfollowed := true, recurses := true, apart := false, narrowed := true }
def OrderedRowsUptoSaid : Prop := orderedRowsUptoRow.holds Try.pinned (OpenSpec.upto orderedRowsSpec)

/-- 'berthlaw08.OrderedWalk', WHERE WHAT IT READS IS OF BULK AT MOST 1048576: true; the input reads as it did. -/
def orderedWalkUptoRow : OpenClaim := { program := "ytjlkdadafddodaa", sum := "d6976cf1e46f09033feba6d2930efbc12ca39f554de0c1b03c7cab4b85666d02", func := "berth/berthlaw08.OrderedWalk", spec := "orderedWalk", inPlace := ["slices.overlaps[berth/ordered.row]"], unfollowed := true, recurses := true, apart := false, narrowed := true }
def OrderedWalkUptoSaid : Prop := orderedWalkUptoRow.holds Try.pinned (OpenSpec.upto orderedWalkSpec)

/-- 'berthlaw08.OrderedBlind', WHERE WHAT IT READS IS OF BULK AT MOST 1048576: true; the input reads as it did. -/
def orderedBlindUptoRow : OpenClaim := { program := "ytjlkdadafddodaa", sum := "d6976cf1e46f09033feba6d2930efbc12ca39f554de0c1b03c7cab4b85666d02", func := "berth/berthlaw08.OrderedBlind", spec := "orderedBlind", inPlace := ["slices.overlaps[berth/ordered.row]"], unfollowed := true, recurses := true, apart := false, narrowed := true }
def OrderedBlindUptoSaid : Prop := orderedBlindUptoRow.holds Try.pinned (OpenSpec.upto orderedBlindSpec)

/-- 'berthlaw08.OrderedAnswers', WHERE WHAT IT READS IS OF BULK AT MOST 1048576: true; the input reads as it did. -/
def orderedAnswersUptoRow : OpenClaim := { program := "ytjlkdadafddodaa", sum := "d6976cf1e46f09033feba6d2930efbc12ca39f554de0c1b03c7cab4b85666d02", func := "berth/berthlaw08.OrderedAnswers", spec := "orderedAnswers", inPlace := ["slices.overlaps[berth/ordered.row]"], unfollowed := true, recurses := true, apart := false, narrowed := true }
def OrderedAnswersUptoSaid : Prop := orderedAnswersUptoRow.holds Try.pinned (OpenSpec.upto orderedAnswersSpec)

end Rows
end Go.Proofs.Ytjlkdadafddodaa
