/-
  No cell of these rows narrows 'for every input' (looked for: loops, veiled, ifaces, maps, wideKeys, modest, calm, conditions, laid).
  DERIVED. THE GIVEN ROWS OF THIS SEAT. 8 by the template 'for every input the law returns true; each argument reads behind the call as it read before'; 0 by the template 'total and deterministic' (their statements: YtfjgiaimlmnepaaTotals.lean).
  GIVEN WITH THE SEED: the statements are not yours to turn. If you find one false, say at which input.
  Laid BY PROGRAM, IN A SANDBOX (cutbox-rows.mjs): the forced cells as the released guide's own fill.sh prints them over the translation c75f7378f5bc5f06… (all of the seat's roots in one cut). By AI agents, Wed Nov 11 2026. No macro, syntax, notation, axiom, sorry.
-/
import Derived.Test.YtfjgiaimlmnepaaChecked
import GoSem.Claim
import GoSem.ClaimJoined
import GoSem.ClaimMapViews
import Derived.JoinedTies
import Derived.KernelRfl
namespace Go.Proofs.Ytfjgiaimlmnepaa
/- THE CELL 'sum', in the pinned program and in every row, IS THE sha256 OF THE DUMP (.gsa) THAT YtfjgiaimlmnepaaProg.lean LOADS. Nothing in Lean hashes anything: it is a label: what it is worth is what the hold of that sum in a sandbox is worth. -/
noncomputable def Try.pinned : Pinned := { name := "ytfjgiaimlmnepaa", sum := "c75f7378f5bc5f06ff0bc5a7d8ac3bcb7d93abf6143967e5be893c0ee47c5c17", checked := Try.checked }
namespace Rows
def none {H : Type} : Left H := { results := [], args := [] }

/-- 'berthlaw25.QueueNames': WHATEVER THE INPUT: true; the input reads as it did. -/
def queueNamesSpec : ChangeSpec := { name := "queueNames", fn := fun _ => fun
  | [] => { results := [.lit (.bool true)], args := [] }
  | _ => none }
def queueNamesRow : OpenClaim := { program := "ytfjgiaimlmnepaa", sum := "c75f7378f5bc5f06ff0bc5a7d8ac3bcb7d93abf6143967e5be893c0ee47c5c17", func := "berth/berthlaw25.QueueNames", spec := "queueNames", apart := false }
def QueueNamesSaid : Prop := queueNamesRow.holds Try.pinned (OpenSpec.ofChange queueNamesSpec)

/-- ITS FALSE NEIGHBOUR: 'it returns false'. Refute it at one input. -/
def queueNamesWrong : ChangeSpec := { name := "queueNames", fn := fun _ => fun
  | [] => { results := [.lit (.bool false)], args := [] }
  | _ => none }
def QueueNamesWrongFalsely : Prop := queueNamesRow.holds Try.pinned (OpenSpec.ofChange queueNamesWrong)

/-- 'berthlaw25.QueueFair': WHATEVER THE INPUT: true; the input reads as it did. -/
def queueFairSpec : ChangeSpec := { name := "queueFair", fn := fun _ => fun
  | [d] => { results := [.lit (.bool true)], args := [d] }
  | _ => none }
def queueFairRow : OpenClaim := { program := "ytfjgiaimlmnepaa", sum := "c75f7378f5bc5f06ff0bc5a7d8ac3bcb7d93abf6143967e5be893c0ee47c5c17", func := "berth/berthlaw25.QueueFair", spec := "queueFair", inPlace := ["slices.overlaps[berth/api.Waiting]"], unfollowed := true, recurses := true, apart := false }
def QueueFairSaid : Prop := queueFairRow.holds Try.pinned (OpenSpec.ofChange queueFairSpec)

/-- ITS FALSE NEIGHBOUR: 'it returns false'. Refute it at one input. -/
def queueFairWrong : ChangeSpec := { name := "queueFair", fn := fun _ => fun
  | [d] => { results := [.lit (.bool false)], args := [d] }
  | _ => none }
def QueueFairWrongFalsely : Prop := queueFairRow.holds Try.pinned (OpenSpec.ofChange queueFairWrong)

/-- 'berthlaw25.QueueOrder': WHATEVER THE INPUT: true; the input reads as it did. -/
def queueOrderSpec : ChangeSpec := { name := "queueOrder", fn := fun _ => fun
  | [d] => { results := [.lit (.bool true)], args := [d] }
  | _ => none }
def queueOrderRow : OpenClaim := { program := "ytfjgiaimlmnepaa", sum := "c75f7378f5bc5f06ff0bc5a7d8ac3bcb7d93abf6143967e5be893c0ee47c5c17", func := "berth/berthlaw25.QueueOrder", spec := "queueOrder", inPlace := ["slices.overlaps[berth/api.Waiting]"], unfollowed := true, recurses := true, apart := false }
def QueueOrderSaid : Prop := queueOrderRow.holds Try.pinned (OpenSpec.ofChange queueOrderSpec)

/-- ITS FALSE NEIGHBOUR: 'it returns false'. Refute it at one input. -/
def queueOrderWrong : ChangeSpec := { name := "queueOrder", fn := fun _ => fun
  | [d] => { results := [.lit (.bool false)], args := [d] }
  | _ => none }
def QueueOrderWrongFalsely : Prop := queueOrderRow.holds Try.pinned (OpenSpec.ofChange queueOrderWrong)

/-- 'berthlaw25.QueueWaits': WHATEVER THE INPUT: true; the input reads as it did. -/
def queueWaitsSpec : ChangeSpec := { name := "queueWaits", fn := fun _ => fun
  | [d1, d2] => { results := [.lit (.bool true)], args := [d1, d2] }
  | _ => none }
def queueWaitsRow : OpenClaim := { program := "ytfjgiaimlmnepaa", sum := "c75f7378f5bc5f06ff0bc5a7d8ac3bcb7d93abf6143967e5be893c0ee47c5c17", func := "berth/berthlaw25.QueueWaits", spec := "queueWaits", inPlace := ["slices.overlaps[berth/api.Waiting]"], unfollowed := true, recurses := true, apart := false }
def QueueWaitsSaid : Prop := queueWaitsRow.holds Try.pinned (OpenSpec.ofChange queueWaitsSpec)

/-- ITS FALSE NEIGHBOUR: 'it returns false'. Refute it at one input. -/
def queueWaitsWrong : ChangeSpec := { name := "queueWaits", fn := fun _ => fun
  | [d1, d2] => { results := [.lit (.bool false)], args := [d1, d2] }
  | _ => none }
def QueueWaitsWrongFalsely : Prop := queueWaitsRow.holds Try.pinned (OpenSpec.ofChange queueWaitsWrong)

/-- 'berthlaw25.QueueNil': WHATEVER THE INPUT: true; the input reads as it did. -/
def queueNilSpec : ChangeSpec := { name := "queueNil", fn := fun _ => fun
  | [d] => { results := [.lit (.bool true)], args := [d] }
  | _ => none }
def queueNilRow : OpenClaim := { program := "ytfjgiaimlmnepaa", sum := "c75f7378f5bc5f06ff0bc5a7d8ac3bcb7d93abf6143967e5be893c0ee47c5c17", func := "berth/berthlaw25.QueueNil", spec := "queueNil", inPlace := ["slices.overlaps[berth/api.Waiting]"], unfollowed := true, recurses := true, apart := false }
def QueueNilSaid : Prop := queueNilRow.holds Try.pinned (OpenSpec.ofChange queueNilSpec)

/-- ITS FALSE NEIGHBOUR: 'it returns false'. Refute it at one input. -/
def queueNilWrong : ChangeSpec := { name := "queueNil", fn := fun _ => fun
  | [d] => { results := [.lit (.bool false)], args := [d] }
  | _ => none }
def QueueNilWrongFalsely : Prop := queueNilRow.holds Try.pinned (OpenSpec.ofChange queueNilWrong)

/-- 'berthlaw25.QueueAgain': WHATEVER THE INPUT: true; the input reads as it did. -/
def queueAgainSpec : ChangeSpec := { name := "queueAgain", fn := fun _ => fun
  | [d1, d2] => { results := [.lit (.bool true)], args := [d1, d2] }
  | _ => none }
def queueAgainRow : OpenClaim := { program := "ytfjgiaimlmnepaa", sum := "c75f7378f5bc5f06ff0bc5a7d8ac3bcb7d93abf6143967e5be893c0ee47c5c17", func := "berth/berthlaw25.QueueAgain", spec := "queueAgain", inPlace := ["slices.overlaps[berth/api.Waiting]"], unfollowed := true, recurses := true, apart := false }
def QueueAgainSaid : Prop := queueAgainRow.holds Try.pinned (OpenSpec.ofChange queueAgainSpec)

/-- ITS FALSE NEIGHBOUR: 'it returns false'. Refute it at one input. -/
def queueAgainWrong : ChangeSpec := { name := "queueAgain", fn := fun _ => fun
  | [d1, d2] => { results := [.lit (.bool false)], args := [d1, d2] }
  | _ => none }
def QueueAgainWrongFalsely : Prop := queueAgainRow.holds Try.pinned (OpenSpec.ofChange queueAgainWrong)

/-- 'berthlaw25.QueueOwn': WHATEVER THE INPUT: true; the input reads as it did. -/
def queueOwnSpec : ChangeSpec := { name := "queueOwn", fn := fun _ => fun
  | [d] => { results := [.lit (.bool true)], args := [d] }
  | _ => none }
def queueOwnRow : OpenClaim := { program := "ytfjgiaimlmnepaa", sum := "c75f7378f5bc5f06ff0bc5a7d8ac3bcb7d93abf6143967e5be893c0ee47c5c17", func := "berth/berthlaw25.QueueOwn", spec := "queueOwn", inPlace := ["slices.overlaps[berth/api.Waiting]"], unfollowed := true, recurses := true, apart := false }
def QueueOwnSaid : Prop := queueOwnRow.holds Try.pinned (OpenSpec.ofChange queueOwnSpec)

/-- ITS FALSE NEIGHBOUR: 'it returns false'. Refute it at one input. -/
def queueOwnWrong : ChangeSpec := { name := "queueOwn", fn := fun _ => fun
  | [d] => { results := [.lit (.bool false)], args := [d] }
  | _ => none }
def QueueOwnWrongFalsely : Prop := queueOwnRow.holds Try.pinned (OpenSpec.ofChange queueOwnWrong)

/-- 'berthlaw25.QueuePlays': WHATEVER THE INPUT: true; the input reads as it did. -/
def queuePlaysSpec : ChangeSpec := { name := "queuePlays", fn := fun _ => fun
  | [d] => { results := [.lit (.bool true)], args := [d] }
  | _ => none }
def queuePlaysRow : OpenClaim := { program := "ytfjgiaimlmnepaa", sum := "c75f7378f5bc5f06ff0bc5a7d8ac3bcb7d93abf6143967e5be893c0ee47c5c17", func := "berth/berthlaw25.QueuePlays", spec := "queuePlays", inPlace := ["slices.overlaps[berth/api.Waiting]"], unfollowed := true, recurses := true, apart := false }
def QueuePlaysSaid : Prop := queuePlaysRow.holds Try.pinned (OpenSpec.ofChange queuePlaysSpec)

/-- ITS FALSE NEIGHBOUR: 'it returns false'. Refute it at one input. -/
def queuePlaysWrong : ChangeSpec := { name := "queuePlays", fn := fun _ => fun
  | [d] => { results := [.lit (.bool false)], args := [d] }
  | _ => none }
def QueuePlaysWrongFalsely : Prop := queuePlaysRow.holds Try.pinned (OpenSpec.ofChange queuePlaysWrong)

/- THE SECOND FORM. 'bulk': how many values and letters a reading holds, each counted each time it is reached (what is shared counts as often as it is met; a slice's spare places count too). A statement '..UptoSaid' is the law's where the arguments, and the package variables that the reading takes, are together of bulk at most 1048576: NARROWER than '..Said'. Prove '..Said' where nothing that the law and all that it calls make is longer than what came in: it says more and counts as full. Else prove '..UptoSaid'. A law counts once. -/
mutual
def uptoBulk {H : Type} : DataW H → Nat
  | .lit (.string bytes) => bytes.length + 1
  | .lit _ => 1
  | .nil => 1
  | .ptr d => uptoBulk d + 1
  | .slice elems spare => uptoBulkAll elems + uptoBulkAll spare + 1
  | .agg parts => uptoBulkAll parts + 1
  | .iface _ d => uptoBulk d + 1
  | .map entries => uptoBulkEntries entries + 1
  | .held _ => 1
def uptoBulkAll {H : Type} : List (DataW H) → Nat
  | [] => 0
  | d :: r => uptoBulk d + uptoBulkAll r
def uptoBulkEntries {H : Type} : List (Lit × DataW H) → Nat
  | [] => 0
  | x :: r => uptoBulkEntry x + uptoBulkEntries r
def uptoBulkEntry {H : Type} : Lit × DataW H → Nat
  | (.string bytes, d) => bytes.length + uptoBulk d + 1
  | (_, d) => uptoBulk d + 1
 end
def uptoSmall : (H : Type) → List (DataW H) → Bool := fun _ ds => decide (uptoBulkAll ds ≤ 1048576)
def OpenSpec.upto (s : _root_.Go.ChangeSpec) : _root_.Go.OpenSpec := { _root_.Go.OpenSpec.ofChange s with cond := some uptoSmall }

/-- 'berthlaw25.QueueNames', WHERE WHAT IT READS IS OF BULK AT MOST 1048576: true; the input reads as it did. -/
def queueNamesUptoRow : OpenClaim := { program := "ytfjgiaimlmnepaa", sum := "c75f7378f5bc5f06ff0bc5a7d8ac3bcb7d93abf6143967e5be893c0ee47c5c17", func := "berth/berthlaw25.QueueNames", spec := "queueNames", apart := false, narrowed := true }
def QueueNamesUptoSaid : Prop := queueNamesUptoRow.holds Try.pinned (OpenSpec.upto queueNamesSpec)

/-- 'berthlaw25.QueueFair', WHERE WHAT IT READS IS OF BULK AT MOST 1048576: true; the input reads as it did. -/
def queueFairUptoRow : OpenClaim := { program := "ytfjgiaimlmnepaa", sum := "c75f7378f5bc5f06ff0bc5a7d8ac3bcb7d93abf6143967e5be893c0ee47c5c17", func := "berth/berthlaw25.QueueFair", spec := "queueFair", inPlace := ["slices.overlaps[berth/api.Waiting]"], unfollowed := true, recurses := true, apart := false, narrowed := true }
def QueueFairUptoSaid : Prop := queueFairUptoRow.holds Try.pinned (OpenSpec.upto queueFairSpec)

/-- 'berthlaw25.QueueOrder', WHERE WHAT IT READS IS OF BULK AT MOST 1048576: true; the input reads as it did. -/
def queueOrderUptoRow : OpenClaim := { program := "ytfjgiaimlmnepaa", sum := "c75f7378f5bc5f06ff0bc5a7d8ac3bcb7d93abf6143967e5be893c0ee47c5c17", func := "berth/berthlaw25.QueueOrder", spec := "queueOrder", inPlace := ["slices.overlaps[berth/api.Waiting]"], unfollowed := true, recurses := true, apart := false, narrowed := true }
def QueueOrderUptoSaid : Prop := queueOrderUptoRow.holds Try.pinned (OpenSpec.upto queueOrderSpec)

/-- 'berthlaw25.QueueWaits', WHERE WHAT IT READS IS OF BULK AT MOST 1048576: true; the input reads as it did. -/
def queueWaitsUptoRow : OpenClaim := { program := "ytfjgiaimlmnepaa", sum := "c75f7378f5bc5f06ff0bc5a7d8ac3bcb7d93abf6143967e5be893c0ee47c5c17", func := "berth/berthlaw25.QueueWaits", spec := "queueWaits", inPlace := ["slices.overlaps[berth/api.Waiting]"], unfollowed := true, recurses := true, apart := false, narrowed := true }
def QueueWaitsUptoSaid : Prop := queueWaitsUptoRow.holds Try.pinned (OpenSpec.upto queueWaitsSpec)

/-- 'berthlaw25.QueueNil', WHERE WHAT IT READS IS OF BULK AT MOST 1048576: true; the input reads as it did. -/
def queueNilUptoRow : OpenClaim := { program := "ytfjgiaimlmnepaa", sum := "c75f7378f5bc5f06ff0bc5a7d8ac3bcb7d93abf6143967e5be893c0ee47c5c17", func := "berth/berthlaw25.QueueNil", spec := "queueNil", inPlace := ["slices.overlaps[berth/api.Waiting]"], unfollowed := true, recurses := true, apart := false, narrowed := true }
def QueueNilUptoSaid : Prop := queueNilUptoRow.holds Try.pinned (OpenSpec.upto queueNilSpec)

/-- 'berthlaw25.QueueAgain', WHERE WHAT IT READS IS OF BULK AT MOST 1048576: true; the input reads as it did. -/
def queueAgainUptoRow : OpenClaim := { program := "ytfjgiaimlmnepaa", sum := "c75f7378f5bc5f06ff0bc5a7d8ac3bcb7d93abf6143967e5be893c0ee47c5c17", func := "berth/berthlaw25.QueueAgain", spec := "queueAgain", inPlace := ["slices.overlaps[berth/api.Waiting]"], unfollowed := true, recurses := true, apart := false, narrowed := true }
def QueueAgainUptoSaid : Prop := queueAgainUptoRow.holds Try.pinned (OpenSpec.upto queueAgainSpec)

/-- 'berthlaw25.QueueOwn', WHERE WHAT IT READS IS OF BULK AT MOST 1048576: true; the input reads as it did. -/
def queueOwnUptoRow : OpenClaim := { program := "ytfjgiaimlmnepaa", sum := "c75f7378f5bc5f06ff0bc5a7d8ac3bcb7d93abf6143967e5be893c0ee47c5c17", func := "berth/berthlaw25.QueueOwn", spec := "queueOwn", inPlace := ["slices.overlaps[berth/api.Waiting]"], unfollowed := true, recurses := true, apart := false, narrowed := true }
def QueueOwnUptoSaid : Prop := queueOwnUptoRow.holds Try.pinned (OpenSpec.upto queueOwnSpec)

/-- 'berthlaw25.QueuePlays', WHERE WHAT IT READS IS OF BULK AT MOST 1048576: true; the input reads as it did. -/
def queuePlaysUptoRow : OpenClaim := { program := "ytfjgiaimlmnepaa", sum := "c75f7378f5bc5f06ff0bc5a7d8ac3bcb7d93abf6143967e5be893c0ee47c5c17", func := "berth/berthlaw25.QueuePlays", spec := "queuePlays", inPlace := ["slices.overlaps[berth/api.Waiting]"], unfollowed := true, recurses := true, apart := false, narrowed := true }
def QueuePlaysUptoSaid : Prop := queuePlaysUptoRow.holds Try.pinned (OpenSpec.upto queuePlaysSpec)

end Rows
end Go.Proofs.Ytfjgiaimlmnepaa
