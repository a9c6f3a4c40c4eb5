/-
  No cell of these rows narrows 'for every input' (looked for: loops, veiled, ifaces, maps, wideKeys, modest, calm, conditions, laid).
  DERIVED. THE GIVEN ROWS OF THIS SEAT. 8 by the template 'for every input the law returns true; each argument reads behind the call as it read before'; 0 by the template 'total and deterministic' (their statements: YtbaglnffgbnekaaTotals.lean).
  GIVEN WITH THE SEED: the statements are not yours to turn. If you find one false, say at which input.
  Laid BY PROGRAM, IN A SANDBOX (cutbox-rows.mjs): the forced cells as the released guide's own fill.sh prints them over the translation c7a50f9d786e9b29… (all of the seat's roots in one cut). By AI agents, Wed Nov 11 2026. No macro, syntax, notation, axiom, sorry.
-/
import Derived.Test.YtbaglnffgbnekaaChecked
import GoSem.Claim
import GoSem.ClaimJoined
import GoSem.ClaimMapViews
import Derived.JoinedTies
import Derived.KernelRfl
namespace Go.Proofs.Ytbaglnffgbnekaa
/- THE CELL 'sum', in the pinned program and in every row, IS THE sha256 OF THE DUMP (.gsa) THAT YtbaglnffgbnekaaProg.lean LOADS. Nothing in Lean hashes anything: it is a label: what it is worth is what the hold of that sum in a sandbox is worth. -/
noncomputable def Try.pinned : Pinned := { name := "ytbaglnffgbnekaa", sum := "c7a50f9d786e9b29c124b230280dd3278f5d4e0ebd488a108c602c4df15c0983", checked := Try.checked }
namespace Rows
def none {H : Type} : Left H := { results := [], args := [] }

/-- 'berthlaw01.BitsetNames': WHATEVER THE INPUT: true; the input reads as it did. -/
def bitsetNamesSpec : ChangeSpec := { name := "bitsetNames", fn := fun _ => fun
  | [] => { results := [.lit (.bool true)], args := [] }
  | _ => none }
def bitsetNamesRow : OpenClaim := { program := "ytbaglnffgbnekaa", sum := "c7a50f9d786e9b29c124b230280dd3278f5d4e0ebd488a108c602c4df15c0983", func := "berth/berthlaw01.BitsetNames", spec := "bitsetNames", apart := false }
def BitsetNamesSaid : Prop := bitsetNamesRow.holds Try.pinned (OpenSpec.ofChange bitsetNamesSpec)

/-- ITS FALSE NEIGHBOUR: 'it returns false'. Refute it at one input. -/
def bitsetNamesWrong : ChangeSpec := { name := "bitsetNames", fn := fun _ => fun
  | [] => { results := [.lit (.bool false)], args := [] }
  | _ => none }
def BitsetNamesWrongFalsely : Prop := bitsetNamesRow.holds Try.pinned (OpenSpec.ofChange bitsetNamesWrong)

/-- 'berthlaw01.BitsetLists': WHATEVER THE INPUT: true; the input reads as it did. -/
def bitsetListsSpec : ChangeSpec := { name := "bitsetLists", fn := fun _ => fun
  | [d] => { results := [.lit (.bool true)], args := [d] }
  | _ => none }
def bitsetListsRow : OpenClaim := { program := "ytbaglnffgbnekaa", sum := "c7a50f9d786e9b29c124b230280dd3278f5d4e0ebd488a108c602c4df15c0983", func := "berth/berthlaw01.BitsetLists", spec := "bitsetLists", apart := false }
def BitsetListsSaid : Prop := bitsetListsRow.holds Try.pinned (OpenSpec.ofChange bitsetListsSpec)

/-- ITS FALSE NEIGHBOUR: 'it returns false'. Refute it at one input. -/
def bitsetListsWrong : ChangeSpec := { name := "bitsetLists", fn := fun _ => fun
  | [d] => { results := [.lit (.bool false)], args := [d] }
  | _ => none }
def BitsetListsWrongFalsely : Prop := bitsetListsRow.holds Try.pinned (OpenSpec.ofChange bitsetListsWrong)

/-- 'berthlaw01.BitsetWords': WHATEVER THE INPUT: true; the input reads as it did. -/
def bitsetWordsSpec : ChangeSpec := { name := "bitsetWords", fn := fun _ => fun
  | [d] => { results := [.lit (.bool true)], args := [d] }
  | _ => none }
def bitsetWordsRow : OpenClaim := { program := "ytbaglnffgbnekaa", sum := "c7a50f9d786e9b29c124b230280dd3278f5d4e0ebd488a108c602c4df15c0983", func := "berth/berthlaw01.BitsetWords", spec := "bitsetWords", apart := false }
def BitsetWordsSaid : Prop := bitsetWordsRow.holds Try.pinned (OpenSpec.ofChange bitsetWordsSpec)

/-- ITS FALSE NEIGHBOUR: 'it returns false'. Refute it at one input. -/
def bitsetWordsWrong : ChangeSpec := { name := "bitsetWords", fn := fun _ => fun
  | [d] => { results := [.lit (.bool false)], args := [d] }
  | _ => none }
def BitsetWordsWrongFalsely : Prop := bitsetWordsRow.holds Try.pinned (OpenSpec.ofChange bitsetWordsWrong)

/-- 'berthlaw01.BitsetAlgebra': WHATEVER THE INPUT: true; the input reads as it did. -/
def bitsetAlgebraSpec : ChangeSpec := { name := "bitsetAlgebra", fn := fun _ => fun
  | [d] => { results := [.lit (.bool true)], args := [d] }
  | _ => none }
def bitsetAlgebraRow : OpenClaim := { program := "ytbaglnffgbnekaa", sum := "c7a50f9d786e9b29c124b230280dd3278f5d4e0ebd488a108c602c4df15c0983", func := "berth/berthlaw01.BitsetAlgebra", spec := "bitsetAlgebra", unfollowed := true, recurses := true, apart := false }
def BitsetAlgebraSaid : Prop := bitsetAlgebraRow.holds Try.pinned (OpenSpec.ofChange bitsetAlgebraSpec)

/-- ITS FALSE NEIGHBOUR: 'it returns false'. Refute it at one input. -/
def bitsetAlgebraWrong : ChangeSpec := { name := "bitsetAlgebra", fn := fun _ => fun
  | [d] => { results := [.lit (.bool false)], args := [d] }
  | _ => none }
def BitsetAlgebraWrongFalsely : Prop := bitsetAlgebraRow.holds Try.pinned (OpenSpec.ofChange bitsetAlgebraWrong)

/-- 'berthlaw01.BitsetSnaps': WHATEVER THE INPUT: true; the input reads as it did. -/
def bitsetSnapsSpec : ChangeSpec := { name := "bitsetSnaps", fn := fun _ => fun
  | [d] => { results := [.lit (.bool true)], args := [d] }
  | _ => none }
def bitsetSnapsRow : OpenClaim := { program := "ytbaglnffgbnekaa", sum := "c7a50f9d786e9b29c124b230280dd3278f5d4e0ebd488a108c602c4df15c0983", func := "berth/berthlaw01.BitsetSnaps", spec := "bitsetSnaps", unfollowed := true, recurses := true, apart := false }
def BitsetSnapsSaid : Prop := bitsetSnapsRow.holds Try.pinned (OpenSpec.ofChange bitsetSnapsSpec)

/-- ITS FALSE NEIGHBOUR: 'it returns false'. Refute it at one input. -/
def bitsetSnapsWrong : ChangeSpec := { name := "bitsetSnaps", fn := fun _ => fun
  | [d] => { results := [.lit (.bool false)], args := [d] }
  | _ => none }
def BitsetSnapsWrongFalsely : Prop := bitsetSnapsRow.holds Try.pinned (OpenSpec.ofChange bitsetSnapsWrong)

/-- 'berthlaw01.BitsetFresh': WHATEVER THE INPUT: true; the input reads as it did. -/
def bitsetFreshSpec : ChangeSpec := { name := "bitsetFresh", fn := fun _ => fun
  | [d] => { results := [.lit (.bool true)], args := [d] }
  | _ => none }
def bitsetFreshRow : OpenClaim := { program := "ytbaglnffgbnekaa", sum := "c7a50f9d786e9b29c124b230280dd3278f5d4e0ebd488a108c602c4df15c0983", func := "berth/berthlaw01.BitsetFresh", spec := "bitsetFresh", unfollowed := true, recurses := true, apart := false }
def BitsetFreshSaid : Prop := bitsetFreshRow.holds Try.pinned (OpenSpec.ofChange bitsetFreshSpec)

/-- ITS FALSE NEIGHBOUR: 'it returns false'. Refute it at one input. -/
def bitsetFreshWrong : ChangeSpec := { name := "bitsetFresh", fn := fun _ => fun
  | [d] => { results := [.lit (.bool false)], args := [d] }
  | _ => none }
def BitsetFreshWrongFalsely : Prop := bitsetFreshRow.holds Try.pinned (OpenSpec.ofChange bitsetFreshWrong)

/-- 'berthlaw01.BitsetPlace': WHATEVER THE INPUT: true; the input reads as it did. -/
def bitsetPlaceSpec : ChangeSpec := { name := "bitsetPlace", fn := fun _ => fun
  | [d] => { results := [.lit (.bool true)], args := [d] }
  | _ => none }
def bitsetPlaceRow : OpenClaim := { program := "ytbaglnffgbnekaa", sum := "c7a50f9d786e9b29c124b230280dd3278f5d4e0ebd488a108c602c4df15c0983", func := "berth/berthlaw01.BitsetPlace", spec := "bitsetPlace", unfollowed := true, recurses := true, apart := false }
def BitsetPlaceSaid : Prop := bitsetPlaceRow.holds Try.pinned (OpenSpec.ofChange bitsetPlaceSpec)

/-- ITS FALSE NEIGHBOUR: 'it returns false'. Refute it at one input. -/
def bitsetPlaceWrong : ChangeSpec := { name := "bitsetPlace", fn := fun _ => fun
  | [d] => { results := [.lit (.bool false)], args := [d] }
  | _ => none }
def BitsetPlaceWrongFalsely : Prop := bitsetPlaceRow.holds Try.pinned (OpenSpec.ofChange bitsetPlaceWrong)

/-- 'berthtop.TopNumbers': WHATEVER THE INPUT: true; the input reads as it did. -/
def topNumbersSpec : ChangeSpec := { name := "topNumbers", fn := fun _ => fun
  | [] => { results := [.lit (.bool true)], args := [] }
  | _ => none }
def topNumbersRow : OpenClaim := { program := "ytbaglnffgbnekaa", sum := "c7a50f9d786e9b29c124b230280dd3278f5d4e0ebd488a108c602c4df15c0983", func := "berth/berthtop.TopNumbers", spec := "topNumbers", apart := false }
def TopNumbersSaid : Prop := topNumbersRow.holds Try.pinned (OpenSpec.ofChange topNumbersSpec)

/-- ITS FALSE NEIGHBOUR: 'it returns false'. Refute it at one input. -/
def topNumbersWrong : ChangeSpec := { name := "topNumbers", fn := fun _ => fun
  | [] => { results := [.lit (.bool false)], args := [] }
  | _ => none }
def TopNumbersWrongFalsely : Prop := topNumbersRow.holds Try.pinned (OpenSpec.ofChange topNumbersWrong)

/- THE SECOND FORM. 'bulk': how many values and letters a reading holds, each counted each time it is reached (what is shared counts as often as it is met; a slice's spare places count too). A statement '..UptoSaid' is the law's where the arguments, and the package variables that the reading takes, are together of bulk at most 1048576: NARROWER than '..Said'. Prove '..Said' where nothing that the law and all that it calls make is longer than what came in: it says more and counts as full. Else prove '..UptoSaid'. A law counts once. -/
mutual
def uptoBulk {H : Type} : DataW H → Nat
  | .lit (.string bytes) => bytes.length + 1
  | .lit _ => 1
  | .nil => 1
  | .ptr d => uptoBulk d + 1
  | .slice elems spare => uptoBulkAll elems + uptoBulkAll spare + 1
  | .agg parts => uptoBulkAll parts + 1
  | .iface _ d => uptoBulk d + 1
  | .map entries => uptoBulkEntries entries + 1
  | .held _ => 1
def uptoBulkAll {H : Type} : List (DataW H) → Nat
  | [] => 0
  | d :: r => uptoBulk d + uptoBulkAll r
def uptoBulkEntries {H : Type} : List (Lit × DataW H) → Nat
  | [] => 0
  | x :: r => uptoBulkEntry x + uptoBulkEntries r
def uptoBulkEntry {H : Type} : Lit × DataW H → Nat
  | (.string bytes, d) => bytes.length + uptoBulk d + 1
  | (_, d) => uptoBulk d + 1
 end
def uptoSmall : (H : Type) → List (DataW H) → Bool := fun _ ds => decide (uptoBulkAll ds ≤ 1048576)
def OpenSpec.upto (s : _root_.Go.ChangeSpec) : _root_.Go.OpenSpec := { _root_.Go.OpenSpec.ofChange s with cond := some uptoSmall }

/-- 'berthlaw01.BitsetNames', WHERE WHAT IT READS IS OF BULK AT MOST 1048576: true; the input reads as it did. -/
def bitsetNamesUptoRow : OpenClaim := { program := "ytbaglnffgbnekaa", sum := "c7a50f9d786e9b29c124b230280dd3278f5d4e0ebd488a108c602c4df15c0983", func := "berth/berthlaw01.BitsetNames", spec := "bitsetNames", apart := false, narrowed := true }
def BitsetNamesUptoSaid : Prop := bitsetNamesUptoRow.holds Try.pinned (OpenSpec.upto bitsetNamesSpec)

/-- 'berthlaw01.BitsetLists', WHERE WHAT IT READS IS OF BULK AT MOST 1048576: true; the input reads as it did. -/
def bitsetListsUptoRow : OpenClaim := { program := "ytbaglnffgbnekaa", sum := "c7a50f9d786e9b29c124b230280dd3278f5d4e0ebd488a108c602c4df15c0983", func := "berth/berthlaw01.BitsetLists", spec := "bitsetLists", apart := false, narrowed := true }
def BitsetListsUptoSaid : Prop := bitsetListsUptoRow.holds Try.pinned (OpenSpec.upto bitsetListsSpec)

/-- 'berthlaw01.BitsetWords', WHERE WHAT IT READS IS OF BULK AT MOST 1048576: true; the input reads as it did. -/
def bitsetWordsUptoRow : OpenClaim := { program := "ytbaglnffgbnekaa", sum := "c7a50f9d786e9b29c124b230280dd3278f5d4e0ebd488a108c602c4df15c0983", func := "berth/berthlaw01.BitsetWords", spec := "bitsetWords", apart := false, narrowed := true }
def BitsetWordsUptoSaid : Prop := bitsetWordsUptoRow.holds Try.pinned (OpenSpec.upto bitsetWordsSpec)

/-- 'berthlaw01.BitsetAlgebra', WHERE WHAT IT READS IS OF BULK AT MOST 1048576: true; the input reads as it did. -/
def bitsetAlgebraUptoRow : OpenClaim := { program := "ytbaglnffgbnekaa", sum := "c7a50f9d786e9b29c124b230280dd3278f5d4e0ebd488a108c602c4df15c0983", func := "berth/berthlaw01.BitsetAlgebra", spec := "bitsetAlgebra", unfollowed := true, recurses := true, apart := false, narrowed := true }
def BitsetAlgebraUptoSaid : Prop := bitsetAlgebraUptoRow.holds Try.pinned (OpenSpec.upto bitsetAlgebraSpec)

/-- 'berthlaw01.BitsetSnaps', WHERE WHAT IT READS IS OF BULK AT MOST 1048576: true; the input reads as it did. -/
def bitsetSnapsUptoRow : OpenClaim := { program := "ytbaglnffgbnekaa", sum := "c7a50f9d786e9b29c124b230280dd3278f5d4e0ebd488a108c602c4df15c0983", func := "berth/berthlaw01.BitsetSnaps", spec := "bitsetSnaps", unfollowed := true, recurses := true, apart := false, narrowed := true }
def BitsetSnapsUptoSaid : Prop := bitsetSnapsUptoRow.holds Try.pinned (OpenSpec.upto bitsetSnapsSpec)

/-- 'berthlaw01.BitsetFresh', WHERE WHAT IT READS IS OF BULK AT MOST 1048576: true; the input reads as it did. -/
def bitsetFreshUptoRow : OpenClaim := { program := "ytbaglnffgbnekaa", sum := "c7a50f9d786e9b29c124b230280dd3278f5d4e0ebd488a108c602c4df15c0983", func := "berth/berthlaw01.BitsetFresh", spec := "bitsetFresh", unfollowed := true, recurses := true, apart := false, narrowed := true }
def BitsetFreshUptoSaid : Prop := bitsetFreshUptoRow.holds Try.pinned (OpenSpec.upto bitsetFreshSpec)

/-- 'berthlaw01.BitsetPlace', WHERE WHAT IT READS IS OF BULK AT MOST 1048576: true; the input reads as it did. -/
def bitsetPlaceUptoRow : OpenClaim := { program := "ytbaglnffgbnekaa", sum := "c7a50f9d786e9b29c124b230280dd3278f5d4e0ebd488a108c602c4df15c0983", func := "berth/berthlaw01.BitsetPlace", spec := "bitsetPlace", unfollowed := true, recurses := true, apart := false, narrowed := true }
def BitsetPlaceUptoSaid : Prop := bitsetPlaceUptoRow.holds Try.pinned (OpenSpec.upto bitsetPlaceSpec)

/-- 'berthtop.TopNumbers', WHERE WHAT IT READS IS OF BULK AT MOST 1048576: true; the input reads as it did. -/
def topNumbersUptoRow : OpenClaim := { program := "ytbaglnffgbnekaa", sum := "c7a50f9d786e9b29c124b230280dd3278f5d4e0ebd488a108c602c4df15c0983", func := "berth/berthtop.TopNumbers", spec := "topNumbers", apart := false, narrowed := true }
def TopNumbersUptoSaid : Prop := topNumbersUptoRow.holds Try.pinned (OpenSpec.upto topNumbersSpec)

end Rows
end Go.Proofs.Ytbaglnffgbnekaa
