/-
  No cell of these rows narrows 'for every input' (looked for: loops, veiled, ifaces, maps, wideKeys, modest, calm, conditions, laid).
  DERIVED. THE GIVEN ROWS OF THIS SEAT. 6 by the template 'for every input the law returns true; each argument reads behind the call as it read before'; 0 by the template 'total and deterministic' (their statements: YtcampkaenlohbaaTotals.lean).
  GIVEN WITH THE SEED: the statements are not yours to turn. If you find one false, say at which input.
  Laid BY PROGRAM, IN A SANDBOX (cutbox-rows.mjs): the forced cells as the released guide's own fill.sh prints them over the translation 3668e3191258ca73… (all of the seat's roots in one cut). By AI agents, Wed Nov 11 2026. No macro, syntax, notation, axiom, sorry.
-/
import Derived.Test.YtcampkaenlohbaaChecked
import GoSem.Claim
import GoSem.ClaimJoined
import GoSem.ClaimMapViews
import Derived.JoinedTies
import Derived.KernelRfl
namespace Go.Proofs.Ytcampkaenlohbaa
/- THE CELL 'sum', in the pinned program and in every row, IS THE sha256 OF THE DUMP (.gsa) THAT YtcampkaenlohbaaProg.lean LOADS. Nothing in Lean hashes anything: it is a label: what it is worth is what the hold of that sum in a sandbox is worth. -/
noncomputable def Try.pinned : Pinned := { name := "ytcampkaenlohbaa", sum := "3668e3191258ca73ddb262de2b30617ee70291ea82935447a7d9db865807a551", checked := Try.checked }
namespace Rows
def none {H : Type} : Left H := { results := [], args := [] }

/-- 'berthlaw05.SlotsNames': WHATEVER THE INPUT: true; the input reads as it did. -/
def slotsNamesSpec : ChangeSpec := { name := "slotsNames", fn := fun _ => fun
  | [] => { results := [.lit (.bool true)], args := [] }
  | _ => none }
def slotsNamesRow : OpenClaim := { program := "ytcampkaenlohbaa", sum := "3668e3191258ca73ddb262de2b30617ee70291ea82935447a7d9db865807a551", func := "berth/berthlaw05.SlotsNames", spec := "slotsNames", apart := false }
def SlotsNamesSaid : Prop := slotsNamesRow.holds Try.pinned (OpenSpec.ofChange slotsNamesSpec)

/-- ITS FALSE NEIGHBOUR: 'it returns false'. Refute it at one input. -/
def slotsNamesWrong : ChangeSpec := { name := "slotsNames", fn := fun _ => fun
  | [] => { results := [.lit (.bool false)], args := [] }
  | _ => none }
def SlotsNamesWrongFalsely : Prop := slotsNamesRow.holds Try.pinned (OpenSpec.ofChange slotsNamesWrong)

/-- 'berthlaw05.SlotsLowest': WHATEVER THE INPUT: true; the input reads as it did. -/
def slotsLowestSpec : ChangeSpec := { name := "slotsLowest", fn := fun _ => fun
  | [d] => { results := [.lit (.bool true)], args := [d] }
  | _ => none }
def slotsLowestRow : OpenClaim := { program := "ytcampkaenlohbaa", sum := "3668e3191258ca73ddb262de2b30617ee70291ea82935447a7d9db865807a551", func := "berth/berthlaw05.SlotsLowest", spec := "slotsLowest", apart := false }
def SlotsLowestSaid : Prop := slotsLowestRow.holds Try.pinned (OpenSpec.ofChange slotsLowestSpec)

/-- ITS FALSE NEIGHBOUR: 'it returns false'. Refute it at one input. -/
def slotsLowestWrong : ChangeSpec := { name := "slotsLowest", fn := fun _ => fun
  | [d] => { results := [.lit (.bool false)], args := [d] }
  | _ => none }
def SlotsLowestWrongFalsely : Prop := slotsLowestRow.holds Try.pinned (OpenSpec.ofChange slotsLowestWrong)

/-- 'berthlaw05.SlotsBlind': WHATEVER THE INPUT: true; the input reads as it did. -/
def slotsBlindSpec : ChangeSpec := { name := "slotsBlind", fn := fun _ => fun
  | [d1, d2] => { results := [.lit (.bool true)], args := [d1, d2] }
  | _ => none }
def slotsBlindRow : OpenClaim := { program := "ytcampkaenlohbaa", sum := "3668e3191258ca73ddb262de2b30617ee70291ea82935447a7d9db865807a551", func := "berth/berthlaw05.SlotsBlind", spec := "slotsBlind", unfollowed := true, recurses := true, apart := false }
def SlotsBlindSaid : Prop := slotsBlindRow.holds Try.pinned (OpenSpec.ofChange slotsBlindSpec)

/-- ITS FALSE NEIGHBOUR: 'it returns false'. Refute it at one input. -/
def slotsBlindWrong : ChangeSpec := { name := "slotsBlind", fn := fun _ => fun
  | [d1, d2] => { results := [.lit (.bool false)], args := [d1, d2] }
  | _ => none }
def SlotsBlindWrongFalsely : Prop := slotsBlindRow.holds Try.pinned (OpenSpec.ofChange slotsBlindWrong)

/-- 'berthlaw05.SlotsAnswers': WHATEVER THE INPUT: true; the input reads as it did. -/
def slotsAnswersSpec : ChangeSpec := { name := "slotsAnswers", fn := fun _ => fun
  | [d] => { results := [.lit (.bool true)], args := [d] }
  | _ => none }
def slotsAnswersRow : OpenClaim := { program := "ytcampkaenlohbaa", sum := "3668e3191258ca73ddb262de2b30617ee70291ea82935447a7d9db865807a551", func := "berth/berthlaw05.SlotsAnswers", spec := "slotsAnswers", unfollowed := true, recurses := true, apart := false }
def SlotsAnswersSaid : Prop := slotsAnswersRow.holds Try.pinned (OpenSpec.ofChange slotsAnswersSpec)

/-- ITS FALSE NEIGHBOUR: 'it returns false'. Refute it at one input. -/
def slotsAnswersWrong : ChangeSpec := { name := "slotsAnswers", fn := fun _ => fun
  | [d] => { results := [.lit (.bool false)], args := [d] }
  | _ => none }
def SlotsAnswersWrongFalsely : Prop := slotsAnswersRow.holds Try.pinned (OpenSpec.ofChange slotsAnswersWrong)

/-- 'berthlaw05.SlotsWalk': WHATEVER THE INPUT: true; the input reads as it did. -/
def slotsWalkSpec : ChangeSpec := { name := "slotsWalk", fn := fun _ => fun
  | [d1, d2, d3] => { results := [.lit (.bool true)], args := [d1, d2, d3] }
  | _ => none }
def slotsWalkRow : OpenClaim := { program := "ytcampkaenlohbaa", sum := "3668e3191258ca73ddb262de2b30617ee70291ea82935447a7d9db865807a551", func := "berth/berthlaw05.SlotsWalk", spec := "slotsWalk", unfollowed := true, recurses := true, apart := false }
def SlotsWalkSaid : Prop := slotsWalkRow.holds Try.pinned (OpenSpec.ofChange slotsWalkSpec)

/-- ITS FALSE NEIGHBOUR: 'it returns false'. Refute it at one input. -/
def slotsWalkWrong : ChangeSpec := { name := "slotsWalk", fn := fun _ => fun
  | [d1, d2, d3] => { results := [.lit (.bool false)], args := [d1, d2, d3] }
  | _ => none }
def SlotsWalkWrongFalsely : Prop := slotsWalkRow.holds Try.pinned (OpenSpec.ofChange slotsWalkWrong)

/-- 'berthlaw05.SlotsCopies': WHATEVER THE INPUT: true; the input reads as it did. -/
def slotsCopiesSpec : ChangeSpec := { name := "slotsCopies", fn := fun _ => fun
  | [d1, d2, d3] => { results := [.lit (.bool true)], args := [d1, d2, d3] }
  | _ => none }
def slotsCopiesRow : OpenClaim := { program := "ytcampkaenlohbaa", sum := "3668e3191258ca73ddb262de2b30617ee70291ea82935447a7d9db865807a551", func := "berth/berthlaw05.SlotsCopies", spec := "slotsCopies", unfollowed := true, recurses := true, apart := false }
def SlotsCopiesSaid : Prop := slotsCopiesRow.holds Try.pinned (OpenSpec.ofChange slotsCopiesSpec)

/-- ITS FALSE NEIGHBOUR: 'it returns false'. Refute it at one input. -/
def slotsCopiesWrong : ChangeSpec := { name := "slotsCopies", fn := fun _ => fun
  | [d1, d2, d3] => { results := [.lit (.bool false)], args := [d1, d2, d3] }
  | _ => none }
def SlotsCopiesWrongFalsely : Prop := slotsCopiesRow.holds Try.pinned (OpenSpec.ofChange slotsCopiesWrong)

/- THE SECOND FORM. 'bulk': how many values and letters a reading holds, each counted each time it is reached (what is shared counts as often as it is met; a slice's spare places count too). A statement '..UptoSaid' is the law's where the arguments, and the package variables that the reading takes, are together of bulk at most 1048576: NARROWER than '..Said'. Prove '..Said' where nothing that the law and all that it calls make is longer than what came in: it says more and counts as full. Else prove '..UptoSaid'. A law counts once. -/
mutual
def uptoBulk {H : Type} : DataW H → Nat
  | .lit (.string bytes) => bytes.length + 1
  | .lit _ => 1
  | .nil => 1
  | .ptr d => uptoBulk d + 1
  | .slice elems spare => uptoBulkAll elems + uptoBulkAll spare + 1
  | .agg parts => uptoBulkAll parts + 1
  | .iface _ d => uptoBulk d + 1
  | .map entries => uptoBulkEntries entries + 1
  | .held _ => 1
def uptoBulkAll {H : Type} : List (DataW H) → Nat
  | [] => 0
  | d :: r => uptoBulk d + uptoBulkAll r
def uptoBulkEntries {H : Type} : List (Lit × DataW H) → Nat
  | [] => 0
  | x :: r => uptoBulkEntry x + uptoBulkEntries r
def uptoBulkEntry {H : Type} : Lit × DataW H → Nat
  | (.string bytes, d) => bytes.length + uptoBulk d + 1
  | (_, d) => uptoBulk d + 1
 end
def uptoSmall : (H : Type) → List (DataW H) → Bool := fun _ ds => decide (uptoBulkAll ds ≤ 1048576)
def OpenSpec.upto (s : _root_.Go.ChangeSpec) : _root_.Go.OpenSpec := { _root_.Go.OpenSpec.ofChange s with cond := some uptoSmall }

/-- 'berthlaw05.SlotsNames', WHERE WHAT IT READS IS OF BULK AT MOST 1048576: true; the input reads as it did. -/
def slotsNamesUptoRow : OpenClaim := { program := "ytcampkaenlohbaa", sum := "3668e3191258ca73ddb262de2b30617ee70291ea82935447a7d9db865807a551", func := "berth/berthlaw05.SlotsNames", spec := "slotsNames", apart := false, narrowed := true }
def SlotsNamesUptoSaid : Prop := slotsNamesUptoRow.holds Try.pinned (OpenSpec.upto slotsNamesSpec)

/-- 'berthlaw05.SlotsLowest', WHERE WHAT IT READS IS OF BULK AT MOST 1048576: true; the input reads as it did. -/
def slotsLowestUptoRow : OpenClaim := { program := "ytcampkaenlohbaa", sum := "3668e3191258ca73ddb262de2b30617ee70291ea82935447a7d9db865807a551", func := "berth/berthlaw05.SlotsLowest", spec := "slotsLowest", apart := false, narrowed := true }
def SlotsLowestUptoSaid : Prop := slotsLowestUptoRow.holds Try.pinned (OpenSpec.upto slotsLowestSpec)

/-- 'berthlaw05.SlotsBlind', WHERE WHAT IT READS IS OF BULK AT MOST 1048576: true; the input reads as it did. -/
def slotsBlindUptoRow : OpenClaim := { program := "ytcampkaenlohbaa", sum := "3668e3191258ca73ddb262de2b30617ee70291ea82935447a7d9db865807a551", func := "berth/berthlaw05.SlotsBlind", spec := "slotsBlind", unfollowed := true, recurses := true, apart := false, narrowed := true }
def SlotsBlindUptoSaid : Prop := slotsBlindUptoRow.holds Try.pinned (OpenSpec.upto slotsBlindSpec)

/-- 'berthlaw05.SlotsAnswers', WHERE WHAT IT READS IS OF BULK AT MOST 1048576: true; the input reads as it did. -/
def slotsAnswersUptoRow : OpenClaim := { program := "ytcampkaenlohbaa", sum := "3668e3191258ca73ddb262de2b30617ee70291ea82935447a7d9db865807a551", func := "berth/berthlaw05.SlotsAnswers", spec := "slotsAnswers", unfollowed := true, recurses := true, apart := false, narrowed := true }
def SlotsAnswersUptoSaid : Prop := slotsAnswersUptoRow.holds Try.pinned (OpenSpec.upto slotsAnswersSpec)

/-- 'berthlaw05.SlotsWalk', WHERE WHAT IT READS IS OF BULK AT MOST 1048576: true; the input reads as it did. -/
def slotsWalkUptoRow : OpenClaim := { program := "ytcampkaenlohbaa", sum := "3668e3191258ca73ddb262de2b30617ee70291ea82935447a7d9db865807a551", func := "berth/berthlaw05.SlotsWalk", spec := "slotsWalk", unfollowed := true, recurses := true, apart := false, narrowed := true }
def SlotsWalkUptoSaid : Prop := slotsWalkUptoRow.holds Try.pinned (OpenSpec.upto slotsWalkSpec)

/-- 'berthlaw05.SlotsCopies', WHERE WHAT IT READS IS OF BULK AT MOST 1048576: true; the input reads as it did. -/
def slotsCopiesUptoRow : OpenClaim := { program := "ytcampkaenlohbaa", sum := "3668e3191258ca73ddb262de2b30617ee70291ea82935447a7d9db865807a551", func := "berth/berthlaw05.SlotsCopies", spec := "slotsCopies", unfollowed := true, recurses := true, apart := false, narrowed := true }
def SlotsCopiesUptoSaid : Prop := slotsCopiesUptoRow.holds Try.pinned (OpenSpec.upto slotsCopiesSpec)

end Rows
end Go.Proofs.Ytcampkaenlohbaa
