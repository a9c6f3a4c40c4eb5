/-
  NARROWER THAN 'FOR EVERY INPUT', by the rows' own cells (each row's printed sentence says how): LabelsWalk: laid · LabelsRead: laid · LabelsWay: laid · LabelsMap: laid · LabelsOrder: laid.
  DERIVED. THE GIVEN ROWS OF THIS SEAT. 5 by the template 'for every input the law returns true; each argument reads behind the call as it read before'; 0 by the template 'total and deterministic' (their statements: YtcohengppaighaaDoorTotals.lean).
  GIVEN WITH THE SEED: the statements are not yours to turn. If you find one false, say at which input.
  Laid BY PROGRAM, IN A SANDBOX (cutbox-rows.mjs): the forced cells as the released guide's own fill.sh prints them over the translation 95e3a69e2ea51d15… (all of the seat's roots in one cut). By AI agents, Wed Nov 11 2026. No macro, syntax, notation, axiom, sorry.
-/
import Derived.Test.YtcohengppaighaaDoorChecked
import GoSem.PinnedTables
import GoSem.Claim
import GoSem.ClaimJoined
import GoSem.ClaimMapViews
import Derived.JoinedTies
import Derived.KernelRfl
namespace Go.Proofs.YtcohengppaighaaDoor
/- THE CELL 'sum', in the pinned program and in every row, IS THE sha256 OF THE DUMP (.gsa) THAT YtcohengppaighaaDoorProg.lean LOADS. Nothing in Lean hashes anything: it is a label: what it is worth is what the hold of that sum in a sandbox is worth. -/
noncomputable def Tryd.pinned : Pinned := { name := "ytcohengppaighaadoor", sum := "95e3a69e2ea51d157b998e865b1ffb1212c88eb1fabfaebce205ef0eac4b41ec", checked := Tryd.checked }
namespace Rows
def none {H : Type} : Left H := { results := [], args := [] }

/- WHAT THE LISTED PACKAGE-LEVEL VARIABLES READ AS WHEN THE CALL BEGINS. Each datum BY PROGRAM (the guide's laid-datum.mjs) off the statement by which the dump's own 'gosem.cut.vars' lays the variable. In a bare row this is a premise. The card (YtcohengppaighaaDoorCards.lean) ties it to the program's text. -/
def laid_unicode_utf8_acceptRanges {H : Type} : DataW H := .agg [.agg [.lit (.int .u8 128), .lit (.int .u8 191)], .agg [.lit (.int .u8 160), .lit (.int .u8 191)], .agg [.lit (.int .u8 128), .lit (.int .u8 159)], .agg [.lit (.int .u8 144), .lit (.int .u8 191)], .agg [.lit (.int .u8 128), .lit (.int .u8 143)], .agg [.lit (.int .u8 0), .lit (.int .u8 0)], .agg [.lit (.int .u8 0), .lit (.int .u8 0)], .agg [.lit (.int .u8 0), .lit (.int .u8 0)], .agg [.lit (.int .u8 0), .lit (.int .u8 0)], .agg [.lit (.int .u8 0), .lit (.int .u8 0)], .agg [.lit (.int .u8 0), .lit (.int .u8 0)], .agg [.lit (.int .u8 0), .lit (.int .u8 0)], .agg [.lit (.int .u8 0), .lit (.int .u8 0)], .agg [.lit (.int .u8 0), .lit (.int .u8 0)], .agg [.lit (.int .u8 0), .lit (.int .u8 0)], .agg [.lit (.int .u8 0), .lit (.int .u8 0)]]
/-- One of Go's own tables, pinned by name: the form's constant. -/
def laid_unicode_utf8_first : DataW Unit := Go.Pinned.utf8First

/-- 'berthlaw03.LabelsWalk': WHATEVER THE INPUT: true; the input reads as it did. -/
def labelsWalkSpec : ChangeSpec := { name := "labelsWalk", fn := fun _ => fun
  | [d1, d2, d3] => { results := [.lit (.bool true)], args := [d1, d2, d3] }
  | _ => none }
def labelsWalkRow : OpenClaim := { program := "ytcohengppaighaadoor", sum := "95e3a69e2ea51d157b998e865b1ffb1212c88eb1fabfaebce205ef0eac4b41ec", func := "berth/berthlaw03.LabelsWalk", spec := "labelsWalk", inPlace := ["internal/bytealg.CountString", "internal/bytealg.IndexByteString", "internal/bytealg.IndexString", "internal/reflectlite.ValueOf", "internal/reflectlite.Swapper", "(internal/reflectlite.Value).Len"], unfollowed := true, recurses := true, named := ["unicode/utf8.first", "unicode/utf8.acceptRanges", "internal/bytealg.MaxLen"], apart := false, laid := [("unicode/utf8.acceptRanges", laid_unicode_utf8_acceptRanges), ("unicode/utf8.first", laid_unicode_utf8_first)] }
def LabelsWalkSaid : Prop := labelsWalkRow.holds Tryd.pinned (OpenSpec.ofChange labelsWalkSpec)

/-- ITS FALSE NEIGHBOUR: 'it returns false'. Refute it at one input. -/
def labelsWalkWrong : ChangeSpec := { name := "labelsWalk", fn := fun _ => fun
  | [d1, d2, d3] => { results := [.lit (.bool false)], args := [d1, d2, d3] }
  | _ => none }
def LabelsWalkWrongFalsely : Prop := labelsWalkRow.holds Tryd.pinned (OpenSpec.ofChange labelsWalkWrong)

/-- 'berthlaw03.LabelsRead': WHATEVER THE INPUT: true; the input reads as it did. -/
def labelsReadSpec : ChangeSpec := { name := "labelsRead", fn := fun _ => fun
  | [d1, d2] => { results := [.lit (.bool true)], args := [d1, d2] }
  | _ => none }
def labelsReadRow : OpenClaim := { program := "ytcohengppaighaadoor", sum := "95e3a69e2ea51d157b998e865b1ffb1212c88eb1fabfaebce205ef0eac4b41ec", func := "berth/berthlaw03.LabelsRead", spec := "labelsRead", inPlace := ["internal/bytealg.CountString", "internal/bytealg.IndexByteString", "internal/bytealg.IndexString", "internal/reflectlite.ValueOf", "internal/reflectlite.Swapper", "(internal/reflectlite.Value).Len", "internal/abi.NoEscape"], unfollowed := true, recurses := true, named := ["unicode/utf8.first", "unicode/utf8.acceptRanges", "internal/bytealg.MaxLen"], apart := false, laid := [("unicode/utf8.acceptRanges", laid_unicode_utf8_acceptRanges), ("unicode/utf8.first", laid_unicode_utf8_first)] }
def LabelsReadSaid : Prop := labelsReadRow.holds Tryd.pinned (OpenSpec.ofChange labelsReadSpec)

/-- ITS FALSE NEIGHBOUR: 'it returns false'. Refute it at one input. -/
def labelsReadWrong : ChangeSpec := { name := "labelsRead", fn := fun _ => fun
  | [d1, d2] => { results := [.lit (.bool false)], args := [d1, d2] }
  | _ => none }
def LabelsReadWrongFalsely : Prop := labelsReadRow.holds Tryd.pinned (OpenSpec.ofChange labelsReadWrong)

/-- 'berthlaw03.LabelsWay': WHATEVER THE INPUT: true; the input reads as it did. -/
def labelsWaySpec : ChangeSpec := { name := "labelsWay", fn := fun _ => fun
  | [d1, d2] => { results := [.lit (.bool true)], args := [d1, d2] }
  | _ => none }
def labelsWayRow : OpenClaim := { program := "ytcohengppaighaadoor", sum := "95e3a69e2ea51d157b998e865b1ffb1212c88eb1fabfaebce205ef0eac4b41ec", func := "berth/berthlaw03.LabelsWay", spec := "labelsWay", inPlace := ["internal/bytealg.IndexByteString", "internal/bytealg.IndexString", "internal/bytealg.CountString", "internal/reflectlite.ValueOf", "internal/reflectlite.Swapper", "(internal/reflectlite.Value).Len"], unfollowed := true, recurses := true, named := ["internal/bytealg.MaxLen", "unicode/utf8.first", "unicode/utf8.acceptRanges"], apart := false, laid := [("unicode/utf8.acceptRanges", laid_unicode_utf8_acceptRanges), ("unicode/utf8.first", laid_unicode_utf8_first)] }
def LabelsWaySaid : Prop := labelsWayRow.holds Tryd.pinned (OpenSpec.ofChange labelsWaySpec)

/-- ITS FALSE NEIGHBOUR: 'it returns false'. Refute it at one input. -/
def labelsWayWrong : ChangeSpec := { name := "labelsWay", fn := fun _ => fun
  | [d1, d2] => { results := [.lit (.bool false)], args := [d1, d2] }
  | _ => none }
def LabelsWayWrongFalsely : Prop := labelsWayRow.holds Tryd.pinned (OpenSpec.ofChange labelsWayWrong)

/-- 'berthlaw03.LabelsMap': WHATEVER THE INPUT: true; the input reads as it did. -/
def labelsMapSpec : ChangeSpec := { name := "labelsMap", fn := fun _ => fun
  | [d1, d2, d3] => { results := [.lit (.bool true)], args := [d1, d2, d3] }
  | _ => none }
def labelsMapRow : OpenClaim := { program := "ytcohengppaighaadoor", sum := "95e3a69e2ea51d157b998e865b1ffb1212c88eb1fabfaebce205ef0eac4b41ec", func := "berth/berthlaw03.LabelsMap", spec := "labelsMap", inPlace := ["internal/bytealg.CountString", "internal/bytealg.IndexByteString", "internal/bytealg.IndexString", "internal/reflectlite.ValueOf", "internal/reflectlite.Swapper", "(internal/reflectlite.Value).Len"], unfollowed := true, recurses := true, named := ["unicode/utf8.first", "unicode/utf8.acceptRanges", "internal/bytealg.MaxLen"], apart := false, laid := [("unicode/utf8.acceptRanges", laid_unicode_utf8_acceptRanges), ("unicode/utf8.first", laid_unicode_utf8_first)] }
def LabelsMapSaid : Prop := labelsMapRow.holds Tryd.pinned (OpenSpec.ofChange labelsMapSpec)

/-- ITS FALSE NEIGHBOUR: 'it returns false'. Refute it at one input. -/
def labelsMapWrong : ChangeSpec := { name := "labelsMap", fn := fun _ => fun
  | [d1, d2, d3] => { results := [.lit (.bool false)], args := [d1, d2, d3] }
  | _ => none }
def LabelsMapWrongFalsely : Prop := labelsMapRow.holds Tryd.pinned (OpenSpec.ofChange labelsMapWrong)

/-- 'berthlaw03.LabelsOrder': WHATEVER THE INPUT: true; the input reads as it did. -/
def labelsOrderSpec : ChangeSpec := { name := "labelsOrder", fn := fun _ => fun
  | [d] => { results := [.lit (.bool true)], args := [d] }
  | _ => none }
def labelsOrderRow : OpenClaim := { program := "ytcohengppaighaadoor", sum := "95e3a69e2ea51d157b998e865b1ffb1212c88eb1fabfaebce205ef0eac4b41ec", func := "berth/berthlaw03.LabelsOrder", spec := "labelsOrder", inPlace := ["internal/bytealg.CountString", "internal/bytealg.IndexByteString", "internal/bytealg.IndexString", "internal/reflectlite.ValueOf", "internal/reflectlite.Swapper", "(internal/reflectlite.Value).Len", "internal/abi.NoEscape"], unfollowed := true, recurses := true, named := ["unicode/utf8.first", "unicode/utf8.acceptRanges", "internal/bytealg.MaxLen"], apart := false, laid := [("unicode/utf8.acceptRanges", laid_unicode_utf8_acceptRanges), ("unicode/utf8.first", laid_unicode_utf8_first)] }
def LabelsOrderSaid : Prop := labelsOrderRow.holds Tryd.pinned (OpenSpec.ofChange labelsOrderSpec)

/-- ITS FALSE NEIGHBOUR: 'it returns false'. Refute it at one input. -/
def labelsOrderWrong : ChangeSpec := { name := "labelsOrder", fn := fun _ => fun
  | [d] => { results := [.lit (.bool false)], args := [d] }
  | _ => none }
def LabelsOrderWrongFalsely : Prop := labelsOrderRow.holds Tryd.pinned (OpenSpec.ofChange labelsOrderWrong)

/- THE SECOND FORM. 'bulk': how many values and letters a reading holds, each counted each time it is reached (what is shared counts as often as it is met; a slice's spare places count too). A statement '..UptoSaid' is the law's where the arguments, and the package variables that the reading takes, are together of bulk at most 1048576: NARROWER than '..Said'. Prove '..Said' where nothing that the law and all that it calls make is longer than what came in: it says more and counts as full. Else prove '..UptoSaid'. A law counts once. -/
mutual
def uptoBulk {H : Type} : DataW H → Nat
  | .lit (.string bytes) => bytes.length + 1
  | .lit _ => 1
  | .nil => 1
  | .ptr d => uptoBulk d + 1
  | .slice elems spare => uptoBulkAll elems + uptoBulkAll spare + 1
  | .agg parts => uptoBulkAll parts + 1
  | .iface _ d => uptoBulk d + 1
  | .map entries => uptoBulkEntries entries + 1
  | .held _ => 1
def uptoBulkAll {H : Type} : List (DataW H) → Nat
  | [] => 0
  | d :: r => uptoBulk d + uptoBulkAll r
def uptoBulkEntries {H : Type} : List (Lit × DataW H) → Nat
  | [] => 0
  | x :: r => uptoBulkEntry x + uptoBulkEntries r
def uptoBulkEntry {H : Type} : Lit × DataW H → Nat
  | (.string bytes, d) => bytes.length + uptoBulk d + 1
  | (_, d) => uptoBulk d + 1
 end
def uptoSmall : (H : Type) → List (DataW H) → Bool := fun _ ds => decide (uptoBulkAll ds ≤ 1048576)
def OpenSpec.upto (s : _root_.Go.ChangeSpec) : _root_.Go.OpenSpec := { _root_.Go.OpenSpec.ofChange s with cond := some uptoSmall }

/-- 'berthlaw03.LabelsWalk', WHERE WHAT IT READS IS OF BULK AT MOST 1048576: true; the input reads as it did. -/
def labelsWalkUptoRow : OpenClaim := { program := "ytcohengppaighaadoor", sum := "95e3a69e2ea51d157b998e865b1ffb1212c88eb1fabfaebce205ef0eac4b41ec", func := "berth/berthlaw03.LabelsWalk", spec := "labelsWalk", inPlace := ["internal/bytealg.CountString", "internal/bytealg.IndexByteString", "internal/bytealg.IndexString", "internal/reflectlite.ValueOf", "internal/reflectlite.Swapper", "(internal/reflectlite.Value).Len"], unfollowed := true, recurses := true, named := ["unicode/utf8.first", "unicode/utf8.acceptRanges", "internal/bytealg.MaxLen"], apart := false, laid := [("unicode/utf8.acceptRanges", laid_unicode_utf8_acceptRanges), ("unicode/utf8.first", laid_unicode_utf8_first)], narrowed := true }
def LabelsWalkUptoSaid : Prop := labelsWalkUptoRow.holds Tryd.pinned (OpenSpec.upto labelsWalkSpec)

/-- 'berthlaw03.LabelsRead', WHERE WHAT IT READS IS OF BULK AT MOST 1048576: true; the input reads as it did. -/
def labelsReadUptoRow : OpenClaim := { program := "ytcohengppaighaadoor", sum := "95e3a69e2ea51d157b998e865b1ffb1212c88eb1fabfaebce205ef0eac4b41ec", func := "berth/berthlaw03.LabelsRead", spec := "labelsRead", inPlace := ["internal/bytealg.CountString", "internal/bytealg.IndexByteString", "internal/bytealg.IndexString", "internal/reflectlite.ValueOf", "internal/reflectlite.Swapper", "(internal/reflectlite.Value).Len", "internal/abi.NoEscape"], unfollowed := true, recurses := true, named := ["unicode/utf8.first", "unicode/utf8.acceptRanges", "internal/bytealg.MaxLen"], apart := false, laid := [("unicode/utf8.acceptRanges", laid_unicode_utf8_acceptRanges), ("unicode/utf8.first", laid_unicode_utf8_first)], narrowed := true }
def LabelsReadUptoSaid : Prop := labelsReadUptoRow.holds Tryd.pinned (OpenSpec.upto labelsReadSpec)

/-- 'berthlaw03.LabelsWay', WHERE WHAT IT READS IS OF BULK AT MOST 1048576: true; the input reads as it did. -/
def labelsWayUptoRow : OpenClaim := { program := "ytcohengppaighaadoor", sum := "95e3a69e2ea51d157b998e865b1ffb1212c88eb1fabfaebce205ef0eac4b41ec", func := "berth/berthlaw03.LabelsWay", spec := "labelsWay", inPlace := ["internal/bytealg.IndexByteString", "internal/bytealg.IndexString", "internal/bytealg.CountString", "internal/reflectlite.ValueOf", "internal/reflectlite.Swapper", "(internal/reflectlite.Value).Len"], unfollowed := true, recurses := true, named := ["internal/bytealg.MaxLen", "unicode/utf8.first", "unicode/utf8.acceptRanges"], apart := false, laid := [("unicode/utf8.acceptRanges", laid_unicode_utf8_acceptRanges), ("unicode/utf8.first", laid_unicode_utf8_first)], narrowed := true }
def LabelsWayUptoSaid : Prop := labelsWayUptoRow.holds Tryd.pinned (OpenSpec.upto labelsWaySpec)

/-- 'berthlaw03.LabelsMap', WHERE WHAT IT READS IS OF BULK AT MOST 1048576: true; the input reads as it did. -/
def labelsMapUptoRow : OpenClaim := { program := "ytcohengppaighaadoor", sum := "95e3a69e2ea51d157b998e865b1ffb1212c88eb1fabfaebce205ef0eac4b41ec", func := "berth/berthlaw03.LabelsMap", spec := "labelsMap", inPlace := ["internal/bytealg.CountString", "internal/bytealg.IndexByteString", "internal/bytealg.IndexString", "internal/reflectlite.ValueOf", "internal/reflectlite.Swapper", "(internal/reflectlite.Value).Len"], unfollowed := true, recurses := true, named := ["unicode/utf8.first", "unicode/utf8.acceptRanges", "internal/bytealg.MaxLen"], apart := false, laid := [("unicode/utf8.acceptRanges", laid_unicode_utf8_acceptRanges), ("unicode/utf8.first", laid_unicode_utf8_first)], narrowed := true }
def LabelsMapUptoSaid : Prop := labelsMapUptoRow.holds Tryd.pinned (OpenSpec.upto labelsMapSpec)

/-- 'berthlaw03.LabelsOrder', WHERE WHAT IT READS IS OF BULK AT MOST 1048576: true; the input reads as it did. -/
def labelsOrderUptoRow : OpenClaim := { program := "ytcohengppaighaadoor", sum := "95e3a69e2ea51d157b998e865b1ffb1212c88eb1fabfaebce205ef0eac4b41ec", func := "berth/berthlaw03.LabelsOrder", spec := "labelsOrder", inPlace := ["internal/bytealg.CountString", "internal/bytealg.IndexByteString", "internal/bytealg.IndexString", "internal/reflectlite.ValueOf", "internal/reflectlite.Swapper", "(internal/reflectlite.Value).Len", "internal/abi.NoEscape"], unfollowed := true, recurses := true, named := ["unicode/utf8.first", "unicode/utf8.acceptRanges", "internal/bytealg.MaxLen"], apart := false, laid := [("unicode/utf8.acceptRanges", laid_unicode_utf8_acceptRanges), ("unicode/utf8.first", laid_unicode_utf8_first)], narrowed := true }
def LabelsOrderUptoSaid : Prop := labelsOrderUptoRow.holds Tryd.pinned (OpenSpec.upto labelsOrderSpec)

end Rows
end Go.Proofs.YtcohengppaighaaDoor
