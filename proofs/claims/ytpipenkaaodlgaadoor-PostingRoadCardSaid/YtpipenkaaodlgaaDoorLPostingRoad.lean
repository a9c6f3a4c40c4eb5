/- PostingRoad: the law, brought to its row and its card. -/
import Derived.Test.YtpipenkaaodlgaaDoorZ14
import Derived.Test.YtpipenkaaodlgaaDoorRows
import Derived.Test.YtpipenkaaodlgaaDoorTie
import Derived.Test.YtpipenkaaodlgaaDoorCards
import Derived.ProofKit
import Derived.LaidMore
import Derived.OpenShut
import Derived.Stop.Joined
import Derived.SevenTiedAt
import Derived.LaidHandle
import Derived.Lay
set_option linter.unusedVariables false
set_option linter.unusedSimpArgs false
namespace Go.Proofs.YtpipenkaaodlgaaDoor
open Go Go.V Go.B
open Go.ChangeShapes Go.WideShapes Go.ChangeAt Go.RowKit

/-! ### the library's tables, and the tied card -/
set_option maxRecDepth 100000 in
theorem door_met (os : Os) (args : Array Value) : laidMetH Tryd.prog Rows.postingRoadRow.laid ((World.laidAll Tryd.prog os Rows.postingRoadRow.laid).forCall (fun _ _ => 0) ⟨#[], args, []⟩).memory := by
  rw [MakeChecks.laidMetH_plain _ _ _ (by kernel_rfl)]
  exact laidMet_laidAll _ (by kernel_rfl) (by kernel_rfl)
set_option maxRecDepth 8000 in
theorem postingRoad_lifted (os : Os) (started : os.Started) (H : Type) (enc : TypeId × Value → H) (F : Stop.Interp) :
    ReturnsInHanded {} Tryd.checked os 5 .any ((OpenSpec.ofChange Rows.postingRoadSpec).preRow enc Tryd.prog Tryd.f5 Rows.postingRoadRow.domain false Rows.postingRoadRow.laid) (((OpenSpec.ofChange Rows.postingRoadSpec).at F).post enc Tryd.prog Tryd.f5 false true false false) :=
  lift1L (C := Tryd.checked) (T := 22) (tb := 4) own (by kernel_rfl) Tryd.func5 (by kernel_rfl) (by kernel_rfl) Tryd.underlying4 rfl (fun _ _ => rfl) laidOut (by kernel_rfl) (of_decide_eq_true (by kernel_rfl)) os started H enc F
    (fun W base v d p hok ht hw hL => by
      obtain ⟨A, n, c, ops, rfl, h⟩ := open_ops hok ht hw
      exact postingRoad_c h fun w' e => ⟨rfl, e.below⟩)
    (ChangeSpec.witness_shaped (enc := enc) (C := Tryd.checked) (os := os) (X := fun w _ => laidMetH Tryd.prog Rows.postingRoadRow.laid w) false (World.laidAll Tryd.prog os Rows.postingRoadRow.laid) #[.slice none 0 0] 8 (World.laidAll_os _ _ _) (World.shaped_of_ZipB (by kernel_rfl) (by kernel_rfl)) (by kernel_rfl) (by kernel_rfl) (by kernel_rfl) (door_met os _))
theorem postingRoad_holds : Rows.PostingRoadSaid :=
  OpenClaim.holds_of_cond 5 Tryd.f5 rfl rfl rfl rfl rfl rfl rfl ⟨rfl, rfl, rfl, rfl, rfl⟩ rfl rfl rfl rfl rfl (by kernel_rfl) Tryd.func5 (by kernel_rfl)
    (of_decide_eq_true (by kernel_rfl)) (by unfold Func.isWrapper; first | (rw [if_pos (by decide +kernel)]; kernel_rfl) | (rw [if_neg (by decide +kernel)]; exact ⟨rfl, rfl⟩))
    (fun os started H enc _ F0 => by rw [OpenClaim.pre_eq_preRow]; exact postingRoad_lifted os started H enc F0)
theorem postingRoad_card_holds : Rows.PostingRoadCardSaid :=
  Claim7.holds_tied_plain_at .later [] [.data, .pinned] true (true, Rows.postingRoadCard.stood.harness.2) false
    postingRoad_holds (fun _ h => by cases h) (by kernel_rfl) (fun _ h => by cases h) postingRoad_row_tie rfl ⟨rfl, rfl⟩ (by kernel_rfl) rfl
    (fun f fn hf hfn => by
      obtain rfl : f = 5 := Option.some.inj ((show Tryd.prog.funcNamed "berth/berthlaw07.PostingRoad" = some 5 by kernel_rfl).symm.trans hf) |>.symm
      obtain rfl : fn = Tryd.f5 := (Option.some.inj (Tryd.func5.symm.trans hfn)).symm
      exact ⟨by kernel_rfl, fun j t ht => by
        rw [Tryd.params5] at ht
        have hm : t ∈ [22] := by simpa using Array.mem_of_getElem? ht
        have hall : ([22].all fun u => !Tryd.prog.wantsStandIn u) = true := by kernel_rfl
        exact (show Tryd.prog.wantsStandIn t = false by simpa using List.all_eq_true.1 hall t hm)⟩)
    (by kernel_rfl)
end Go.Proofs.YtpipenkaaodlgaaDoor
