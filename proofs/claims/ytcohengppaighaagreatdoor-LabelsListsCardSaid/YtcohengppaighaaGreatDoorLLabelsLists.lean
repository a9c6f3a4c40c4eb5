/- Whatever script comes in, berthlaw03.LabelsLists returns true and leaves what came in as it was. -/
import Derived.Test.YtcohengppaighaaGreatDoorLt2
import Derived.Test.YtcohengppaighaaGreatDoorLl
import Derived.Test.YtcohengppaighaaGreatDoorRows
import Derived.Test.YtcohengppaighaaGreatDoorTie
import Derived.Test.YtcohengppaighaaGreatDoorCards
import Derived.ProofKit
import Derived.LaidMore
import Derived.OpenShut
import Derived.Stop.Joined
import Derived.SevenTiedAt
import Derived.LaidHandle
import Derived.Lay
set_option linter.unusedVariables false
set_option linter.unusedSimpArgs false
namespace Go.Proofs.YtcohengppaighaaGreatDoor
open Go Go.V Go.B
open Go.ChangeShapes Go.WideShapes Go.ChangeAt Go.RowKit

theorem labelsLists_c {w : World} {A : Option Addr} {n c : Nat} {ops : List LOp} (h : OpsAt w A n ops) {R : Ending → World → Prop}
    (k : ∀ w', Ext [] w w' → R (.returned (.bool true)) w') : Calls Tryz.prog 5 #[.slice A n c] w R := by
  apply berthlaw03_LabelsLists_nf
  exact wakes_c fun w4 e4 => ⟨_, rfl, sel_true rfl (upTo_c (h.ext0 e4) 6 9 (fun o w1 R' h1 h2 hin _ k' => plays_lists hin h1 h2 k') fun w7 e7 => ⟨_, rfl, k _ (e4.trans e7)⟩)⟩
/-! ### the library's tables, and the tied card -/
set_option maxRecDepth 100000 in
theorem door_met (os : Os) (args : Array Value) : laidMetH Tryz.prog Rows.labelsListsRow.laid ((World.laidAll Tryz.prog os Rows.labelsListsRow.laid).forCall (fun _ _ => 0) ⟨#[], args, []⟩).memory := by
  rw [MakeChecks.laidMetH_plain _ _ _ (by kernel_rfl)]
  exact laidMet_laidAll _ (by kernel_rfl) (by kernel_rfl)
set_option maxRecDepth 8000 in
theorem labelsLists_lifted (os : Os) (started : os.Started) (H : Type) (enc : TypeId × Value → H) (F : Stop.Interp) :
    ReturnsInHanded {} Tryz.checked os 5 .any ((OpenSpec.ofChange Rows.labelsListsSpec).preRow enc Tryz.prog Tryz.f5 Rows.labelsListsRow.domain false Rows.labelsListsRow.laid) (((OpenSpec.ofChange Rows.labelsListsSpec).at F).post enc Tryz.prog Tryz.f5 false true false false) :=
  lift1L (C := Tryz.checked) (T := 29) (tb := 4) own (by kernel_rfl) Tryz.func5 (by kernel_rfl) (by kernel_rfl) Tryz.underlying4 rfl (fun _ _ => rfl) laidOut (by kernel_rfl) (of_decide_eq_true (by kernel_rfl)) os started H enc F
    (fun W base v0 d0 p0 hok0 ht0 hw0 hL => by
      obtain ⟨A0, n0, c0, ops0, rfl, h0⟩ := open_ops hok0 ht0 hw0
      exact labelsLists_c h0 fun w' e => ⟨rfl, e.below⟩)
    (ChangeSpec.witness_shaped (enc := enc) (C := Tryz.checked) (os := os) (X := fun w _ => laidMetH Tryz.prog Rows.labelsListsRow.laid w) false (World.laidAll Tryz.prog os Rows.labelsListsRow.laid) #[.slice none 0 0] 8 (World.laidAll_os _ _ _) (World.shaped_of_ZipB (by kernel_rfl) (by kernel_rfl)) (by kernel_rfl) (by kernel_rfl) (by kernel_rfl) (door_met os _))
theorem labelsLists_holds : Rows.LabelsListsSaid :=
  OpenClaim.holds_of_cond 5 Tryz.f5 rfl rfl rfl rfl rfl rfl rfl ⟨rfl, rfl, rfl, rfl, rfl⟩ rfl rfl rfl rfl rfl (by kernel_rfl) Tryz.func5 (by kernel_rfl)
    (of_decide_eq_true (by kernel_rfl)) (by unfold Func.isWrapper; first | (rw [if_pos (by decide +kernel)]; kernel_rfl) | (rw [if_neg (by decide +kernel)]; exact ⟨rfl, rfl⟩))
    (fun os started H enc _ F0 => by rw [OpenClaim.pre_eq_preRow]; exact labelsLists_lifted os started H enc F0)
theorem labelsLists_card_holds : Rows.LabelsListsCardSaid :=
  Claim7.holds_tied_plain_at .later [] [.data, .data, .data, .data, .pinned] true (true, Rows.labelsListsCard.stood.harness.2) false
    labelsLists_holds (fun _ h => by cases h) (by kernel_rfl) (fun _ h => by cases h) labelsLists_row_tie rfl ⟨rfl, rfl⟩ (by kernel_rfl) rfl
    (fun f fn hf hfn => by
      obtain rfl : f = 5 := Option.some.inj ((show Tryz.prog.funcNamed "berth/berthlaw03.LabelsLists" = some 5 by kernel_rfl).symm.trans hf) |>.symm
      obtain rfl : fn = Tryz.f5 := (Option.some.inj (Tryz.func5.symm.trans hfn)).symm
      exact ⟨by kernel_rfl, fun j t ht => by
        rw [Tryz.params5] at ht
        have hm : t ∈ [29] := by simpa using Array.mem_of_getElem? ht
        have hall : ([29].all fun u => !Tryz.prog.wantsStandIn u) = true := by kernel_rfl
        exact (show Tryz.prog.wantsStandIn t = false by simpa using List.all_eq_true.1 hall t hm)⟩)
    (by kernel_rfl)
end Go.Proofs.YtcohengppaighaaGreatDoor
