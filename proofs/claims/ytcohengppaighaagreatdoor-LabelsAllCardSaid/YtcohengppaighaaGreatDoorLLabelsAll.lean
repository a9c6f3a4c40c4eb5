/- Whatever script comes in, where the library's tables stand, berthlaw03.LabelsAll returns true and leaves what came in as it was. -/
import Derived.Test.YtcohengppaighaaGreatDoorLt4
import Derived.Test.YtcohengppaighaaGreatDoorLl
import Derived.Test.YtcohengppaighaaGreatDoorRows
import Derived.Test.YtcohengppaighaaGreatDoorTie
import Derived.Test.YtcohengppaighaaGreatDoorCards
import Derived.ProofKit
import Derived.LaidMore
import Derived.OpenShut
import Derived.Stop.Joined
import Derived.SevenTiedAt
import Derived.LaidHandle
import Derived.Lay
set_option linter.unusedVariables false
set_option linter.unusedSimpArgs false
namespace Go.Proofs.YtcohengppaighaaGreatDoor
open Go Go.V Go.B
open Go.ChangeShapes Go.WideShapes Go.ChangeAt Go.RowKit

theorem labelsAll_c {w : World} (hp : Pow w) {A : Option Addr} {n c : Nat} {ops : List LOp} (h : OpsAt w A n ops) {R : Ending → World → Prop}
    (k : ∀ w', Ext [] w w' → R (.returned (.bool true)) w') : Calls Tryz.prog 7 #[.slice A n c] w R := by
  apply berthlaw03_LabelsAll_nf
  refine wakes_c fun w4 e4 => ⟨_, rfl, sel_true rfl (upTo_c (h.ext0 e4) 1 14 (fun o w1 R' h1 h2 hin e1 k' => ?_) fun w7 e7 => ⟨_, rfl, k _ (e4.trans e7)⟩)⟩
  by_cases h5 : o.kind ≤ 5
  · exact plays_texts (hp.ext0 (e4.trans e1)) hin h1 h5 k'
  · by_cases h9 : o.kind ≤ 9
    · exact plays_lists hin (by omega) h9 k'
    · exact plays_turns hin (by omega) h2 k'
/-! ### the library's table -/
theorem pow_data : (Rows.laid_internal_strconv_uint64pow10 : DataW Unit) = Go.Lib.tabData .u64 Go.Lib.pow10Tab := by kernel_rfl
set_option maxRecDepth 100000 in
theorem laid_pow {W : World} (h : laidMetH Tryz.prog Rows.labelsAllRow.laid W) : Pow W := by
  rw [MakeChecks.laidMetH_plain _ _ _ (by kernel_rfl)] at h
  have h1 := Go.Lib.laidMet.reads h (n := "internal/strconv.uint64pow10") (d := Rows.laid_internal_strconv_uint64pow10) (.tail _ (.tail _ (.head _)))
  rw [pow_data] at h1
  obtain ⟨g, hg⟩ := pow_at
  exact tab_of_reads (g := 3) (t := 165) (e := 134) (n := 20) (by kernel_rfl) (by kernel_rfl) (by kernel_rfl) (by kernel_rfl) (by kernel_rfl) (by kernel_rfl) h1
/-! ### the library's tables, and the tied card -/
set_option maxRecDepth 100000 in
theorem door_met (os : Os) (args : Array Value) : laidMetH Tryz.prog Rows.labelsAllRow.laid ((World.laidAll Tryz.prog os Rows.labelsAllRow.laid).forCall (fun _ _ => 0) ⟨#[], args, []⟩).memory := by
  rw [MakeChecks.laidMetH_plain _ _ _ (by kernel_rfl)]
  exact laidMet_laidAll _ (by kernel_rfl) (by kernel_rfl)
set_option maxRecDepth 8000 in
theorem labelsAll_lifted (os : Os) (started : os.Started) (H : Type) (enc : TypeId × Value → H) (F : Stop.Interp) :
    ReturnsInHanded {} Tryz.checked os 7 .any ((OpenSpec.ofChange Rows.labelsAllSpec).preRow enc Tryz.prog Tryz.f7 Rows.labelsAllRow.domain false Rows.labelsAllRow.laid) (((OpenSpec.ofChange Rows.labelsAllSpec).at F).post enc Tryz.prog Tryz.f7 false true false false) :=
  lift1L (C := Tryz.checked) (T := 29) (tb := 4) own (by kernel_rfl) Tryz.func7 (by kernel_rfl) (by kernel_rfl) Tryz.underlying4 rfl (fun _ _ => rfl) laidOut (by kernel_rfl) (of_decide_eq_true (by kernel_rfl)) os started H enc F
    (fun W base v0 d0 p0 hok0 ht0 hw0 hL => by
      obtain ⟨A0, n0, c0, ops0, rfl, h0⟩ := open_ops hok0 ht0 hw0
      exact labelsAll_c (laid_pow hL) h0 fun w' e => ⟨rfl, e.below⟩)
    (ChangeSpec.witness_shaped (enc := enc) (C := Tryz.checked) (os := os) (X := fun w _ => laidMetH Tryz.prog Rows.labelsAllRow.laid w) false (World.laidAll Tryz.prog os Rows.labelsAllRow.laid) #[.slice none 0 0] 8 (World.laidAll_os _ _ _) (World.shaped_of_ZipB (by kernel_rfl) (by kernel_rfl)) (by kernel_rfl) (by kernel_rfl) (by kernel_rfl) (door_met os _))
theorem labelsAll_holds : Rows.LabelsAllSaid :=
  OpenClaim.holds_of_cond 7 Tryz.f7 rfl rfl rfl rfl rfl rfl rfl ⟨rfl, rfl, rfl, rfl, rfl⟩ rfl rfl rfl rfl rfl (by kernel_rfl) Tryz.func7 (by kernel_rfl)
    (of_decide_eq_true (by kernel_rfl)) (by unfold Func.isWrapper; first | (rw [if_pos (by decide +kernel)]; kernel_rfl) | (rw [if_neg (by decide +kernel)]; exact ⟨rfl, rfl⟩))
    (fun os started H enc _ F0 => by rw [OpenClaim.pre_eq_preRow]; exact labelsAll_lifted os started H enc F0)
theorem labelsAll_card_holds : Rows.LabelsAllCardSaid :=
  Claim7.holds_tied_plain_at .later [] [.data, .data, .data, .data, .pinned] true (true, Rows.labelsAllCard.stood.harness.2) false
    labelsAll_holds (fun _ h => by cases h) (by kernel_rfl) (fun _ h => by cases h) labelsAll_row_tie rfl ⟨rfl, rfl⟩ (by kernel_rfl) rfl
    (fun f fn hf hfn => by
      obtain rfl : f = 7 := Option.some.inj ((show Tryz.prog.funcNamed "berth/berthlaw03.LabelsAll" = some 7 by kernel_rfl).symm.trans hf) |>.symm
      obtain rfl : fn = Tryz.f7 := (Option.some.inj (Tryz.func7.symm.trans hfn)).symm
      exact ⟨by kernel_rfl, fun j t ht => by
        rw [Tryz.params7] at ht
        have hm : t ∈ [29] := by simpa using Array.mem_of_getElem? ht
        have hall : ([29].all fun u => !Tryz.prog.wantsStandIn u) = true := by kernel_rfl
        exact (show Tryz.prog.wantsStandIn t = false by simpa using List.all_eq_true.1 hall t hm)⟩)
    (by kernel_rfl)
end Go.Proofs.YtcohengppaighaaGreatDoor
