/- Whatever number and text come in, where the library's tables stand, berthlaw03.LabelsNumbers returns true and leaves what came in as it was. -/
import Derived.Test.YtjeiaakmmaaclaaDoorLn1
import Derived.Test.YtjeiaakmmaaclaaDoorL2L
import Derived.Test.YtjeiaakmmaaclaaDoorRows
import Derived.Test.YtjeiaakmmaaclaaDoorTie
import Derived.Test.YtjeiaakmmaaclaaDoorCards
import Derived.ProofKit
import Derived.LaidMore
import Derived.OpenShut
import Derived.Stop.Joined
import Derived.SevenTiedAt
import Derived.LaidHandle
set_option linter.unusedVariables false
set_option linter.unusedSimpArgs false
namespace Go.Proofs.YtjeiaakmmaaclaaDoor
open Go Go.V Go.B
open Go.ChangeShapes Go.WideShapes Go.ChangeAt Go.RowKit

theorem own : ownKnob Tryd.prog.godebug = none := by kernel_rfl
theorem laidOut : laidOutB Tryd.prog = true := by kernel_rfl
theorem five : Go.Lib.itoa (-5) = [45, 53] := by
  unfold Go.Lib.itoa
  rw [if_pos (by omega), show (-5 : Int).natAbs = 5 from rfl, Go.Lib.decDigits_one (by omega)]
  rfl
theorem labelsNumbers_c {w : World} (hp : Pow w) (n : Int) (s : ByteArray) {R : Ending → World → Prop} (k : ∀ w', Ext [] w w' → R (.returned (.bool true)) w') : Calls Tryd.prog 3 #[.int .i64 n, .string s] w R := by
  apply berthlaw03_LabelsNumbers_nf
  have tail : ∀ w17, Ext [] w w17 → (Calls Tryd.prog 5 #[(Value.string s)] w17 fun e20 w21 =>
  ∃ n18, ∃ b19, e20 = Ending.returned (Value.tuple #[(Value.int .i64 n18), (Value.bool b19)]) ∧
  V.sel (!b19)
  (R (Ending.returned (Value.bool (n18 == 0))) w21)
  (Calls Tryd.prog 4 #[(Value.int .i64 n18)] w21 fun e24 w25 =>
  ∃ s22, ∃ b23, e24 = Ending.returned (Value.tuple #[(Value.string s22), (Value.bool b23)]) ∧
  V.sel b23
  (V.sel (ByteArray.toList s22 == ByteArray.toList s)
  (Calls Tryd.prog 6 #[(Value.string s)] w25 fun e27 w28 =>
  ∃ b26, e27 = Ending.returned (Value.bool b26) ∧
  R (Ending.returned (Value.bool b26)) w28)
  (R (Ending.returned (Value.bool false)) w25))
  (R (Ending.returned (Value.bool false)) w25))) := fun w17 e17 =>
    Int_c s (fun h => ⟨_, _, rfl, sel_true rfl (by rw [beq_self_eq_true]; exact k _ e17)⟩) fun v hv => ⟨_, _, rfl, sel_false rfl (IntText_c (hp.ext0 e17) v (fun h => absurd (itoa_intOf hv).2 h) fun w25 e25 hb => by
      have hs : (⟨(Go.Lib.itoa v).toArray⟩ : ByteArray) = s := Go.WideShapes.bytes_inj (itoa_intOf hv).1
      exact ⟨_, _, rfl, sel_true rfl (sel_true (by rw [beqBytes]; exact decide_eq_true hs) (IsValue_c (hs ▸ itoa_ok hb) ⟨_, rfl, k _ (e17.trans e25)⟩))⟩)⟩
  refine IntText_c hp (-5) (fun h => absurd ⟨by omega, by omega⟩ h) fun w6 e6 _ => ⟨_, _, rfl, sel_false ?_ (sel_false rfl ?_)⟩
  · rw [five, beqBytes, decide_eq_true rfl]; rfl
  refine IntText_c (hp.ext0 e6) n (fun h => ⟨_, _, rfl, ?_⟩) fun w10 e10 h => ⟨_, _, rfl, ?_⟩
  · refine sel_dec (fun h1 => sel_false ?_ (sel_false rfl (sel_false ?_ (tail _ e6)))) (fun h1 => sel_false rfl (sel_false rfl (sel_false ?_ (tail _ e6))))
    · rw [decide_eq_false (by omega)]; rfl
    · rw [beq_self_eq_true]; rfl
    · rw [beq_self_eq_true]; rfl
  · refine sel_dec (fun h1 => sel_false ?_ (sel_true rfl (Int_c _ (fun hn => ?_) fun v hv => ?_))) (fun h1 => by omega)
    · rw [decide_eq_true (by omega)]; rfl
    · have := intOf_itoa h
      have hn : intOf (Go.Lib.itoa n) = none := hn
      rw [this] at hn; cases hn
    · have hv : intOf (Go.Lib.itoa n) = some v := hv
      rw [intOf_itoa h] at hv
      cases hv
      exact ⟨_, _, rfl, sel_false rfl (sel_false (by simp) (IsValue_c (itoa_ok h) ⟨_, rfl, sel_false rfl (tail _ (e6.trans e10))⟩))⟩
/-! ### the library's tables, and the tied card -/
theorem pow_data : (Rows.laid_internal_strconv_uint64pow10 : DataW Unit) = Go.Lib.tabData .u64 Go.Lib.pow10Tab := by kernel_rfl
theorem laid_pow {W : World} (h : laidMetH Tryd.prog Rows.labelsNumbersRow.laid W) : Pow W := by
  rw [MakeChecks.laidMetH_plain _ _ _ (by kernel_rfl)] at h
  have h1 := Go.Lib.laidMet.reads h (n := "internal/strconv.uint64pow10") (d := Rows.laid_internal_strconv_uint64pow10) (.tail _ (.tail _ (.head _)))
  rw [pow_data] at h1
  obtain ⟨g, hg⟩ := pow_at
  exact tab_of_reads (g := 0) (t := 42) (e := 34) (n := 20) (by kernel_rfl) (by kernel_rfl) (by kernel_rfl) (by kernel_rfl) (by kernel_rfl) (by kernel_rfl) h1
theorem door_met (os : Os) (args : Array Value) : laidMetH Tryd.prog Rows.labelsNumbersRow.laid ((World.doorLaid Tryd.prog 4000 os).forCall (fun _ _ => 0) ⟨#[], args, []⟩).memory :=
  laidMetH_of_parts3 (fuel := 8) (laidMet_of_run' 8 (by kernel_rfl) (by kernel_rfl)) (by kernel_rfl) (by kernel_rfl)
set_option maxRecDepth 8000 in
theorem labelsNumbers_lifted (os : Os) (started : os.Started) (H : Type) (enc : TypeId × Value → H) (F : Stop.Interp) :
    ReturnsInHanded {} Tryd.checked os 3 .any ((OpenSpec.ofChange Rows.labelsNumbersSpec).preRow enc Tryd.prog Tryd.f3 Rows.labelsNumbersRow.domain false Rows.labelsNumbersRow.laid) (((OpenSpec.ofChange Rows.labelsNumbersSpec).at F).post enc Tryd.prog Tryd.f3 false true false false) :=
  lift2L (C := Tryd.checked) (T := 3) (U := 9) (tb := 4) own (by kernel_rfl) Tryd.func3 (by kernel_rfl) (by kernel_rfl) Tryd.underlying4 rfl (fun _ _ _ => rfl) laidOut (by kernel_rfl) (of_decide_eq_true (by kernel_rfl)) (by kernel_rfl) (of_decide_eq_true (by kernel_rfl)) os started H enc F
    (fun W base v v' d d' p p' hok h hw hok' h' hw' hL => by
      obtain ⟨n, rfl, rfl, rfl, _⟩ := open_int Tryd.underlying3 hok h
      obtain ⟨s, rfl, rfl, rfl, _⟩ := Go.ChangeMaps.open_string Tryd.underlying9 hok' h'
      exact labelsNumbers_c (laid_pow hL) n s fun w' e => ⟨rfl, e.below⟩)
    (ChangeSpec.witness_shaped (enc := enc) (C := Tryd.checked) (os := os) (X := fun w _ => laidMetH Tryd.prog Rows.labelsNumbersRow.laid w) false (World.doorLaid Tryd.prog 4000 os) #[.int .i64 0, .string ByteArray.empty] 8 rfl (World.shaped_of_RefB (by kernel_rfl) (by kernel_rfl)) (by kernel_rfl) (by kernel_rfl) (by kernel_rfl) (door_met os _))
theorem labelsNumbers_holds : Rows.LabelsNumbersSaid :=
  OpenClaim.holds_of_cond 3 Tryd.f3 rfl rfl rfl rfl rfl rfl rfl ⟨rfl, rfl, rfl, rfl, rfl⟩ rfl rfl rfl rfl rfl (by kernel_rfl) Tryd.func3 (by kernel_rfl)
    (of_decide_eq_true (by kernel_rfl)) (by unfold Func.isWrapper; first | (rw [if_pos (by decide +kernel)]; kernel_rfl) | (rw [if_neg (by decide +kernel)]; exact ⟨rfl, rfl⟩))
    (fun os started H enc _ F0 => by rw [OpenClaim.pre_eq_preRow]; exact labelsNumbers_lifted os started H enc F0)
theorem labelsNumbers_card_holds : Rows.LabelsNumbersCardSaid :=
  Claim7.holds_tied_plain_at .later [] [.data, .data, .data] true (true, Rows.labelsNumbersCard.stood.harness.2) false
    labelsNumbers_holds (fun _ h => by cases h) (by kernel_rfl) (fun _ h => by cases h) labelsNumbers_row_tie rfl ⟨rfl, rfl⟩ (by kernel_rfl) rfl
    (fun f fn hf hfn => by
      obtain rfl : f = 3 := Option.some.inj ((show Tryd.prog.funcNamed "berth/berthlaw03.LabelsNumbers" = some 3 by kernel_rfl).symm.trans hf) |>.symm
      obtain rfl : fn = Tryd.f3 := (Option.some.inj (Tryd.func3.symm.trans hfn)).symm
      exact ⟨by kernel_rfl, fun j t ht => by
        rw [Tryd.params3] at ht
        have hm : t ∈ [3, 9] := by simpa using Array.mem_of_getElem? ht
        have hall : ([3, 9].all fun u => !Tryd.prog.wantsStandIn u) = true := by kernel_rfl
        exact (show Tryd.prog.wantsStandIn t = false by simpa using List.all_eq_true.1 hall t hm)⟩)
    (by kernel_rfl)
end Go.Proofs.YtjeiaakmmaaclaaDoor
