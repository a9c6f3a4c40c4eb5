/- Whatever script of steps comes in, where the library's table stands, berthlaw01.BitsetPlays returns true and leaves what came in as it was. -/
import Derived.Test.YtbaglnffgbnekaaDoorDC
import Derived.Test.YtbaglnffgbnekaaDoorL1L
import Derived.Test.YtbaglnffgbnekaaDoorRows
import Derived.Test.YtbaglnffgbnekaaDoorTie
import Derived.Test.YtbaglnffgbnekaaDoorCards
import Derived.ProofKit
import Derived.LaidMore
import Derived.OpenShut
import Derived.Stop.Joined
import Derived.SevenTiedAt
import Derived.LaidHandle
set_option linter.unusedVariables false
set_option linter.unusedSimpArgs false
namespace Go.Proofs.YtbaglnffgbnekaaDoor
open Go Go.V Go.B
open Go.ChangeShapes Go.WideShapes Go.ChangeAt Go.RowKit

def rs0 : List Rg1 := [Rg1.none, Rg1.none, Rg1.none, Rg1.none]
theorem rs0_at {i : Nat} {r : Rg1} (h : rs0[i]? = some r) : r = Rg1.none := by
  have := List.mem_of_getElem? h
  simpa [rs0] using this
theorem gs0 {w w4 w5 : World} (e4 : Ext [] w w4) (e5 : Ext [] w4 w5) (b5 : BlkT w5 w4.heap.size (gcells rs0) 53) : Gs w w5 w4.heap.size rs0 := by
  have s4 := e4.size
  refine ⟨e4.trans e5, rfl, b5, ⟨s4, fun i r hr b hb => ?_⟩, fun i r hr => ?_, fun i j r r' _ hr _ b hb => ?_, fun i j r r' _ hr b hb hm => ?_, fun i r hr => ?_, fun i r hr b hb => ?_⟩
  · rw [rs0_at hr] at hb; cases hb
  · rw [rs0_at hr]; exact Rg1At.none w5
  · rw [rs0_at hr] at hb; cases hb
  · rw [rs0_at hr] at hm; cases hm
  · rw [rs0_at hr]; simp [Rg1.f, Rg1.none, ownF]
  · rw [rs0_at hr] at hb; simp [Rg1.none, ownF] at hb
theorem bitsetPlays_c {w : World} {A : Option Addr} {n c : Nat} {ops : List BOp} (ho : OpsAt w A n ops) (ht : TzAt w) {R : Ending → World → Prop} (k : ∀ w', Ext [] w w' → R (.returned (.bool true)) w') : Calls Tryd.prog 5 #[.slice A n c] w R := by
  have hnb := ho.sz
  apply berthlaw01_BitsetPlays_nf
  refine awake_c fun w4 e4 => ⟨_, rfl, sel_false rfl ?_⟩
  intro w5 h5
  obtain ⟨b5, x5, z5⟩ := box_new (cs := gcells rs0) h5
  have g5 := gs0 e4 x5 b5
  refine ⟨fun t w' => ∃ a : Nat, t = a ∧ a ≤ n ∧ ∃ rs, Gs w w' w4.heap.size rs, fun t _ => n - t.toNat, ⟨0, rfl, by omega, rs0, g5⟩, ?_⟩
  rintro _ _ w10 ⟨a, rfl, ha, rs, g⟩
  refine sel_dec (fun hlt => ?_) (fun hge => k w10 g.e)
  obtain ⟨o, ad, hoo, rfl, ro⟩ := (ho.ext0 g.e).read (a := a) (by omega)
  refine when_dec ⟨by omega, by omega⟩ (ptr_in ⟨_, _, _, _, _, _, _, _, _, _, _, ro, step_c g ((ho.in_ o (List.mem_of_getElem? hoo)).ext0 g.e) (ht.ext0 g.e) fun w21 rs' g' => ⟨_, rfl, sel_false rfl ?_⟩⟩)
  rw [up64 a (by omega)]
  exact ⟨⟨a + 1, rfl, by omega, rs', g'⟩, by simp only [Int.toNat_natCast]; omega⟩
/-! ### the library's table, and the tied card -/
theorem laid_tz {W : World} (h : laidMetH Tryd.prog Rows.bitsetPlaysRow.laid W) : TzAt W := by
  have h1 : laidMet Tryd.prog [("math/bits.deBruijn64tab", Go.Lib.tabData .u8 (Go.Lib.deBruijn64tab.map Int.ofNat))] W := by
    have := h
    rw [show Rows.bitsetPlaysRow.laid = [("math/bits.deBruijn64tab", Go.Lib.tabData .u8 (Go.Lib.deBruijn64tab.map Int.ofNat))] from rfl] at this
    rwa [MakeChecks.laidMetH_plain _ _ _ (by kernel_rfl)] at this
  have h2 := Go.Lib.tabIs_of_head (g := 0) (t := 75) (e := 5) (n := 64) (by kernel_rfl) (by kernel_rfl) (by kernel_rfl) (by kernel_rfl) (by kernel_rfl) (by kernel_rfl) h1
  intro j hj
  have := Go.Lib.TabIs.cell h2 (g := 0) (by kernel_rfl) j (by rw [List.length_map]; exact hj)
  rw [this]
  congr 2
  rw [List.getD_eq_getElem?_getD, List.getElem?_map, List.getElem?_eq_getElem hj, List.getD_eq_getElem?_getD, List.getElem?_eq_getElem hj]
  rfl
theorem door_met (os : Os) (args : Array Value) : laidMetH Tryd.prog Rows.bitsetPlaysRow.laid ((World.doorLaid Tryd.prog 4000 os).forCall (fun _ _ => 0) ⟨#[], args, []⟩).memory :=
  laidMetH_of_parts3 (fuel := 8) (laidMet_of_run' 8 (by kernel_rfl) (by kernel_rfl)) (by kernel_rfl) (by kernel_rfl)
theorem bitsetPlays_lifted (os : Os) (started : os.Started) (H : Type) (enc : TypeId × Value → H) (F : Stop.Interp) :
    ReturnsInHanded {} Tryd.checked os 5 .any ((OpenSpec.ofChange Rows.bitsetPlaysSpec).preRow enc Tryd.prog Tryd.f5 Rows.bitsetPlaysRow.domain false Rows.bitsetPlaysRow.laid) (((OpenSpec.ofChange Rows.bitsetPlaysSpec).at F).post enc Tryd.prog Tryd.f5 false true false false) :=
  lift1L (C := Tryd.checked) (T := 45) (tb := 4) own (by kernel_rfl) Tryd.func5 (by kernel_rfl) (by kernel_rfl) Tryd.underlying4 rfl (fun _ _ => rfl) laidOut (by kernel_rfl) (of_decide_eq_true (by kernel_rfl)) os started H enc F
    (fun W base v d p hok h hw hL => by
      obtain ⟨A, n, c, ops, rfl, ho⟩ := open_ops hok h hw
      exact bitsetPlays_c ho (laid_tz hL) fun w' e => ⟨rfl, e.below⟩)
    (ChangeSpec.witness_shaped (enc := enc) (C := Tryd.checked) (os := os) (X := fun w _ => laidMetH Tryd.prog Rows.bitsetPlaysRow.laid w) false (World.doorLaid Tryd.prog 4000 os) #[.slice none 0 0] 8 rfl (World.shaped_of_RefB (by kernel_rfl) (by kernel_rfl)) (by kernel_rfl) (by kernel_rfl) (by kernel_rfl) (door_met os _))
theorem bitsetPlays_holds : Rows.BitsetPlaysSaid :=
  OpenClaim.holds_of_cond 5 Tryd.f5 rfl rfl rfl rfl rfl rfl rfl ⟨rfl, rfl, rfl, rfl, rfl⟩ rfl rfl rfl rfl rfl (by kernel_rfl) Tryd.func5 (by kernel_rfl)
    (of_decide_eq_true (by kernel_rfl)) (by unfold Func.isWrapper; first | (rw [if_pos (by decide +kernel)]; kernel_rfl) | (rw [if_neg (by decide +kernel)]; exact ⟨rfl, rfl⟩))
    (fun os started H enc _ F0 => by rw [OpenClaim.pre_eq_preRow]; exact bitsetPlays_lifted os started H enc F0)
theorem bitsetPlays_card_holds : Rows.BitsetPlaysCardSaid :=
  Claim7.holds_tied_plain_at .later [] [.data] true (true, Rows.bitsetPlaysCard.stood.harness.2) false
    bitsetPlays_holds (fun _ h => by cases h) (by kernel_rfl) (fun _ h => by cases h) bitsetPlays_row_tie rfl ⟨rfl, rfl⟩ (by kernel_rfl) rfl
    (fun f fn hf hfn => by
      obtain rfl : f = 5 := Option.some.inj ((show Tryd.prog.funcNamed "berth/berthlaw01.BitsetPlays" = some 5 by kernel_rfl).symm.trans hf) |>.symm
      obtain rfl : fn = Tryd.f5 := (Option.some.inj (Tryd.func5.symm.trans hfn)).symm
      exact ⟨by kernel_rfl, fun j t ht => by
        rw [Tryd.params5] at ht
        have hm : t ∈ [45] := by simpa using Array.mem_of_getElem? ht
        have hall : ([45].all fun u => !Tryd.prog.wantsStandIn u) = true := by kernel_rfl
        exact (show Tryd.prog.wantsStandIn t = false by simpa using List.all_eq_true.1 hall t hm)⟩)
    (by kernel_rfl)
end Go.Proofs.YtbaglnffgbnekaaDoor
