/- Whatever texts come in, berthlaw03.LabelsRead returns true and leaves what came in as it was. -/
import Derived.Test.YtcohengppaighaaDoorLb7
import Derived.Test.YtcohengppaighaaDoorLl
import Derived.Test.YtcohengppaighaaDoorRows
import Derived.Test.YtcohengppaighaaDoorTie
import Derived.Test.YtcohengppaighaaDoorCards
import Derived.ProofKit
import Derived.LaidMore
import Derived.OpenShut
import Derived.Stop.Joined
import Derived.SevenTiedAt
import Derived.LaidHandle
import Derived.Lay
set_option linter.unusedVariables false
set_option linter.unusedSimpArgs false
namespace Go.Proofs.YtcohengppaighaaDoor
open Go Go.V Go.B
open Go.ChangeShapes Go.WideShapes Go.ChangeAt Go.RowKit

theorem join_perm {l d : List Lab} (h : d.Perm l) : (joinT d).length = (joinT l).length := by
  by_cases h0 : l = []
  · subst h0
    rw [List.perm_nil.1 h]
  · have h1 : d ≠ [] := fun e => h0 (by subst e; exact List.nil_perm.1 h)
    have e1 := join_len h0
    have e2 := join_len h1
    have : sumT d = sumT l := by unfold sumT; exact (h.map _).sum_nat
    omega
theorem bs_app (a b : ByteArray) : bs (a ++ b) = bs a ++ bs b := by
  simp [bs, ByteArray.data_append]
set_option maxHeartbeats 1000000 in
theorem labelsRead_c {w : World} {text more : ByteArray} (ht : text.size ≤ 140737488351232) (hm : more.size ≤ 140737488351232) {R : Ending → World → Prop}
    (k : ∀ w', Ext [] w w' → R (.returned (.bool true)) w') : Calls Tryd.prog 4 #[.string text, .string more] w R := by
  apply berthlaw03_LabelsRead_nf
  refine wakes_c fun w5 e5 => ⟨_, rfl, sel_false rfl ?_⟩
  refine ParseI text fun w10 A n e10 i10 => ⟨_, _, _, _, _, rfl, ?_⟩
  have x10 := e5.trans e10
  have hl := bs_len text
  have hlm := bs_len more
  refine sel_intro (fun he => ?_) (fun he => ?_)
  · have he : (parseS (bs text)).2.2 = 0 := by simpa using he
    obtain ⟨l, h1, h2, h3, h4, ok⟩ := parse_ok he
    rw [h4] at i10 ⊢
    have i10 : LIn w10 A n (sortS l) := i10
    have hts : textS (sortS l) = (unb (joinT (sortS l)), 0) := by unfold textS; rw [if_pos (checkS_zero.2 ok)]
    refine copiedI i10 fun w13 A11 c11 e13 i13 => ⟨_, _, _, rfl, Text_c i13 fun w17 e17 => ⟨_, _, rfl, ?_⟩⟩
    rw [hts]
    refine ParseI (unb (joinT (sortS l))) fun w22 A18 n18 e22 i22 => ⟨_, _, _, _, _, rfl, ?_⟩
    rw [bs_unb, parse_join ok] at i22 ⊢
    refine sel_true rfl (sel_true rfl (sel_true ?_ (sel_true rfl (sameI (i10.ext0 ((e13.trans e17).trans e22)) i22 fun w25 e25 => ⟨_, rfl, ?_⟩))))
    · have e1 : (unb (joinT (sortS l))).size = text.size := by
        rw [← bs_len, bs_unb, ← hl, h1]
        exact join_perm (sortS_perm l)
      show (((unb (joinT (sortS l))).size : Int) == (text.size : Int)) = true
      rw [e1]; exact beq_self_eq_true _
    · rw [decide_eq_true rfl]
      exact k _ (x10.trans (((e13.trans e17).trans e22).trans e25))
  · have he : (parseS (bs text)).2.2 ≠ 0 := by simpa using he
    obtain ⟨hnil, hb⟩ := parse_bad he
    rw [hnil] at i10
    have hz : n = 0 := i10.len.symm
    subst hz
    have hn1 : ∃ m : Nat, (parseS (bs text)).2.1 = m ∧ m ≤ text.size ∧ (0 < m → (bs text)[m - 1]? = some 44) := by
      rcases hb with ⟨_, h2, _⟩ | ⟨_, _, m, h2, h3, h4, _⟩
      · exact ⟨0, h2, by omega, fun h => absurd h (by omega)⟩
      · exact ⟨m, h2, by omega, h4⟩
    obtain ⟨m, hm1, hm2, hm3⟩ := hn1
    have tail : (V.sel (((parseS (bs text)).2.2) == 39)
  (V.sel (decide (((ByteArray.size text : Nat) : Int) > 8192))
  (R (Ending.returned (Value.bool (((parseS (bs text)).2.1) == 0))) w10)
  (R (Ending.returned (Value.bool false)) w10))
  (V.sel (decide ((IntKind.wrap .i64 ((IntKind.wrap .i64 (((ByteArray.size text : Nat) : Int) + 1)) + ((ByteArray.size more : Nat) : Int))) > 8192))
  (R (Ending.returned (Value.bool true)) w10)
  (V.when (decide (ByteArray.size text + ByteArray.size ⟨#[44]⟩ ≤ 9223372036854775807)) (V.when (decide (ByteArray.size (text ++ ⟨#[44]⟩) + ByteArray.size more ≤ 9223372036854775807)) (Calls Tryd.prog 16 #[(Value.string ((text ++ ⟨#[44]⟩) ++ more))] w10 fun e29 w30 =>
  ∃ A26, ∃ A26l, ∃ A26c, ∃ n27, ∃ n28, e29 = Ending.returned (Value.tuple #[(Value.slice A26 A26l A26c), (Value.int .i64 n27), (Value.int .i64 n28)]) ∧
  V.sel (n28 == ((parseS (bs text)).2.2))
  (R (Ending.returned (Value.bool (n27 == ((parseS (bs text)).2.1)))) w30)
  (R (Ending.returned (Value.bool false)) w30)))))) := by
      rcases hb with ⟨h39, h0, hlong⟩ | ⟨h39, hle, m', h2, h3, h4, h5⟩
      · refine sel_true (by rw [h39]; rfl) (sel_true (decide_eq_true (by omega)) ?_)
        rw [h0]; exact k _ x10
      · refine sel_false (by simpa using h39) (sel_intro (fun _ => k _ x10) (fun hs => ?_))
        have hs : ¬ (IntKind.wrap .i64 ((IntKind.wrap .i64 (((ByteArray.size text : Nat) : Int) + 1)) + ((ByteArray.size more : Nat) : Int))) > 8192 := by simpa using hs
        rw [w64 (x := ((ByteArray.size text : Nat) : Int) + 1) (by omega) (by omega), w64 (by omega) (by omega)] at hs
        have hsz : ByteArray.size ⟨#[44]⟩ = 1 := rfl
        have hsz2 : ByteArray.size (text ++ ⟨#[44]⟩) = text.size + 1 := by rw [ByteArray.size_append, hsz]
        refine when_dec (by omega) (when_dec (by omega) (ParseI _ fun w30 A26 n26 e30 i30 => ⟨_, _, _, _, _, rfl, ?_⟩))
        have e1 : bs ((text ++ ⟨#[44]⟩) ++ more) = bs text ++ 44 :: bs more := by
          rw [bs_app, bs_app, List.append_assoc]; rfl
        have e2 := h5 (bs more) (by omega)
        rw [e1, e2]
        refine sel_true (beq_self_eq_true _) ?_
        rw [beq_self_eq_true]
        exact k _ (x10.trans e30)
    refine sel_false rfl (sel_false (by rw [hm1]; simp) (sel_false (by rw [hm1]; simp; omega) (sel_intro (fun hp => ?_) (fun hp => tail))))
    rw [hm1] at hp
    have hp : 0 < m := by simpa using hp
    have e1 : IntKind.wrap .i64 ((parseS (bs text)).2.1 - 1) = ((m - 1 : Nat) : Int) := by rw [hm1, w64 (by omega) (by omega)]; omega
    rw [e1]
    refine when_dec ⟨by omega, by omega⟩ (sel_false ?_ tail)
    obtain ⟨c, hc, hb2⟩ := byte_get (s := text) (i := m - 1) (by omega)
    rw [hm3 hp] at hc
    cases hc
    rw [hb2]; rfl
/-! ### the library's tables, and the tied card -/
set_option maxRecDepth 100000 in
theorem door_met (os : Os) (args : Array Value) : laidMetH Tryd.prog Rows.labelsReadRow.laid ((World.laidAll Tryd.prog os Rows.labelsReadRow.laid).forCall (fun _ _ => 0) ⟨#[], args, []⟩).memory := by
  rw [MakeChecks.laidMetH_plain _ _ _ (by kernel_rfl)]
  exact laidMet_laidAll _ (by kernel_rfl) (by kernel_rfl)
set_option maxRecDepth 8000 in
theorem labelsRead_lifted (os : Os) (started : os.Started) (H : Type) (enc : TypeId × Value → H) (F : Stop.Interp) :
    ReturnsInHanded {} Tryd.checked os 4 .any ((OpenSpec.ofChange Rows.labelsReadSpec).preRow enc Tryd.prog Tryd.f4 Rows.labelsReadRow.domain false Rows.labelsReadRow.laid) (((OpenSpec.ofChange Rows.labelsReadSpec).at F).post enc Tryd.prog Tryd.f4 false true false false) :=
  lift2L (C := Tryd.checked) (T := 9) (U := 9) (tb := 4) own (by kernel_rfl) Tryd.func4 (by kernel_rfl) (by kernel_rfl) Tryd.underlying4 rfl (fun _ _ _ => rfl) laidOut (by kernel_rfl) (of_decide_eq_true (by kernel_rfl)) (by kernel_rfl) (of_decide_eq_true (by kernel_rfl)) os started H enc F
    (fun W base v0 v1 d0 d1 p0 p1 hok0 ht0 hw0 hok1 ht1 hw1 hL => by
      obtain ⟨s0, rfl, z0⟩ := open_str hok0 ht0 hw0
      obtain ⟨s1, rfl, z1⟩ := open_str hok1 ht1 hw1
      exact labelsRead_c z0 z1 fun w' e => ⟨rfl, e.below⟩)
    (ChangeSpec.witness_shaped (enc := enc) (C := Tryd.checked) (os := os) (X := fun w _ => laidMetH Tryd.prog Rows.labelsReadRow.laid w) false (World.laidAll Tryd.prog os Rows.labelsReadRow.laid) #[.string ByteArray.empty, .string ByteArray.empty] 8 (World.laidAll_os _ _ _) (World.shaped_of_ZipB (by kernel_rfl) (by kernel_rfl)) (by kernel_rfl) (by kernel_rfl) (by kernel_rfl) (door_met os _))
theorem labelsRead_holds : Rows.LabelsReadSaid :=
  OpenClaim.holds_of_cond 4 Tryd.f4 rfl rfl rfl rfl rfl rfl rfl ⟨rfl, rfl, rfl, rfl, rfl⟩ rfl rfl rfl rfl rfl (by kernel_rfl) Tryd.func4 (by kernel_rfl)
    (of_decide_eq_true (by kernel_rfl)) (by unfold Func.isWrapper; first | (rw [if_pos (by decide +kernel)]; kernel_rfl) | (rw [if_neg (by decide +kernel)]; exact ⟨rfl, rfl⟩))
    (fun os started H enc _ F0 => by rw [OpenClaim.pre_eq_preRow]; exact labelsRead_lifted os started H enc F0)
theorem labelsRead_card_holds : Rows.LabelsReadCardSaid :=
  Claim7.holds_tied_plain_at .later [] [.data, .pinned] true (true, Rows.labelsReadCard.stood.harness.2) false
    labelsRead_holds (fun _ h => by cases h) (by kernel_rfl) (fun _ h => by cases h) labelsRead_row_tie rfl ⟨rfl, rfl⟩ (by kernel_rfl) rfl
    (fun f fn hf hfn => by
      obtain rfl : f = 4 := Option.some.inj ((show Tryd.prog.funcNamed "berth/berthlaw03.LabelsRead" = some 4 by kernel_rfl).symm.trans hf) |>.symm
      obtain rfl : fn = Tryd.f4 := (Option.some.inj (Tryd.func4.symm.trans hfn)).symm
      exact ⟨by kernel_rfl, fun j t ht => by
        rw [Tryd.params4] at ht
        have hm : t ∈ [9, 9] := by simpa using Array.mem_of_getElem? ht
        have hall : ([9, 9].all fun u => !Tryd.prog.wantsStandIn u) = true := by kernel_rfl
        exact (show Tryd.prog.wantsStandIn t = false by simpa using List.all_eq_true.1 hall t hm)⟩)
    (by kernel_rfl)
end Go.Proofs.YtcohengppaighaaDoor
