/- Whatever size and lists of places come in, where the library's table stands, berthlaw01.BitsetWalks returns true and leaves what came in as it was. -/
import Derived.Test.YtbaglnffgbnekaaDoorS24
import Derived.Test.YtbaglnffgbnekaaDoorRg
import Derived.Test.YtbaglnffgbnekaaDoorL1L
import Derived.Test.YtbaglnffgbnekaaDoorRows
import Derived.Test.YtbaglnffgbnekaaDoorTie
import Derived.Test.YtbaglnffgbnekaaDoorCards
import Derived.ProofKit
import Derived.LaidMore
import Derived.OpenShut
import Derived.Stop.Joined
import Derived.SevenTiedAt
import Derived.LaidHandle
set_option linter.unusedVariables false
set_option linter.unusedSimpArgs false
namespace Go.Proofs.YtbaglnffgbnekaaDoor
open Go Go.V Go.B
open Go.ChangeShapes Go.WideShapes Go.ChangeAt Go.RowKit

set_option maxRecDepth 4000 in
theorem bitsetWalksW_c {t : Three} {w : World} (ht : t.In w) (hz : TzAt w) {R : Ending → World → Prop} (k : ∀ w', Ext [] w w' → R (.returned (.bool true)) w') : Calls Tryd.prog 3 #[t.val] w R := by
  unfold Three.val Three.cells
  apply berthlaw01_BitsetWalks_nf
  intro w5 h5
  obtain ⟨b5, x5, z5⟩ := box_new (cs := t.cells) h5
  refine awake_c fun w9 e9' => ⟨_, rfl, sel_false rfl ?_⟩
  have e9 := x5.trans e9'
  have bx9 := b5.ext0 e9'
  refine ⟨_, cadd bx9 rfl, sized_c _ ⟨_, rfl, ?_⟩⟩
  by_cases hs : 0 ≤ t.n ∧ t.n ≤ 65536
  rotate_left
  · exact sel_true (by simp [hs]) (k _ e9)
  obtain ⟨N, hN⟩ : ∃ N : Nat, t.n = N := ⟨t.n.toNat, by omega⟩
  have hN6 : N ≤ 65536 := by omega
  have hb := ht.bl
  have hal := ht.al
  refine sel_false (by simp [hs]) ⟨_, cadd bx9 rfl, _, _, _, cadd bx9 rfl, ?_⟩
  rw [hN]
  refine of_c hN6 ((ht.ext0 e9).a) (by omega) fun p bw w22 S e22' hp hbw hs22 hSN hSm => ⟨_, rfl, fun w' => Ext [] w22 w', (Ext.refl _ _).drew, sel_false rfl ?_⟩
  have e22 := e9.trans e22'
  have bx22 := bx9.ext0 e22'
  have o := hs22.ok
  have hcn : S.count ≤ 65536 := by have := rank_le S S.N; unfold SetV.count; omega
  have d22 : Ext [] w22 w22.drew := (Ext.refl _ _).drew
  refine ⟨_, fun w' e => cadd (bx22.ext0 e) rfl, Size_c (hs22.ext0 d22).ref ⟨_, rfl, d22, sel_false (by rw [hSN]; simp [hN]) ?_⟩⟩
  refine Members_c (hs22.ext0 d22).ref fun A c w26 e26 own26 => ⟨_, _, _, rfl, ?_⟩
  have e26' : Ext [] w22 w26 := d22.trans e26
  have hc := own_cells own26
  have hs26 := hs22.ext0 e26'
  have bx26 := bx22.ext0 e26'
  have e0 : Ext [] w w26 := e22.trans e26'
  have hz26 := hz.ext0 e0
  refine Count_c hs26.ref ⟨_, rfl, sel_false (by simp) ⟨_, cadd bx26 rfl, ?_⟩⟩
  refine Rank_c hs26.ref _ ⟨_, rfl, sel_false ?_ ?_⟩
  · rw [hN, Int.toNat_natCast, ← hSN]
    simp [SetV.count]
  refine Select_c hs26.ref hz26 _ (by omega) fun r1 hr1 => ⟨_, rfl, sel_false ?_ ?_⟩
  · have := select_one o hr1 (r' := -1) (.inl ⟨rfl, .inr (by omega)⟩)
    simp [this]
  refine Select_c hs26.ref hz26 _ (by omega) fun r2 hr2 => ⟨_, rfl, sel_false ?_ ?_⟩
  · have := select_one o hr2 (r' := -1) (.inl ⟨rfl, .inl (by omega)⟩)
    simp [this]
  refine ⟨fun k w' => ∃ m : Nat, k = m ∧ m ≤ S.count ∧ Ext [] w26 w', fun k _ => S.count - k.toNat, ⟨0, rfl, by omega, Ext.refl _ _⟩, ?_⟩
  rintro _ _ w44 ⟨m, rfl, hm, e44⟩
  refine sel_dec (fun hlt => ?_) (fun _ => ?_)
  · have hlt : m < S.count := by omega
    have fin : ∀ w', Ext [] w26 w' → (fun (k : Int) w' => ∃ m : Nat, k = m ∧ m ≤ S.count ∧ Ext [] w26 w') (IntKind.wrap .i64 (((m : Nat) : Int) + 1)) w' ∧ (fun (k : Int) (_ : World) => S.count - k.toNat) (IntKind.wrap .i64 (((m : Nat) : Int) + 1)) w' < (fun (k : Int) (_ : World) => S.count - k.toNat) ((m : Nat) : Int) w44 := fun w' e => by
      simp only []
      rw [w64 (x := (m : Int) + 1) (by omega) (by omega)]
      exact ⟨⟨m + 1, by omega, by omega, e⟩, by omega⟩
    have mid := walk_mid (R := R) (I := fun (k : Int) w' => ∃ m : Nat, k = m ∧ m ≤ S.count ∧ Ext [] w26 w') (μ := fun (k : Int) (_ : World) => S.count - k.toNat) hs26 hz26 hc hlt e44 fin
    refine ⟨fun w' => Ext [] w26 w', e44.drew, sel_dec (fun hpos => ?_) (fun _ => mid)⟩
    refine members_lk hc hlt fun ad hcell => ⟨_, fun _ e => hcell _ e, ?_⟩
    have em : IntKind.wrap .i64 ((m : Int) - 1) = ((m - 1 : Nat) : Int) := by rw [w64 (by omega) (by omega)]; omega
    rw [em]
    refine members_lk hc (show m - 1 < S.count by omega) fun ad2 hcell2 => ⟨_, fun _ e => hcell2 _ e, sel_dec (fun hle => ?_) (fun _ => mid)⟩
    have := mv_lt (S := S) (show m - 1 < m by omega) hlt
    omega
  · refine ⟨fun k w' => ∃ m : Nat, k = m ∧ m ≤ t.la ∧ Ext [] w26 w', fun k _ => t.la - k.toNat, ⟨0, rfl, by omega, e44⟩, ?_⟩
    rintro _ _ w173 ⟨j, rfl, hj, e173⟩
    refine ⟨_, _, _, cadd (bx26.ext0 e173) rfl, sel_dec (fun hlt => ?_) (fun _ => ?_)⟩
    · have hlt : j < t.la := by omega
      have fin : ∀ w', Ext [] w26 w' → (∃ m1 : Nat, IntKind.wrap .i64 ((j : Int) + 1) = (m1 : Int) ∧ m1 ≤ t.la ∧ Ext [] w26 w') ∧ t.la - (IntKind.wrap .i64 ((j : Int) + 1)).toNat < t.la - (j : Int).toNat := fun w' e => by
        rw [w64 (x := (j : Int) + 1) (by omega) (by omega)]
        exact ⟨⟨j + 1, by omega, by omega, e⟩, by omega⟩
      have hla : ∀ w', Ext [] w26 w' → ∃ ad, t.A = some ad ∧ w'.cell? (Addr.add ad (Int.toNat (j : Int) * 1)) = some (.int .i64 (t.xs.getD j 0)) := fun w' e => by
        obtain ⟨ad, hA, hc⟩ := ((ht.ext0 e0).ext0 e).a.cells j hlt
        exact ⟨ad, hA, by rw [Int.toNat_natCast, Nat.mul_one]; exact hc⟩
      obtain ⟨ad, hA, _⟩ := hla _ e173
      have hla' : ∀ w', Ext [] w26 w' → w'.cell? (Addr.add ad (Int.toNat (j : Int) * 1)) = some (.int .i64 (t.xs.getD j 0)) := fun w' e => by
        obtain ⟨ad', hA', hc⟩ := hla w' e
        rw [hA] at hA'; cases hA'; exact hc
      have hpA : ∀ {K : Addr → Prop}, K ad → V.ptr t.A K := fun h => by rw [hA]; exact ptr_in h
      refine ⟨fun w' => Ext [] w26 w', e173.drew, _, _, _, fun w' e => cadd (bx26.ext0 e) rfl, when_dec ⟨by omega, by omega⟩ (hpA ⟨_, fun w' e => hla' w' e, ?_⟩)⟩
      refine sel_dec (fun hge => ?_) (fun _ => fin _ e173.drew)
      refine ⟨_, _, _, fun w' e => cadd (bx26.ext0 e) rfl, when_dec ⟨by omega, by omega⟩ (hpA ⟨_, fun w' e => hla' w' e, _, fun w' e => cadd (bx26.ext0 e) rfl, ?_⟩)⟩
      refine sel_dec (fun hin => ?_) (fun _ => fin _ e173.drew)
      refine ⟨_, _, _, fun w' e => cadd (bx26.ext0 e) rfl, when_dec ⟨by omega, by omega⟩ (hpA ⟨_, fun w' e => hla' w' e, ?_⟩)⟩
      refine Has_c (hs26.ext0 e173.drew).ref _ ⟨_, rfl, e173.drew, sel_false ?_ (fin _ e173.drew)⟩
      have hlen := ht.a.len
      have hmem : t.xs.getD j 0 ∈ t.xs := by
        rw [List.getD_eq_getElem?_getD, List.getElem?_eq_getElem (by omega)]
        exact List.getElem_mem _
      obtain ⟨x, hx⟩ : ∃ x : Nat, t.xs.getD j 0 = x := ⟨(t.xs.getD j 0).toNat, by omega⟩
      rw [hx] at hmem hin ⊢
      rw [SetV.has_nat, hSm]
      have : x < N := by omega
      simp [this, hmem]
    · refine ⟨_, _, _, cadd (bx26.ext0 e173) rfl, ?_⟩
      exact between_c (hs26.ext0 e173).ref (hz26.ext0 e173) ((ht.ext0 e0).ext0 e173).b (by omega) ⟨_, rfl, k _ (e0.trans e173)⟩
/-! ### the library's table, and the tied card -/
theorem laid_tz {W : World} (h : laidMetH Tryd.prog Rows.bitsetWalksRow.laid W) : TzAt W := by
  have h1 : laidMet Tryd.prog [("math/bits.deBruijn64tab", Go.Lib.tabData .u8 (Go.Lib.deBruijn64tab.map Int.ofNat))] W := by
    have := h
    rw [show Rows.bitsetWalksRow.laid = [("math/bits.deBruijn64tab", Go.Lib.tabData .u8 (Go.Lib.deBruijn64tab.map Int.ofNat))] from rfl] at this
    rwa [MakeChecks.laidMetH_plain _ _ _ (by kernel_rfl)] at this
  have h2 := Go.Lib.tabIs_of_head (g := 0) (t := 75) (e := 5) (n := 64) (by kernel_rfl) (by kernel_rfl) (by kernel_rfl) (by kernel_rfl) (by kernel_rfl) (by kernel_rfl) h1
  intro j hj
  have := Go.Lib.TabIs.cell h2 (g := 0) (by kernel_rfl) j (by rw [List.length_map]; exact hj)
  rw [this]
  congr 2
  rw [List.getD_eq_getElem?_getD, List.getElem?_map, List.getElem?_eq_getElem hj, List.getD_eq_getElem?_getD, List.getElem?_eq_getElem hj]
  rfl
theorem door_met (os : Os) (args : Array Value) : laidMetH Tryd.prog Rows.bitsetWalksRow.laid ((World.doorLaid Tryd.prog 4000 os).forCall (fun _ _ => 0) ⟨#[], args, []⟩).memory :=
  laidMetH_of_parts3 (fuel := 8) (laidMet_of_run' 8 (by kernel_rfl) (by kernel_rfl)) (by kernel_rfl) (by kernel_rfl)
theorem bitsetWalks_lifted (os : Os) (started : os.Started) (H : Type) (enc : TypeId × Value → H) (F : Stop.Interp) :
    ReturnsInHanded {} Tryd.checked os 3 .any ((OpenSpec.ofChange Rows.bitsetWalksSpec).preRow enc Tryd.prog Tryd.f3 Rows.bitsetWalksRow.domain false Rows.bitsetWalksRow.laid) (((OpenSpec.ofChange Rows.bitsetWalksSpec).at F).post enc Tryd.prog Tryd.f3 false true false false) :=
  lift1L (C := Tryd.checked) (T := 24) (tb := 4) own (by kernel_rfl) Tryd.func3 (by kernel_rfl) (by kernel_rfl) Tryd.underlying4 rfl (fun _ _ => rfl) laidOut (by kernel_rfl) (of_decide_eq_true (by kernel_rfl)) os started H enc F
    (fun W base v d p hok h hw hL => by
      obtain ⟨t, rfl, ht⟩ := open_three hok h hw
      exact bitsetWalksW_c ht (laid_tz hL) fun w' e => ⟨rfl, e.below⟩)
    (ChangeSpec.witness_shaped (enc := enc) (C := Tryd.checked) (os := os) (X := fun w _ => laidMetH Tryd.prog Rows.bitsetWalksRow.laid w) false (World.doorLaid Tryd.prog 4000 os) #[.agg #[.int .i64 0, .slice none 0 0, .slice none 0 0, .slice none 0 0]] 8 rfl (World.shaped_of_RefB (by kernel_rfl) (by kernel_rfl)) (by kernel_rfl) (by kernel_rfl) (by kernel_rfl) (door_met os _))
theorem bitsetWalks_holds : Rows.BitsetWalksSaid :=
  OpenClaim.holds_of_cond 3 Tryd.f3 rfl rfl rfl rfl rfl rfl rfl ⟨rfl, rfl, rfl, rfl, rfl⟩ rfl rfl rfl rfl rfl (by kernel_rfl) Tryd.func3 (by kernel_rfl)
    (of_decide_eq_true (by kernel_rfl)) (by unfold Func.isWrapper; first | (rw [if_pos (by decide +kernel)]; kernel_rfl) | (rw [if_neg (by decide +kernel)]; exact ⟨rfl, rfl⟩))
    (fun os started H enc _ F0 => by rw [OpenClaim.pre_eq_preRow]; exact bitsetWalks_lifted os started H enc F0)
theorem bitsetWalks_card_holds : Rows.BitsetWalksCardSaid :=
  Claim7.holds_tied_plain_at .later [] [.data] true (true, Rows.bitsetWalksCard.stood.harness.2) false
    bitsetWalks_holds (fun _ h => by cases h) (by kernel_rfl) (fun _ h => by cases h) bitsetWalks_row_tie rfl ⟨rfl, rfl⟩ (by kernel_rfl) rfl
    (fun f fn hf hfn => by
      obtain rfl : f = 3 := Option.some.inj ((show Tryd.prog.funcNamed "berth/berthlaw01.BitsetWalks" = some 3 by kernel_rfl).symm.trans hf) |>.symm
      obtain rfl : fn = Tryd.f3 := (Option.some.inj (Tryd.func3.symm.trans hfn)).symm
      exact ⟨by kernel_rfl, fun j t ht => by
        rw [Tryd.params3] at ht
        have hm : t ∈ [24] := by simpa using Array.mem_of_getElem? ht
        have hall : ([24].all fun u => !Tryd.prog.wantsStandIn u) = true := by kernel_rfl
        exact (show Tryd.prog.wantsStandIn t = false by simpa using List.all_eq_true.1 hall t hm)⟩)
    (by kernel_rfl)
end Go.Proofs.YtbaglnffgbnekaaDoor
