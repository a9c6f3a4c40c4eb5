/- Whatever lists come in, berthlaw03.LabelsWay returns true and leaves what came in as it was. -/
import Derived.Test.YtcohengppaighaaDoorLb10
import Derived.Test.YtcohengppaighaaDoorLl
import Derived.Test.YtcohengppaighaaDoorRows
import Derived.Test.YtcohengppaighaaDoorTie
import Derived.Test.YtcohengppaighaaDoorCards
import Derived.ProofKit
import Derived.LaidMore
import Derived.OpenShut
import Derived.Stop.Joined
import Derived.SevenTiedAt
import Derived.LaidHandle
import Derived.Lay
set_option linter.unusedVariables false
set_option linter.unusedSimpArgs false
namespace Go.Proofs.YtcohengppaighaaDoor
open Go Go.V Go.B
open Go.ChangeShapes Go.WideShapes Go.ChangeAt Go.RowKit

theorem back_c {w : World} {A : Option Addr} {n c : Nat} {ds : List DL} (h : DIn w A n ds) (hb : n ≤ 64) {R : Ending → World → Prop}
    (k : ∀ w' D c', Ext [] w w' → DIn w' D n (ds.map backD) → R (.returned (.slice D n c')) w') : Calls Tryd.prog 22 #[.slice A n c] w R := by
  apply berthlaw03_back_nf
  have hl := h.len
  refine ⟨fun A' n' c' t w' => ∃ a : Nat, t = a ∧ a ≤ n ∧ Ext [] w w' ∧ n' = a ∧ DOwn w' w.heap.size A' n' c' ((ds.map backD).take a), fun _ _ _ t _ => n - t.toNat, ⟨0, rfl, by omega, Ext.refl _ _, rfl, LstL.nil _ _ _⟩, ?_⟩
  rintro A' n' c' _ _ w7 ⟨a, rfl, ha, e7, hna, own⟩
  subst hna
  refine sel_dec (fun hlt => ?_) (fun hge => ?_)
  · obtain ⟨x, hx⟩ : ∃ x, ds[n']? = some x := ⟨_, List.getElem?_eq_getElem (by omega)⟩
    obtain ⟨ad, rfl, rd⟩ := dif_cells h.c hx
    refine when_dec ⟨by omega, by omega⟩ ⟨_, _, _, _, _, (rd w7 e7).2, fun w14 h14 => ?_⟩
    obtain ⟨b14, x14, z14⟩ := box_new h14
    obtain ⟨w15, hr, b15, x15⟩ := storeW (P := Tryd.prog) (t := 35) (n := 5) (by kernel_rfl) b14 (vs := dcells x) rfl rfl (DLL.one x)
    have e15 : Ext [] w7 w15 := x14.trans' x15 fun b hb => .inr (by simp at hb; omega)
    refine ⟨w15, hr, _, cadd b15 rfl, _, cadd b15 rfl, _, cadd b15 rfl, _, cadd b15 rfl, _, cadd b15 rfl, fun w21 h21 => ?_⟩
    obtain ⟨A2, c2, w23, hr2, ho, he, _⟩ := add_dl (d := backD x) (e7.trans e15) (own.ext0 e15) h21 (by omega)
    refine ⟨_, _, _, _, hr2, ?_⟩
    rw [up64 n' (by omega)]
    exact ⟨⟨n' + 1, rfl, by omega, he, rfl, by rw [snoc_at (show (ds.map backD)[n']? = some (backD x) by rw [List.getElem?_map, hx]; rfl)]; exact ho⟩, by simp only [Int.toNat_natCast]; omega⟩
  · have : n' = n := by omega
    subst this
    rw [List.take_of_length_le (by rw [List.length_map]; omega)] at own
    refine k w7 A' c' e7 (DOwn.in_ own (fun y hy => ?_) h.big)
    obtain ⟨x, hx, rfl⟩ := List.mem_map.1 hy
    obtain ⟨z1, z2, z3⟩ := h.sz x hx
    exact ⟨z1, z3, z2⟩
set_option maxHeartbeats 2000000 in
theorem labelsWay_c {w : World} {A B : Option Addr} {n c m c' : Nat} {l1 l2 : List Lab} (h1 : LIn w A n l1) (h2 : LIn w B m l2) {R : Ending → World → Prop}
    (k : ∀ w', Ext [] w w' → R (.returned (.bool true)) w') : Calls Tryd.prog 5 #[.slice A n c, .slice B m c'] w R := by
  apply berthlaw03_LabelsWay_nf
  intro w3 h3
  obtain ⟨i3, x3⟩ := aOne_in h3
  refine walkI i3 (LIn.nil w3) fun w6 D4 q4 d4 e6 i6 hq6 => ⟨_, _, _, rfl, ?_⟩
  rw [one_diff] at i6
  have hq : q4 = 1 := i6.len.symm
  subst hq
  obtain ⟨ad, rfl, rd⟩ := dif_cells i6.c (a := 0) (x := ⟨unb [97], unb [49], ByteArray.empty, true, false⟩) rfl
  refine sel_false rfl (when_dec ⟨by omega, by omega⟩ ⟨_, _, _, _, _, (rd w6 (Ext.refl _ _)).2, sel_false ?_ ?_⟩)
  · rw [beqBytes, beqBytes, beqBytes, decide_eq_true (show unb [97] = ⟨#[97]⟩ from rfl), decide_eq_true (show unb [49] = ⟨#[49]⟩ from rfl), decide_eq_true (show ByteArray.empty = ByteArray.empty from rfl)]; rfl
  have x6 := x3.trans e6
  refine copiedI (h1.ext0 x6) fun w15 A13 c13 e15 i15 => ⟨_, _, _, rfl, MakeI i15 fun w20 A16 n16 e20 i20 => ⟨_, _, _, _, _, rfl, ?_⟩⟩
  have x20 := x6.trans (e15.trans e20)
  refine copiedI (h2.ext0 x20) fun w23 A21 c21 e23 i23 => ⟨_, _, _, rfl, MakeI i23 fun w28 A24 n24 e28 i28 => ⟨_, _, _, _, _, rfl, ?_⟩⟩
  have x28 := x20.trans (e23.trans e28)
  refine sel_intro (fun _ => k _ x28) (fun he1 => sel_intro (fun _ => k _ x28) (fun he2 => ?_))
  have he1 : (makeS l1).2.2 = 0 := by simpa using he1
  have he2 : (makeS l2).2.2 = 0 := by simpa using he2
  have ok1 : OkL (makeS l1).1 := by
    rcases make_res (l := l1) with h | h
    · exact h.2
    · exact absurd he1 h.1
  have ok2 : OkL (makeS l2).1 := by
    rcases make_res (l := l2) with h | h
    · exact h.2
    · exact absurd he2 h.1
  have iw := i20.ext0 (e23.trans e28)
  generalize (makeS l1).1 = was at ok1 iw
  generalize (makeS l2).1 = now at ok2 i28
  have dif := diff_dif ok1 ok2
  have dall := @diff_all was now ok1 ok2
  refine copiedI iw fun w31 A29 c29 e31 i31 => ⟨_, _, _, rfl, copiedI (i28.ext0 e31) fun w34 A32 c32 e34 i34 => ⟨_, _, _, rfl, walkI (i31.ext0 e34) i34 fun w37 A35 q35 c35 e37 i37 hq37 => ⟨_, _, _, rfl, ?_⟩⟩⟩
  have e37' := (e31.trans e34).trans e37
  have x37 := x28.trans e37'
  have iw37 := iw.ext0 e37'
  have in37 := i28.ext0 e37'
  have hdl := i37.len
  refine ⟨fun t w' => ∃ a : Nat, t = a ∧ a ≤ q35 ∧ Ext [] w37 w', fun t _ => q35 - t.toNat, ⟨0, rfl, by omega, Ext.refl _ _⟩, ?_⟩
  rintro _ _ w42 ⟨a, rfl, ha, e42⟩
  refine sel_dec (fun hlt => ?_) (fun hge => ?_)
  · obtain ⟨x, hx⟩ : ∃ x, (diffS was now)[a]? = some x := ⟨_, List.getElem?_eq_getElem (by omega)⟩
    obtain ⟨ad, rfl, rd⟩ := dif_cells i37.c hx
    obtain ⟨ad', hA', rx⟩ := DLL.read i37.c hx
    cases hA'
    have e1 : 0 < a → IntKind.wrap .i64 ((a : Int) - 1) = ((a - 1 : Nat) : Int) := fun _ => by rw [w64 (by omega) (by omega)]; omega
    have hxm := List.mem_of_getElem? hx
    have hof := dif.of x hxm
    have hkeep := dif.keep x hxm
    have f1 : x.old = (getS was x.key).1 := congrArg DL.old hof
    have f2 : x.new = (getS now x.key).1 := congrArg DL.new hof
    have f3 : x.had = (getS was x.key).2 := congrArg DL.had hof
    have f4 : x.has = (getS now x.key).2 := congrArg DL.has hof
    refine ⟨fun w' => Ext [] w37 w', e42.drew, when_dec ⟨by omega, by omega⟩ ⟨_, fun w' e => (rd w' e).1, ?_⟩⟩
    refine copiedI (iw37.ext0 e42.drew) fun w49 A47 c47 e49 i49 => ⟨_, _, _, rfl, e42.drew.trans e49, GetI i49 x.key fun w53 e53 => ⟨_, _, rfl, (e42.drew.trans e49).trans e53, ?_⟩⟩
    have e53' := (e42.drew.trans e49).trans e53
    refine ⟨fun w' => Ext [] w37 w', e53'.drew, when_dec ⟨by omega, by omega⟩ ⟨_, fun w' e => (rd w' e).1, ?_⟩⟩
    refine copiedI (in37.ext0 e53'.drew) fun w60 A58 c58 e60 i60 => ⟨_, _, _, rfl, e53'.drew.trans e60, GetI i60 x.key fun w64 e64 => ⟨_, _, rfl, (e53'.drew.trans e60).trans e64, ?_⟩⟩
    have e64' := (e53'.drew.trans e60).trans e64
    have cell : ∀ (j : Nat) (v : Value), (DLL.enc x)[j]? = some v → World.cell? w64 (Addr.add (Addr.add ad (Int.toNat (a : Int) * 5)) j) = some v := fun j v hj => by
      obtain ⟨ad'', h1, r2⟩ := DLL.read (i37.c.ext0 e64') hx
      cases h1
      rw [Int.toNat_natCast]; exact r2 j v hj
    rw [← f1, ← f2, ← f3, ← f4]
    refine when_dec ⟨by omega, by omega⟩ ⟨_, cell 1 _ rfl, sel_false (by rw [beqBytes, decide_eq_true rfl]; rfl) (when_dec ⟨by omega, by omega⟩ ⟨_, cell 3 _ rfl, sel_false (by rw [beq_self_eq_true]; rfl) (when_dec ⟨by omega, by omega⟩ ⟨_, cell 2 _ rfl, sel_false (by rw [beqBytes, decide_eq_true rfl]; rfl) (when_dec ⟨by omega, by omega⟩ ⟨_, cell 4 _ rfl, sel_false (by rw [beq_self_eq_true]; rfl) ?_⟩)⟩)⟩)⟩
    have tail : (V.sel (decide ((a : Int) > 0))
  (V.when (decide ((0 : Int) ≤ (a : Int) ∧ ((a : Int) : Int) < ((q35 : Nat) : Int))) (V.ptr (some ad) fun a73 =>
  ∃ s74, World.cell? w64 (Addr.add (Addr.add a73 ((Int.toNat (a : Int)) * 5)) 0) = some (Value.string s74) ∧
  V.when (decide ((0 : Int) ≤ (IntKind.wrap .i64 ((a : Int) - 1)) ∧ ((IntKind.wrap .i64 ((a : Int) - 1)) : Int) < ((q35 : Nat) : Int))) (V.ptr (some ad) fun a75 =>
  ∃ s76, World.cell? w64 (Addr.add (Addr.add a75 ((Int.toNat (IntKind.wrap .i64 ((a : Int) - 1))) * 5)) 0) = some (Value.string s76) ∧
  V.sel ((Op.bytesLess (ByteArray.toList s74) (ByteArray.toList s76)) || (ByteArray.toList s74 == ByteArray.toList s76))
  (R (Ending.returned (Value.bool false)) (World.drew w64))
  ((fun t w' => ∃ a : Nat, t = (a : Int) ∧ a ≤ q35 ∧ Ext [] w37 w') (IntKind.wrap .i64 ((a : Int) + 1)) (World.drew w64) ∧ (fun t _ => q35 - Int.toNat t) (IntKind.wrap .i64 ((a : Int) + 1)) (World.drew w64) < (fun t _ => q35 - Int.toNat t) (a : Int) w42))))
  ((fun t w' => ∃ a : Nat, t = (a : Int) ∧ a ≤ q35 ∧ Ext [] w37 w') (IntKind.wrap .i64 ((a : Int) + 1)) (World.drew w64) ∧ (fun t _ => q35 - Int.toNat t) (IntKind.wrap .i64 ((a : Int) + 1)) (World.drew w64) < (fun t _ => q35 - Int.toNat t) (a : Int) w42)) := by
      have fin : (∃ b : Nat, IntKind.wrap .i64 ((a : Int) + 1) = (b : Int) ∧ b ≤ q35 ∧ Ext [] w37 w64.drew) ∧ q35 - Int.toNat (IntKind.wrap .i64 ((a : Int) + 1)) < q35 - Int.toNat (a : Int) := by
        rw [up64 a (by omega)]
        exact ⟨⟨a + 1, rfl, by omega, e64'.drew⟩, by simp only [Int.toNat_natCast]; omega⟩
      refine sel_dec (fun hp => ?_) (fun _ => fin)
      obtain ⟨y, hy⟩ : ∃ y, (diffS was now)[a - 1]? = some y := ⟨_, List.getElem?_eq_getElem (by omega)⟩
      obtain ⟨ad', hA', ry⟩ := dif_cells i37.c hy
      cases hA'
      rw [e1 (by omega)]
      refine when_dec ⟨by omega, by omega⟩ ⟨_, cell 0 _ rfl, when_dec ⟨by omega, by omega⟩ ⟨_, (ry w64 e64').1, sel_false ?_ fin⟩⟩
      have hlt2 : bs y.key < bs x.key := by
        obtain ⟨g1, rfl⟩ := List.getElem?_eq_some_iff.1 hx
        obtain ⟨g2, rfl⟩ := List.getElem?_eq_some_iff.1 hy
        exact List.pairwise_iff_getElem.1 dif.ris _ _ g2 g1 (by omega)
      rw [less_iff, beqBytes, Bool.or_eq_false_iff, decide_eq_false_iff_not, decide_eq_false_iff_not]
      exact ⟨fun hq => List.lt_irrefl _ (List.lt_trans hq hlt2), fun hq => by rw [hq] at hlt2; exact List.lt_irrefl _ hlt2⟩
    refine sel_intro (fun hs1 => sel_intro (fun hs2 => ?_) (fun _ => tail)) (fun _ => tail)
    rw [beqBytes, decide_eq_true_eq] at hs2
    have hs1 : x.had = x.has := by simpa using hs1
    unfold dKeep at hkeep
    simp [hs1, hs2] at hkeep
  · have iw42 := iw37.ext0 e42
    have in42 := in37.ext0 e42
    have id42 := i37.ext0 e42
    have p1 : patchS was (diffS was now) = (now, 0) := patch_dif ok1 ok2 dif fun k hk => dall hk
    have p2 : patchS now ((diffS was now).map backD) = (was, 0) := patch_dif ok2 ok1 (dif_back dif) fun k hk => (dall (by rw [back_keys] at hk; exact hk)).symm
    refine copiedI iw42 fun w83 A81 c81 e83 i83 => ⟨_, _, _, rfl, fun w84 h84 => ?_⟩
    obtain ⟨A85, c85, w86, hr86, i86, e86⟩ := copyD (id42.ext0 e83) h84 c35
    refine ⟨_, _, _, _, hr86, Patch_c (i83.ext0 e86) i86 fun w90 A87 n87 e90 o90 => ⟨_, _, _, _, rfl, ?_⟩⟩
    rw [p1] at o90 ⊢
    have e90' := (e83.trans e86).trans e90
    have i90 : LIn w90 A87 n87 now := LIn.of o90 (.inl ok2)
    refine copiedI (in42.ext0 e90') fun w93 A91 c91 e93 i93 => ⟨_, _, _, rfl, back_c (id42.ext0 (e90'.trans e93)) hq37 fun w96 A94 c94 e96 i96 => ⟨_, _, _, rfl, Patch_c (i93.ext0 e96) i96 fun w100 A97 n97 e100 o100 => ⟨_, _, _, _, rfl, ?_⟩⟩⟩
    rw [p2] at o100 ⊢
    have i100 : LIn w100 A97 n97 was := LIn.of o100 (.inl ok1)
    have e100' := (e93.trans e96).trans e100
    have ee := e90'.trans e100'
    refine sel_false rfl (sel_false rfl (sameI (i90.ext0 e100') (in42.ext0 ee) fun w103 e103 => ⟨_, rfl, sel_false (by rw [decide_eq_true rfl]; rfl) ?_⟩))
    refine sameI (i100.ext0 e103) ((iw42.ext0 ee).ext0 e103) fun w106 e106 => ⟨_, rfl, sel_false (by rw [decide_eq_true rfl]; rfl) ?_⟩
    have ee106 := ee.trans (e103.trans e106)
    refine copiedI (iw42.ext0 ee106) fun w109 A107 c107 e109 i109 => ⟨_, _, _, rfl, copiedI ((iw42.ext0 ee106).ext0 e109) fun w112 A110 c110 e112 i112 => ⟨_, _, _, rfl, walkI (i109.ext0 e112) i112 fun w115 A113 q113 c113 e115 i115 _ => ⟨_, _, _, rfl, ?_⟩⟩⟩
    have hself : diffS was was = [] := by unfold diffS; rw [if_pos ⟨checkS_zero.2 ok1, checkS_zero.2 ok1⟩]; exact mergeD_self ok1.ris
    rw [hself] at i115
    have hz : q113 = 0 := i115.len.symm
    subst hz
    have ee115 := ee106.trans ((e109.trans e112).trans e115)
    refine sel_false rfl (copiedI (in42.ext0 ee115) fun w118 A116 c116 e118 i118 => ⟨_, _, _, rfl, fun w119 h119 => ?_⟩)
    obtain ⟨A120, c120, w121, hr121, i121, e121⟩ := copyD (id42.ext0 (ee115.trans e118)) h119 c35
    refine ⟨_, _, _, _, hr121, Patch_c (i118.ext0 e121) i121 fun w125 A122 n122 e125 o125 => ⟨_, _, _, _, rfl, ?_⟩⟩
    have xx := (x37.trans e42).trans (ee115.trans ((e118.trans e121).trans e125))
    cases hq : diffS was now with
    | nil =>
      have hz : patchS now [] = (now, 0) := patch_dif ok2 ok2 ⟨by simp, by simp, List.Pairwise.nil⟩ fun _ _ => rfl
      rw [hq] at hdl
      have : q35 = 0 := hdl.symm
      subst this
      rw [hz]
      exact sel_true rfl (sel_true rfl (k _ xx))
    | cons d r =>
      rw [hq] at dif hdl
      have h38 := patch_stale ok1 ok2 dif
      rw [h38]
      refine sel_false ?_ (k _ xx)
      have : q35 ≠ 0 := fun h => by rw [h] at hdl; simp at hdl
      simpa using this
/-! ### the library's tables, and the tied card -/
set_option maxRecDepth 100000 in
theorem door_met (os : Os) (args : Array Value) : laidMetH Tryd.prog Rows.labelsWayRow.laid ((World.laidAll Tryd.prog os Rows.labelsWayRow.laid).forCall (fun _ _ => 0) ⟨#[], args, []⟩).memory := by
  rw [MakeChecks.laidMetH_plain _ _ _ (by kernel_rfl)]
  exact laidMet_laidAll _ (by kernel_rfl) (by kernel_rfl)
set_option maxRecDepth 8000 in
theorem labelsWay_lifted (os : Os) (started : os.Started) (H : Type) (enc : TypeId × Value → H) (F : Stop.Interp) :
    ReturnsInHanded {} Tryd.checked os 5 .any ((OpenSpec.ofChange Rows.labelsWaySpec).preRow enc Tryd.prog Tryd.f5 Rows.labelsWayRow.domain false Rows.labelsWayRow.laid) (((OpenSpec.ofChange Rows.labelsWaySpec).at F).post enc Tryd.prog Tryd.f5 false true false false) :=
  lift2L (C := Tryd.checked) (T := 22) (U := 22) (tb := 4) own (by kernel_rfl) Tryd.func5 (by kernel_rfl) (by kernel_rfl) Tryd.underlying4 rfl (fun _ _ _ => rfl) laidOut (by kernel_rfl) (of_decide_eq_true (by kernel_rfl)) (by kernel_rfl) (of_decide_eq_true (by kernel_rfl)) os started H enc F
    (fun W base v0 v1 d0 d1 p0 p1 hok0 ht0 hw0 hok1 ht1 hw1 hL => by
      obtain ⟨A0, n0, c0, l0, rfl, h0⟩ := open_labs hok0 ht0 hw0
      obtain ⟨A1, n1, c1, l1, rfl, h1⟩ := open_labs hok1 ht1 hw1
      exact labelsWay_c h0 h1 fun w' e => ⟨rfl, e.below⟩)
    (ChangeSpec.witness_shaped (enc := enc) (C := Tryd.checked) (os := os) (X := fun w _ => laidMetH Tryd.prog Rows.labelsWayRow.laid w) false (World.laidAll Tryd.prog os Rows.labelsWayRow.laid) #[.slice none 0 0, .slice none 0 0] 8 (World.laidAll_os _ _ _) (World.shaped_of_ZipB (by kernel_rfl) (by kernel_rfl)) (by kernel_rfl) (by kernel_rfl) (by kernel_rfl) (door_met os _))
theorem labelsWay_holds : Rows.LabelsWaySaid :=
  OpenClaim.holds_of_cond 5 Tryd.f5 rfl rfl rfl rfl rfl rfl rfl ⟨rfl, rfl, rfl, rfl, rfl⟩ rfl rfl rfl rfl rfl (by kernel_rfl) Tryd.func5 (by kernel_rfl)
    (of_decide_eq_true (by kernel_rfl)) (by unfold Func.isWrapper; first | (rw [if_pos (by decide +kernel)]; kernel_rfl) | (rw [if_neg (by decide +kernel)]; exact ⟨rfl, rfl⟩))
    (fun os started H enc _ F0 => by rw [OpenClaim.pre_eq_preRow]; exact labelsWay_lifted os started H enc F0)
theorem labelsWay_card_holds : Rows.LabelsWayCardSaid :=
  Claim7.holds_tied_plain_at .later [] [.data, .pinned] true (true, Rows.labelsWayCard.stood.harness.2) false
    labelsWay_holds (fun _ h => by cases h) (by kernel_rfl) (fun _ h => by cases h) labelsWay_row_tie rfl ⟨rfl, rfl⟩ (by kernel_rfl) rfl
    (fun f fn hf hfn => by
      obtain rfl : f = 5 := Option.some.inj ((show Tryd.prog.funcNamed "berth/berthlaw03.LabelsWay" = some 5 by kernel_rfl).symm.trans hf) |>.symm
      obtain rfl : fn = Tryd.f5 := (Option.some.inj (Tryd.func5.symm.trans hfn)).symm
      exact ⟨by kernel_rfl, fun j t ht => by
        rw [Tryd.params5] at ht
        have hm : t ∈ [22, 22] := by simpa using Array.mem_of_getElem? ht
        have hall : ([22, 22].all fun u => !Tryd.prog.wantsStandIn u) = true := by kernel_rfl
        exact (show Tryd.prog.wantsStandIn t = false by simpa using List.all_eq_true.1 hall t hm)⟩)
    (by kernel_rfl)
end Go.Proofs.YtcohengppaighaaDoor
