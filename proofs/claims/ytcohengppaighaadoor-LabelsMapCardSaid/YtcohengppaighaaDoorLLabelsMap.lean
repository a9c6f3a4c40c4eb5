/- Whatever list and labels come in, berthlaw03.LabelsMap returns true and leaves what came in as it was. -/
import Derived.Test.YtcohengppaighaaDoorLb7
import Derived.Test.YtcohengppaighaaDoorLl
import Derived.Test.YtcohengppaighaaDoorRows
import Derived.Test.YtcohengppaighaaDoorTie
import Derived.Test.YtcohengppaighaaDoorCards
import Derived.ProofKit
import Derived.LaidMore
import Derived.OpenShut
import Derived.Stop.Joined
import Derived.SevenTiedAt
import Derived.LaidHandle
import Derived.Lay
set_option linter.unusedVariables false
set_option linter.unusedSimpArgs false
namespace Go.Proofs.YtcohengppaighaaDoor
open Go Go.V Go.B
open Go.ChangeShapes Go.WideShapes Go.ChangeAt Go.RowKit

set_option maxHeartbeats 1000000 in
theorem labelsMap_c {w : World} {A : Option Addr} {n c : Nat} {l0 : List Lab} (h : LIn w A n l0) {key value other second : ByteArray} (hk : key.size ≤ 140737488351232) (ho : other.size ≤ 140737488351232) {R : Ending → World → Prop}
    (k : ∀ w', Ext [] w w' → R (.returned (.bool true)) w') : Calls Tryd.prog 6 #[.slice A n c, .agg #[.string key, .string value], .agg #[.string other, .string second]] w R := by
  apply berthlaw03_LabelsMap_nf
  intro w6 h6 w7 h7
  obtain ⟨b6, x6, z6⟩ := box_new h6
  obtain ⟨b7, x7, z7⟩ := box_new h7
  refine wakes_c fun w10 e10 => ⟨_, rfl, sel_false rfl ?_⟩
  have b6' := (b6.ext x7 (by simp)).ext e10 (by simp)
  have b7' := b7.ext e10 (by simp)
  refine ⟨_, cadd b6' rfl, _, cadd b6' rfl, _, cadd b7' rfl, _, cadd b7' rfl, ?_⟩
  have x10 : Ext [] w (World.drew w10) := ((x6.trans x7).trans e10).drew
  refine copiedI (h.ext0 x10) fun w17 A15 c15 e17 i17 => ⟨_, _, _, rfl, ?_⟩
  refine MakeI i17 fun w22 A18 n18 e22 i22 => ⟨_, _, _, _, _, rfl, ?_⟩
  have x22 := (x10.trans e17).trans e22
  obtain ⟨l, hl⟩ : ∃ l, l = (makeS l0).1 := ⟨_, rfl⟩
  rw [← hl] at i22
  refine sel_intro (fun he => ?_) (fun he => ?_)
  · have he : (makeS l0).2.2 ≠ 0 := by simpa using he
    have hnil := (make_bad he).1
    rw [hl, hnil] at i22
    have hz : n18 = 0 := i22.len.symm
    subst hz
    exact k _ x22
  have he : (makeS l0).2.2 = 0 := by simpa using he
  have ok : OkL l := by
    rw [hl]
    rcases make_res (l := l0) with h1 | h1
    · exact h1.2
    · exact absurd he h1.1
  have hlen := ok.len
  refine copiedI i22 fun w25 A23 c23 e25 i25 => ⟨_, _, _, rfl, GetI i25 other fun w29 e29 => ⟨_, _, rfl, ?_⟩⟩
  have i29 := i22.ext0 (e25.trans e29)
  refine copiedI i29 fun w32 A30 c30 e32 i32 => ⟨_, _, _, rfl, PutI i32 hk fun w36 A33 n33 e36 i36 => ⟨_, _, _, _, rfl, ?_⟩⟩
  have x36 := (x22.trans (e25.trans e29)).trans (e32.trans e36)
  have il36 := i29.ext0 (e32.trans e36)
  refine sel_intro (fun hf => ?_) (fun hf => ?_)
  · have hf : (putS l key value).2 ≠ 0 := by simpa using hf
    obtain ⟨hp, hwhy⟩ := put_no ok hf
    rw [hp] at i36
    have hz : n33 = 0 := i36.len.symm
    subst hz
    refine copiedI il36 fun w39 A37 c37 e39 i39 => ⟨_, _, _, rfl, GetI i39 key fun w43 e43 => ⟨_, _, rfl, sel_true rfl ?_⟩⟩
    refine IsKey_c key (by omega) fun w46 e46 => ⟨_, rfl, sel_intro (fun h1 => k _ (((x36.trans e39).trans e43).trans e46)) (fun h1 => IsValue_c value ⟨_, rfl, sel_intro (fun h2 => k _ (((x36.trans e39).trans e43).trans e46)) (fun h2 => ?_)⟩)⟩
    rcases hwhy with h3 | h3 | h3
    · rw [h3] at h1; cases h1
    · rw [h3] at h2; cases h2
    · refine sel_true (by rw [h3.1]; rfl) ?_
      have hn := i22.len
      rw [show (((n18 : Nat) : Int) == 32) = true by rw [beq_iff_eq]; omega]
      exact k _ (((x36.trans e39).trans e43).trans e46)
  have hf : (putS l key value).2 = 0 := by simpa using hf
  obtain ⟨hkk, hvv, hll⟩ := put_yes ok hf
  obtain ⟨ep, okp⟩ := put_ok ok hkk hvv hll
  obtain ⟨p, hp⟩ : ∃ p, p = (putS l key value).1 := ⟨_, rfl⟩
  have hp2 : p = sortS (delS l key ++ [(key, value)]) := by rw [hp, ep]
  have okp : OkL p := by rw [hp2]; exact okp
  rw [← hp] at i36
  have hmem : ∀ x, x ∈ p ↔ (x ∈ l ∧ x.1 ≠ key) ∨ x = (key, value) := fun x => by rw [hp2]; exact mem_put
  have gk : getS p key = (value, true) := getS_at okp.ris.nodup ((hmem _).2 (.inr rfl))
  have go : other ≠ key → getS p other = getS l other := fun hne => getS_ext okp.ris.nodup ok.ris.nodup fun v => by
    rw [hmem]
    constructor
    · rintro (h1 | h1)
      · exact h1.1
      · exact absurd (congrArg Prod.fst h1) hne
    · exact fun h1 => .inl ⟨h1, hne⟩
  refine copiedI i36 fun w52 A50 c50 e52 i52 => ⟨_, _, _, rfl, GetI i52 key fun w56 e56 => ⟨_, _, rfl, ?_⟩⟩
  have ip56 := i36.ext0 (e52.trans e56)
  refine copiedI ip56 fun w59 A57 c57 e59 i59 => ⟨_, _, _, rfl, GetI i59 other fun w63 e63 => ⟨_, _, rfl, ?_⟩⟩
  have ip63 := ip56.ext0 (e59.trans e63)
  refine copiedI ip63 fun w66 A64 c64 e66 i66 => ⟨_, _, _, rfl, PutI i66 hk fun w70 A67 n67 e70 i70 => ⟨_, _, _, _, rfl, ?_⟩⟩
  have hag : putS p key value = (p, 0) := by
    have := put_again ok hf
    rw [← hp] at this; exact this
  rw [hag] at i70 ⊢
  have ip70 := ip63.ext0 (e66.trans e70)
  have il70 := il36.ext0 ((e52.trans e56).trans ((e59.trans e63).trans (e66.trans e70)))
  have x70 := x36.trans ((e52.trans e56).trans ((e59.trans e63).trans (e66.trans e70)))
  rw [gk]
  have tail : (V.sel (0 != 0)
  (R (Ending.returned (Value.bool false)) w70)
  (Calls Tryd.prog 18 #[(Value.slice A67 n67 n67), (Value.slice A33 n33 n33)] w70 fun e72 w73 =>
  ∃ b71, e72 = Ending.returned (Value.bool b71) ∧
  V.sel (!b71)
  (R (Ending.returned (Value.bool false)) w73)
  (Calls Tryd.prog 14 #[(Value.slice A33 n33 n33)] w73 fun e75 w76 =>
  ∃ A74, ∃ A74l, ∃ A74c, e75 = Ending.returned (Value.slice A74 A74l A74c) ∧
  Calls Tryd.prog 26 #[(Value.slice A74 A74l A74c), (Value.string key)] w76 fun e79 w80 =>
  ∃ A77, ∃ A77l, ∃ A77c, ∃ b78, e79 = Ending.returned (Value.tuple #[(Value.slice A77 A77l A77c), (Value.bool b78)]) ∧
  Calls Tryd.prog 14 #[(Value.slice A77 A77l A77c)] w80 fun e82 w83 =>
  ∃ A81, ∃ A81l, ∃ A81c, e82 = Ending.returned (Value.slice A81 A81l A81c) ∧
  Calls Tryd.prog 20 #[(Value.slice A81 A81l A81c), (Value.string key)] w83 fun e86 w87 =>
  ∃ s84, ∃ b85, e86 = Ending.returned (Value.tuple #[(Value.string s84), (Value.bool b85)]) ∧
  V.sel (!b78)
  (R (Ending.returned (Value.bool false)) w87)
  (V.sel b85
  (R (Ending.returned (Value.bool false)) w87)
  (V.sel (((A77l : Nat) : Int) != (IntKind.wrap .i64 (((n33 : Nat) : Int) - 1)))
  (R (Ending.returned (Value.bool false)) w87)
  (Calls Tryd.prog 14 #[(Value.slice A33 n33 n33)] w87 fun e89 w90 =>
  ∃ A88, ∃ A88l, ∃ A88c, e89 = Ending.returned (Value.slice A88 A88l A88c) ∧
  Calls Tryd.prog 23 #[(Value.slice A88 A88l A88c), (Value.string other), (Value.string second)] w90 fun e93 w94 =>
  ∃ A91, ∃ A91l, ∃ A91c, ∃ n92, e93 = Ending.returned (Value.tuple #[(Value.slice A91 A91l A91c), (Value.int .i64 n92)]) ∧
  Calls Tryd.prog 14 #[(Value.slice A18 n18 n18)] w94 fun e96 w97 =>
  ∃ A95, ∃ A95l, ∃ A95c, e96 = Ending.returned (Value.slice A95 A95l A95c) ∧
  Calls Tryd.prog 23 #[(Value.slice A95 A95l A95c), (Value.string other), (Value.string second)] w97 fun e100 w101 =>
  ∃ A98, ∃ A98l, ∃ A98c, ∃ n99, e100 = Ending.returned (Value.tuple #[(Value.slice A98 A98l A98c), (Value.int .i64 n99)]) ∧
  V.sel (n92 != 0)
  (R (Ending.returned (Value.bool true)) w101)
  (V.sel (n99 != 0)
  (R (Ending.returned (Value.bool true)) w101)
  (V.sel (ByteArray.toList other == ByteArray.toList key)
  (R (Ending.returned (Value.bool true)) w101)
  (Calls Tryd.prog 14 #[(Value.slice A98 A98l A98c)] w101 fun e103 w104 =>
  ∃ A102, ∃ A102l, ∃ A102c, e103 = Ending.returned (Value.slice A102 A102l A102c) ∧
  Calls Tryd.prog 23 #[(Value.slice A102 A102l A102c), (Value.string key), (Value.string value)] w104 fun e107 w108 =>
  ∃ A105, ∃ A105l, ∃ A105c, ∃ n106, e107 = Ending.returned (Value.tuple #[(Value.slice A105 A105l A105c), (Value.int .i64 n106)]) ∧
  V.sel (n106 == 0)
  (Calls Tryd.prog 18 #[(Value.slice A91 A91l A91c), (Value.slice A105 A105l A105c)] w108 fun e110 w111 =>
  ∃ b109, e110 = Ending.returned (Value.bool b109) ∧
  R (Ending.returned (Value.bool b109)) w111)
  (R (Ending.returned (Value.bool false)) w108)))))))))) := by
    refine sel_false rfl (sameI i70 ip70 fun w73 e73 => ⟨_, rfl, sel_false (by rw [decide_eq_true rfl]; rfl) ?_⟩)
    have ip73 := ip70.ext0 e73
    refine copiedI ip73 fun w76 A74 c74 e76 i76 => ⟨_, _, _, rfl, DelI i76 key fun w80 A77 n77 e80 i80 => ⟨_, _, _, _, rfl, ?_⟩⟩
    refine copiedI i80 fun w83 A81 c81 e83 i83 => ⟨_, _, _, rfl, GetI i83 key fun w87 e87 => ⟨_, _, rfl, ?_⟩⟩
    have hdk : getS (delS p key) key = (ByteArray.empty, false) := getS_not fun hm => (del_keys.1 hm).2 rfl
    have hdl : (delS p key).length + 1 = p.length := del_len okp.ris.nodup (mem_keys.2 ⟨(key, value), (hmem _).2 (.inr rfl), rfl⟩)
    have hl1 := i36.len
    have hl2 := i80.len
    have hpl := okp.len
    rw [gk, hdk]
    refine sel_false rfl (sel_false rfl (sel_false ?_ ?_))
    · rw [w64 (by omega) (by omega), bne_eq_false_iff_eq]
      omega
    have e87' := (e73.trans (e76.trans e80)).trans (e83.trans e87)
    have ip87 := ip70.ext0 e87'
    have il87 := il70.ext0 e87'
    refine copiedI ip87 fun w90 A88 c88 e90 i90 => ⟨_, _, _, rfl, PutI i90 ho fun w94 A91 n91 e94 i94 => ⟨_, _, _, _, rfl, ?_⟩⟩
    refine copiedI (il87.ext0 (e90.trans e94)) fun w97 A95 c95 e97 i97 => ⟨_, _, _, rfl, PutI i97 ho fun w101 A98 n98 e101 i101 => ⟨_, _, _, _, rfl, ?_⟩⟩
    have x101 := ((x70.trans e87').trans (e90.trans e94)).trans (e97.trans e101)
    refine sel_intro (fun h1 => k _ x101) (fun h1 => sel_intro (fun h2 => k _ x101) (fun h2 => sel_intro (fun h3 => k _ x101) (fun h3 => ?_)))
    have h1 : (putS p other second).2 = 0 := by simpa using h1
    have h2 : (putS l other second).2 = 0 := by simpa using h2
    have h3 : other ≠ key := by rw [beqBytes] at h3; simpa using h3
    have hsw := put_swap ok h3 hf (by rw [← hp]; exact h1) h2
    rw [← hp] at hsw
    refine copiedI i101 fun w104 A102 c102 e104 i104 => ⟨_, _, _, rfl, PutI i104 hk fun w108 A105 n105 e108 i108 => ⟨_, _, _, _, rfl, ?_⟩⟩
    rw [hsw] at i108 ⊢
    refine sel_true rfl (sameI (i94.ext0 ((e97.trans e101).trans (e104.trans e108))) i108 fun w111 e111 => ⟨_, rfl, ?_⟩)
    rw [decide_eq_true rfl]
    exact k _ (x101.trans ((e104.trans e108).trans e111))
  refine sel_false (by rw [beqBytes, decide_eq_true rfl]; rfl) (sel_false rfl (sel_intro (fun hne => ?_) (fun _ => tail)))
  have hne : other ≠ key := by rw [beqBytes] at hne; simpa using hne
  rw [go hne]
  exact sel_false (by rw [beqBytes, decide_eq_true rfl]; rfl) (sel_false (by simp) tail)
/-! ### the library's tables, and the tied card -/
set_option maxRecDepth 100000 in
theorem door_met (os : Os) (args : Array Value) : laidMetH Tryd.prog Rows.labelsMapRow.laid ((World.laidAll Tryd.prog os Rows.labelsMapRow.laid).forCall (fun _ _ => 0) ⟨#[], args, []⟩).memory := by
  rw [MakeChecks.laidMetH_plain _ _ _ (by kernel_rfl)]
  exact laidMet_laidAll _ (by kernel_rfl) (by kernel_rfl)
set_option maxRecDepth 8000 in
theorem labelsMap_lifted (os : Os) (started : os.Started) (H : Type) (enc : TypeId × Value → H) (F : Stop.Interp) :
    ReturnsInHanded {} Tryd.checked os 6 .any ((OpenSpec.ofChange Rows.labelsMapSpec).preRow enc Tryd.prog Tryd.f6 Rows.labelsMapRow.domain false Rows.labelsMapRow.laid) (((OpenSpec.ofChange Rows.labelsMapSpec).at F).post enc Tryd.prog Tryd.f6 false true false false) :=
  lift3L (C := Tryd.checked) (T := 22) (U := 27) (X := 27) (tb := 4) own (by kernel_rfl) Tryd.func6 (by kernel_rfl) (by kernel_rfl) Tryd.underlying4 rfl (fun _ _ _ _ => rfl) laidOut (by kernel_rfl) (of_decide_eq_true (by kernel_rfl)) (by kernel_rfl) (of_decide_eq_true (by kernel_rfl)) (by kernel_rfl) (of_decide_eq_true (by kernel_rfl)) os started H enc F
    (fun W base v0 v1 v2 d0 d1 d2 p0 p1 p2 hok0 ht0 hw0 hok1 ht1 hw1 hok2 ht2 hw2 hL => by
      obtain ⟨A0, n0, c0, l0, rfl, h0⟩ := open_labs hok0 ht0 hw0
      obtain ⟨x1, rfl, z1, y1⟩ := open_lab hok1 ht1 hw1
      obtain ⟨x2, rfl, z2, y2⟩ := open_lab hok2 ht2 hw2
      exact labelsMap_c h0 z1 z2 fun w' e => ⟨rfl, e.below⟩)
    (ChangeSpec.witness_shaped (enc := enc) (C := Tryd.checked) (os := os) (X := fun w _ => laidMetH Tryd.prog Rows.labelsMapRow.laid w) false (World.laidAll Tryd.prog os Rows.labelsMapRow.laid) #[.slice none 0 0, .agg #[.string ByteArray.empty, .string ByteArray.empty], .agg #[.string ByteArray.empty, .string ByteArray.empty]] 8 (World.laidAll_os _ _ _) (World.shaped_of_ZipB (by kernel_rfl) (by kernel_rfl)) (by kernel_rfl) (by kernel_rfl) (by kernel_rfl) (door_met os _))
theorem labelsMap_holds : Rows.LabelsMapSaid :=
  OpenClaim.holds_of_cond 6 Tryd.f6 rfl rfl rfl rfl rfl rfl rfl ⟨rfl, rfl, rfl, rfl, rfl⟩ rfl rfl rfl rfl rfl (by kernel_rfl) Tryd.func6 (by kernel_rfl)
    (of_decide_eq_true (by kernel_rfl)) (by unfold Func.isWrapper; first | (rw [if_pos (by decide +kernel)]; kernel_rfl) | (rw [if_neg (by decide +kernel)]; exact ⟨rfl, rfl⟩))
    (fun os started H enc _ F0 => by rw [OpenClaim.pre_eq_preRow]; exact labelsMap_lifted os started H enc F0)
theorem labelsMap_card_holds : Rows.LabelsMapCardSaid :=
  Claim7.holds_tied_plain_at .later [] [.data, .pinned] true (true, Rows.labelsMapCard.stood.harness.2) false
    labelsMap_holds (fun _ h => by cases h) (by kernel_rfl) (fun _ h => by cases h) labelsMap_row_tie rfl ⟨rfl, rfl⟩ (by kernel_rfl) rfl
    (fun f fn hf hfn => by
      obtain rfl : f = 6 := Option.some.inj ((show Tryd.prog.funcNamed "berth/berthlaw03.LabelsMap" = some 6 by kernel_rfl).symm.trans hf) |>.symm
      obtain rfl : fn = Tryd.f6 := (Option.some.inj (Tryd.func6.symm.trans hfn)).symm
      exact ⟨by kernel_rfl, fun j t ht => by
        rw [Tryd.params6] at ht
        have hm : t ∈ [22, 27, 27] := by simpa using Array.mem_of_getElem? ht
        have hall : ([22, 27, 27].all fun u => !Tryd.prog.wantsStandIn u) = true := by kernel_rfl
        exact (show Tryd.prog.wantsStandIn t = false by simpa using List.all_eq_true.1 hall t hm)⟩)
    (by kernel_rfl)
end Go.Proofs.YtcohengppaighaaDoor
