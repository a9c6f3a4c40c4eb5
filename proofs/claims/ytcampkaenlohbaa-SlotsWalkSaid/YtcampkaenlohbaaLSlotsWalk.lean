/- SlotsWalk: whatever lists of steps and whatever number come in, All tells the table as at its call, whatever is done in the midst of the walk and behind it, as often as it is gone over; no condition but that the lists are of a size that may be. -/
import Derived.Test.YtcampkaenlohbaaW8
import Derived.Test.YtcampkaenlohbaaLf3x
import Derived.Test.YtcampkaenlohbaaRows
set_option linter.unusedVariables false
set_option linter.unusedSimpArgs false
namespace Go.Proofs.Ytcampkaenlohbaa
open Go Go.V Go.B
open Go.ChangeShapes Go.WideShapes Go.ChangeAt Go.RowKit

theorem own : ownKnob Try.prog.godebug = none := by kernel_rfl
theorem laidOut : laidOutB Try.prog = true := by kernel_rfl
theorem i46s : (Try.prog.info? 46).map (·.size) = some 1 := by kernel_rfl
set_option maxRecDepth 8000 in
theorem slotsWalkW_c {w : World} {A1 A2 : Option Addr} {n1 c1 n2 c2 : Nat} {os1 os2 : List Op} {early : Int} (ho1 : OpsAt w A1 n1 os1) (ho2 : OpsAt w A2 n2 os2) {R : Ending → World → Prop} (k : ∀ w', Ext [] w w' → R (.returned (.bool true)) w') :
    Calls Try.prog 7 #[.slice A1 n1 c1, .slice A2 n2 c2, .int .i64 early] w R := by
  have hn1 := ho1.2.2
  apply berthlaw05_SlotsWalk_nf
  intro w4 h4 w5 h5 w6 h6
  obtain ⟨b4, x4, z4⟩ := box_new (cs := [.slice A2 n2 c2]) h4
  obtain ⟨b5, x5, z5⟩ := box_new (cs := [.int .i64 early]) h5
  obtain ⟨b6, x6, z6⟩ := box_new (cs := [.bool false]) h6
  refine fixed_c fun w9 e9 => ⟨_, rfl, sel_false rfl (begin_c fun w15 wb tag rs st15 hwb => ⟨_, _, rfl, fun w16 h16 => ?_⟩)⟩
  obtain ⟨b16, x16, z16⟩ := box_new (cs := [.pointer none]) h16
  obtain ⟨w17, hr17, b17, x17⟩ := store1 (P := Try.prog) (v := .pointer (some ⟨wb, 0, none⟩)) i46s b16 (i := 0) (by simp) rfl rfl
  have s9 := e9.size
  have s15 := st15.e.size
  have s17 := x17.size
  have e17 : Ext [] w15 w17 := x16.newer x17 (fun b hb => by rw [List.mem_singleton.1 hb]; exact Nat.le_refl _)
  have st17 := st15.ext0 7 e17
  have e6 := (x4.trans x5).trans x6
  have g17 : Ext [] w w17 := ((e6.trans e9).trans st15.e).trans e17
  have ba17 : BlkT w17 w.heap.size [.slice A2 n2 c2] 23 := ((((b4.ext0 x5).ext0 x6).ext0 e9).ext0 st15.e).ext0 e17
  have be17 : BlkT w17 w4.heap.size [.int .i64 early] 3 := (((b5.ext0 x6).ext0 e9).ext0 st15.e).ext0 e17
  have br17 : BlkT w17 w5.heap.size [.bool false] 4 := ((b6.ext0 e9).ext0 st15.e).ext0 e17
  have hold : ∀ b, b < w9.heap.size → newtag tag w15.heap.size 7 b = 9 := fun b hb => by
    rcases st17.old b hb (by simp) with h1 | h1
    · exact h1
    · exact absurd h1.2 (by simp)
  have tb17 : Tabs w.heap.size wb [w.heap.size, w4.heap.size, w5.heap.size, w15.heap.size] w17 := by
    refine ⟨w9, [], [], _, rs, st17, fun b hb => ?_, by omega, by simp⟩
    simp only [List.mem_cons, List.not_mem_nil, or_false] at hb
    rcases hb with rfl | rfl | rfl | rfl
    · exact ⟨Nat.le_refl _, by omega, .inr (hold _ (by omega))⟩
    · exact ⟨by omega, by omega, .inr (hold _ (by omega))⟩
    · exact ⟨by omega, by omega, .inr (hold _ (by omega))⟩
    · exact ⟨by omega, by omega, .inl (newtag_new (Nat.le_refl _))⟩
  refine ⟨w17, hr17, sel_false rfl ?_⟩
  obtain ⟨Z0, hZ0⟩ : ∃ Z0, Z0 = [w.heap.size, w4.heap.size, w5.heap.size, w15.heap.size] := ⟨_, rfl⟩
  rw [← hZ0] at tb17
  refine ⟨fun t w' => ∃ a : Nat, t = a ∧ a ≤ n1 ∧ Tabs w.heap.size wb Z0 w' ∧ Fix w.heap.size Z0 w17 w', fun t _ => n1 - t.toNat, ⟨0, rfl, by omega, tb17, Fix.refl _ _ _⟩, ?_⟩
  rintro _ _ w24 ⟨a, rfl, ha, tb, fx⟩
  have e24 : Ext [] w w24 := fx.old g17
  have bw24 : BlkT w24 w15.heap.size [.pointer (some ⟨wb, 0, none⟩)] 46 := fx.blk b17 (by rw [hZ0]; simp)
  refine sel_dec (fun hlt => ?_) (fun hge => ?_)
  · obtain ⟨o, ad, hoo, rfl, ro⟩ := (ho1.ext0 e24).read (a := a) (by omega)
    refine when_dec ⟨by omega, by omega⟩ (ptr_in ⟨_, _, _, _, _, ro, fun w31 h31 => ?_⟩)
    obtain ⟨w32, hr32, b32, e32⟩ := op_box (o := o) h31
    obtain ⟨w33, hr33, b33, x33⟩ := store1a (P := Try.prog) (v := .int .i64 1) i3s b32 (i := 1) (by simp [Op.cells]) rfl rfl
    have e33 : Ext [] w24 w33 := e32.newer x33 (fun b hb => by rw [List.mem_singleton.1 hb]; exact Nat.le_refl _)
    have b33 : BlkT w33 w24.heap.size ({ o with at_ := 1 } : Op).cells 31 := b33
    have tb33 : Tabs w.heap.size wb Z0 w33 := tb.ext e33 (by simp) (fun b hb => .inl hb)
    have fx33 : Fix w.heap.size Z0 w17 w33 := fx.trans (Fix.new e24 e33)
    have go : ∀ w', Tabs w.heap.size wb Z0 w' → Fix w.heap.size Z0 w17 w' → (∃ a' : Nat, IntKind.wrap .i64 ((a : Int) + 1) = (a' : Int) ∧ a' ≤ n1 ∧ Tabs w.heap.size wb Z0 w' ∧ Fix w.heap.size Z0 w17 w') ∧ n1 - (IntKind.wrap .i64 ((a : Int) + 1)).toNat < n1 - ((a : Int)).toNat := fun w' h1 h2 => by
      rw [up64 a (by omega)]
      exact ⟨⟨a + 1, rfl, by omega, h1, h2⟩, by simp only [Int.toNat_natCast]; omega⟩
    exact ⟨w32, hr32, w33, hr33, _, cadd b33 (i := 0) rfl, sel_dec (fun h2 => ⟨_, cadd b33 (i := 0) rfl, sel_dec (fun h4 => ⟨_, (bw24.ext0 e33).cell (i := 0) rfl, _, _, _, _, _, cadd0 b33, tb33.step { o with at_ := 1 } fun w44 f44 tb44 => ⟨_, rfl, sel_false rfl (go w44 tb44 (fx33.trans f44))⟩⟩) (fun _ => go w33 tb33 fx33)⟩) (fun _ => go w33 tb33 fx33)⟩
  · obtain ⟨w0', X, Y, tag', rs', st, hZt, _⟩ := id tb
    obtain ⟨r, hr⟩ := st.at (i := 1) (by omega)
    have hri := st.regs 1 r (by omega) hr
    have d24 : Ext [] w24 w24.drew := (Ext.refl _ _).drew
    have rw_ : ∀ w', Ext [] w24 w' → World.cell? w' ⟨w15.heap.size, 0, none⟩ = some (.pointer (some ⟨wb, 0, none⟩)) := fun w' e => (bw24.ext0 e).cell (i := 0) rfl
    refine ⟨JW w24 r.s.rows, ⟨fun w' => Ext [] w24 w', d24, _, rw_, ptr_in ⟨_, fun w' e => (st.ext0 7 e).read_p hr, _, rw_, ptr_in ⟨_, _, _, _, cellsC_S (S := fun w' => Ext [] w24 w') (fun w' e => (st.ext0 7 e).read_d hr), orders_c hri.t hri.d⟩⟩⟩, ?_⟩
    rintro _ _ j w150 ⟨fb, gb, cb, CA, cc, WA, wn, wcap, rfl, rfl, bF, bG, bC, cC, cW, lW, e150, hlo⟩
    refine ptr_in ⟨_, #[], _, bF.cell (i := 0) rfl, fun w153 h153 w154 h154 w155 h155 w156 h156 => ?_⟩
    obtain ⟨b153, x153, z153⟩ := box_new (cs := [.slice none 0 0]) h153
    obtain ⟨b154, x154, z154⟩ := box_new (cs := [.slice none 0 0]) h154
    obtain ⟨b155, x155, z155⟩ := box_new (cs := [.slice none 0 0]) h155
    obtain ⟨b156, x156, z156⟩ := box_new (cs := [.int .i64 0]) h156
    obtain ⟨w157, hr157, b157, x157⟩ := store1 (P := Try.prog) (v := .int .i64 0) i3s b156 (i := 0) (by simp) rfl rfl
    have s24 := e24.size
    have s150 := e150.size
    have s157 := x157.size
    have hin : Ext [] w150 w155 := (x153.trans x154).trans x155
    have e157' : Ext [] w155 w157 := x156.newer x157 (fun b hb => by rw [List.mem_singleton.1 hb]; exact Nat.le_refl _)
    have f157 : Ext [] w150 w157 := hin.trans e157'
    have g157 : Ext [] w24 w157 := e150.trans f157
    have hf := hlo fb (by simp)
    have hg := hlo gb (by simp)
    have hc := hlo cb (by simp)
    have hCA : ∀ b ∈ ownF CA, w24.heap.size ≤ b ∧ b < w150.heap.size := fun b hb => hlo b (by simp [hb])
    have hWA : ∀ b ∈ ownF WA, w24.heap.size ≤ b ∧ b < w150.heap.size := fun b hb => hlo b (by simp [hb])
    have z0lt : ∀ b ∈ Z0, b < w24.heap.size := fun b hb => (tb.z b hb).2
    have hbw := z0lt w15.heap.size (by rw [hZ0]; simp)
    have hba := z0lt w.heap.size (by rw [hZ0]; simp)
    have hbe := z0lt w4.heap.size (by rw [hZ0]; simp)
    have hbr := z0lt w5.heap.size (by rw [hZ0]; simp)
    have hlen := hri.t.len
    have hdl := drs_len r.s.rows
    have hcp : r.s.rows.countP (·.held) ≤ r.s.rows.length := List.countP_le_length
    obtain ⟨K, hK⟩ : ∃ K : Wc, K = ⟨w.heap.size, w4.heap.size, w5.heap.size, w15.heap.size, wb, fb, gb, cb, w155.heap.size, A2, n2, c2, early, CA, cc, r.s.rows, WA, wn, wcap, os2⟩ := ⟨_, rfl⟩
    have zck : ∀ b ∈ Zc K, b ∈ Z0 ∨ (w24.heap.size ≤ b ∧ b < w150.heap.size) := fun b hb => by
      rw [hK] at hb
      simp only [Zc, List.mem_append, List.mem_cons, List.not_mem_nil, or_false] at hb
      rcases hb with ((rfl | rfl | rfl | rfl | rfl | rfl | rfl) | hb) | hb
      · exact .inl (by rw [hZ0]; simp)
      · exact .inl (by rw [hZ0]; simp)
      · exact .inl (by rw [hZ0]; simp)
      · exact .inl (by rw [hZ0]; simp)
      · exact .inr hf
      · exact .inr hg
      · exact .inr hc
      · exact .inr (hCA b hb)
      · exact .inr (hWA b hb)
    have zlt : ∀ b ∈ Zc K, b < w150.heap.size := fun b hb => by
      rcases zck b hb with h1 | h1
      · have := z0lt b h1; omega
      · exact h1.2
    have hw : Wf w K := ⟨by rw [hK]; exact ho2, by rw [hK]; exact lW, by rw [hK]; show wn ≤ 65536; omega, by rw [hK]; exact hlen, fun hm => by
      have := zlt _ hm
      rw [hK] at this
      have h5 : w155.heap.size < w150.heap.size := this
      omega⟩
    have ct_ : K.ct = w155.heap.size := by rw [hK]
    have sx : Sx K w157 := by
      rw [hK]
      exact ⟨(fx.blk ba17 (by rw [hZ0]; simp)).ext0 g157, (fx.blk be17 (by rw [hZ0]; simp)).ext0 g157, (fx.blk br17 (by rw [hZ0]; simp)).ext0 g157, bw24.ext0 g157, bF.ext0 f157, bG.ext0 f157, bC.ext0 f157, cC.ext0 f157, cW.ext0 f157⟩
    have wv : Wv w K w157 (w150.heap.size :: w153.heap.size :: w154.heap.size :: w155.heap.size :: Zc K) 0 := by
      refine ⟨e24.trans g157, ?_, fun b hb => by simp [hb], sx, ?_, by rw [ct_]; simp, Nat.zero_le _⟩
      · rw [show K.wb = wb by rw [hK]]
        refine tb.ext g157 (by simp) fun b hb => ?_
        simp only [List.mem_cons] at hb
        rcases hb with rfl | rfl | rfl | rfl | hb
        · exact .inr ⟨by omega, by omega⟩
        · exact .inr ⟨by omega, by omega⟩
        · exact .inr ⟨by omega, by omega⟩
        · exact .inr ⟨by omega, by omega⟩
        · rcases zck b hb with h1 | h1
          · exact .inl h1
          · exact .inr ⟨h1.1, by omega⟩
      · rw [ct_]; exact b157
    have key := loop1_c (s1 := w150.heap.size) (s2 := w153.heap.size) (s3 := w154.heap.size) hw wv (((b153.ext0 x154).ext0 x155).ext0 e157') ((b154.ext0 x155).ext0 e157') (b155.ext0 e157') (fun b hb => by
      simp only [List.mem_cons, List.not_mem_nil, or_false] at hb
      rcases hb with rfl | rfl | rfl
      · exact ⟨by simp, fun hm => by have := zlt _ hm; omega, by rw [ct_]; omega⟩
      · exact ⟨by simp, fun hm => by have := zlt _ hm; omega, by rw [ct_]; omega⟩
      · exact ⟨by simp, fun hm => by have := zlt _ hm; omega, by rw [ct_]; omega⟩) (by omega) (by omega) (by omega) k
    rw [hK] at key
    exact ⟨w157, hr157, key⟩
set_option maxRecDepth 8000 in
theorem slotsWalk_lifted (os : Os) (started : os.Started) (H : Type) (enc : TypeId × Value → H) :
    ReturnsInHanded {} Try.checked os 7 .any (Rows.slotsWalkSpec.pre6 enc Try.prog Try.f7 Rows.slotsWalkRow.domain false) (Rows.slotsWalkSpec.post enc Try.prog Try.f7 false true false false) :=
  lift3x (C := Try.checked) (T := 23) (U := 23) (X := 3) (tb := 4) own (by kernel_rfl) Try.func7 (by kernel_rfl) (by kernel_rfl) Try.underlying4 rfl (fun _ _ _ _ => rfl) laidOut (by kernel_rfl) (of_decide_eq_true (by kernel_rfl)) (by kernel_rfl) (of_decide_eq_true (by kernel_rfl)) (by kernel_rfl) (of_decide_eq_true (by kernel_rfl)) os started H enc
    (fun W base v v' v'' d d' d'' p p' p'' hok h hw hok' h' hw' hok'' h'' hw'' => by
      obtain ⟨A1, n1, c1, os1, rfl, ho1⟩ := open_ops hok h hw
      obtain ⟨A2, n2, c2, os2, rfl, ho2⟩ := open_ops hok' h' hw'
      obtain ⟨n, rfl, rfl, rfl, _⟩ := open_int Try.underlying3 hok'' h''
      exact slotsWalkW_c ho1 ho2 fun w' e => ⟨rfl, e.below⟩)
    (ChangeSpec.witness6 (enc := enc) (C := Try.checked) false ⟨#[], #[.slice none 0 0, .slice none 0 0, .int .i64 0], []⟩ 8 (by kernel_rfl) (by kernel_rfl) (by kernel_rfl) (by kernel_rfl))
theorem slotsWalk_holds : Rows.SlotsWalkSaid :=
  OpenClaim.holds_of_wide 7 Try.f7 rfl rfl rfl rfl rfl rfl rfl ⟨rfl, rfl, rfl, rfl, rfl⟩ rfl rfl rfl rfl rfl (by kernel_rfl) Try.func7 (by kernel_rfl)
    (of_decide_eq_true (by kernel_rfl)) (by unfold Func.isWrapper; first | (rw [if_pos (by decide +kernel)]; kernel_rfl) | (rw [if_neg (by decide +kernel)]; exact ⟨rfl, rfl⟩))
    (fun os started H enc _ => slotsWalk_lifted os started H enc)
end Go.Proofs.Ytcampkaenlohbaa
