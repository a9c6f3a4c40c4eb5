/- SlotsAnswers: every call's answer over several tables, one of them nil, in every order; the queries as the script asks for them, and all of them at its end; no condition but that the list is of a size that may be. -/
import Derived.Test.YtcampkaenlohbaaK20
import Derived.Test.YtcampkaenlohbaaRows
set_option linter.unusedVariables false
set_option linter.unusedSimpArgs false
namespace Go.Proofs.Ytcampkaenlohbaa
open Go Go.V Go.B
open Go.ChangeShapes Go.WideShapes Go.ChangeAt Go.RowKit

theorem own : ownKnob Try.prog.godebug = none := by kernel_rfl
theorem laidOut : laidOutB Try.prog = true := by kernel_rfl

theorem slotsAnswers_c {w : World} {A : Option Addr} {n c : Nat} {ops : List Op} (ho : OpsAt w A n ops) {R : Ending → World → Prop} (k : ∀ w', Ext [] w w' → R (.returned (.bool true)) w') : Calls Try.prog 6 #[.slice A n c] w R := by
  have hnb := ho.2.2
  apply berthlaw05_SlotsAnswers_nf
  refine fixed_c fun w4 e4 => ⟨_, rfl, sel_false rfl (begin_c fun w8 wb tag rs st8 hwb => ⟨_, _, rfl, sel_false rfl ?_⟩)⟩
  refine ⟨fun t w' => ∃ a : Nat, t = a ∧ a ≤ n ∧ ∃ tag rs, St w4 [] w' wb tag rs 4, fun t _ => n - t.toNat, ⟨0, rfl, by omega, tag, rs, st8⟩, ?_⟩
  rintro _ _ w13 ⟨a, rfl, ha, tag, rs, st⟩
  refine sel_dec (fun hlt => ?_) (fun hge => ?_)
  · obtain ⟨o, ad, hoo, rfl, ro⟩ := (ho.ext0 (e4.trans st.e)).read (a := a) (by omega)
    refine when_dec ⟨by omega, by omega⟩ (ptr_in ⟨_, _, _, _, _, ro, fun w20 h20 => ?_⟩)
    obtain ⟨w21, hr21, b21, e21⟩ := op_box (o := o) h20
    refine ⟨w21, hr21, _, _, _, _, _, cadd0 b21, step_c (st.ext0 7 e21) o fun w29 tag' rs' st' => ⟨_, rfl, sel_false rfl ?_⟩⟩
    rw [up64 a (by omega)]
    exact ⟨⟨a + 1, rfl, by omega, tag', rs', st'⟩, by simp only [Int.toNat_natCast]; omega⟩
  · refine ⟨fun t w' => ∃ a : Nat, t = a ∧ a ≤ 4 ∧ Ext [] w13 w', fun t _ => 4 - t.toNat, ⟨0, rfl, by omega, Ext.refl _ _⟩, ?_⟩
    rintro _ _ w34 ⟨i, rfl, hi, e34⟩
    have st34 := st.ext0 7 e34
    refine sel_dec (fun hlt => ?_) (fun hge => k w34 (e4.trans st34.e))
    have hi4 : i < 4 := by omega
    have ii : (0 : Int) ≤ (i : Int) ∧ (i : Int) < 4 := by omega
    obtain ⟨r, hr⟩ := st34.at hi4
    have hri := st34.regs i r (by omega) hr
    refine ⟨fun w' => Ext [] w34 w', (Ext.refl _ _).drew, ptr_in (when_dec ii ⟨_, fun w' e => (st34.ext0 7 e).read_p hr, ptr_in (when_dec ii ⟨_, _, _, _, cellsC_S (S := fun w' => Ext [] w34 w') (fun w' e => (st34.ext0 7 e).read_d hr), seen_c (hri.t.ext0 (Ext.refl [] w34).drew) (hri.d.ext0 (Ext.refl [] w34).drew) _ fun w44 e44 => ⟨_, rfl, e44.undrew, sel_false rfl ?_⟩⟩)⟩)⟩
    rw [up64 i (by omega)]
    exact ⟨⟨i + 1, rfl, by omega, e34.trans e44.undrew⟩, by simp only [Int.toNat_natCast]; omega⟩
set_option maxRecDepth 8000 in
theorem slotsAnswers_lifted (os : Os) (started : os.Started) (H : Type) (enc : TypeId × Value → H) :
    ReturnsInHanded {} Try.checked os 6 .any (Rows.slotsAnswersSpec.pre6 enc Try.prog Try.f6 Rows.slotsAnswersRow.domain false) (Rows.slotsAnswersSpec.post enc Try.prog Try.f6 false true false false) :=
  lift1 (C := Try.checked) (T := 23) (tb := 4) own (by kernel_rfl) Try.func6 (by kernel_rfl) (by kernel_rfl) Try.underlying4 rfl (fun _ _ => rfl) laidOut (by kernel_rfl) (of_decide_eq_true (by kernel_rfl)) os started H enc
    (fun W base v d p hok h hw => by
      obtain ⟨A, n, c, ops, rfl, ho⟩ := open_ops hok h hw
      exact slotsAnswers_c ho fun w' e => ⟨rfl, e.below⟩)
    (ChangeSpec.witness6 (enc := enc) (C := Try.checked) false ⟨#[], #[.slice none 0 0], []⟩ 8 (by kernel_rfl) (by kernel_rfl) (by kernel_rfl) (by kernel_rfl))
theorem slotsAnswers_holds : Rows.SlotsAnswersSaid :=
  OpenClaim.holds_of_wide 6 Try.f6 rfl rfl rfl rfl rfl rfl rfl ⟨rfl, rfl, rfl, rfl, rfl⟩ rfl rfl rfl rfl rfl (by kernel_rfl) Try.func6 (by kernel_rfl)
    (of_decide_eq_true (by kernel_rfl)) (by unfold Func.isWrapper; first | (rw [if_pos (by decide +kernel)]; kernel_rfl) | (rw [if_neg (by decide +kernel)]; exact ⟨rfl, rfl⟩))
    (fun os started H enc _ => slotsAnswers_lifted os started H enc)
end Go.Proofs.Ytcampkaenlohbaa
