/- Whatever script comes in, berthlaw25.QueueNil returns true and leaves what came in as it was. -/
import Derived.Test.YtfjgiaimlmnepaaQ9
import Derived.Test.YtfjgiaimlmnepaaRows
set_option linter.unusedVariables false
set_option linter.unusedSimpArgs false
namespace Go.Proofs.Ytfjgiaimlmnepaa
open Go Go.V Go.B
open Go.ChangeShapes Go.WideShapes Go.ChangeAt Go.RowKit

theorem own : ownKnob Try.prog.godebug = none := by kernel_rfl
theorem laidOut : laidOutB Try.prog = true := by kernel_rfl
theorem queueNil_c {W : World} {A : Option Addr} {n c : Nat} {ops : List Op} (ho : OpsAt W A n ops) {R : Ending → World → Prop} (k : ∀ w', Ext [] W w' → R (.returned (.bool true)) w') : Calls Try.prog 7 #[.slice A n c] W R := by
  apply berthlaw25_QueueNil_nf
  have hb := ho.2.2.2
  refine awake_c fun w1 e1 => ⟨_, rfl, sel_false rfl ?_⟩
  refine ⟨fun t w' => ∃ a : Nat, t = a ∧ a ≤ n ∧ Ext [] W w', fun t _ => n - t.toNat, ⟨0, rfl, by omega, e1⟩, ?_⟩
  rintro _ _ w2 ⟨a, rfl, ha, e2⟩
  refine sel_dec (fun hlt => ?_) (fun hge => ?_)
  · obtain ⟨o, ad, hoa, rfl, rd⟩ := (ho.ext0 e2).read (a := a) (by omega)
    refine when_dec ⟨by omega, by omega⟩ (ptr_in ⟨_, _, _, _, _, _, _, rd, fun w3 h3 => ?_⟩)
    obtain ⟨w4, hr4, b4, e4⟩ := op_box (o := o) h3
    refine ⟨w4, hr4, _, cadd b4 rfl, Take_nil fun w5 e5 => ⟨_, _, _, _, _, _, _, rfl, fun w6 h6 => ?_⟩⟩
    obtain ⟨w7, hr7, b7, e7⟩ := wt_box (x := Wt.zero) h6
    have b47 := (b4.ext e5 (by simp)).ext e7 (by simp)
    refine ⟨w7, hr7, _, cadd b47 rfl, Ready_nil ⟨_, _, rfl, Wake_nil ⟨rfl, _, cadd b47 rfl, _, cadd b47 rfl, Push_nil ⟨_, rfl, num_c _ ⟨_, rfl, sel_false rfl (num_c _ ⟨_, rfl, sel_false rfl ⟨_, _, _, _, _, _, cadd0 b7,
      sel_false (by show (!(same Wt.zero Wt.zero)) = false; rw [same_iff.2 rfl]; rfl) ⟨_, cadd b47 rfl, _, cadd b47 rfl, Park_nil ⟨_, rfl, num_c _ ⟨_, rfl, sel_false rfl (sel_false rfl (sel_false (by rw [beqBytes]; rfl) ?_))⟩⟩⟩⟩⟩)⟩⟩⟩⟩⟩
    rw [up64 a (by omega)]
    exact ⟨⟨a + 1, rfl, by omega, ((e2.trans e4).trans e5).trans e7⟩, by simp only [Int.toNat_natCast]; omega⟩
  · exact Len_nil ⟨_, rfl, sel_true rfl (Next_nil ⟨_, rfl, sel_true rfl (List_nil ⟨_, _, _, rfl, k w2 e2⟩)⟩)⟩
theorem queueNil_lifted (os : Os) (started : os.Started) (H : Type) (enc : TypeId × Value → H) :
    ReturnsInHanded {} Try.checked os 7 .any (Rows.queueNilSpec.pre6 enc Try.prog Try.f7 Rows.queueNilRow.domain false) (Rows.queueNilSpec.post enc Try.prog Try.f7 false true false false) :=
  lift1 (C := Try.checked) (T := 25) (tb := 4) own (by kernel_rfl) Try.func7 (by kernel_rfl) (by kernel_rfl) Try.underlying4 rfl (fun _ _ => rfl) laidOut (by kernel_rfl) (of_decide_eq_true (by kernel_rfl)) os started H enc
    (fun W base v d p hok h hw => by
      obtain ⟨A, n, c, ops, rfl, ho, hnc⟩ := open_ops hok h hw
      exact queueNil_c ho fun w' e => ⟨rfl, e.below⟩)
    (ChangeSpec.witness6 (enc := enc) (C := Try.checked) false ⟨#[], #[.slice none 0 0], []⟩ 8 (by kernel_rfl) (by kernel_rfl) (by kernel_rfl) (by kernel_rfl))
theorem queueNil_holds : Rows.QueueNilSaid :=
  OpenClaim.holds_of_wide 7 Try.f7 rfl rfl rfl rfl rfl rfl rfl ⟨rfl, rfl, rfl, rfl, rfl⟩ rfl rfl rfl rfl rfl (by kernel_rfl) Try.func7 (by kernel_rfl)
    (of_decide_eq_true (by kernel_rfl)) (by unfold Func.isWrapper; first | (rw [if_pos (by decide +kernel)]; kernel_rfl) | (rw [if_neg (by decide +kernel)]; exact ⟨rfl, rfl⟩))
    (fun os started H enc _ => queueNil_lifted os started H enc)
end Go.Proofs.Ytfjgiaimlmnepaa
