/- Image: what Encode makes of a state Decode reads as that state, again and again. The arguments are together of bulk at most 1048576. -/
import Derived.Test.YtoaeefjcjdhlkaaGreatI27
import Derived.Test.YtoaeefjcjdhlkaaGreatOgV
set_option linter.unusedVariables false
set_option linter.unusedSimpArgs false
namespace Go.Proofs.YtoaeefjcjdhlkaaGreat
open Go Go.V Go.B
open Go.ChangeShapes Go.WideShapes Go.ChangeAt Go.RowKit Go.Joins Go.Deep
theorem own : ownKnob Tryz.prog.godebug = none := by kernel_rfl
theorem laidOut : laidOutB Tryz.prog = true := by kernel_rfl
set_option maxRecDepth 8000 in
theorem imageBack_lifted (os : Os) (started : os.Started) (H : Type) (enc : TypeId × Value → H) (F : Stop.Interp) :
    ReturnsInHanded {} Tryz.checked os 8 .any ((Rows.OpenSpec.upto Rows.imageBackSpec).preRow enc Tryz.prog Tryz.f8 Rows.imageBackUptoRow.domain false []) (((Rows.OpenSpec.upto Rows.imageBackSpec).at F).post enc Tryz.prog Tryz.f8 false true false false) :=
  lift1U (C := Tryz.checked) (T := 26) (tb := 4) (k := Rows.uptoSmall) rfl own (by kernel_rfl) Tryz.func8 (by kernel_rfl) (by kernel_rfl) Tryz.underlying4 rfl (fun _ _ _ => rfl) laidOut (by kernel_rfl) (of_decide_eq_true (by kernel_rfl)) os started H enc F
    (fun W base v d p hok h hw hk => by
      have hk' : Rows.uptoBulkAll [d] ≤ 1048576 := of_decide_eq_true hk
      simp only [Rows.uptoBulkAll] at hk'
      obtain ⟨r1, vs1, rfl, ht1, hr1, -, hl1⟩ := open_state hok h (by omega)
      exact imageBack_c ht1 hr1 hl1 fun w' e => ⟨rfl, e.below⟩)
    (OpenSpec.witness (enc := enc) (C := Tryz.checked) (s := Rows.OpenSpec.upto Rows.imageBackSpec) (k := Rows.uptoSmall) rfl false ⟨#[], #[.agg #[.int .i64 0, .int .i64 0, .slice none 0 0, .slice none 0 0, .slice none 0 0]], []⟩ 8 (by kernel_rfl) (by kernel_rfl) (by kernel_rfl) (x := ([.agg [.lit (.int .i64 0), .lit (.int .i64 0), .nil, .nil, .nil]], [], [])) (by kernel_rfl) (by kernel_rfl) (by kernel_rfl))
set_option maxRecDepth 8000 in
theorem imageBack_holds : Rows.ImageBackUptoSaid :=
  OpenClaim.holds_of_cond 8 Tryz.f8 rfl rfl rfl rfl rfl rfl rfl ⟨rfl, rfl, rfl, rfl, rfl⟩ rfl rfl rfl rfl rfl (by kernel_rfl) Tryz.func8 (by kernel_rfl)
    (of_decide_eq_true (by kernel_rfl)) (by unfold Func.isWrapper; first | (rw [if_pos (by decide +kernel)]; kernel_rfl) | (rw [if_neg (by decide +kernel)]; exact ⟨rfl, rfl⟩))
    (fun os started H enc _ F => by
      rw [OpenClaim.pre_eq_preRow]
      exact imageBack_lifted os started H enc F)
end Go.Proofs.YtoaeefjcjdhlkaaGreat
