/- Image: an image with one byte changed is refused. The arguments are together of bulk at most 1048576. -/
import Derived.Test.YtoaeefjcjdhlkaaGreatI22
import Derived.Test.YtoaeefjcjdhlkaaGreatOgW
set_option linter.unusedVariables false
set_option linter.unusedSimpArgs false
namespace Go.Proofs.YtoaeefjcjdhlkaaGreat
open Go Go.V Go.B
open Go.ChangeShapes Go.WideShapes Go.ChangeAt Go.RowKit Go.Joins Go.Deep
theorem own : ownKnob Tryz.prog.godebug = none := by kernel_rfl
theorem laidOut : laidOutB Tryz.prog = true := by kernel_rfl
set_option maxRecDepth 8000 in
theorem imageTurned_lifted (os : Os) (started : os.Started) (H : Type) (enc : TypeId × Value → H) (F : Stop.Interp) :
    ReturnsInHanded {} Tryz.checked os 4 .any ((Rows.OpenSpec.upto Rows.imageTurnedSpec).preRow enc Tryz.prog Tryz.f4 Rows.imageTurnedUptoRow.domain false []) (((Rows.OpenSpec.upto Rows.imageTurnedSpec).at F).post enc Tryz.prog Tryz.f4 false true false false) :=
  lift3U (C := Tryz.checked) (T := 26) (U := 3) (X := 5) (tb := 4) (k := Rows.uptoSmall) rfl own (by kernel_rfl) Tryz.func4 (by kernel_rfl) (by kernel_rfl) Tryz.underlying4 rfl (fun _ _ _ _ _ => rfl) laidOut (by kernel_rfl) (of_decide_eq_true (by kernel_rfl)) (by kernel_rfl) (of_decide_eq_true (by kernel_rfl)) (by kernel_rfl) (of_decide_eq_true (by kernel_rfl)) os started H enc F
    (fun W base v v' v'' d d' d'' p p' p'' hok h hw hok' h' hw' hok'' h'' hw'' hk => by
      have hk' : Rows.uptoBulkAll [d, d', d''] ≤ 1048576 := of_decide_eq_true hk
      simp only [Rows.uptoBulkAll] at hk'
      obtain ⟨r1, vs1, rfl, ht1, hr1, -, hl1⟩ := open_state hok h (by omega)
      obtain ⟨z, rfl, -⟩ := open_int Tryz.underlying3 hok' h'
      obtain ⟨y, rfl, -, -, hwf⟩ := open_int Tryz.underlying5 hok'' h''
      have hwf : (decide (IntKind.min .u8 ≤ y) && decide (y ≤ IntKind.max .u8)) = true := hwf
      simp only [Bool.and_eq_true, decide_eq_true_eq] at hwf
      have e0 : IntKind.min .u8 = 0 := by decide
      have e1 : IntKind.max .u8 = 255 := by decide
      exact imageTurned_c ht1 hr1 hl1 z y (by omega) (by omega) fun w' e => ⟨rfl, e.below⟩)
    (OpenSpec.witness (enc := enc) (C := Tryz.checked) (s := Rows.OpenSpec.upto Rows.imageTurnedSpec) (k := Rows.uptoSmall) rfl false ⟨#[], #[.agg #[.int .i64 0, .int .i64 0, .slice none 0 0, .slice none 0 0, .slice none 0 0], .int .i64 0, .int .u8 0], []⟩ 8 (by kernel_rfl) (by kernel_rfl) (by kernel_rfl) (x := ([.agg [.lit (.int .i64 0), .lit (.int .i64 0), .nil, .nil, .nil], .lit (.int .i64 0), .lit (.int .u8 0)], [], [])) (by kernel_rfl) (by kernel_rfl) (by kernel_rfl))
set_option maxRecDepth 8000 in
theorem imageTurned_holds : Rows.ImageTurnedUptoSaid :=
  OpenClaim.holds_of_cond 4 Tryz.f4 rfl rfl rfl rfl rfl rfl rfl ⟨rfl, rfl, rfl, rfl, rfl⟩ rfl rfl rfl rfl rfl (by kernel_rfl) Tryz.func4 (by kernel_rfl)
    (of_decide_eq_true (by kernel_rfl)) (by unfold Func.isWrapper; first | (rw [if_pos (by decide +kernel)]; kernel_rfl) | (rw [if_neg (by decide +kernel)]; exact ⟨rfl, rfl⟩))
    (fun os started H enc _ F => by
      rw [OpenClaim.pre_eq_preRow]
      exact imageTurned_lifted os started H enc F)
end Go.Proofs.YtoaeefjcjdhlkaaGreat
