/- The closed sentence berthlaw07.PostingNames returns true, whatever the memory is; no condition. -/
import Derived.Test.YtejikfdjahjneaaB
import Derived.Test.YtejikfdjahjneaaNX
import Derived.Test.YtejikfdjahjneaaRows
import Derived.ProofKit
import Derived.OpenShut
import Derived.ShutString
import Derived.ChangeOld
import Derived.Below
import Derived.SizedLaws
set_option linter.unusedVariables false
set_option linter.unusedSimpArgs false
namespace Go.Proofs.Ytejikfdjahjneaa
open Go Go.V Go.B
open Go.ChangeShapes Go.WideShapes Go.ChangeAt Go.RowKit
open Go.ChangeMaps (open_string shut_string)

theorem num_c (e : Int) {w : World} {R : Ending → World → Prop} (k : R (.returned (.int .i64 e)) w) : Calls Try.prog 4 #[.int .i64 e] w R := by
  apply berthlaw07_num_nf
  exact k
theorem postingNames_walk (w : World) : Calls Try.prog 3 #[] w fun e w' => e = .returned (.bool true) ∧ Below w.heap.size w w' := by
  apply berthlaw07_PostingNames_nf
  exact num_c _ ⟨_, rfl, sel_true rfl (num_c _ ⟨_, rfl, sel_true rfl (num_c _ ⟨_, rfl, sel_true rfl (num_c _ ⟨_, rfl, sel_true rfl (num_c _ ⟨_, rfl, sel_true rfl ⟨rfl, Below.refl _ _⟩⟩)⟩)⟩)⟩)⟩
theorem own : ownKnob Try.prog.godebug = none := by kernel_rfl
set_option maxRecDepth 100000 in
theorem postingNames_lifted (os : Os) (started : os.Started) (H : Type) (enc : TypeId × Value → H) :
    ReturnsInHanded {} Try.checked os 3 .any (Rows.postingNamesSpec.pre6 enc Try.prog Try.f3 Rows.postingNamesRow.domain false) (Rows.postingNamesSpec.post enc Try.prog Try.f3 false true false false) := by
  refine returnsInHanded_of_change_sized (C := Try.checked) own started (by kernel_rfl) Try.func3
    (ChangeSpec.witness6 (enc := enc) (C := Try.checked) false ⟨#[], #[], []⟩ 8 (by kernel_rfl) (by kernel_rfl) (by kernel_rfl) (by kernel_rfl)) ?_
  intro W base args ds gs before hval0 hW hcnd hsz0 _
  have hW' := hW
  obtain ⟨p, q, hA0, hV, rfl, hfz, hnd⟩ := hW
  have hA : DataW.TrodAll enc Try.prog W 0 (fun _ => true) true Try.f3.params.toList args.toList ds p := hA0
  rw [Try.params3] at hA
  obtain ⟨rfl, rfl, rfl⟩ := trodAll_none hA
  obtain ⟨rfl, rfl⟩ := trodVars_none hV
  clear hA0 hval0 hsz0
  refine (postingNames_walk W).mono fun e W' ⟨he, bel⟩ => ?_
  subst he
  exact ⟨_, rfl, _, _, _, [], _, [], hW', trodAll_mk1 (shut_bool Try.underlying4 _), trodAll_mk0, rfl, bel.frame _, fun h => by cases h⟩
theorem postingNames_holds : Rows.PostingNamesSaid :=
  OpenClaim.holds_of_wide 3 Try.f3 rfl rfl rfl rfl rfl rfl rfl ⟨rfl, rfl, rfl, rfl, rfl⟩ rfl rfl rfl rfl rfl (by kernel_rfl) Try.func3 (by kernel_rfl)
    (of_decide_eq_true (by kernel_rfl)) (by unfold Func.isWrapper; first | (rw [if_pos (by decide +kernel)]; kernel_rfl) | (rw [if_neg (by decide +kernel)]; exact ⟨rfl, rfl⟩))
    (fun os started H enc _ => postingNames_lifted os started H enc)
end Go.Proofs.Ytejikfdjahjneaa
