/- Image: the document's Encode of a copy makes what Encode makes. The arguments are together of bulk at most 1048576. -/
import Derived.Test.YtoaeefjcjdhlkaaGreatI30
import Derived.Test.YtoaeefjcjdhlkaaGreatOgV
set_option linter.unusedVariables false
set_option linter.unusedSimpArgs false
namespace Go.Proofs.YtoaeefjcjdhlkaaGreat
open Go Go.V Go.B
set_option maxRecDepth 100000 in
theorem imageEncodes_c {w : World} {r : List D} {vs : List Value} (ht : tyR tState r) (hr : RepR w r vs) (hok : ∀ p ∈ flatR r, okP p) (hl : (imageS r).length ≤ 16777216) {R : Ending → World → Prop} (k : ∀ w', Ext [] w w' → R (.returned (.bool true)) w') :
    Calls Tryz.prog 3 #[.agg ⟨vs⟩] w R := by
  obtain ⟨a0, a1, A2, n2, c2, A3, n3, c3, A4, n4, c4, rfl⟩ := state_vs ht hr
  apply berthlaw26_ImageEncodes_nf
  intro w6 h6
  obtain ⟨p1, x1, z1⟩ := box_new (cs := stV a0 a1 A2 n2 c2 A3 n3 c3 A4 n4 c4) h6
  refine Small_c fun w9 x9 => ⟨_, rfl, sel_false rfl ⟨_, _, _, _, _, _, _, _, _, _, _, cadd0 (p1.ext x9 (by simp)), ?_⟩⟩
  have E9 := x1.trans x9
  refine copyState_c ht (hr.ext0 E9) fun w21 vs' x21 hr21 => ?_
  obtain ⟨e0, e1, B2, m2, d2, B3, m3, d3, B4, m4, d4, rfl⟩ := state_vs ht hr21.any
  refine ⟨_, _, _, _, _, _, _, _, _, _, _, rfl, ?_⟩
  refine EncodeRef_c ht hr21.any hok hl fun A n c w25 x25 o25 => ⟨_, _, _, _, rfl, ?_⟩
  have E25 := (E9.trans x21).trans x25
  refine ⟨_, _, _, _, _, _, _, _, _, _, _, cadd0 (p1.ext ((x9.trans x21).trans x25) (by simp)), ?_⟩
  refine encode_c ht (hr.ext0 E25) hl fun A6 n6 c6 w34 x34 o34 => ⟨_, _, _, _, rfl, sel_true rfl ?_⟩
  refine equalB_c o34.cells o34.len (o25.cells.ext0 x34) o25.len ⟨_, rfl, ?_⟩
  simp only [decide_true]
  exact k w34 (E25.trans x34)
open Go.ChangeShapes Go.WideShapes Go.ChangeAt Go.RowKit Go.Joins Go.Deep
theorem own : ownKnob Tryz.prog.godebug = none := by kernel_rfl
theorem laidOut : laidOutB Tryz.prog = true := by kernel_rfl
set_option maxRecDepth 8000 in
theorem imageEncodes_lifted (os : Os) (started : os.Started) (H : Type) (enc : TypeId × Value → H) (F : Stop.Interp) :
    ReturnsInHanded {} Tryz.checked os 3 .any ((Rows.OpenSpec.upto Rows.imageEncodesSpec).preRow enc Tryz.prog Tryz.f3 Rows.imageEncodesUptoRow.domain false []) (((Rows.OpenSpec.upto Rows.imageEncodesSpec).at F).post enc Tryz.prog Tryz.f3 false true false false) :=
  lift1U (C := Tryz.checked) (T := 26) (tb := 4) (k := Rows.uptoSmall) rfl own (by kernel_rfl) Tryz.func3 (by kernel_rfl) (by kernel_rfl) Tryz.underlying4 rfl (fun _ _ _ => rfl) laidOut (by kernel_rfl) (of_decide_eq_true (by kernel_rfl)) os started H enc F
    (fun W base v d p hok h hw hk => by
      have hk' : Rows.uptoBulkAll [d] ≤ 1048576 := of_decide_eq_true hk
      simp only [Rows.uptoBulkAll] at hk'
      obtain ⟨r1, vs1, rfl, ht1, hr1, hb1, hl1⟩ := open_state hok h (by omega)
      exact imageEncodes_c ht1 hr1 (ok_R ht1 hb1) hl1 fun w' e => ⟨rfl, e.below⟩)
    (OpenSpec.witness (enc := enc) (C := Tryz.checked) (s := Rows.OpenSpec.upto Rows.imageEncodesSpec) (k := Rows.uptoSmall) rfl false ⟨#[], #[.agg #[.int .i64 0, .int .i64 0, .slice none 0 0, .slice none 0 0, .slice none 0 0]], []⟩ 8 (by kernel_rfl) (by kernel_rfl) (by kernel_rfl) (x := ([.agg [.lit (.int .i64 0), .lit (.int .i64 0), .nil, .nil, .nil]], [], [])) (by kernel_rfl) (by kernel_rfl) (by kernel_rfl))
set_option maxRecDepth 8000 in
theorem imageEncodes_holds : Rows.ImageEncodesUptoSaid :=
  OpenClaim.holds_of_cond 3 Tryz.f3 rfl rfl rfl rfl rfl rfl rfl ⟨rfl, rfl, rfl, rfl, rfl⟩ rfl rfl rfl rfl rfl (by kernel_rfl) Tryz.func3 (by kernel_rfl)
    (of_decide_eq_true (by kernel_rfl)) (by unfold Func.isWrapper; first | (rw [if_pos (by decide +kernel)]; kernel_rfl) | (rw [if_neg (by decide +kernel)]; exact ⟨rfl, rfl⟩))
    (fun os started H enc _ F => by
      rw [OpenClaim.pre_eq_preRow]
      exact imageEncodes_lifted os started H enc F)
end Go.Proofs.YtoaeefjcjdhlkaaGreat
