/- Labels: a step that asks texts and numbers; every step. -/
import Derived.Test.YtcohengppaighaaGreatDoorLt3
set_option linter.unusedVariables false
set_option linter.unusedSimpArgs false
namespace Go.Proofs.YtcohengppaighaaGreatDoor
open Go Go.V Go.B

section
variable {w : World} {R : Ending → World → Prop}
theorem texts_c {o : LOp} (hp : Pow w) (h : o.In w) (k : ∀ w', Ext [] w w' → R (.returned (.bool true)) w') : Calls Tryz.prog 45 #[.agg ⟨o.cells⟩] w R := by
  obtain ⟨kind, A, n, c, l, B, m, c2, l2, D, q, c3, ds, text, key, value, num⟩ := o
  have htext : text.size ≤ 140737488351232 := h.text
  show Calls _ _ #[.agg #[.int .i64 kind, .slice A n c, .slice B m c2, .slice D q c3, .string text, .string key, .string value, .int .i64 num]] w R
  apply berthlaw03_texts_nf
  intro w9 h9
  obtain ⟨b9, x9, z9⟩ := box_new (cs := LOp.cells ⟨kind, A, n, c, l, B, m, c2, l2, D, q, c3, ds, text, key, value, num⟩) h9
  have b9d := b9.ext (Ext.refl [] w9).drew (by simp)
  have x9d := x9.drew
  have S : ∀ w', Ext [] w9.drew w' → BlkT w' w.heap.size _ _ := fun w' e => b9d.ext e (by simp)
  refine ⟨_, cadd b9 rfl, sel_intro (fun _ => ?_) (fun _ => sel_intro (fun _ => ?_) (fun _ => sel_intro (fun _ => ?_) (fun _ => sel_intro (fun _ => ?_) (fun _ => ?_))))⟩
  · refine ⟨fun w' => Ext [] w9.drew w', Ext.refl _ _, _, fun w' e => cadd (S w' e) rfl, _, fun w' e => cadd (S w' e) rfl, IsName_c text fun w17 e17 => ⟨_, rfl, e17, rIsName_c text fun w20 e20 => ⟨_, rfl, e17.trans e20, ?_⟩⟩⟩
    rw [beq_self_eq_true]
    exact k _ (x9d.trans (e17.trans e20))
  · refine ⟨fun w' => Ext [] w9.drew w', Ext.refl _ _, _, fun w' e => cadd (S w' e) rfl, _, fun w' e => cadd (S w' e) rfl, IsKey_c text (by omega) fun w17 e17 => ⟨_, rfl, e17, rIsKey_c text fun w20 e20 => ⟨_, rfl, e17.trans e20, ?_⟩⟩⟩
    rw [beq_self_eq_true]
    exact k _ (x9d.trans (e17.trans e20))
  · refine ⟨fun w' => Ext [] w9.drew w', Ext.refl _ _, _, fun w' e => cadd (S w' e) rfl, _, fun w' e => cadd (S w' e) rfl, IsValue_c text ⟨_, rfl, Ext.refl _ _, rIsValue_c text ⟨_, rfl, Ext.refl _ _, ?_⟩⟩⟩
    rw [beq_self_eq_true]
    exact k _ x9d
  · refine ⟨_, cadd b9 rfl, Int_c text (fun h0 => ?_) (fun v hv => ?_)⟩
    · refine ⟨_, _, rfl, _, cadd b9 rfl, rInt_c text (fun _ => ⟨_, _, rfl, sel_true rfl (k _ x9)⟩) (fun v hv => ?_)⟩
      have hv : Go.B.intOf text.data.toList = some v := hv
      rw [h0] at hv; cases hv
    · refine ⟨_, _, rfl, _, cadd b9 rfl, rInt_c text (fun h0 => ?_) (fun v' hv' => ?_)⟩
      · have h0 : Go.B.intOf text.data.toList = none := h0
        rw [h0] at hv; cases hv
      · have hv' : Go.B.intOf text.data.toList = some v' := hv'
        rw [hv] at hv'; cases hv'
        refine ⟨_, _, rfl, sel_true (beq_self_eq_true _) (k _ x9)⟩
  · refine ⟨_, cadd b9 rfl, IntText_c (hp.ext0 x9) num (fun h0 => ?_) (fun w55 e55 h0 => ?_)⟩
    · exact ⟨_, _, rfl, _, cadd b9 rfl, rIntText_c num (fun _ => ⟨_, _, rfl, sel_true (by rw [beqBytes, decide_eq_true rfl]) (k _ x9)⟩) (fun w60 e60 h1 => absurd h1 h0)⟩
    · exact ⟨_, _, rfl, _, cadd (b9.ext e55 (by simp)) rfl, rIntText_c num (fun h1 => absurd h0 h1) (fun w60 e60 _ => ⟨_, _, rfl, sel_true (by rw [beqBytes, decide_eq_true rfl]) (k _ ((x9.trans e55).trans e60))⟩)⟩
theorem plays_texts {o : LOp} (hp : Pow w) (h : o.In w) (h1 : 1 ≤ o.kind) (h2 : o.kind ≤ 5) (k : ∀ w', Ext [] w w' → R (.returned (.bool true)) w') : Calls Tryz.prog 24 #[.agg ⟨o.cells⟩] w R := by
  obtain ⟨kind, A, n, c, l, B, m, c2, l2, D, q, c3, ds, text, key, value, num⟩ := o
  have h1 : 1 ≤ kind := h1
  have h2 : kind ≤ 5 := h2
  show Calls _ _ #[.agg #[.int .i64 kind, .slice A n c, .slice B m c2, .slice D q c3, .string text, .string key, .string value, .int .i64 num]] w R
  apply berthlaw03_plays_nf
  intro w9 h9
  obtain ⟨b9, x9, z9⟩ := box_new (cs := LOp.cells ⟨kind, A, n, c, l, B, m, c2, l2, D, q, c3, ds, text, key, value, num⟩) h9
  refine ⟨_, cadd b9 rfl, sel_dec (fun _ => ⟨_, cadd b9 rfl, sel_dec (fun _ => ?_) (fun hh => absurd h2 hh)⟩) (fun hh => absurd h1 hh)⟩
  exact ⟨_, _, _, _, _, _, _, _, _, _, _, _, _, _, cadd0 b9, texts_c (hp.ext0 x9) (h.ext0 x9) fun w' e => ⟨_, rfl, k _ (x9.trans e)⟩⟩
end
theorem woken_key : keyS (bs ⟨#[97, 46, 98, 47, 67, 95, 100]⟩) = true := by decide
end Go.Proofs.YtcohengppaighaaGreatDoor
