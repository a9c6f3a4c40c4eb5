/- Image: there and back. -/
import Derived.Test.YtoaeefjcjdhlkaaGreatI26
set_option linter.unusedVariables false
set_option linter.unusedSimpArgs false
namespace Go.Proofs.YtoaeefjcjdhlkaaGreat
open Go Go.V Go.B

set_option maxRecDepth 100000 in
theorem imageBack_c {w : World} {r : List D} {vs : List Value} (ht : tyR tState r) (hr : RepR w r vs) (hl : (imageS r).length ≤ 16777216) {R : Ending → World → Prop} (k : ∀ w', Ext [] w w' → R (.returned (.bool true)) w') :
    Calls Tryz.prog 8 #[.agg ⟨vs⟩] w R := by
  obtain ⟨a0, a1, A2, n2, c2, A3, n3, c3, A4, n4, c4, rfl⟩ := state_vs ht hr
  apply berthlaw26_ImageBack_nf
  intro w6 h6
  obtain ⟨p1, x1, z1⟩ := box_new (cs := stV a0 a1 A2 n2 c2 A3 n3 c3 A4 n4 c4) h6
  refine Small_c fun w9 x9 => ⟨_, rfl, sel_false rfl ⟨_, _, _, _, _, _, _, _, _, _, _, cadd0 (p1.ext x9 (by simp)), ?_⟩⟩
  have E9 := x1.trans x9
  refine copyState_c ht (hr.ext0 E9) fun w21 vs' x21 hr21 => ?_
  obtain ⟨e0, e1, B2, m2, d2, B3, m3, d3, B4, m4, d4, rfl⟩ := state_vs ht hr21.any
  refine ⟨_, _, _, _, _, _, _, _, _, _, _, rfl, ?_⟩
  refine encode_c ht hr21.any hl fun A n c w25 x25 o25 => ⟨_, _, _, _, rfl, sel_false rfl ?_⟩
  have E25 := (E9.trans x21).trans x25
  have hn := o25.len
  refine clone_c o25.cells hn (by omega) fun A' c' w36 x36 o36 => ⟨_, _, _, rfl, ?_⟩
  refine Decode_c o36.cells hn o36.cap ?_
  rw [decode_image good_state ht hl]
  intro w44 vs'' x44 _ hr44
  obtain ⟨f0, f1, F2, g2, h2, F3, g3, h3, F4, g4, h4, rfl⟩ := state_vs ht hr44.any
  refine ⟨_, _, _, _, _, _, _, _, _, _, _, _, rfl, fun w45 h45 => ?_⟩
  obtain ⟨b45, x45, z45⟩ := box_new (cs := zeroState) h45
  obtain ⟨w46, hs46, p46, x46⟩ := storeW (P := Tryz.prog) (t := 26) (n := 5) iState b45 (vs := stV f0 f1 F2 g2 h2 F3 g3 h3 F4 g4 h4) rfl rfl (by simp [Value.oneCell'])
  have x25_44 := x36.trans x44
  have s44 := x25_44.size
  have x25_46 : Ext [] w25 w46 := (x25_44.trans x45).trans' x46 fun x hx => by simp at hx; subst hx; exact .inr s44
  have E46 := E25.trans x25_46
  have p6' := p1.ext ((x9.trans x21).trans (x25.trans x25_46)) (by simp)
  refine ⟨w46, hs46, when_intro rfl (sel_false rfl ⟨_, _, _, _, _, _, _, _, _, _, _, cadd0 p46, _, _, _, _, _, _, _, _, _, _, _, cadd0 p6', ?_⟩)⟩
  have hrb : RepR w46 r (stV f0 f1 F2 g2 h2 F3 g3 h3 F4 g4 h4) := RepPR.any (P := NewB w36 w44) (RepPR.ext x46 (fun b hb hm => by simp at hm; have := hb.2; omega) (fun b hb => hb) (RepPR.ext x45 (by simp) (fun b hb => hb) hr44))
  refine sameState_c ht hrb ht (hr.ext0 E46) fun w59 t x59 g => ⟨t, rfl, ?_⟩
  rw [g.2 rfl]
  refine sel_false rfl ⟨_, _, _, _, _, _, _, _, _, _, _, cadd0 (p46.ext x59 (by simp)), ?_⟩
  refine encode_c ht (hrb.ext0 x59) hl fun A6 n6 c6 w68 x68 o68 => ⟨_, _, _, _, rfl, sel_true rfl ?_⟩
  refine equalB_c o68.cells o68.len ((o25.cells.ext0 x25_46).ext0 (x59.trans x68)) hn ⟨_, rfl, ?_⟩
  simp only [decide_true]
  exact k w68 (E46.trans (x59.trans x68))
end Go.Proofs.YtoaeefjcjdhlkaaGreat
