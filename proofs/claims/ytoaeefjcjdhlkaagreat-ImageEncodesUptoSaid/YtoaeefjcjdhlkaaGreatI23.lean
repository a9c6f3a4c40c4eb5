/- Image: longer. -/
import Derived.Test.YtoaeefjcjdhlkaaGreatI22
set_option linter.unusedVariables false
set_option linter.unusedSimpArgs false
namespace Go.Proofs.YtoaeefjcjdhlkaaGreat
open Go Go.V Go.B

theorem inner_len8 {r : List D} {n : Nat} (h : (imageS r).length = n) : (innerS r).length = n - 8 := by
  have := inner_len (r := r)
  omega
theorem take_inner {r : List D} {n : Nat} (h : (imageS r).length = n) : (imageS r).take (n - 8) = innerS r := by
  rw [imageS, signS, List.take_left' (inner_len8 h)]
set_option maxRecDepth 100000 in
theorem imageLonger_c {w : World} {r : List D} {vs : List Value} (ht : tyR tState r) (hr : RepR w r vs) (hl : (imageS r).length ≤ 16777216) {M : Option Addr} {m cm : Nat} {more : List UInt8} (hm : Cells w M (BL.flat more)) (hml : more.length = m) (hmn : m ≤ 140737471578112) {R : Ending → World → Prop} (k : ∀ w', Ext [] w w' → R (.returned (.bool true)) w') :
    Calls Tryz.prog 11 #[.agg ⟨vs⟩, .slice M m cm] w R := by
  obtain ⟨a0, a1, A2, n2, c2, A3, n3, c3, A4, n4, c4, rfl⟩ := state_vs ht hr
  apply berthlaw26_ImageLonger_nf
  intro w7 h7
  obtain ⟨p1, x1, z1⟩ := box_new (cs := stV a0 a1 A2 n2 c2 A3 n3 c3 A4 n4 c4) h7
  refine Small_c fun w10 x10 => ⟨_, rfl, sel_false rfl ⟨_, _, _, _, _, _, _, _, _, _, _, cadd0 (p1.ext x10 (by simp)), ?_⟩⟩
  refine encode_c ht (hr.ext0 (x1.trans x10)) hl fun A n c w19 x19 o19 => ⟨_, _, _, _, rfl, sel_false rfl ?_⟩
  have E19 := (x1.trans x10).trans x19
  have h20 := image_len20 ht
  have hn := o19.len
  have hcap := o19.cap
  have h20d : decide (((n : Nat) : Int) ≥ 20) = true := by simp; omega
  refine sel_int (fun h0 => by rw [h20d]; exact k w19 E19) (fun h0 => ?_)
  have hne : more ≠ [] := fun h => by subst h; simp at hml; subst hml; exact h0 rfl
  refine clone_c o19.cells hn (by omega) fun A2' c2' w30 x30 o30 => ⟨_, _, _, rfl, ?_⟩
  have E30 := E19.trans x30
  obtain ⟨A31, c31, w32, hr32, o32, e32, -⟩ := OwnL.many (P := Tryz.prog) (t := 28) (ty := 28) (cy := cm) uB iB rfl (by omega) o30 (hm.ext0 E30) hml x30.size (by omega)
  have x32 : Ext [] w19 w32 := x30.trans' e32 fun y hy => .inr (o30.base y hy).1
  refine ⟨_, _, _, w32, hr32, ?_⟩
  refine noDecode_c o32.cells o32.len o32.cap (longer_no' good_state ht hne) fun w40 fa x40 => ⟨_, _, _, _, _, _, _, _, _, _, _, _, rfl, fun w41 h41 => ?_⟩
  obtain ⟨b41, x41, z41⟩ := box_new (cs := zeroState) h41
  obtain ⟨w42, hs42, p42, x42⟩ := storeW (P := Tryz.prog) (t := 26) (n := 5) iState b41 (vs := zeroState) rfl rfl (by simp [zeroState, Value.oneCell'])
  have x19_40 := x32.trans x40
  have s40 := x19_40.size
  have x19_42 : Ext [] w19 w42 := (x19_40.trans x41).trans' x42 fun x hx => by simp at hx; subst hx; exact .inr s40
  have E42 := E19.trans x19_42
  refine ⟨w42, hs42, when_intro rfl (sel_false rfl ?_)⟩
  have ew : IntKind.wrap .i64 (((n : Nat) : Int) - 8) = ((n - 8 : Nat) : Int) := by rw [wi64 (by omega)]; omega
  rw [ew, Int.toNat_natCast, Nat.sub_zero (n - 8)]
  have hb1 : (n - 8 + m) * 1 ≤ 140737488355328 := by omega
  have hb2 : n - 8 + m + 8 ≤ 140737488355328 := by omega
  have hb3 : n - 8 ≤ 140737488355328 := by omega
  have hb4 : (0 : Int) ≤ ((n - 8 : Nat) : Int) ∧ ((n - 8 : Nat) : Int) ≤ ((c : Nat) : Int) := by omega
  have htk := take_inner (r := r) hn
  have hil := inner_len8 (r := r) hn
  have hct := (cut_B (c := c) (j := n - 8) o19.cells (by omega)).ext0 x19_42
  rw [htk] at hct
  refine when_dec hb4 (clone_c hct hil hb3 fun A3' c3' w45 x45 o45 => ⟨_, _, _, rfl, ?_⟩)
  obtain ⟨A46, c46, w47, hr47, o47, e47, -⟩ := OwnL.many (P := Tryz.prog) (t := 28) (ty := 28) (cy := cm) uB iB rfl (by omega) o45 (hm.ext0 (E42.trans x45)) hml x45.size hb1
  have x47 : Ext [] w42 w47 := x45.trans' e47 fun y hy => .inr (o45.base y hy).1
  refine ⟨_, _, _, w47, hr47, signed_c (.own o47) x47.size hb2 fun A4' c4' w50 e50 o50 => ⟨_, _, _, rfl, ?_⟩⟩
  have x50 : Ext [] w42 w50 := x47.trans' e50 fun y hy => .inr (o47.base y hy).1
  refine noDecode_c o50.cells o50.len o50.cap (longer_no good_state ht hne) fun w58 fa' x58 => ⟨_, _, _, _, _, _, _, _, _, _, _, _, rfl, when_intro rfl (k w58 ((E42.trans x50).trans x58))⟩
end Go.Proofs.YtoaeefjcjdhlkaaGreat
