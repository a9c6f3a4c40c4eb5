/- The image: what is decoded is encoded as it came. No condition. -/
import Derived.Test.YtoaeefjcjdhlkaaGreatI19
import Derived.Test.YtoaeefjcjdhlkaaGreatRows
import Derived.Test.YtoaeefjcjdhlkaaGreatL1
set_option linter.unusedVariables false
set_option linter.unusedSimpArgs false
namespace Go.Proofs.YtoaeefjcjdhlkaaGreat
open Go Go.V Go.B
open Go.ChangeShapes Go.WideShapes Go.ChangeAt Go.RowKit Go.Joins
set_option maxRecDepth 100000 in
theorem oneTail_c {w : World} {A : Option Addr} {n c : Nat} {x : List UInt8} (hx : Cells w A (BL.flat x)) (hl : x.length = n) (hn : n ≤ 140737488355328) {R : Ending → World → Prop} (k : ∀ w', Ext [] w w' → R (.returned (.bool true)) w') :
  Calls Tryz.prog 22 #[(Value.slice A n c)] w fun e40 w41 =>
  ∃ A39, ∃ A39l, ∃ A39c, e40 = Ending.returned (Value.slice A39 A39l A39c) ∧
  Calls Tryz.prog 18 #[(Value.slice A39 A39l A39c)] w41 fun e48 w49 =>
  ∃ n42, ∃ n43, ∃ A44, ∃ A44l, ∃ A44c, ∃ A45, ∃ A45l, ∃ A45c, ∃ A46, ∃ A46l, ∃ A46c, ∃ v47, e48 = Ending.returned (Value.tuple #[(Value.agg #[(Value.int .i64 n42), (Value.int .i64 n43), (Value.slice A44 A44l A44c), (Value.slice A45 A45l A45c), (Value.slice A46 A46l A46c)]), v47]) ∧
  ∀ w50, w50 = (World.alloc w49 (.cells #[(Value.int .i64 0), (Value.int .i64 0), (Value.slice none 0 0), (Value.slice none 0 0), (Value.slice none 0 0)] 26)) →
  ∃ w51, Sem.run Tryz.prog (Instr.storeAt 26 (Value.pointer (some ⟨Array.size (World.heap w49), 0, none⟩)) (Value.agg #[(Value.int .i64 n42), (Value.int .i64 n43), (Value.slice A44 A44l A44c), (Value.slice A45 A45l A45c), (Value.slice A46 A46l A46c)])) w50 = .ok () w51 ∧
  V.when (V.Z.isIfc v47) (V.sel (!(V.Z.isNilI v47))
  (R (Ending.returned (Value.bool true)) w51)
  (∃ n52, ∃ n53, ∃ A54, ∃ A54l, ∃ A54c, ∃ A55, ∃ A55l, ∃ A55c, ∃ A56, ∃ A56l, ∃ A56c, V.cellsC (fun a_ x_ => World.cell? w51 a_ = some x_) ⟨Array.size (World.heap w49), 0, none⟩ [(Value.int .i64 n52), (Value.int .i64 n53), (Value.slice A54 A54l A54c), (Value.slice A55 A55l A55c), (Value.slice A56 A56l A56c)] ∧
  Calls Tryz.prog 15 #[(Value.agg #[(Value.int .i64 n52), (Value.int .i64 n53), (Value.slice A54 A54l A54c), (Value.slice A55 A55l A55c), (Value.slice A56 A56l A56c)])] w51 fun e59 w60 =>
  ∃ A57, ∃ A57l, ∃ A57c, ∃ n58, e59 = Ending.returned (Value.tuple #[(Value.slice A57 A57l A57c), (Value.int .i64 n58)]) ∧
  V.sel (n58 == 0)
  (Calls Tryz.prog 16 #[(Value.slice A57 A57l A57c), (Value.slice A n c)] w60 fun e62 w63 =>
  ∃ b61, e62 = Ending.returned (Value.bool b61) ∧
  R (Ending.returned (Value.bool b61)) w63)
  (R (Ending.returned (Value.bool false)) w60))) := by
  refine clone_c hx hl hn fun A2 c2 w2 x2 own => ⟨_, _, _, rfl, ?_⟩
  refine Decode_c own.cells hl own.cap ?_
  cases hd : decodeS tState x with
  | error e =>
    intro w3 fa x3 hfa hb
    refine ⟨_, _, _, _, _, _, _, _, _, _, _, _, rfl, fun w4 h4 => ?_⟩
    obtain ⟨b4, x4, z4⟩ := box_new (cs := zeroState) h4
    obtain ⟨w5, hs5, p5, x5⟩ := storeW (P := Tryz.prog) (t := 26) (n := 5) iState b4 (vs := zeroState) rfl rfl (by simp [zeroState, Value.oneCell'])
    have s3 := (x2.trans x3).size
    exact ⟨w5, hs5, when_intro rfl (sel_true rfl (k w5 (((x2.trans x3).trans x4).trans' x5 fun x hx => by simp at hx; subst hx; exact .inr s3)))⟩
  | ok r =>
    obtain ⟨htr0, himg, hle⟩ := image_decode hd
    intro w3 vs x3 htr hr3
    have hra := hr3.any
    obtain ⟨v0, r0, u0, rfl, rfl, y0, ht, hra⟩ := inv_int htr hra
    obtain ⟨v1, r1, u1, rfl, rfl, y1, ht, hra⟩ := inv_int ht hra
    obtain ⟨v2, A2', n2, c2', m2, xs2, r2, u2, rfl, rfl, y2, ht, hra⟩ := inv_list ht hra
    obtain ⟨v3, A3, n3, c3, m3, xs3, r3, u3, rfl, rfl, y3, ht, hra⟩ := inv_list ht hra
    obtain ⟨v4, A4, n4, c4, m4, xs4, r4, u4, rfl, rfl, y4, ht, hra⟩ := inv_list ht hra
    obtain ⟨rfl, rfl⟩ := inv_nil ht hra
    refine ⟨_, _, _, _, _, _, _, _, _, _, _, _, rfl, fun w4 h4 => ?_⟩
    obtain ⟨b4, x4, z4⟩ := box_new (cs := zeroState) h4
    obtain ⟨w5, hs5, p5, x5⟩ := storeW (P := Tryz.prog) (t := 26) (n := 5) iState b4 (vs := stV v0 v1 A2' n2 c2' A3 n3 c3 A4 n4 c4) rfl rfl (by simp [Value.oneCell'])
    have s3 := (x2.trans x3).size
    have E5 : Ext [] w w5 := ((x2.trans x3).trans x4).trans' x5 fun x hx => by simp at hx; subst hx; exact .inr s3
    have hrb : RepR w5 _ (stV v0 v1 A2' n2 c2' A3 n3 c3 A4 n4 c4) := RepPR.any (P := NewB w2 w3) (RepPR.ext x5 (fun b hb hm => by simp at hm; have := hb.2; omega) (fun b hb => hb) (RepPR.ext x4 (by simp) (fun b hb => hb) hr3))
    refine ⟨w5, hs5, when_intro rfl (sel_false rfl ⟨_, _, _, _, _, _, _, _, _, _, _, cadd0 p5, ?_⟩)⟩
    have hil : (innerS [.int v0, .int v1, .list v2, .list v3, .list v4]).length ≤ 1000000000000 := by
      have := congrArg List.length himg
      rw [imageS, signS, List.length_append, sumB_len] at this
      omega
    refine Encode_c htr hrb hil (fun A6 n6 c6 w6 x6 o6 hle6 => ⟨_, _, _, _, rfl, sel_true rfl ?_⟩) (fun w6 x6 hgt => by rw [← himg] at hgt; omega)
    refine equalB_c o6.cells o6.len ((hx.ext0 E5).ext0 x6) hl ⟨_, rfl, ?_⟩
    rw [← himg]
    simp only [decide_true]
    exact k w6 (E5.trans x6)
set_option maxRecDepth 100000 in
theorem imageOneForm_c {w : World} {A : Option Addr} {n c : Nat} {x : List UInt8} {right : Bool} (hx : Cells w A (BL.flat x)) (hl : x.length = n) (hn : n ≤ 140737488351232) {R : Ending → World → Prop} (k : ∀ w', Ext [] w w' → R (.returned (.bool true)) w') :
    Calls Tryz.prog 9 #[.slice A n c, .bool right] w R := by
  apply berthlaw26_ImageOneForm_nf
  refine Small_c fun w5 x5 => ⟨_, rfl, sel_false rfl ?_⟩
  cases right with
  | false => exact sel_false rfl (oneTail_c (hx.ext0 x5) hl (by omega) fun w' e => k w' (x5.trans e))
  | true =>
    refine sel_true rfl fun w6 h6 => ?_
    obtain ⟨w8, hcv, A9, c9, w10, hr, ho, he⟩ := head_c (c := c) (hx.ext0 x5) hl hn h6
    refine ⟨_, _, _, w8, hcv, _, _, _, _, hr, signed_c ho he.size (by omega) fun A11 c11 w13 e13 o13 => ⟨_, _, _, rfl, ?_⟩⟩
    have E13 : Ext [] w5 w13 := he.trans' e13 fun y hy => .inr (ho.base y hy).1
    exact oneTail_c o13.cells o13.len (by omega) fun w' e => k w' ((x5.trans E13).trans e)
theorem own : ownKnob Tryz.prog.godebug = none := by kernel_rfl
theorem laidOut : laidOutB Tryz.prog = true := by kernel_rfl
section
variable {H : Type} {enc : TypeId × Value → H} {w : World}
set_option maxRecDepth 8000 in
/-- Bytes that came in. -/
theorem open_bytes {base : Nat} {v : Value} {d : DataW H} {p : List MemPlace} (hok : Value.okWide Tryz.prog w .any base 28 v) (h : DataW.Trod enc Tryz.prog w 0 (fun _ => true) true 28 v d p)
    (hw : ∀ n ∈ d.weights Tryz.prog 28, n ≤ reachBytes) : ∃ A n c, ∃ x : List UInt8, v = .slice A n c ∧ Cells w A (BL.flat x) ∧ x.length = n ∧ n ≤ 140737488351232 ∧ n ≤ c := by
  obtain ⟨a, l, c, rfl⟩ := Go.WideShapes.okWide_slice Tryz.underlying28 hok
  obtain ⟨fuel, hf⟩ := h
  have hf' : DataW.trod enc Tryz.prog w 0 (fun _ => true) true fuel 28 [.slice a l c] = some (d, p) := hf
  obtain ⟨A, n, c', xs, hv, hc, hlen, _, hb⟩ := open_flat BL (P := Tryz.prog) (t := 28) (e := 5) (Q := fun _ => True) Tryz.underlying28 (by kernel_rfl) (by decide) (fun _ _ _ h hw => by
    obtain ⟨z, hz, -, hwf⟩ := DataW.trod_int Tryz.underlying5 h
    have hwf : (decide (IntKind.min .u8 ≤ z) && decide (z ≤ IntKind.max .u8)) = true := hwf
    simp only [Bool.and_eq_true, decide_eq_true_eq] at hwf
    have h0 : IntKind.min .u8 = 0 := by decide
    have h1 : IntKind.max .u8 = 255 := by decide
    refine ⟨UInt8.ofNat z.toNat, ?_, trivial⟩
    show _ = [Value.int .u8 (((UInt8.ofNat z.toNat).toNat : Nat) : Int)]
    rw [hz, u8n _ (by omega), Int.toNat_of_nonneg (by omega)]) hf' hw
  have hlc : l ≤ c := by
    rcases DataW.trod_slice Tryz.underlying28 hf' with ⟨hcs, _⟩ | ⟨a', len, cap, _, _, _, _, hcs, _, _, hl, _⟩
    · simp at hcs; omega
    · simp at hcs; omega
  simp only [Value.slice.injEq] at hv
  obtain ⟨rfl, rfl, rfl⟩ := hv
  have h1 : Tryz.prog.bytesOf 5 = 1 := by kernel_rfl
  rw [h1, Nat.mul_one] at hb
  exact ⟨a, l, c, xs, rfl, hc, hlen, hb, hlc⟩
end
set_option maxRecDepth 8000 in
theorem imageOneForm_lifted (os : Os) (started : os.Started) (H : Type) (enc : TypeId × Value → H) :
    ReturnsInHanded {} Tryz.checked os 9 .any (Rows.imageOneFormSpec.pre6 enc Tryz.prog Tryz.f9 Rows.imageOneFormRow.domain false) (Rows.imageOneFormSpec.post enc Tryz.prog Tryz.f9 false true false false) :=
  lift2 (C := Tryz.checked) (T := 28) (U := 4) (tb := 4) own (by kernel_rfl) Tryz.func9 (by kernel_rfl) (by kernel_rfl) Tryz.underlying4 rfl (fun _ _ _ => rfl) laidOut (by kernel_rfl) (of_decide_eq_true (by kernel_rfl)) (by kernel_rfl) (of_decide_eq_true (by kernel_rfl)) os started H enc
    (fun W base v v' d d' p p' hok h hw hok' h' hw' => by
      obtain ⟨A, n, c, x, rfl, hx, hl, hn, -⟩ := open_bytes hok h hw
      obtain ⟨b, rfl, -⟩ := open_bool Tryz.underlying4 hok' h'
      exact imageOneForm_c hx hl hn fun w' e => ⟨rfl, e.below⟩)
    (ChangeSpec.witness6 (enc := enc) (C := Tryz.checked) false ⟨#[], #[.slice none 0 0, .bool false], []⟩ 8 (by kernel_rfl) (by kernel_rfl) (by kernel_rfl) (by kernel_rfl))
set_option maxRecDepth 8000 in
theorem imageOneForm_holds : Rows.ImageOneFormSaid :=
  OpenClaim.holds_of_wide 9 Tryz.f9 rfl rfl rfl rfl rfl rfl rfl ⟨rfl, rfl, rfl, rfl, rfl⟩ rfl rfl rfl rfl rfl (by kernel_rfl) Tryz.func9 (by kernel_rfl)
    (of_decide_eq_true (by kernel_rfl)) (by unfold Func.isWrapper; first | (rw [if_pos (by decide +kernel)]; kernel_rfl) | (rw [if_neg (by decide +kernel)]; exact ⟨rfl, rfl⟩))
    (fun os started H enc _ => imageOneForm_lifted os started H enc)
end Go.Proofs.YtoaeefjcjdhlkaaGreat
