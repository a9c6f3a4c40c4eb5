/- Image: outside, Decode. -/
import Derived.Test.YtoaeefjcjdhlkaaGreatI14
set_option linter.unusedVariables false
set_option linter.unusedSimpArgs false
namespace Go.Proofs.YtoaeefjcjdhlkaaGreat
open Go Go.V Go.B

/-- What the outside of an image is refused for. -/
def outS (b : List UInt8) : Option (Nat × Int) :=
  if 16777216 < b.length then some (265, -1)
  else match B.partAt b headB 0 with
    | some i => some (260, i)
    | none =>
      if b.length < 14 then some (262, b.length)
      else if b.drop (b.length - 8) ≠ sumB (b.take (b.length - 8)) then some (261, ((b.length - 8 : Nat) : Int))
      else none
theorem decodeS_out (tys : List Ty) (b : List UInt8) : decodeS tys b = match outS b with
    | some x => .error x
    | none => (match insideS tys (b.take (b.length - 8)) with
      | .ok r _ => .ok r
      | .err c p => .error (c, p)) := by
  unfold decodeS outS
  by_cases h1 : 16777216 < b.length
  · rw [if_pos h1, if_pos h1]
  rw [if_neg h1, if_neg h1]
  cases hp : B.partAt b headB 0 with
  | some i => rfl
  | none =>
    simp only []
    by_cases h2 : b.length < 14
    · rw [if_pos h2, if_pos h2]
    rw [if_neg h2, if_neg h2]
    by_cases h3 : b.drop (b.length - 8) ≠ sumB (b.take (b.length - 8))
    · rw [if_pos h3, if_pos h3]
    · rw [if_neg h3, if_neg h3]
      cases insideS tys (b.take (b.length - 8)) <;> rfl
theorem head_byte {a : Nat} (h : a < 6) : ∃ y t, headB.drop a = y :: headB.drop (a + 1) ∧ V.byteAt ⟨#[98, 101, 114, 116, 104, 1]⟩ (a : Int) = (y.toNat : Int) ∧ y = t := by
  match a, h with
  | 0, _ => exact ⟨_, _, rfl, rfl, rfl⟩
  | 1, _ => exact ⟨_, _, rfl, rfl, rfl⟩
  | 2, _ => exact ⟨_, _, rfl, rfl, rfl⟩
  | 3, _ => exact ⟨_, _, rfl, rfl, rfl⟩
  | 4, _ => exact ⟨_, _, rfl, rfl, rfl⟩
  | 5, _ => exact ⟨_, _, rfl, rfl, rfl⟩
theorem drop_step {α : Type} {l : List α} {a : Nat} {x : α} (h : l[a]? = some x) : l.drop a = x :: l.drop (a + 1) := by
  obtain ⟨h1, rfl⟩ := List.getElem?_eq_some_iff.1 h
  exact List.drop_eq_getElem_cons h1
theorem partAt_nil (b : List UInt8) (i : Nat) : B.partAt b [] i = none := by cases b <;> rfl
theorem partAt_nil' (b : List UInt8) (i : Nat) : B.partAt [] b i = none := by cases b <;> rfl
theorem u8_mod (h : Nat) : IntKind.wrap .u8 (h : Int) = ((UInt8.ofNat (h % 256)).toNat : Int) := by
  rw [u8n _ (by omega)]
  simp only [IntKind.wrap, IntKind.bits, IntKind.signed]
  simp
theorem u8_ne {x y : UInt8} : ((x.toNat : Int) != (y.toNat : Int)) = decide (x ≠ y) := by
  rw [Bool.eq_iff_iff]
  simp only [bne_iff_ne, ne_eq, decide_eq_true_eq, Int.natCast_inj, UInt8.toNat_inj]
set_option maxRecDepth 100000 in
theorem outside_c {w : World} {A : Option Addr} {n c : Nat} {b : List UInt8} (hc : Cells w A (BL.flat b)) (hl : b.length = n) (hcap : n ≤ c) {R : Ending → World → Prop}
    (k : match outS b with
      | none => ∀ w', Ext [] w w' → R (.returned (.pointer none)) w'
      | some x => ∀ w' fa, Ext [] w w' → w.heap.size ≤ fa → BlkT w' fa (faultC x.1 x.2) 129 → R (.returned (.pointer (some ⟨fa, 0, none⟩))) w') :
    Calls Tryz.prog 35 #[.slice A n c] w R := by
  apply image_outside_nf
  unfold outS at k
  refine sel_dec (fun hgt => ?_) (fun hle => ?_)
  · rw [if_pos (by omega)] at k
    intro w2 h2
    obtain ⟨b2, x2, z2⟩ := box_new (cs := faultC 265 (-1)) h2
    exact k w2 _ x2 (Nat.le_refl _) b2
  rw [if_neg (by omega)] at k
  refine ⟨fun _ w' => Ext [] w w' ∧ B.partAt b headB 0 = none, ?_, ?_⟩
  · refine ⟨fun i w' => ∃ a : Nat, i = (a : Int) ∧ a ≤ 6 ∧ a ≤ n ∧ Ext [] w w' ∧ B.partAt b headB 0 = B.partAt (b.drop a) (headB.drop a) a, fun i _ => 6 - i.toNat, ⟨0, rfl, by omega, by omega, Ext.refl _ _, rfl⟩, ?_⟩
    rintro _ _ w8 ⟨a, rfl, ha6, han, x8, hp⟩
    refine ⟨fun w' => w' = w8 ∧ a < 6 ∧ a < n, ?_, ?_⟩
    · refine sel_dec (fun h6 => sel_dec (fun hn' => ⟨rfl, by omega, by omega⟩) (fun hn' => ⟨x8, ?_⟩)) (fun h6 => ⟨x8, ?_⟩)
      · have hb0 : b.drop a = [] := List.drop_eq_nil_of_le (by omega)
        rw [hp, hb0, partAt_nil']
      · rw [hp, show a = 6 by omega]
        exact partAt_nil _ _
    · rintro _ w11 ⟨h11, h6, hn'⟩
      subst h11
      obtain ⟨x, ad, hx, rfl, rd⟩ := Cells.row (L := BL) (hc.ext0 x8) hl (a := a) hn'
      obtain ⟨y, t, hy, hby, -⟩ := head_byte h6
      rw [drop_step hx, hy] at hp
      simp only [B.partAt] at hp
      have d11 : Ext [] w11 w11.drew := (Ext.refl _ _).drew
      refine when_dec ⟨by omega, by omega⟩ (ptr_in ⟨_, by have := rd 0 _ rfl; rw [Addr.add_zero'] at this; exact this, when_dec ⟨by omega, by have : ByteArray.size ⟨#[98, 101, 114, 116, 104, 1]⟩ = 6 := rfl; omega⟩ ?_⟩)
      rw [hby, u8_ne]
      refine sel_dec (fun hne => ?_) (fun he => ?_)
      · rw [if_neg hne] at hp
        rw [hp] at k
        intro w14 h14
        obtain ⟨b14, x14, z14⟩ := box_new (cs := faultC 260 a) h14
        exact k w14 _ ((x8.trans d11).trans x14) (x8.trans d11).size b14
      · have he : x = y := Classical.byContradiction he
        rw [if_pos he] at hp
        rw [up64 a (by omega)]
        exact ⟨⟨a + 1, rfl, by omega, by omega, x8.trans d11, hp⟩, by simp only [Int.toNat_natCast]; omega⟩
  rintro _ _ w17 ⟨x17, hp⟩
  rw [hp] at k
  simp only [] at k
  refine sel_dec (fun hlt => ?_) (fun hge => ?_)
  · rw [if_pos (by omega)] at k
    intro w18 h18
    obtain ⟨b18, x18, z18⟩ := box_new (cs := faultC 262 n) h18
    rw [hl] at k
    exact k w18 _ (x17.trans x18) x17.size b18
  rw [if_neg (by omega)] at k
  have e19 : IntKind.wrap .i64 (((n : Nat) : Int) - 8) = ((n - 8 : Nat) : Int) := by rw [wi64 (by omega)]; omega
  refine lt_eq e19 (when_dec ⟨by omega, by omega⟩ ?_)
  have hc17 := hc.ext0 x17
  have hct : Cells w17 (V.cut A c 0 1) (BL.flat (b.take (n - 8))) := by
    have h1 := (hc17.cut (c := c) (l := 0) (sz := 1) (fun h => by rw [BL_flat, List.length_map]; omega)).take (n - 8)
    rw [Nat.zero_mul, List.drop_zero, BL_flat, ← List.map_take, ← BL_flat] at h1
    exact h1
  refine sum_c hct (by rw [List.length_take]; simp only [Int.toNat_natCast]; omega) (by simp only [Int.toNat_natCast]; omega) ⟨_, rfl, when_dec ⟨by omega, by omega⟩ ?_⟩
  rw [hl] at k
  have hcd : Cells w17 (V.cut A c (Int.toNat ((n - 8 : Nat) : Int)) 1) (BL.flat (b.drop (n - 8))) := by
    have h1 := hc17.cut (c := c) (l := n - 8) (sz := 1) (fun h => by rw [BL_flat, List.length_map]; omega)
    rw [Nat.mul_one, BL_flat, ← List.map_drop, ← BL_flat] at h1
    exact h1
  refine ⟨fun h t w' => ∃ (a H : Nat), h = (H : Int) ∧ t = (a : Int) ∧ a ≤ 8 ∧ w' = w17 ∧ ((b.drop (n - 8) = sumB (b.take (n - 8))) ↔ b.drop (n - 8 + a) = le8 (8 - a) H), fun _ t _ => 8 - t.toNat, ⟨0, _, rfl, rfl, by omega, rfl, Iff.rfl⟩, ?_⟩
  rintro _ _ _ w28 ⟨a, H, rfl, rfl, ha, h28, hiff⟩
  subst h28
  have e8 : n - Int.toNat ((n - 8 : Nat) : Int) = 8 := by rw [Int.toNat_natCast]; omega
  rw [e8]
  refine sel_dec (fun hlt => ?_) (fun hge8 => ?_)
  rotate_left
  · obtain rfl : a = 8 := by omega
    have hT : b.drop (n - 8) = sumB (b.take (n - 8)) := hiff.2 (by rw [List.drop_eq_nil_of_le (by omega)]; rfl)
    rw [if_neg (by simp [hT])] at k
    exact k w28 x17
  obtain ⟨x, ad, hx, hA, rd⟩ := Cells.row (L := BL) hcd (n := 8) (by rw [List.length_drop]; omega) (a := a) (by omega)
  rw [hA]
  rw [List.getElem?_drop] at hx
  have h8 : 8 - a = (8 - (a + 1)) + 1 := by omega
  rw [drop_step hx, h8] at hiff
  simp only [le8, List.cons.injEq] at hiff
  refine when_dec ⟨by omega, by omega⟩ (ptr_in ⟨_, by have := rd 0 _ rfl; rw [Addr.add_zero'] at this; exact this, ?_⟩)
  rw [u8_mod, u8_ne]
  refine sel_dec (fun hne => ?_) (fun he => ?_)
  · rw [if_pos (fun h => hne (hiff.1 h).1)] at k
    intro w31 h31
    obtain ⟨b31, x31, z31⟩ := box_new (cs := faultC 261 ((n - 8 : Nat) : Int)) h31
    exact k w31 _ (x17.trans x31) x17.size b31
  · have he : x = UInt8.ofNat (H % 256) := Classical.byContradiction he
    have ef : Int.fdiv (H : Int) (2 ^ 8) = ((H / 256 : Nat) : Int) := by
      rw [Int.fdiv_eq_ediv_of_nonneg _ (by decide)]; norm_cast
    rw [up64 a (by omega), ef]
    refine ⟨⟨a + 1, H / 256, rfl, rfl, by omega, rfl, hiff.trans ⟨fun h => h.2, fun h => ⟨he, h⟩⟩⟩, by simp only [Int.toNat_natCast]; omega⟩
set_option maxRecDepth 100000 in
/-- Decode. -/
theorem Decode_c {w : World} {A : Option Addr} {n c : Nat} {b : List UInt8} (hc : Cells w A (BL.flat b)) (hl : b.length = n) (hcap : n ≤ c) {R : Ending → World → Prop}
    (k : match decodeS tState b with
      | .ok r => ∀ w' vs, Ext [] w w' → tyR tState r → RepPR (NewB w w') w' r vs → R (.returned (.tuple #[.agg ⟨vs⟩, .nilIface])) w'
      | .error x => ∀ w' fa, Ext [] w w' → w.heap.size ≤ fa → BlkT w' fa (faultC x.1 x.2) 129 → R (.returned (.tuple #[.agg ⟨zeroState⟩, .iface 93 (.pointer (some ⟨fa, 0, none⟩))])) w') :
    Calls Tryz.prog 18 #[.slice A n c] w R := by
  apply image_Decode_nf
  intro w2 h2
  obtain ⟨b2, x2, z2⟩ := box_new (cs := zeroState) h2
  rw [decodeS_out] at k
  refine outside_c (hc.ext0 x2) hl hcap ?_
  cases ho : outS b with
  | some x =>
    rw [ho] at k
    intro w5 fa x5 hfa hb
    have b5 := b2.ext x5 (by simp)
    obtain ⟨w6, hs6, p6, x6⟩ := storeW (P := Tryz.prog) (t := 26) (n := 5) iState b5 (vs := zeroState) rfl rfl (by simp [zeroState, Value.oneCell'])
    refine ⟨_, rfl, sel_true rfl ⟨w6, hs6, _, _, _, _, _, _, _, _, _, _, _, cadd0 p6, k w6 fa ?_ (by omega) (hb.ext x6 (by simp; omega))⟩⟩
    exact (x2.trans x5).trans' x6 fun x hx => by simp at hx; subst hx; exact .inr (Nat.le_refl _)
  | none =>
  rw [ho] at k
  simp only [] at k
  have hn : n ≤ 16777216 ∧ 14 ≤ n := by
    unfold outS at ho
    split at ho
    · cases ho
    · rename_i h1
      split at ho
      · cases ho
      · split at ho
        · cases ho
        · rename_i h2; omega
  intro w5 x5
  have e18 : IntKind.wrap .i64 (((n : Nat) : Int) - 8) = ((n - 8 : Nat) : Int) := by rw [wi64 (by omega)]; omega
  rw [e18]
  refine ⟨_, rfl, sel_false rfl (when_dec ⟨by omega, by omega⟩ ?_)⟩
  have x25 := x2.trans x5
  have hct : Cells w5 (V.cut A c 0 1) (BL.flat (b.take (n - 8))) := by
    have h1 := ((hc.ext0 x25).cut (c := c) (l := 0) (sz := 1) (fun h => by rw [BL_flat, List.length_map]; omega)).take (n - 8)
    rw [Nat.zero_mul, List.drop_zero, BL_flat, ← List.map_take, ← BL_flat] at h1
    exact h1
  rw [hl] at k
  have b5 := b2.ext x5 (by simp)
  have hs5 := x5.size
  refine inside_c hct (by rw [List.length_take]; simp only [Int.toNat_natCast]; omega) (by simp only [Int.toNat_natCast]; omega) (by simp only [Int.toNat_natCast]; omega) (by simp only [Int.toNat_natCast]; omega) ?_
  cases hi : insideS tState (b.take (n - 8)) with
  | err e p =>
    rw [hi] at k
    intro w19 fa x19 hfa hb
    refine ⟨_, _, _, _, _, _, _, _, _, _, _, _, rfl, fun w20 h20 => ?_⟩
    obtain ⟨b20, x20, z20⟩ := box_new (cs := zeroState) h20
    obtain ⟨w21, hs21, p21, x21⟩ := storeW (P := Tryz.prog) (t := 26) (n := 5) iState b20 (vs := zeroState) rfl rfl (by simp [zeroState, Value.oneCell'])
    have s19 := x19.size
    have fl : fa < w19.heap.size := hb.lt
    have b21 := ((b5.ext x19 (by simp)).ext x20 (by simp)).ext x21 (by simp; omega)
    obtain ⟨w22, hs22, p22, x22⟩ := storeW (P := Tryz.prog) (t := 26) (n := 5) iState b21 (vs := zeroState) rfl rfl (by simp [zeroState, Value.oneCell'])
    refine ⟨w21, hs21, sel_true rfl ⟨w22, hs22, _, _, _, _, _, _, _, _, _, _, _, cadd0 p22, k w22 fa ?_ (by omega) (((hb.ext x20 (by simp)).ext x21 (by simp; omega)).ext x22 (by simp; omega))⟩⟩
    exact (((x25.trans x19).trans x20).trans' x21 fun x hx => by simp at hx; subst hx; exact .inr (by omega)).trans' x22 fun x hx => by simp at hx; subst hx; exact .inr (Nat.le_refl _)
  | ok r s =>
    rw [hi] at k
    intro w19 vs x19 htr hrep
    have ht := htr
    have hra := hrep.any
    obtain ⟨v0, r0, u0, rfl, rfl, y0, ht, hra⟩ := inv_int ht hra
    obtain ⟨v1, r1, u1, rfl, rfl, y1, ht, hra⟩ := inv_int ht hra
    obtain ⟨v2, A2, n2, c2, m2, xs2, r2, u2, rfl, rfl, y2, ht, hra⟩ := inv_list ht hra
    obtain ⟨v3, A3, n3, c3, m3, xs3, r3, u3, rfl, rfl, y3, ht, hra⟩ := inv_list ht hra
    obtain ⟨v4, A4, n4, c4, m4, xs4, r4, u4, rfl, rfl, y4, ht, hra⟩ := inv_list ht hra
    obtain ⟨rfl, rfl⟩ := inv_nil ht hra
    refine ⟨_, _, _, _, _, _, _, _, _, _, _, _, rfl, fun w20 h20 => ?_⟩
    obtain ⟨b20, x20, z20⟩ := box_new (cs := zeroState) h20
    obtain ⟨w21, hs21, p21, x21⟩ := storeW (P := Tryz.prog) (t := 26) (n := 5) iState b20 (vs := stV v0 v1 A2 n2 c2 A3 n3 c3 A4 n4 c4) rfl rfl (by simp [Value.oneCell'])
    have s19 := x19.size
    have b21 := ((b5.ext x19 (by simp)).ext x20 (by simp)).ext x21 (by simp; omega)
    obtain ⟨w33, hs33, p33, x33⟩ := storeW (P := Tryz.prog) (t := 26) (n := 5) iState b21 (vs := stV v0 v1 A2 n2 c2 A3 n3 c3 A4 n4 c4) rfl rfl (by simp [Value.oneCell'])
    have s33 := x33.size
    have s21 := x21.size
    refine ⟨w21, hs21, sel_false rfl ⟨_, _, _, _, _, _, _, _, _, _, _, cadd0 p21, w33, hs33, _, _, _, _, _, _, _, _, _, _, _, cadd0 p33, k w33 _ ?_ htr ?_⟩⟩
    · exact (((x25.trans x19).trans x20).trans' x21 fun x hx => by simp at hx; subst hx; exact .inr (by omega)).trans' x33 fun x hx => by simp at hx; subst hx; exact .inr (Nat.le_refl _)
    · refine RepPR.ext x33 (P := NewB w5 w19) (fun b hb hm => by simp at hm; have := hb.1; omega) (fun b hb => ⟨by have := hb.1; omega, by have := hb.2; omega⟩) (RepPR.ext x21 (P := NewB w5 w19) (fun b hb hm => by simp at hm; have := hb.2; omega) (fun b hb => hb) (RepPR.ext x20 (by simp) (fun b hb => hb) hrep))
end Go.Proofs.YtoaeefjcjdhlkaaGreat
