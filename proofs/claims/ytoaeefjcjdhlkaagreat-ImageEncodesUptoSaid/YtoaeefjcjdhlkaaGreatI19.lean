/- Image: the small example. -/
import Derived.Test.YtoaeefjcjdhlkaaGreatI18
set_option linter.unusedVariables false
set_option linter.unusedSimpArgs false
namespace Go.Proofs.YtoaeefjcjdhlkaaGreat
open Go Go.V Go.B

def smallR : List D := [.int 5, .int (-1), .list [[.str ⟨#[97]⟩, .list [], .list [], .list [], .bool false]], .list [], .list []]
def smallB : List UInt8 := [98, 101, 114, 116, 104, 1, 1, 1, 97, 10, 1, 1, 0, 0, 0, 0, 0, 0, 0]
theorem small_ty : tyR tState smallR := by simp [tState, smallR, tNode, tyR, tyD, tyL]
theorem small_flat : flatR smallR = [.num 5, .num (-1), .count 1, .text ⟨#[97]⟩, .count 0, .count 0, .count 0, .truth false, .count 0, .count 0] := by simp [smallR, flatR, flatD, flatL]
theorem small_table : tableOf (flatR smallR) = [⟨#[97]⟩] := by rw [small_flat]; rfl
theorem small_inner : innerS smallR = smallB := by
  rw [innerS, small_table, small_flat]
  have h0 : sevens 0 = [0] := sevens_small (by omega)
  have h1 : sevens 1 = [1] := sevens_small (by omega)
  have h10 : sevens 10 = [10] := sevens_small (by omega)
  have hb : bs ⟨#[97]⟩ = [97] := rfl
  have hi : idxS [⟨#[97]⟩] ⟨#[97]⟩ = 0 := by unfold idxS; simp
  have hs : ByteArray.size ⟨#[97]⟩ = 1 := rfl
  simp only [headB, tableB, rowB, piecesB, List.flatMap_cons, List.flatMap_nil, pieceB, List.length_cons, List.length_nil, hs, hb, hi]
  have e1 : numCode 5 = 10 := rfl
  have e2 : numCode (-1) = 1 := rfl
  rw [e1, e2, h0, h1, h10]
  rfl
theorem small_image : imageS smallR = smallB ++ sumB smallB := by rw [imageS, small_inner]; rfl
theorem small_len : (imageS smallR).length = 27 := by rw [small_image, List.length_append, sumB_len]; rfl
theorem BL_small : BL.flat smallB = [.int .u8 98, .int .u8 101, .int .u8 114, .int .u8 116, .int .u8 104, .int .u8 1, .int .u8 1, .int .u8 1, .int .u8 97, .int .u8 10, .int .u8 1, .int .u8 1, .int .u8 0, .int .u8 0, .int .u8 0, .int .u8 0, .int .u8 0, .int .u8 0, .int .u8 0] := by rw [BL_flat]; rfl
/-- A list of nothing. -/
theorem rep_none {P : Nat → Prop} {w : World} : RepP P w (.list []) (.slice none 0 0) := ⟨none, 0, 0, 0, [], rfl, Cells.nil _ _, rfl, by omega, by simp [ownF], rfl⟩
set_option maxRecDepth 100000 in
theorem Small_c {w : World} {R : Ending → World → Prop} (k : ∀ w', Ext [] w w' → R (.returned (.bool true)) w') : Calls Tryz.prog 12 #[] w R := by
  apply berthlaw26_Small_nf
  intro w1 h1 w2 h2
  obtain ⟨b1, x1, z1⟩ := box_new (cs := [.string ⟨#[97]⟩, .slice none 0 0, .slice none 0 0, .slice none 0 0, .bool false]) h1
  obtain ⟨b2, x2, z2⟩ := box_new (cs := zeroState) h2
  obtain ⟨w3, hs3, p3, x3⟩ := storeW (P := Tryz.prog) (t := 26) (n := 5) iState b2 (vs := stV 5 (-1) (some ⟨w.heap.size, 0, none⟩) 1 1 none 0 0 none 0 0) rfl rfl (by simp [Value.oneCell'])
  have c3 := (b1.ext x2 (by simp)).ext x3 (by simp; omega)
  have E3 : Ext [] w w3 := (x1.trans x2).trans' x3 fun x hx => by simp at hx; subst hx; exact .inr (by omega)
  have hrep : RepR w3 smallR (stV 5 (-1) (some ⟨w.heap.size, 0, none⟩) 1 1 none 0 0 none 0 0) := by
    refine ⟨_, _, rfl, rfl, _, _, rfl, rfl, _, _, rfl, ⟨some ⟨w.heap.size, 0, none⟩, 1, 1, 4, [⟨[.string ⟨#[97]⟩, .slice none 0 0, .slice none 0 0, .slice none 0 0, .bool false], rfl, by simp [Value.oneCell']⟩], rfl, Cells.of_blk c3.blk, rfl, by omega, fun _ _ => trivial, ?_⟩, _, _, rfl, rep_none, _, _, rfl, rep_none, rfl⟩
    exact ⟨_, _, rfl, ⟨_, _, rfl, ⟨rfl, by decide⟩, _, _, rfl, rep_none, _, _, rfl, rep_none, _, _, rfl, rep_none, _, _, rfl, rfl, rfl⟩, rfl⟩
  refine ⟨w3, hs3, _, _, _, _, _, _, _, _, _, _, _, cadd0 p3, ?_⟩
  refine Encode_c small_ty hrep (by rw [small_inner]; decide) (fun A n c w12 x12 own hle => ?_) (fun w12 x12 hgt => by rw [small_len] at hgt; omega)
  have hn : n = 27 := by rw [← own.len, small_len]
  subst hn
  refine ⟨_, _, _, _, rfl, fun w13 h13 => ?_⟩
  obtain ⟨b13, x13, z13⟩ := box_new (cs := [.int .u8 98, .int .u8 101, .int .u8 114, .int .u8 116, .int .u8 104, .int .u8 1, .int .u8 1, .int .u8 1, .int .u8 97, .int .u8 10, .int .u8 1, .int .u8 1, .int .u8 0, .int .u8 0, .int .u8 0, .int .u8 0, .int .u8 0, .int .u8 0, .int .u8 0]) h13
  rw [← BL_small] at b13
  have hcap := own.cap
  have cI := own.cells.ext0 x13
  refine sel_false rfl (sel_false rfl (when_dec ⟨by omega, by omega⟩ ?_))
  have hct : Cells w13 (V.cut A c 0 1) (BL.flat ((imageS smallR).take 19)) := by
    have h1 := (cI.cut (c := c) (l := 0) (sz := 1) (fun h => by omega)).take 19
    rw [Nat.zero_mul, List.drop_zero, BL_flat, ← List.map_take, ← BL_flat] at h1
    exact h1
  refine equalB_c hct (by rw [List.length_take, small_len]; rfl) (Cells.of_blk b13.blk) rfl ⟨_, rfl, ?_⟩
  have ht : (imageS smallR).take 19 = smallB := by rw [small_image]; rfl
  rw [ht]
  refine sel_false (by simp) ?_
  refine Decode_c cI small_len hcap ?_
  rw [decode_image good_state small_ty hle]
  intro w24 vs x24 htr hr24
  have hra := hr24.any
  obtain ⟨v0, r0, u0, q0, rfl, y0, ht, hra⟩ := inv_int htr hra
  obtain ⟨v1, r1, u1, rfl, rfl, y1, ht, hra⟩ := inv_int ht hra
  obtain ⟨v2, A2, n2, c2, m2, xs2, r2, u2, rfl, rfl, y2, ht, hra⟩ := inv_list ht hra
  obtain ⟨v3, A3, n3, c3', m3, xs3, r3, u3, rfl, rfl, y3, ht, hra⟩ := inv_list ht hra
  obtain ⟨v4, A4, n4, c4, m4, xs4, r4, u4, rfl, rfl, y4, ht, hra⟩ := inv_list ht hra
  obtain ⟨rfl, rfl⟩ := inv_nil ht hra
  refine ⟨_, _, _, _, _, _, _, _, _, _, _, _, rfl, fun w25 h25 => ?_⟩
  obtain ⟨b25, x25, z25⟩ := box_new (cs := zeroState) h25
  obtain ⟨w26, hs26, p26, x26⟩ := storeW (P := Tryz.prog) (t := 26) (n := 5) iState b25 (vs := stV v0 v1 A2 n2 c2 A3 n3 c3' A4 n4 c4) rfl rfl (by simp [Value.oneCell'])
  have E24 : Ext [] w3 w24 := (x12.trans x13).trans x24
  have s24 := E24.size
  have p2 := p3.lt
  have E26 : Ext [] w3 w26 := (E24.trans x25).trans' x26 fun x hx => by simp at hx; subst hx; exact .inr s24
  have p3' := p3.ext E26 (by simp)
  refine ⟨w26, hs26, when_intro rfl (sel_true rfl ⟨_, _, _, _, _, _, _, _, _, _, _, cadd0 p26, _, _, _, _, _, _, _, _, _, _, _, cadd0 p3', ?_⟩)⟩
  have hrb : RepR w26 smallR (stV v0 v1 A2 n2 c2 A3 n3 c3' A4 n4 c4) := by
    refine RepPR.any (P := NewB w13 w24) (RepPR.ext x26 (fun b hb hm => ?_) (fun b hb => hb) (RepPR.ext x25 (by simp) (fun b hb => hb) hr24))
    simp at hm
    have := hb.2
    omega
  refine sameState_c small_ty hrb small_ty (hrep.ext0 E26) fun w' t e g => ⟨t, rfl, ?_⟩
  rw [g.2 rfl]
  exact k w' ((E3.trans E26).trans e)
end Go.Proofs.YtoaeefjcjdhlkaaGreat
