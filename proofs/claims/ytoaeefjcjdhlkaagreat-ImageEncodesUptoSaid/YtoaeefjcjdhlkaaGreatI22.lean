/- Image: what the statements share. -/
import Derived.Test.YtoaeefjcjdhlkaaGreatI21
set_option linter.unusedVariables false
set_option linter.unusedSimpArgs false
namespace Go.Proofs.YtoaeefjcjdhlkaaGreat
open Go Go.V Go.B

abbrev failV (fa : Nat) : Value := .iface 93 (.pointer (some ⟨fa, 0, none⟩))
/-- Bytes that are no image. -/
theorem noDecode_c {w : World} {A : Option Addr} {n c : Nat} {x : List UInt8} (hc : Cells w A (BL.flat x)) (hl : x.length = n) (hcap : n ≤ c) (hno : ∀ r, decodeS tState x ≠ .ok r) {R : Ending → World → Prop}
    (k : ∀ w' fa, Ext [] w w' → R (.returned (.tuple #[.agg ⟨zeroState⟩, failV fa])) w') : Calls Tryz.prog 18 #[.slice A n c] w R := by
  refine Decode_c hc hl hcap ?_
  cases hd : decodeS tState x with
  | error e => exact fun w' fa e' _ _ => k w' fa e'
  | ok r => exact absurd hd (hno r)
theorem image_len20 {r : List D} (ht : tyR tState r) : 20 ≤ (imageS r).length := by
  have h1 : 5 ≤ (flatR r).length := by
    match r, ht with
    | [d0, d1, d2, d3, d4], ht =>
      have hpos : ∀ d : D, 1 ≤ (flatD d).length := fun d => by cases d <;> simp [flatD]
      have := hpos d0; have := hpos d1; have := hpos d2; have := hpos d3; have := hpos d4
      simp only [flatR, List.length_append, List.length_nil]
      omega
    | [], ht => exact ht.elim
    | [_], ht => exact ht.2.elim
    | [_, _], ht => exact ht.2.2.elim
    | [_, _, _], ht => exact ht.2.2.2.elim
    | [_, _, _, _], ht => exact ht.2.2.2.2.elim
    | _ :: _ :: _ :: _ :: _ :: _ :: _, ht => exact ht.2.2.2.2.2.elim
  have h2 := piecesB_len (tableOf (flatR r)) (flatR r)
  have h3 := sevens_pos (tableOf (flatR r)).length
  have h4 : headB.length = 6 := rfl
  simp only [imageS, signS, innerS, tableB, List.length_append, sumB_len]
  omega
theorem inner_len {r : List D} : (imageS r).length = (innerS r).length + 8 := by rw [imageS, signS, List.length_append, sumB_len]
def zeroR : List D := [.int 0, .int 0, .list [], .list [], .list []]
theorem zero_ty : tyR tState zeroR := by simp [tState, zeroR, tyR, tyD, tyL]
theorem zero_rep {w : World} : RepR w zeroR zeroState := ⟨_, _, rfl, rfl, _, _, rfl, rfl, _, _, rfl, rep_none, _, _, rfl, rep_none, _, _, rfl, rep_none, rfl⟩
/-- A state's cells. -/
theorem state_vs {w : World} {r : List D} {vs : List Value} (ht : tyR tState r) (h : RepR w r vs) : ∃ a b A1 n1 c1 A2 n2 c2 A3 n3 c3, vs = stV a b A1 n1 c1 A2 n2 c2 A3 n3 c3 := by
  obtain ⟨v0, r0, u0, rfl, rfl, y0, ht, h⟩ := inv_int ht h
  obtain ⟨v1, r1, u1, rfl, rfl, y1, ht, h⟩ := inv_int ht h
  obtain ⟨v2, A2', n2, c2', m2, xs2, r2, u2, rfl, rfl, y2, ht, h⟩ := inv_list ht h
  obtain ⟨v3, A3, n3, c3, m3, xs3, r3, u3, rfl, rfl, y3, ht, h⟩ := inv_list ht h
  obtain ⟨v4, A4, n4, c4, m4, xs4, r4, u4, rfl, rfl, y4, ht, h⟩ := inv_list ht h
  obtain ⟨rfl, rfl⟩ := inv_nil ht h
  exact ⟨_, _, _, _, _, _, _, _, _, _, _, rfl⟩
theorem encode_c {w : World} {r : List D} {vs : List Value} (ht : tyR tState r) (hr : RepR w r vs) (hb : (imageS r).length ≤ 16777216) {R : Ending → World → Prop}
    (k : ∀ A n c w', Ext [] w w' → OwnL BL w' w.heap.size 5 A n c (imageS r) → R (.returned (.tuple #[.slice A n c, .int .i64 0])) w') :
    Calls Tryz.prog 15 #[.agg ⟨vs⟩] w R :=
  Encode_c ht hr (by have := inner_len (r := r); omega) (fun A n c w' e o _ => k A n c w' e o) (fun w' e h => by omega)
theorem cut_B {w : World} {A : Option Addr} {c j : Nat} {x : List UInt8} (hc : Cells w A (BL.flat x)) (hl : x.length ≤ c) : Cells w (V.cut A c 0 1) (BL.flat (x.take j)) := by
  have h1 := (hc.cut (c := c) (l := 0) (sz := 1) (fun h => by rw [BL_flat, List.length_map]; omega)).take j
  rw [Nat.zero_mul, List.drop_zero, BL_flat, ← List.map_take, ← BL_flat] at h1
  exact h1
set_option maxRecDepth 100000 in
theorem imageTells_c {w : World} {ra rb : List D} {va vb : List Value} (ha : tyR tState ra) (hra : RepR w ra va) (hla : (imageS ra).length ≤ 16777216) (hb : tyR tState rb) (hrb : RepR w rb vb) (hlb : (imageS rb).length ≤ 16777216) {R : Ending → World → Prop} (k : ∀ w', Ext [] w w' → R (.returned (.bool true)) w') :
    Calls Tryz.prog 5 #[.agg ⟨va⟩, .agg ⟨vb⟩] w R := by
  obtain ⟨a0, a1, A2, n2, c2, A3, n3, c3, A4, n4, c4, rfl⟩ := state_vs ha hra
  obtain ⟨b0, b1, B2, m2, d2, B3, m3, d3, B4, m4, d4, rfl⟩ := state_vs hb hrb
  apply berthlaw26_ImageTells_nf
  intro w11 h11 w12 h12
  obtain ⟨p1, x1, z1⟩ := box_new (cs := stV a0 a1 A2 n2 c2 A3 n3 c3 A4 n4 c4) h11
  obtain ⟨p2, x2, z2⟩ := box_new (cs := stV b0 b1 B2 m2 d2 B3 m3 d3 B4 m4 d4) h12
  have q1 := p1.ext x2 (by simp)
  have E12 := x1.trans x2
  refine Small_c fun w15 x15 => ⟨_, rfl, sel_false rfl ⟨_, _, _, _, _, _, _, _, _, _, _, cadd0 (q1.ext x15 (by simp)), ?_⟩⟩
  refine encode_c ha (hra.ext0 (E12.trans x15)) hla fun A n c w24 x24 o24 => ⟨_, _, _, _, rfl, _, _, _, _, _, _, _, _, _, _, _, cadd0 ((p2.ext x15 (by simp)).ext x24 (by simp)), ?_⟩
  have E24 := (E12.trans x15).trans x24
  refine encode_c hb (hrb.ext0 E24) hlb fun B m d w33 x33 o33 => ⟨_, _, _, _, rfl, ?_⟩
  refine ⟨fun t w' => t = false ∧ w' = w33, sel_false rfl ⟨rfl, rfl⟩, ?_⟩
  rintro _ _ w37 ⟨rfl, h37⟩
  subst h37
  have d33 : Ext [] w37 w37.drew := (Ext.refl _ _).drew
  have x12 : Ext [] w12 w37 := (x15.trans x24).trans x33
  have e12 : ∀ w', Ext [] w12 w' → Ext [] w12 w' := fun _ h => h
  refine sel_false rfl ⟨fun w' => Ext [] w12 w', x12.trans d33, _, _, _, _, _, _, _, _, _, _, _, cellsS e12 (cadd0 q1), _, _, _, _, _, _, _, _, _, _, _, cellsS e12 (cadd0 p2), ?_⟩
  refine equalB_c (((o24.cells.ext0 x33)).ext0 d33) o24.len (o33.cells.ext0 d33) o33.len ⟨_, rfl, x12.trans d33, ?_⟩
  have Ed := (E12.trans x12).trans d33
  refine sameState_c ha (hra.ext0 Ed) hb (hrb.ext0 Ed) fun w' t e g => ⟨t, rfl, (x12.trans d33).trans e, ?_⟩
  have : (decide (imageS ra = imageS rb) == t) = true := by
    by_cases h : ra = rb
    · have ht := g.2 h
      subst ht
      simp [h]
    · have ht : t = false := by cases t; rfl; exact absurd (g.1 rfl) h
      subst ht
      have : ¬ imageS ra = imageS rb := fun e => h (image_inj good_state ha hb hla e)
      simp [this]
  rw [this]
  exact k w' (Ed.trans e)
set_option maxRecDepth 100000 in
theorem imageCutShort_c {w : World} {r : List D} {vs : List Value} (ht : tyR tState r) (hr : RepR w r vs) (hl : (imageS r).length ≤ 16777216) (j : Int) {R : Ending → World → Prop} (k : ∀ w', Ext [] w w' → R (.returned (.bool true)) w') :
    Calls Tryz.prog 10 #[.agg ⟨vs⟩, .int .i64 j] w R := by
  obtain ⟨a0, a1, A2, n2, c2, A3, n3, c3, A4, n4, c4, rfl⟩ := state_vs ht hr
  apply berthlaw26_ImageCutShort_nf
  intro w7 h7
  obtain ⟨p1, x1, z1⟩ := box_new (cs := stV a0 a1 A2 n2 c2 A3 n3 c3 A4 n4 c4) h7
  refine Small_c fun w10 x10 => ⟨_, rfl, sel_false rfl ⟨_, _, _, _, _, _, _, _, _, _, _, cadd0 (p1.ext x10 (by simp)), ?_⟩⟩
  refine encode_c ht (hr.ext0 (x1.trans x10)) hl fun A n c w19 x19 o19 => ⟨_, _, _, _, rfl, sel_false rfl ?_⟩
  have E19 := (x1.trans x10).trans x19
  have h20 := image_len20 ht
  have hn := o19.len
  have hcap := o19.cap
  have h20d : decide (((n : Nat) : Int) ≥ 20) = true := by simp; omega
  refine sel_dec (fun h0 => by rw [h20d]; exact k w19 E19) (fun h0 => ?_)
  refine sel_dec (fun h1 => by rw [h20d]; exact k w19 E19) (fun h1 => ?_)
  obtain ⟨i, rfl⟩ : ∃ i : Nat, j = (i : Int) := ⟨j.toNat, by omega⟩
  have hit : ((imageS r).take i).length = Int.toNat (i : Int) - 0 := by rw [List.length_take]; simp only [Int.toNat_natCast]; omega
  refine when_dec ⟨by omega, by omega⟩ (clone_c (cut_B (j := i) o19.cells (by omega)) hit (by simp only [Int.toNat_natCast]; omega) fun A2' c2' w30 x30 o30 => ⟨_, _, _, rfl, ?_⟩)
  have hdrop : (imageS r).drop i ≠ [] := fun h => by
    have := congrArg List.length h
    rw [List.length_drop] at this
    simp at this
    omega
  refine noDecode_c o30.cells o30.len o30.cap (short_no' good_state ht hl hdrop (List.take_append_drop i _).symm) fun w38 fa x38 => ⟨_, _, _, _, _, _, _, _, _, _, _, _, rfl, fun w39 h39 => ?_⟩
  obtain ⟨b39, x39, z39⟩ := box_new (cs := zeroState) h39
  obtain ⟨w40, hs40, p40, x40⟩ := storeW (P := Tryz.prog) (t := 26) (n := 5) iState b39 (vs := zeroState) rfl rfl (by simp [zeroState, Value.oneCell'])
  have x19_38 := x30.trans x38
  have s38 := x19_38.size
  have x19_40 : Ext [] w19 w40 := (x19_38.trans x39).trans' x40 fun x hx => by simp at hx; subst hx; exact .inr s38
  have E40 := E19.trans x19_40
  refine ⟨w40, hs40, when_intro rfl (sel_false rfl ?_)⟩
  refine sel_dec (fun h6 => k w40 E40) (fun h6 => ?_)
  have ew : IntKind.wrap .i64 (((n : Nat) : Int) - 8) = ((n - 8 : Nat) : Int) := by rw [wi64 (by omega)]; omega
  rw [ew]
  refine sel_dec (fun h8 => k w40 E40) (fun h8 => ?_)
  refine when_dec ⟨by omega, by omega⟩ (clone_c ((cut_B (j := i) o19.cells (by omega)).ext0 x19_40) hit (by simp only [Int.toNat_natCast]; omega) fun A3' c3' w43 x43 o43 => ⟨_, _, _, rfl, ?_⟩)
  refine signed_c (.own o43) x43.size (by simp only [Int.toNat_natCast]; omega) fun A4' c4' w46 e46 o46 => ⟨_, _, _, rfl, ?_⟩
  have x46 : Ext [] w40 w46 := x43.trans' e46 fun y hy => .inr (o43.base y hy).1
  have hlen := inner_len (r := r)
  have htk : innerS r = (imageS r).take i ++ (innerS r).drop i := by
    have : (imageS r).take i = (innerS r).take i := by
      rw [imageS, signS, List.take_append_of_le_length (by omega)]
    rw [this, List.take_append_drop]
  have hdrop2 : (innerS r).drop i ≠ [] := fun h => by
    have := congrArg List.length h
    rw [List.length_drop] at this
    simp at this
    omega
  refine noDecode_c o46.cells o46.len o46.cap (short_no good_state ht hl hdrop2 htk) fun w54 fa' x54 => ⟨_, _, _, _, _, _, _, _, _, _, _, _, rfl, when_intro rfl (k w54 ((E40.trans x46).trans x54))⟩
theorem turn_byte {c : UInt8} {x : Int} (h0 : 0 ≤ x) (h1 : x < 256) (hx : ¬ x = 0) : c ≠ UInt8.ofNat (BitVec.toNat (BitVec.ofInt 8 (c.toNat : Int) ^^^ BitVec.ofInt 8 x) % 256) := fun h => by
  have hN := (BitVec.ofInt 8 (c.toNat : Int) ^^^ BitVec.ofInt 8 x).isLt
  have h2 := congrArg UInt8.toNat h
  rw [u8n _ (by omega), Nat.mod_eq_of_lt (by omega)] at h2
  have hc := c.toNat_lt
  have h3 : (BitVec.ofInt 8 (c.toNat : Int)).toNat = c.toNat := by rw [BitVec.ofInt_natCast, BitVec.toNat_ofNat, Nat.mod_eq_of_lt (by omega)]
  have h4 : BitVec.ofInt 8 (c.toNat : Int) = BitVec.ofInt 8 (c.toNat : Int) ^^^ BitVec.ofInt 8 x := BitVec.eq_of_toNat_eq (by omega)
  have h5 : BitVec.ofInt 8 x = 0#8 := by
    have := congrArg (BitVec.ofInt 8 (c.toNat : Int) ^^^ ·) h4
    simp only [BitVec.xor_self, ← BitVec.xor_assoc, BitVec.zero_xor] at this
    exact this.symm
  have h6 := congrArg BitVec.toNat h5
  obtain ⟨y, rfl⟩ : ∃ y : Nat, x = (y : Int) := ⟨x.toNat, by omega⟩
  rw [BitVec.ofInt_natCast, BitVec.toNat_ofNat, Nat.mod_eq_of_lt (by omega)] at h6
  simp at h6
  omega
theorem i1u8 : (Tryz.prog.info? 5).map (·.size) = some 1 := by kernel_rfl
set_option maxRecDepth 100000 in
theorem imageTurned_c {w : World} {r : List D} {vs : List Value} (ht : tyR tState r) (hr : RepR w r vs) (hl : (imageS r).length ≤ 16777216) (j x : Int) (hx0 : 0 ≤ x) (hx1 : x < 256) {R : Ending → World → Prop} (k : ∀ w', Ext [] w w' → R (.returned (.bool true)) w') :
    Calls Tryz.prog 4 #[.agg ⟨vs⟩, .int .i64 j, .int .u8 x] w R := by
  obtain ⟨a0, a1, A2, n2, c2, A3, n3, c3, A4, n4, c4, rfl⟩ := state_vs ht hr
  apply berthlaw26_ImageTurned_nf
  intro w8 h8
  obtain ⟨p1, x1, z1⟩ := box_new (cs := stV a0 a1 A2 n2 c2 A3 n3 c3 A4 n4 c4) h8
  refine Small_c fun w11 x11 => ⟨_, rfl, sel_false rfl ⟨_, _, _, _, _, _, _, _, _, _, _, cadd0 (p1.ext x11 (by simp)), ?_⟩⟩
  refine encode_c ht (hr.ext0 (x1.trans x11)) hl fun A n c w20 x20 o20 => ⟨_, _, _, _, rfl, sel_false rfl ?_⟩
  have E20 := (x1.trans x11).trans x20
  have h20 := image_len20 ht
  have hn := o20.len
  have hcap := o20.cap
  have h20d : decide (((n : Nat) : Int) ≥ 20) = true := by simp; omega
  refine sel_dec (fun h0 => by rw [h20d]; exact k w20 E20) (fun h0 => ?_)
  refine sel_dec (fun h1 => by rw [h20d]; exact k w20 E20) (fun h1 => ?_)
  refine sel_int (fun h2 => by rw [h20d]; exact k w20 E20) (fun h2 => ?_)
  obtain ⟨i, rfl⟩ : ∃ i : Nat, j = (i : Int) := ⟨j.toNat, by omega⟩
  obtain ⟨y, ad, hy, hA, rd⟩ := o20.row (a := i) (by omega)
  have hiw : IntKind.wrap .u8 ((BitVec.toNat (BitVec.ofInt 8 (y.toNat : Int) ^^^ BitVec.ofInt 8 x) : Nat) : Int) = ((UInt8.ofNat (BitVec.toNat (BitVec.ofInt 8 (y.toNat : Int) ^^^ BitVec.ofInt 8 x) % 256)).toNat : Int) := u8_mod _
  obtain ⟨g, w32, hA', hs32, o32, e32⟩ := o20.set1 (P := Tryz.prog) (t := 5) (i := i) (y := UInt8.ofNat (BitVec.toNat (BitVec.ofInt 8 (y.toNat : Int) ^^^ BitVec.ofInt 8 x) % 256)) (by omega) rfl rfl i1u8 rfl
  rw [hA'] at hA
  cases hA
  rw [hA'] at o32 ⊢
  refine when_dec ⟨by omega, by omega⟩ (ptr_in ⟨_, by have := rd 0 _ rfl; rw [Addr.add_zero'] at this; exact this, when_dec ⟨by omega, by omega⟩ (ptr_in ⟨w32, by rw [hiw, Int.toNat_natCast]; exact hs32, ?_⟩)⟩)
  have E32 : Ext [] w w32 := E20.trans' e32 fun z hz => .inr (by have := (o20.base z hz).1; have := (x1.trans x11).size; omega)
  obtain ⟨hil, hyg⟩ := List.getElem?_eq_some_iff.1 hy
  have himg : imageS r = (imageS r).take i ++ y :: (imageS r).drop (i + 1) := by
    rw [← drop_step hy, List.take_append_drop]
  have hset : ∀ z, (imageS r).set i z = (imageS r).take i ++ z :: (imageS r).drop (i + 1) := fun z => by
    rw [List.set_eq_take_append_cons_drop, if_pos hil]
  refine noDecode_c o32.cells o32.len o32.cap (by rw [hset]; exact turned_no (turn_byte hx0 hx1 h2) himg) fun w40 fa x40 => ⟨_, _, _, _, _, _, _, _, _, _, _, _, rfl, fun w41 h41 => ?_⟩
  obtain ⟨b41, x41, z41⟩ := box_new (cs := zeroState) h41
  obtain ⟨w42, hs42, p42, x42⟩ := storeW (P := Tryz.prog) (t := 26) (n := 5) iState b41 (vs := zeroState) rfl rfl (by simp [zeroState, Value.oneCell'])
  have E40 := E32.trans x40
  have s40 := E40.size
  have E42 : Ext [] w w42 := (E40.trans x41).trans' x42 fun x hx => by simp at hx; subst hx; exact .inr s40
  refine ⟨w42, hs42, when_intro rfl (sel_true rfl ⟨_, _, _, _, _, _, _, _, _, _, _, cadd0 p42, ?_⟩)⟩
  refine sameState_c zero_ty zero_rep zero_ty zero_rep fun w' t e g => ⟨t, rfl, ?_⟩
  rw [g.2 rfl]
  exact k w' (E42.trans e)
end Go.Proofs.YtoaeefjcjdhlkaaGreat
