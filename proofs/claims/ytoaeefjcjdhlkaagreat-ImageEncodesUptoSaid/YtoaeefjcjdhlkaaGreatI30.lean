/- Image: the document's table of texts. -/
import Derived.Test.YtoaeefjcjdhlkaaGreatI29
set_option linter.unusedVariables false
set_option linter.unusedSimpArgs false
namespace Go.Proofs.YtoaeefjcjdhlkaaGreat
open Go Go.V Go.B

/-- j is the place of s in the rising list T. -/
def PlaceOf (T : List ByteArray) (s : ByteArray) (j : Nat) : Prop := j ≤ T.length ∧ (∀ i t, T[i]? = some t → i < j → bs t < bs s) ∧ ∀ i t, T[i]? = some t → j ≤ i → ¬ bs t < bs s
theorem strict_lt {T : List ByteArray} (h : Strict T) {i j : Nat} {x y : ByteArray} (hx : T[i]? = some x) (hy : T[j]? = some y) (hij : i < j) : bs x < bs y := by
  obtain ⟨h1, rfl⟩ := List.getElem?_eq_some_iff.1 hx
  obtain ⟨h2, rfl⟩ := List.getElem?_eq_some_iff.1 hy
  exact List.pairwise_iff_getElem.1 h i j h1 h2 hij
theorem place_c {w : World} {A : Option Addr} {n c : Nat} {T : List ByteArray} (hc : Cells w A (SL.flat T)) (hl : T.length = n) (hn : n ≤ 1000000000000) (hT : Strict T) {s : ByteArray} {R : Ending → World → Prop} (k : ∀ j : Nat, PlaceOf T s j → R (.returned (.int .i64 (j : Int))) w) : Calls Tryz.prog 26 #[.slice A n c, .string s] w R := by
  apply berthref26_place_nf
  refine ⟨fun lo hi w' => ∃ a b : Nat, lo = (a : Int) ∧ hi = (b : Int) ∧ a ≤ b ∧ b ≤ n ∧ w' = w ∧ (∀ i t, T[i]? = some t → i < a → bs t < bs s) ∧ ∀ i t, T[i]? = some t → b ≤ i → ¬ bs t < bs s, fun lo hi _ => hi.toNat - lo.toNat, ⟨0, n, rfl, rfl, by omega, by omega, rfl, fun i t _ h => by omega, fun i t ht h => by have := (List.getElem?_eq_some_iff.1 ht).1; omega⟩, ?_⟩
  rintro _ _ _ w8 ⟨a, b, rfl, rfl, hab, hbn, h8, h1, h2⟩
  subst h8
  refine sel_dec (fun hlt => ?_) (fun hge => ?_)
  rotate_left
  · obtain rfl : a = b := by omega
    exact k a ⟨by omega, h1, h2⟩
  have em : IntKind.wrap .i64 (Int.tdiv (IntKind.wrap .i64 ((a : Int) + (b : Int))) 2) = (((a + b) / 2 : Nat) : Int) := by
    rw [wi64 (n := (a : Int) + (b : Int)) (by omega), Int.tdiv_eq_ediv_of_nonneg (by omega), wi64 (by omega)]
    omega
  refine lt_eq em (when_dec ⟨by omega, by omega⟩ ?_)
  obtain ⟨x, ad, hx, rfl, rd⟩ := Cells.row (L := SL) hc hl (a := (a + b) / 2) (by omega)
  refine ptr_in ⟨x, by have := rd 0 _ rfl; rw [Addr.add_zero'] at this; exact this, ?_⟩
  rw [blt']
  refine sel_dec (fun hlt2 => ?_) (fun hge2 => ?_)
  · rw [up64 ((a + b) / 2) (by omega)]
    refine ⟨⟨(a + b) / 2 + 1, b, rfl, rfl, by omega, hbn, rfl, fun i t ht hi => ?_, h2⟩, by simp only [Int.toNat_natCast]; omega⟩
    rcases Nat.lt_or_ge i ((a + b) / 2) with h | h
    · exact lt_tr (strict_lt hT ht hx h) hlt2
    · obtain rfl : i = (a + b) / 2 := by omega
      rw [hx] at ht; cases ht; exact hlt2
  · refine ⟨⟨a, (a + b) / 2, rfl, rfl, by omega, by omega, rfl, h1, fun i t ht hi h => ?_⟩, by simp only [Int.toNat_natCast]; omega⟩
    rcases Nat.lt_or_ge ((a + b) / 2) i with h' | h'
    · exact hge2 (lt_tr (strict_lt hT hx ht h') h)
    · obtain rfl : i = (a + b) / 2 := by omega
      rw [hx] at ht; cases ht; exact hge2 h
theorem place_idx {T : List ByteArray} (hT : Strict T) {s : ByteArray} (hs : s ∈ T) {j : Nat} (h : PlaceOf T s j) : idxS T s = j ∧ j < T.length := by
  obtain ⟨i, hi⟩ := List.mem_iff_getElem?.1 hs
  obtain ⟨hil, rfl⟩ := List.getElem?_eq_some_iff.1 hi
  have e : i = j := by
    rcases Nat.lt_or_ge i j with h1 | h1
    · exact absurd (h.2.1 i _ hi h1) (lt_irr _)
    · rcases Nat.lt_or_ge j i with h2 | h2
      · have hj : T[j]? = some (T[j]'(by omega)) := List.getElem?_eq_getElem (by omega)
        exact absurd (strict_lt hT hj hi h2) (h.2.2 j _ hj (Nat.le_refl _))
      · omega
  subst e
  exact ⟨idxS_of hT.nodup hil, hil⟩
theorem ins_mem {T : List ByteArray} (hT : Strict T) {s : ByteArray} (hs : s ∈ T) : insS T s = T := strict_eq (hT.ins s) hT fun x => by
  rw [mem_insS]
  exact ⟨fun h => h.elim id (fun h => h ▸ hs), .inl⟩
theorem ins_place {T : List ByteArray} (hT : Strict T) {s : ByteArray} {j : Nat} (h : PlaceOf T s j) (hs : T[j]? ≠ some s) : insS T s = T.take j ++ s :: T.drop j := by
  have hgt : ∀ i t, T[i]? = some t → j ≤ i → bs s < bs t := fun i t ht hi => by
    rcases lt_tri (bs s) (bs t) with h1 | h1 | h1
    · exact h1
    · have e := bs_inj h1
      subst e
      rcases Nat.lt_or_ge j i with h2 | h2
      · have hj : T[j]? = some (T[j]'(by have := (List.getElem?_eq_some_iff.1 ht).1; omega)) := List.getElem?_eq_getElem _
        exact absurd (strict_lt hT hj ht h2) (h.2.2 j _ hj (Nat.le_refl _))
      · obtain rfl : i = j := by omega
        exact absurd ht hs
    · exact absurd h1 (h.2.2 i t ht hi)
  refine strict_eq (hT.ins s) ?_ fun x => ?_
  · refine List.pairwise_append.2 ⟨hT.sublist (List.take_sublist _ _), List.pairwise_cons.2 ⟨fun x hx => ?_, hT.sublist (List.drop_sublist _ _)⟩, fun x hx y hy => ?_⟩
    · obtain ⟨i, hi⟩ := List.mem_iff_getElem?.1 hx
      rw [List.getElem?_drop] at hi
      exact hgt _ x hi (by omega)
    · obtain ⟨i, hi⟩ := List.mem_iff_getElem?.1 hx
      have hij : i < j := by have := (List.getElem?_eq_some_iff.1 hi).1; rw [List.length_take] at this; omega
      rw [List.getElem?_take, if_pos hij] at hi
      have hxs := h.2.1 i x hi hij
      rcases List.mem_cons.1 hy with rfl | hy
      · exact hxs
      · obtain ⟨i', hi'⟩ := List.mem_iff_getElem?.1 hy
        rw [List.getElem?_drop] at hi'
        exact lt_tr hxs (hgt _ y hi' (by omega))
  · rw [mem_insS, List.mem_append, List.mem_cons]
    constructor
    · rintro (hm | rfl)
      · rw [← List.take_append_drop j T, List.mem_append] at hm
        exact hm.elim .inl (fun h => .inr (.inr h))
      · exact .inr (.inl rfl)
    · rintro (hm | rfl | hm)
      · exact .inl (List.mem_of_mem_take hm)
      · exact .inr rfl
      · exact .inl (List.mem_of_mem_drop hm)
theorem set_mid {α : Type} : ∀ (a : List α) (z y : α) (b : List α), (a ++ z :: b).set a.length y = a ++ y :: b
  | [], z, y, b => rfl
  | x :: a, z, y, b => by simp [set_mid a z y b]

/-- A count behind bytes. -/
theorem sevensR_c {w : World} {B : Nat} {A : Option Addr} {l c : Nat} {x : List UInt8} (own : Bts w B A l c x) (hB : B ≤ w.heap.size) (hl : l + 10 ≤ 140737488355328) {n : Nat} (hn : n < 18446744073709551616) {R : Ending → World → Prop}
    (k : ∀ A' l' c' w', OwnL BL w' B 5 A' l' c' (x ++ sevens n) → Ext (ownF A) w w' → (∀ y ∈ ownF A', y ∈ ownF A ∨ w.heap.size ≤ y) → R (.returned (.slice A' l' c')) w') : Calls Tryz.prog 25 #[.slice A l c, .int .u64 (n : Int)] w R := by
  apply berthref26_sevens_nf
  have hs10 := sevens_ten hn
  have hxl := own.len
  refine ⟨fun A' l' c' t w' => ∃ (q : Nat) (p : List UInt8), t = q ∧ q < 18446744073709551616 ∧ sevens n = p ++ sevens q ∧ Bts w' B A' l' c' (x ++ p) ∧ Ext (ownF A) w w' ∧ ∀ y ∈ ownF A', y ∈ ownF A ∨ w.heap.size ≤ y, fun _ _ _ t _ => t.toNat, ⟨n, [], rfl, hn, rfl, by simpa using own, Ext.refl _ _, fun y h => .inl h⟩, ?_⟩
  rintro A' l' c' _ _ w9 ⟨q, p, rfl, hqn, hp, h9, e9, f9⟩
  have hpl := congrArg List.length hp
  rw [List.length_append] at hpl
  have hq1 := sevens_pos q
  have hl9 := h9.len
  rw [List.length_append] at hl9
  have hs9 := e9.size
  refine sel_dec (fun hgt => ?_) (fun hle => ?_)
  · have hq : ¬ q < 128 := by omega
    intro w12 h12
    have eb : IntKind.wrap .u8 (IntKind.wrap .u64 (Int.tmod (q : Int) 128 + 128)) = (((UInt8.ofNat (q % 128 + 128)).toNat : Nat) : Int) := by
      rw [u8n _ (by omega), Int.tmod_eq_emod_of_nonneg (by omega), wu64', wu8]
      omega
    rw [eb] at h12
    obtain ⟨A2, c2, w2, hr, ho, he, hat⟩ := h9.more h12 (by omega) (by omega)
    have ed : IntKind.wrap .u64 (Int.tdiv (q : Int) 128) = ((q / 128 : Nat) : Int) := by
      rw [Int.tdiv_eq_ediv_of_nonneg (by omega), wu64']
      omega
    rw [ed]
    refine ⟨A2, _, c2, w2, hr, ⟨q / 128, p ++ [UInt8.ofNat (q % 128 + 128)], rfl, by omega, by rw [hp, sevens_big hq]; simp, by rw [← List.append_assoc]; exact .own ho, e9.trans' he f9, fun y hy => ?_⟩, by simp only [Int.toNat_natCast]; omega⟩
    rcases hat y hy with h | h
    · exact f9 y h
    · exact .inr (by omega)
  · have hq : q < 128 := by omega
    intro w12 h12
    have eb : IntKind.wrap .u8 (q : Int) = (((UInt8.ofNat q).toNat : Nat) : Int) := by
      rw [u8n _ (by omega), wu8]
      omega
    rw [eb] at h12
    obtain ⟨A2, c2, w2, hr, ho, he, hat⟩ := h9.more h12 (by omega) (by omega)
    refine ⟨A2, _, c2, w2, hr, k _ _ _ _ ?_ (e9.trans' he f9) fun y hy => ?_⟩
    · rw [hp, sevens_small hq, ← List.append_assoc]
      exact ho
    · rcases hat y hy with h | h
      · exact f9 y h
      · exact .inr (by omega)
theorem encP_parts (p : Piece) : ∃ (kn m : Int) (t : ByteArray), encP p = [.int .i64 kn, .int .i64 m, .string t] ∧ (kn ≠ 4 ∧ textOf p = none ∨ kn = 4 ∧ textOf p = some t) := by
  cases p with
  | count n => exact ⟨_, _, _, rfl, .inl ⟨by decide, rfl⟩⟩
  | num n => exact ⟨_, _, _, rfl, .inl ⟨by decide, rfl⟩⟩
  | truth b => exact ⟨_, _, _, rfl, .inl ⟨by decide, rfl⟩⟩
  | text s => exact ⟨_, _, _, rfl, .inr ⟨rfl, rfl⟩⟩
theorem tableOf_snoc (ps : List Piece) (p : Piece) : tableOf (ps ++ [p]) = match textOf p with | some s => insS (tableOf ps) s | none => tableOf ps := by
  unfold tableOf texts
  rw [List.filterMap_append, List.foldl_append]
  cases h : textOf p with
  | none => simp [h]
  | some s => simp [h]
theorem tableOf_strict (ps : List Piece) : Strict (tableOf ps) := tableGo_strict _ List.Pairwise.nil
/-- The texts of the pieces, in their order, each once. -/
theorem Table_c {w : World} {A : Option Addr} {n c : Nat} {ps : List Piece} (hc : Cells w A (PL.flat ps)) (hl : ps.length = n) (hn : n ≤ 1000000000000) {R : Ending → World → Prop}
    (k : ∀ A' l' c' w', OwnL SL w' w.heap.size 9 A' l' c' (tableOf ps) → l' ≤ n → Ext [] w w' → R (.returned (.slice A' l' c')) w') : Calls Tryz.prog 24 #[.slice A n c] w R := by
  apply berthref26_Table_nf
  refine ⟨fun A' l' c' i w' => ∃ a : Nat, i = (a : Int) ∧ a ≤ n ∧ l' ≤ a ∧ Ext [] w w' ∧ OwnL SL w' w.heap.size 9 A' l' c' (tableOf (ps.take a)), fun _ _ _ i _ => n - i.toNat, ⟨0, rfl, by omega, by omega, Ext.refl _ _, OwnL.nil _ _ _⟩, ?_⟩
  rintro A1 l1 c1 _ _ w7 ⟨a, rfl, ha, hla, e7, o7⟩
  refine sel_dec (fun hlt => ?_) (fun hge => ?_)
  rotate_left
  · obtain rfl : a = n := by omega
    rw [List.take_of_length_le (by omega)] at o7
    exact k _ _ _ _ o7 hla e7
  have hs7 := e7.size
  have ha : a < n := by omega
  have hT := tableOf_strict (ps.take a)
  generalize hTd : tableOf (ps.take a) = T at hT o7
  have hTl := o7.len
  have hcx : ∀ {w' : World}, Ext [] w w' → Cells w' A (PL.flat ps) := fun e => hc.ext0 e
  obtain ⟨x, ad, hx, rfl, rd⟩ := Cells.row (hcx e7) hl ha
  obtain ⟨kn, m, s, ek, hk⟩ := encP_parts x
  have rdx : ∀ {w' : World}, Ext [] w w' → cellsC (fun a v => w'.cell? a = some v) (ad.add (Int.toNat (a : Int) * 3)) [.int .i64 kn, .int .i64 m, .string s] := fun e => by
    obtain ⟨x', ad', hx', had, rd'⟩ := Cells.row (hcx e) hl ha
    rw [hx] at hx'
    cases hx'
    cases had
    rw [show PL.enc x = _ from ek] at rd'
    exact rd'
  have hsn := tableOf_snoc (ps.take a) x
  rw [← take_snoc hx, hTd] at hsn
  refine when_dec ⟨by omega, by omega⟩ (ptr_in ⟨kn, rdx e7 0 _ rfl, ?_⟩)
  rcases hk with ⟨hk, htx⟩ | ⟨hk, htx⟩
  · refine sel_true (by simpa using hk) ?_
    rw [up64 a (by omega)]
    rw [htx] at hsn
    exact ⟨⟨a + 1, rfl, by omega, by omega, e7, by rw [hsn]; exact o7⟩, by simp only [Int.toNat_natCast]; omega⟩
  subst hk
  rw [htx] at hsn
  replace hsn : tableOf (ps.take (a + 1)) = insS T s := hsn
  refine sel_false (by rfl) (when_dec ⟨by omega, by omega⟩ (ptr_in ⟨s, rdx e7 2 _ rfl, ?_⟩))
  refine place_c o7.cells hTl (by omega) hT fun j hj => ⟨(j : Int), rfl, ?_⟩
  refine ⟨fun w' => Ext [] w w' ∧ OwnL SL w' w.heap.size 9 A1 l1 c1 T ∧ T[j]? ≠ some s, ?_, ?_⟩
  · have ed : Ext [] w7 w7.drew := (Ext.refl _ w7).drew
    refine sel_dec (fun hjl => ?_) (fun hjl => ?_)
    · obtain ⟨y, ad2, hy, rfl, rd2⟩ := o7.row (a := j) (by omega)
      refine when_dec ⟨by omega, by omega⟩ (ptr_in ⟨y, by have := rd2 0 _ rfl; rw [Addr.add_zero'] at this; exact this, ?_⟩)
      refine when_dec ⟨by omega, by omega⟩ (ptr_in ⟨s, rdx e7 2 _ rfl, ?_⟩)
      by_cases hys : y = s
      · subst hys
        refine sel_true (by simp) ?_
        rw [up64 a (by omega)]
        exact ⟨⟨a + 1, rfl, by omega, by omega, e7.trans ed, by rw [hsn, ins_mem hT (List.mem_of_getElem? hy)]; exact o7.ext0 ed⟩, by simp only [Int.toNat_natCast]; omega⟩
      · refine sel_false (by rw [beqBytes]; exact decide_eq_false hys) ⟨e7.trans ed, o7.ext0 ed, by rw [hy]; exact fun h => hys (Option.some.inj h)⟩
    · exact ⟨e7.trans ed, o7.ext0 ed, by rw [List.getElem?_eq_none (by omega)]; simp⟩
  rintro j20 w21 ⟨e21, o21, hjs⟩ w22 h22
  obtain ⟨b22, x22, z22⟩ := box_new (cs := SL.enc ByteArray.empty) h22
  have hs21 := e21.size
  obtain ⟨A2, c2, w24, hr24, o24, e24, hF⟩ := (o21.ext0 x22).more (P := Tryz.prog) (t := 56) (ty := 56) (x := ByteArray.empty) uSl iSt rfl (by omega) b22 (by omega) (by omega)
  refine ⟨A2, _, c2, w24, hr24, ?_⟩
  have ew24 : Ext [] w w24 := (e21.trans x22).trans' e24 fun b hb => .inr (o21.base b hb).1
  have el : IntKind.wrap .i64 (((l1 + 1 : Nat) : Int) - 1) = ((l1 : Nat) : Int) := by rw [wi64 (by omega)]; omega
  refine lt_eq el ?_
  have hpj := hj.1
  refine ⟨fun jj w' => ∃ (b : Nat) (z : ByteArray), jj = (b : Int) ∧ j ≤ b ∧ b ≤ l1 ∧ Ext [] w w' ∧ OwnL SL w' w.heap.size 9 A2 (l1 + 1) c2 (T.take b ++ z :: T.drop b), fun jj _ => jj.toNat, ⟨l1, _, rfl, by omega, by omega, ew24, by rw [List.take_of_length_le (by omega), List.drop_of_length_le (by omega)]; exact o24⟩, ?_⟩
  rintro _ _ w30 ⟨b, z, rfl, hjb, hbl, e30, o30⟩
  have hmid : ∀ {y z : ByteArray}, (T.take b ++ z :: T.drop b).set b y = T.take b ++ y :: T.drop b := fun {y z} => by
    have := set_mid (T.take b) z y (T.drop b)
    rwa [List.length_take, Nat.min_eq_left (by omega)] at this
  have hat : (T.take b ++ z :: T.drop b)[b]? = some z := by
    rw [List.getElem?_append_right (by rw [List.length_take]; omega), List.length_take, Nat.min_eq_left (by omega), Nat.sub_self]; rfl
  refine sel_dec (fun hgt => ?_) (fun hle => ?_)
  · obtain ⟨b, rfl⟩ : ∃ b', b = b' + 1 := ⟨b - 1, by omega⟩
    have ed : IntKind.wrap .i64 (((b + 1 : Nat) : Int) - 1) = ((b : Nat) : Int) := by rw [wi64 (by omega)]; omega
    rw [ed]
    obtain ⟨y, ad2, hy, hA2, rd2⟩ := o30.row (a := b) (by omega)
    obtain ⟨g, w34, hA3, hr34, o34, e34⟩ := o30.setCell (P := Tryz.prog) (i := b + 1) (k := 0) (x := z) (y := y) (v := .string y) hat (by show 0 < 1; omega) rfl (t := 9) (by kernel_rfl) rfl rfl
    rw [hA2] at hA3
    cases hA3
    subst hA2
    refine when_dec ⟨by omega, by omega⟩ (ptr_in ⟨y, by have := rd2 0 _ rfl; rw [Addr.add_zero'] at this; exact this, ?_⟩)
    refine when_dec ⟨by omega, by omega⟩ (ptr_in ⟨w34, by rw [Addr.add_zero'] at hr34; exact hr34, ?_, by simp only [Int.toNat_natCast]; omega⟩)
    have hyT : T[b]? = some y := by
      rw [List.getElem?_append_left (by rw [List.length_take]; omega), List.getElem?_take, if_pos (by omega)] at hy
      exact hy
    refine ⟨b, y, rfl, by omega, by omega, e30.trans' e34 fun q hq => .inr (o30.base q hq).1, ?_⟩
    rw [hmid, take_snoc hyT] at o34
    obtain ⟨hbT, hyb⟩ := List.getElem?_eq_some_iff.1 hyT
    rw [List.drop_eq_getElem_cons hbT, hyb]
    simpa using o34
  · obtain rfl : b = j := by omega
    obtain ⟨g, w38, rfl, hr38, o38, e38⟩ := o30.setCell (P := Tryz.prog) (i := b) (k := 0) (x := z) (y := s) (v := .string s) hat (by show 0 < 1; omega) rfl (t := 9) (by kernel_rfl) rfl rfl
    refine when_dec ⟨by omega, by omega⟩ (ptr_in ⟨s, rdx e30 2 _ rfl, ?_⟩)
    refine when_dec ⟨by omega, by omega⟩ (ptr_in ⟨w38, by rw [Addr.add_zero'] at hr38; exact hr38, ?_⟩)
    rw [up64 a (by omega)]
    rw [hmid, ← ins_place hT hj hjs] at o38
    exact ⟨⟨a + 1, rfl, by omega, by omega, e30.trans' e38 fun q hq => .inr (o30.base q hq).1, by rw [hsn]; exact o38⟩, by simp only [Int.toNat_natCast]; omega⟩

/-- []byte(the head). -/
theorem headR_c {w w6 : World} {B : Nat} (hB : B ≤ w.heap.size) (h6 : w6 = w.alloc (.cells #[.int .u8 98, .int .u8 101, .int .u8 114, .int .u8 116, .int .u8 104, .int .u8 1] 5)) :
    ∃ A w8, (convert 28 28 (.slice (some ⟨w.heap.size, 0, none⟩) 6 6)).run Tryz.prog w6 = .ok (.slice A 6 6) w8 ∧ Bts w8 B A 6 6 headB ∧ Ext [] w w8 := by
  subst h6
  refine ⟨_, _, Go.Lib.run_convert_bytes_const (P := Tryz.prog) w 28 5 _ 6 6 uB uU8, ?_⟩
  generalize h8 : w.alloc (.cells #[.int .u8 98, .int .u8 101, .int .u8 114, .int .u8 116, .int .u8 104, .int .u8 1] 5 (6, 6 + 1)) = w8
  have x8 : Ext [] w w8 := by rw [← h8]; exact (Ext.refl _ _).alloc _
  have s8 : w8.heap.size = w.heap.size + 1 := by rw [← h8]; exact World.size_alloc _ _
  have c8 : Cells w8 (some ⟨w.heap.size, 0, none⟩) (BL.flat headB) := fun j v hj => ⟨_, rfl, by
    rw [Addr.add0, ← h8, World.cell?_alloc_mark]
    rw [BL_flat] at hj
    rw [← Array.getElem?_toList]
    exact hj⟩
  exact ⟨.full w.heap.size rfl hB (by omega) rfl c8 rfl, x8⟩
theorem text_mem {P : List Piece} {s : ByteArray} (h : s ∈ texts P) : Piece.text s ∈ P := by
  unfold texts at h
  obtain ⟨p, hp, hs⟩ := List.mem_filterMap.1 h
  cases p <;> simp [textOf] at hs
  subst hs
  exact hp
theorem mem_text {P : List Piece} {s : ByteArray} (h : Piece.text s ∈ P) : s ∈ texts P := List.mem_filterMap.2 ⟨_, h, rfl⟩
theorem EncodeRef_c {w : World} {r : List D} {vs : List Value} (ht : tyR tState r) (hr : RepR w r vs) (hok : ∀ p ∈ flatR r, okP p) (hb : (imageS r).length ≤ 16777216) {R : Ending → World → Prop}
    (k : ∀ A n c w', Ext [] w w' → OwnL BL w' w.heap.size 5 A n c (imageS r) → R (.returned (.tuple #[.slice A n c, .int .i64 0])) w') :
    Calls Tryz.prog 13 #[.agg ⟨vs⟩] w R := by
  have ht0 := ht
  have hr0 := hr
  have hii := inner_len (r := r)
  have hpl := piecesB_len (tableOf (flatR r)) (flatR r)
  have hTl := table_len (flatR r)
  have hmt : ∀ s, s ∈ tableOf (flatR r) ↔ s ∈ texts (flatR r) := fun s => mem_table
  have hTst := tableOf_strict (flatR r)
  have hin : innerS r = headB ++ (tableB (tableOf (flatR r)) ++ piecesB (tableOf (flatR r)) (flatR r)) := rfl
  have hfl := congrArg List.length hin
  simp only [List.length_append] at hfl
  have himg : imageS r = signS (innerS r) := rfl
  have hFc : ∀ {w' : World} {vs : List Value} {R : Ending → World → Prop}, RepR w' r vs → (∀ A n c w'', Pc w' w'' A n c (flatR r) → R (.returned (.slice A n c)) w'') → Calls Tryz.prog 23 #[.agg ⟨vs⟩] w' R := fun h k => Flat_c ht0 h (by omega) k
  generalize tableOf (flatR r) = T at hpl hTl hmt hTst hin hfl
  have hTeq : tableOf (flatR r) = T := strict_eq (tableOf_strict _) hTst fun x => by rw [mem_table, hmt]
  obtain ⟨s0, r0, u0, rfl, rfl, z0, ht, hr⟩ := inv_int ht hr
  obtain ⟨s1, r1, u1, rfl, rfl, z1, ht, hr⟩ := inv_int ht hr
  obtain ⟨s2, A2, n2, c2, m2, xs2, r2, u2, rfl, rfl, z2, ht, hr⟩ := inv_list ht hr
  obtain ⟨s3, A3, n3, c3, m3, xs3, r3, u3, rfl, rfl, z3, ht, hr⟩ := inv_list ht hr
  obtain ⟨s4, A4, n4, c4, m4, xs4, r4, u4, rfl, rfl, z4, ht, hr⟩ := inv_list ht hr
  obtain ⟨rfl, rfl⟩ := inv_nil ht hr
  apply berthref26_Encode_nf
  intro w6 h6
  obtain ⟨b6, x6, z6⟩ := box_new h6
  refine ⟨_, _, _, _, _, _, _, _, _, _, _, cadd0 b6, ?_⟩
  refine hFc (RepR.ext0 x6 hr0) fun A12 n12 c12 w14 pc => ⟨_, _, _, rfl, ?_⟩
  clear hFc
  have hP14 := pc.own.cells
  have hPl := pc.len
  have e14 := x6.trans pc.ex
  generalize hPd : flatR [D.int s0, D.int s1, D.list s2, D.list s3, D.list s4] = P at *
  refine Table_c hP14 hPl (by omega) fun A15 l15 c15 w17 o17 hl17 e17 => ⟨_, _, _, rfl, ?_⟩
  rw [hTeq] at o17
  have hP17 : Cells w17 A12 (PL.flat P) := hP14.ext0 e17
  have hT17 := o17.cells
  have hTl17 := o17.len
  have ew17 := e14.trans e17
  intro w18 h18
  obtain ⟨A19, w20, hr20, b20, e20⟩ := headR_c (Nat.le_refl _) h18
  refine ⟨A19, 6, 6, w20, hr20, ?_⟩
  have hs20 := e20.size
  have eu : IntKind.wrap .u64 ((l15 : Nat) : Int) = ((l15 : Nat) : Int) := by rw [wu64']; omega
  rw [eu]
  refine sevensR_c b20 hs20 (by omega) (by omega) fun A21 l21 c21 w23 o23 e23 g23 => ⟨_, _, _, rfl, ?_⟩
  have htB : tableB T = sevens l15 ++ T.flatMap rowB := by rw [tableB, hTl17]
  have htl := congrArg List.length htB
  rw [List.length_append] at htl
  refine ⟨fun A' l' c' i w' => ∃ a : Nat, i = (a : Int) ∧ a ≤ l15 ∧ Ext [] w17 w' ∧ Bts w' w17.heap.size A' l' c' (headB ++ (sevens l15 ++ (T.take a).flatMap rowB)), fun _ _ _ i _ => l15 - i.toNat, ⟨0, rfl, by omega, e20.trans' e23 fun b hb => .inr (b20.base b hb).1, .own (by simpa using o23)⟩, ?_⟩
  rintro A' l' c' _ _ w29 ⟨a, rfl, ha, e29, h29⟩
  have hs29 := e29.size
  have hl29 := h29.len
  have hsplit : (T.take a).flatMap rowB ++ (T.drop a).flatMap rowB = T.flatMap rowB := by rw [← List.flatMap_append, List.take_append_drop]
  have hspl := congrArg List.length hsplit
  simp only [List.length_append] at hl29 hspl
  refine sel_dec (fun hlt => ?_) (fun hge => ?_)
  · obtain ⟨x, ad, hx, rfl, rd⟩ := Cells.row (L := SL) (hT17.ext0 e29) hTl17 (a := a) (by omega)
    have hxs : x.size ≤ 1048576 := by
      have := hok (.text x) (text_mem ((hmt x).1 (List.mem_of_getElem? hx)))
      exact this
    refine when_dec ⟨by omega, by omega⟩ (ptr_in ⟨x, by have := rd 0 _ rfl; rw [Addr.add_zero'] at this; exact this, ?_⟩)
    have eu2 : IntKind.wrap .u64 ((x.size : Nat) : Int) = ((x.size : Nat) : Int) := by rw [wu64']; omega
    rw [eu2]
    refine sevensR_c h29 hs29 (by omega) (by omega) fun A32 l32 c32 w34 o34 e34 g34 => ⟨_, _, _, rfl, ?_⟩
    have ew34 : Ext [] w17 w34 := e29.trans' e34 fun b hb => .inr (h29.base b hb).1
    have hs34 := ew34.size
    have hl34 := o34.len
    have hsx := sevens_ten (n := x.size) (by omega)
    simp only [List.length_append] at hl34
    obtain ⟨x', ad', hx', had, rd'⟩ := Cells.row (L := SL) (hT17.ext0 ew34) hTl17 (a := a) (by omega)
    rw [hx] at hx'
    cases hx'
    cases had
    obtain ⟨A37, c37, w38, hr38, o38, e38, -⟩ := appS (ty := 28) o34 x hs34 (by omega)
    refine when_dec ⟨by omega, by omega⟩ (ptr_in ⟨x, by have := rd' 0 _ rfl; rw [Addr.add_zero'] at this; exact this, ?_⟩)
    refine ⟨A37, _, c37, w38, hr38, ?_⟩
    rw [up64 a (by omega)]
    refine ⟨⟨a + 1, rfl, by omega, ew34.trans' e38 fun b hb => .inr (o34.base b hb).1, .own ?_⟩, by simp only [Int.toNat_natCast]; omega⟩
    rw [take_snoc hx]
    simpa [rowB] using o38
  obtain rfl : a = l15 := by omega
  rw [List.take_of_length_le (by omega), ← htB] at h29
  refine ⟨fun A' l' c' i w' => ∃ b : Nat, i = (b : Int) ∧ b ≤ n12 ∧ Ext [] w17 w' ∧ Bts w' w17.heap.size A' l' c' (headB ++ (tableB T ++ piecesB T (P.take b))), fun _ _ _ i _ => n12 - i.toNat, ⟨0, rfl, by omega, e29, by simpa [piecesB] using h29⟩, ?_⟩
  rintro B' m' d' _ _ w44 ⟨b, rfl, hbn, e44, h44⟩
  have hs44 := e44.size
  have hl44 := h44.len
  have hsp2 : piecesB T (P.take b) ++ piecesB T (P.drop b) = piecesB T P := by rw [← piecesB_app, List.take_append_drop]
  have hsp2l := congrArg List.length hsp2
  simp only [List.length_append] at hl44 hsp2l
  refine sel_dec (fun hlt => ?_) (fun hge => ?_)
  rotate_left
  · obtain rfl : b = n12 := by omega
    rw [List.take_of_length_le (by omega), ← hin] at h44
    refine signed_c h44 hs44 (by omega) fun A73 c73 w75 e75 o75 => ⟨_, _, _, rfl, ?_⟩
    have hl75 := o75.len
    rw [← himg] at hl75 o75
    refine sel_dec (fun hgt => by omega) fun _ => ?_
    exact k _ _ _ _ (ew17.trans (e44.trans' e75 fun y hy => .inr (h44.base y hy).1)) (o75.weaken ew17.size)
  obtain ⟨x, ad, hx, rfl, rd⟩ := Cells.row (L := PL) (hP17.ext0 e44) hPl (a := b) (by omega)
  have hxP := List.mem_of_getElem? hx
  have hxo := hok x hxP
  have core : ∀ (q : Nat) {R : Ending → World → Prop}, q < 18446744073709551616 → pieceB T x = sevens q → (∀ A' l' c' w', Ext [] w17 w' → Bts w' w17.heap.size A' l' c' (headB ++ (tableB T ++ piecesB T (P.take (b + 1)))) → R (.returned (.slice A' l' c')) w') → Calls Tryz.prog 25 #[.slice B' m' d', .int .u64 (q : Int)] w44 R := fun q R hq hp k =>
    sevensR_c h44 hs44 (by omega) hq fun A' l' c' w' o e g => k A' l' c' w' (e44.trans' e fun y hy => .inr (h44.base y hy).1) (.own (by rw [take_snoc hx, piecesB_app, piecesB_one, hp]; simpa using o))
  cases x with
  | count n =>
    have hn : n ≤ 1048576 := hxo
    refine when_dec ⟨by omega, by omega⟩ (ptr_in ⟨1, rd 0 _ rfl, sel_true rfl (when_dec ⟨by omega, by omega⟩ (ptr_in ⟨(n : Int), rd 1 _ rfl, ?_⟩))⟩)
    rw [show IntKind.wrap .u64 (n : Int) = (n : Int) by rw [wu64']; omega]
    refine core n (by omega) rfl fun A' l' c' w' e o => ⟨_, _, _, rfl, ?_⟩
    rw [up64 b (by omega)]
    exact ⟨⟨b + 1, rfl, by omega, e, o⟩, by simp only [Int.toNat_natCast]; omega⟩
  | num n =>
    have hn : -9223372036854775808 ≤ n ∧ n < 9223372036854775808 := hxo
    have hnl := numCode_lt hn
    refine when_dec ⟨by omega, by omega⟩ (ptr_in ⟨2, rd 0 _ rfl, sel_false rfl (sel_true rfl (when_dec ⟨by omega, by omega⟩ (ptr_in ⟨n, rd 1 _ rfl, sel_dec (fun hp => ?_) (fun hp => ?_)⟩)))⟩)
    · rw [show IntKind.wrap .u64 (IntKind.wrap .u64 n * 2) = ((numCode n : Nat) : Int) by rw [wu64', wu64', numCode, if_pos (by omega)]; omega]
      refine core _ hnl rfl fun A' l' c' w' e o => ⟨_, _, _, rfl, ?_⟩
      rw [up64 b (by omega)]
      exact ⟨⟨b + 1, rfl, by omega, e, o⟩, by simp only [Int.toNat_natCast]; omega⟩
    · rw [show IntKind.wrap .u64 (IntKind.wrap .u64 (IntKind.wrap .u64 (IntKind.wrap .i64 (0 - IntKind.wrap .i64 (n + 1))) * 2) + 1) = ((numCode n : Nat) : Int) by rw [wi64 (n := n + 1) (by omega), wi64 (by omega), wu64', wu64', wu64', numCode, if_neg (by omega)]; omega]
      refine core _ hnl rfl fun A' l' c' w' e o => ⟨_, _, _, rfl, ?_⟩
      rw [up64 b (by omega)]
      exact ⟨⟨b + 1, rfl, by omega, e, o⟩, by simp only [Int.toNat_natCast]; omega⟩
  | truth t =>
    refine when_dec ⟨by omega, by omega⟩ (ptr_in ⟨3, rd 0 _ rfl, sel_false rfl (sel_false rfl (sel_true rfl (when_dec ⟨by omega, by omega⟩ (ptr_in ⟨(if t then 1 else 0), rd 1 _ rfl, fun w62 h62 => ?_⟩))))⟩)
    have et : IntKind.wrap .u8 (if t then 1 else 0) = (((if t then (1 : UInt8) else 0).toNat : Nat) : Int) := by cases t <;> rfl
    rw [et] at h62
    obtain ⟨A63, c63, w64, hr64, o64, e64, -⟩ := h44.more h62 hs44 (by omega)
    refine ⟨A63, _, c63, w64, hr64, ?_⟩
    rw [up64 b (by omega)]
    refine ⟨⟨b + 1, rfl, by omega, e44.trans' e64 fun y hy => .inr (h44.base y hy).1, .own ?_⟩, by simp only [Int.toNat_natCast]; omega⟩
    rw [take_snoc hx, piecesB_app, piecesB_one, pieceB]
    simpa using o64
  | text s =>
    refine when_dec ⟨by omega, by omega⟩ (ptr_in ⟨4, rd 0 _ rfl, sel_false rfl (sel_false rfl (sel_false rfl (when_dec ⟨by omega, by omega⟩ (ptr_in ⟨s, rd 2 _ rfl, ?_⟩))))⟩)
    refine place_c (hT17.ext0 e44) hTl17 (by omega) hTst fun j hj => ⟨(j : Int), rfl, ?_⟩
    obtain ⟨hji, hjl⟩ := place_idx hTst ((hmt s).2 (mem_text hxP)) hj
    rw [show IntKind.wrap .u64 (j : Int) = (j : Int) by rw [wu64']; omega]
    refine core j (by omega) (by rw [pieceB, hji]) fun A' l' c' w' e o => ⟨_, _, _, rfl, ?_⟩
    rw [up64 b (by omega)]
    exact ⟨⟨b + 1, rfl, by omega, e, o⟩, by simp only [Int.toNat_natCast]; omega⟩
end Go.Proofs.YtoaeefjcjdhlkaaGreat
