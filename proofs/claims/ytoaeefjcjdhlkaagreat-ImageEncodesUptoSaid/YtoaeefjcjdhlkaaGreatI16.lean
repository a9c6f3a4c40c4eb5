/- Image: are two things the same? (Printed by gen_image.py.) -/
import Derived.Test.YtoaeefjcjdhlkaaGreatI15
set_option linter.unusedVariables false
set_option linter.unusedSimpArgs false
namespace Go.Proofs.YtoaeefjcjdhlkaaGreat
open Go Go.V Go.B

theorem beqs (a b : ByteArray) : (ByteArray.toList a == ByteArray.toList b) = decide (a = b) := by
  rw [beq', Bool.eq_iff_iff]
  simp only [decide_eq_true_eq]
  exact ⟨bs_inj, fun h => by rw [h]⟩
theorem beqi (a b : Int) : (a == b) = decide (a = b) := by rw [Bool.eq_iff_iff]; simp
theorem sel_str {a b : ByteArray} {p q : Prop} (h : a = b → p) (k : ¬ a = b → q) : sel (ByteArray.toList a == ByteArray.toList b) p q := by rw [beqs]; exact sel_dec h k
theorem sel_int {a b : Int} {p q : Prop} (h : a = b → p) (k : ¬ a = b → q) : sel (a == b) p q := by rw [beqi]; exact sel_dec h k
theorem sel_ne {a b : Int} {p q : Prop} (h : ¬ a = b → p) (k : a = b → q) : sel (a != b) p q := sel_intro (fun e => h (by simpa using e)) (fun e => k (by simpa using e))
theorem sel_bool {a b : Bool} {p q : Prop} (h : a = b → p) (k : ¬ a = b → q) : sel (a == b) p q := sel_intro (fun e => h (by simpa using e)) (fun e => k (by simpa using e))
theorem take_snoc {α : Type} {l : List α} {a : Nat} {x : α} (h : l[a]? = some x) : l.take (a + 1) = l.take a ++ [x] := by rw [List.take_add_one, h]; rfl
/-- The function f tells of two lists whether they are the same. -/
def EqL (f : FuncId) (ts : List Ty) : Prop := ∀ {w : World} {l l' : List (List D)} {A A' : Option Addr} {n n' c c' m m' : Nat} {xs : List (Row (m + 1))} {xs' : List (Row (m' + 1))} {R : Ending → World → Prop}, LRep w ts l A n m xs → LRep w ts l' A' n' m' xs' →
  (∀ w' t, Ext [] w w' → (t = true ↔ l = l') → R (.returned (.bool t)) w') → Calls Tryz.prog f #[.slice A n c, .slice A' n' c'] w R
/-- The function f tells of two rows whether they are the same. -/
def Same2 (f : FuncId) (ts : List Ty) : Prop := ∀ {w : World} {ra rb : List D} {va vb : List Value} {R : Ending → World → Prop}, tyR ts ra → RepR w ra va → tyR ts rb → RepR w rb vb →
  (∀ w' t, Ext [] w w' → (t = true ↔ ra = rb) → R (.returned (.bool t)) w') → Calls Tryz.prog f #[.agg ⟨va⟩, .agg ⟨vb⟩] w R
/-- Two lists of one length, compared from the front. -/
theorem same_end {l l' : List (List D)} {n : Nat} (h : l.length = n) (h' : l'.length = n) (ht : l.take n = l'.take n) : l = l' := by
  rw [List.take_of_length_le (by omega), List.take_of_length_le (by omega)] at ht; exact ht
theorem same_not {l l' : List (List D)} {a : Nat} {r r' : List D} (h : l[a]? = some r) (h' : l'[a]? = some r') (hne : ¬ r = r') : ¬ l = l' := fun e => by
  rw [e, h'] at h; cases h; exact hne rfl
theorem same_step {l l' : List (List D)} {a : Nat} {r r' : List D} (h : l[a]? = some r) (h' : l'[a]? = some r') (ht : l.take a = l'.take a) (e : r = r') : l.take (a + 1) = l'.take (a + 1) := by
  rw [take_snoc h, take_snoc h', ht, e]
theorem row_at {w w' : World} {ts : List Ty} {ad : Addr} {a m k : Nat} {vs : List Value} (hts : ts.length = m + 1) (hk : ts.length = k) (e : Ext [] w w') (rd : cellsC (fun a v => w.cell? a = some v) (ad.add (Int.toNat (a : Int) * (m + 1))) vs) : cellsC (fun a v => w'.cell? a = some v) (ad.add (Int.toNat (a : Int) * k)) vs := by
  have : m + 1 = k := by omega
  subst this
  exact fun i v hv => cell_ext e (rd i v hv) (by simp)
theorem cells8 {w : World} {p : Nat} {a0 a1 a2 a3 a4 a5 a6 a7 : Value} {r : List Value} {T : TypeId} (h : BlkT w p (a0 :: a1 :: a2 :: a3 :: a4 :: a5 :: a6 :: a7 :: r) T) : cellsC (fun a v => w.cell? a = some v) (Addr.add ⟨p, 0, none⟩ 0) [a0, a1, a2, a3, a4, a5, a6, a7] := fun i v hv => by
  rw [Addr.add_zero']
  match i, hv with
  | 0, hv => exact cadd h hv
  | 1, hv => exact cadd h hv
  | 2, hv => exact cadd h hv
  | 3, hv => exact cadd h hv
  | 4, hv => exact cadd h hv
  | 5, hv => exact cadd h hv
  | 6, hv => exact cadd h hv
  | 7, hv => exact cadd h hv
  | _ + 8, hv => cases hv
set_option maxRecDepth 8000 in
theorem eqLabel_c : EqL 64 tLabel := by
  intro w l l' A A' n n' c c' m m' xs xs' R hl hl' k
  apply slices_Equal___api_Label_api_Label__nf
  have hle := hl.le
  refine sel_ne (fun hne => k _ false (Ext.refl _ _) ?_) (fun he => ?_)
  · have h1 := hl.ll
    have h2 := hl'.ll
    simp only [Bool.false_eq_true, false_iff]
    rintro rfl
    omega
  obtain rfl : n = n' := by omega
  refine ⟨fun t w' => ∃ a : Nat, t = (a : Int) ∧ a ≤ n ∧ Ext [] w w' ∧ l.take a = l'.take a, fun t _ => n - t.toNat, ⟨0, rfl, by omega, Ext.refl _ _, by simp⟩, ?_⟩
  rintro _ _ w7 ⟨a, rfl, ha, e7, ht⟩
  refine sel_dec (fun hlt => ?_) (fun hge => ?_)
  rotate_left
  · obtain rfl : a = n := by omega
    exact k w7 true e7 (by simp [same_end hl.ll hl'.ll ht])
  obtain ⟨ra, va, ad, hra, hta, hrra, rfl, hts, rd, -⟩ := hl.row (a := a) (by omega)
  obtain ⟨rb, vb, bd, hrb, htb, hrrb, rfl, hts', rd', -⟩ := hl'.row (a := a) (by omega)
  replace rd := row_at (k := 2) hts rfl e7 rd
  replace rd' := row_at (k := 2) hts' rfl e7 rd'
  obtain ⟨sa0, ra0, ua0, rfl, rfl, za0, hta, hrra⟩ := inv_str hta hrra
  obtain ⟨sa1, ra1, ua1, rfl, rfl, za1, hta, hrra⟩ := inv_str hta hrra
  obtain ⟨rfl, rfl⟩ := inv_nil hta hrra
  obtain ⟨sb0, rb0, ub0, rfl, rfl, zb0, htb, hrrb⟩ := inv_str htb hrrb
  obtain ⟨sb1, rb1, ub1, rfl, rfl, zb1, htb, hrrb⟩ := inv_str htb hrrb
  obtain ⟨rfl, rfl⟩ := inv_nil htb hrrb
  have d7 : Ext [] w7 w7.drew := (Ext.refl _ _).drew
  refine when_dec ⟨by omega, by omega⟩ (ptr_in ⟨_, _, rd, when_dec ⟨by omega, by omega⟩ (ptr_in ⟨_, _, rd', ?_⟩)⟩)
  have he : ((ByteArray.toList sa0 == ByteArray.toList sb0) && ((ByteArray.toList sa1 == ByteArray.toList sb1) && true)) = true ↔ ([.str sa0, .str sa1] : List D) = [.str sb0, .str sb1] := by simp [beqs, beqi]
  generalize ((ByteArray.toList sa0 == ByteArray.toList sb0) && ((ByteArray.toList sa1 == ByteArray.toList sb1) && true)) = cd at he ⊢
  cases cd with
  | false =>
    have hne : ¬ ([.str sa0, .str sa1] : List D) = [.str sb0, .str sb1] := fun e => by cases he.2 e
    exact k _ false (e7.trans d7) (by simpa using same_not hra hrb hne)
  | true =>
    have heq := he.1 rfl
    rw [up64 a (by omega)]
    exact ⟨⟨a + 1, rfl, by omega, e7.trans d7, same_step hra hrb ht heq⟩, by simp only [Int.toNat_natCast]; omega⟩
set_option maxRecDepth 8000 in
theorem eqItem_c : EqL 66 tItem := by
  intro w l l' A A' n n' c c' m m' xs xs' R hl hl' k
  apply slices_Equal___api_Item_api_Item__nf
  have hle := hl.le
  refine sel_ne (fun hne => k _ false (Ext.refl _ _) ?_) (fun he => ?_)
  · have h1 := hl.ll
    have h2 := hl'.ll
    simp only [Bool.false_eq_true, false_iff]
    rintro rfl
    omega
  obtain rfl : n = n' := by omega
  refine ⟨fun t w' => ∃ a : Nat, t = (a : Int) ∧ a ≤ n ∧ Ext [] w w' ∧ l.take a = l'.take a, fun t _ => n - t.toNat, ⟨0, rfl, by omega, Ext.refl _ _, by simp⟩, ?_⟩
  rintro _ _ w7 ⟨a, rfl, ha, e7, ht⟩
  refine sel_dec (fun hlt => ?_) (fun hge => ?_)
  rotate_left
  · obtain rfl : a = n := by omega
    exact k w7 true e7 (by simp [same_end hl.ll hl'.ll ht])
  obtain ⟨ra, va, ad, hra, hta, hrra, rfl, hts, rd, -⟩ := hl.row (a := a) (by omega)
  obtain ⟨rb, vb, bd, hrb, htb, hrrb, rfl, hts', rd', -⟩ := hl'.row (a := a) (by omega)
  replace rd := row_at (k := 2) hts rfl e7 rd
  replace rd' := row_at (k := 2) hts' rfl e7 rd'
  obtain ⟨sa0, ra0, ua0, rfl, rfl, za0, hta, hrra⟩ := inv_str hta hrra
  obtain ⟨sa1, ra1, ua1, rfl, rfl, za1, hta, hrra⟩ := inv_int hta hrra
  obtain ⟨rfl, rfl⟩ := inv_nil hta hrra
  obtain ⟨sb0, rb0, ub0, rfl, rfl, zb0, htb, hrrb⟩ := inv_str htb hrrb
  obtain ⟨sb1, rb1, ub1, rfl, rfl, zb1, htb, hrrb⟩ := inv_int htb hrrb
  obtain ⟨rfl, rfl⟩ := inv_nil htb hrrb
  have d7 : Ext [] w7 w7.drew := (Ext.refl _ _).drew
  refine when_dec ⟨by omega, by omega⟩ (ptr_in ⟨_, _, rd, when_dec ⟨by omega, by omega⟩ (ptr_in ⟨_, _, rd', ?_⟩)⟩)
  have he : ((ByteArray.toList sa0 == ByteArray.toList sb0) && (((sa1 : Int) == sb1) && true)) = true ↔ ([.str sa0, .int sa1] : List D) = [.str sb0, .int sb1] := by simp [beqs, beqi]
  generalize ((ByteArray.toList sa0 == ByteArray.toList sb0) && (((sa1 : Int) == sb1) && true)) = cd at he ⊢
  cases cd with
  | false =>
    have hne : ¬ ([.str sa0, .int sa1] : List D) = [.str sb0, .int sb1] := fun e => by cases he.2 e
    exact k _ false (e7.trans d7) (by simpa using same_not hra hrb hne)
  | true =>
    have heq := he.1 rfl
    rw [up64 a (by omega)]
    exact ⟨⟨a + 1, rfl, by omega, e7.trans d7, same_step hra hrb ht heq⟩, by simp only [Int.toNat_natCast]; omega⟩
set_option maxRecDepth 8000 in
theorem eqTaint_c : EqL 65 tTaint := by
  intro w l l' A A' n n' c c' m m' xs xs' R hl hl' k
  apply slices_Equal___api_Taint_api_Taint__nf
  have hle := hl.le
  refine sel_ne (fun hne => k _ false (Ext.refl _ _) ?_) (fun he => ?_)
  · have h1 := hl.ll
    have h2 := hl'.ll
    simp only [Bool.false_eq_true, false_iff]
    rintro rfl
    omega
  obtain rfl : n = n' := by omega
  refine ⟨fun t w' => ∃ a : Nat, t = (a : Int) ∧ a ≤ n ∧ Ext [] w w' ∧ l.take a = l'.take a, fun t _ => n - t.toNat, ⟨0, rfl, by omega, Ext.refl _ _, by simp⟩, ?_⟩
  rintro _ _ w7 ⟨a, rfl, ha, e7, ht⟩
  refine sel_dec (fun hlt => ?_) (fun hge => ?_)
  rotate_left
  · obtain rfl : a = n := by omega
    exact k w7 true e7 (by simp [same_end hl.ll hl'.ll ht])
  obtain ⟨ra, va, ad, hra, hta, hrra, rfl, hts, rd, -⟩ := hl.row (a := a) (by omega)
  obtain ⟨rb, vb, bd, hrb, htb, hrrb, rfl, hts', rd', -⟩ := hl'.row (a := a) (by omega)
  replace rd := row_at (k := 3) hts rfl e7 rd
  replace rd' := row_at (k := 3) hts' rfl e7 rd'
  obtain ⟨sa0, ra0, ua0, rfl, rfl, za0, hta, hrra⟩ := inv_str hta hrra
  obtain ⟨sa1, ra1, ua1, rfl, rfl, za1, hta, hrra⟩ := inv_str hta hrra
  obtain ⟨sa2, ra2, ua2, rfl, rfl, za2, hta, hrra⟩ := inv_str hta hrra
  obtain ⟨rfl, rfl⟩ := inv_nil hta hrra
  obtain ⟨sb0, rb0, ub0, rfl, rfl, zb0, htb, hrrb⟩ := inv_str htb hrrb
  obtain ⟨sb1, rb1, ub1, rfl, rfl, zb1, htb, hrrb⟩ := inv_str htb hrrb
  obtain ⟨sb2, rb2, ub2, rfl, rfl, zb2, htb, hrrb⟩ := inv_str htb hrrb
  obtain ⟨rfl, rfl⟩ := inv_nil htb hrrb
  have d7 : Ext [] w7 w7.drew := (Ext.refl _ _).drew
  refine when_dec ⟨by omega, by omega⟩ (ptr_in ⟨_, _, _, rd, when_dec ⟨by omega, by omega⟩ (ptr_in ⟨_, _, _, rd', ?_⟩)⟩)
  have he : ((ByteArray.toList sa0 == ByteArray.toList sb0) && ((ByteArray.toList sa1 == ByteArray.toList sb1) && ((ByteArray.toList sa2 == ByteArray.toList sb2) && true))) = true ↔ ([.str sa0, .str sa1, .str sa2] : List D) = [.str sb0, .str sb1, .str sb2] := by simp [beqs, beqi]
  generalize ((ByteArray.toList sa0 == ByteArray.toList sb0) && ((ByteArray.toList sa1 == ByteArray.toList sb1) && ((ByteArray.toList sa2 == ByteArray.toList sb2) && true))) = cd at he ⊢
  cases cd with
  | false =>
    have hne : ¬ ([.str sa0, .str sa1, .str sa2] : List D) = [.str sb0, .str sb1, .str sb2] := fun e => by cases he.2 e
    exact k _ false (e7.trans d7) (by simpa using same_not hra hrb hne)
  | true =>
    have heq := he.1 rfl
    rw [up64 a (by omega)]
    exact ⟨⟨a + 1, rfl, by omega, e7.trans d7, same_step hra hrb ht heq⟩, by simp only [Int.toNat_natCast]; omega⟩
set_option maxRecDepth 8000 in
theorem eqToleration_c : EqL 67 tTol := by
  intro w l l' A A' n n' c c' m m' xs xs' R hl hl' k
  apply slices_Equal___api_Toleration_api_Toleration__nf
  have hle := hl.le
  refine sel_ne (fun hne => k _ false (Ext.refl _ _) ?_) (fun he => ?_)
  · have h1 := hl.ll
    have h2 := hl'.ll
    simp only [Bool.false_eq_true, false_iff]
    rintro rfl
    omega
  obtain rfl : n = n' := by omega
  refine ⟨fun t w' => ∃ a : Nat, t = (a : Int) ∧ a ≤ n ∧ Ext [] w w' ∧ l.take a = l'.take a, fun t _ => n - t.toNat, ⟨0, rfl, by omega, Ext.refl _ _, by simp⟩, ?_⟩
  rintro _ _ w7 ⟨a, rfl, ha, e7, ht⟩
  refine sel_dec (fun hlt => ?_) (fun hge => ?_)
  rotate_left
  · obtain rfl : a = n := by omega
    exact k w7 true e7 (by simp [same_end hl.ll hl'.ll ht])
  obtain ⟨ra, va, ad, hra, hta, hrra, rfl, hts, rd, -⟩ := hl.row (a := a) (by omega)
  obtain ⟨rb, vb, bd, hrb, htb, hrrb, rfl, hts', rd', -⟩ := hl'.row (a := a) (by omega)
  replace rd := row_at (k := 4) hts rfl e7 rd
  replace rd' := row_at (k := 4) hts' rfl e7 rd'
  obtain ⟨sa0, ra0, ua0, rfl, rfl, za0, hta, hrra⟩ := inv_str hta hrra
  obtain ⟨sa1, ra1, ua1, rfl, rfl, za1, hta, hrra⟩ := inv_str hta hrra
  obtain ⟨sa2, ra2, ua2, rfl, rfl, za2, hta, hrra⟩ := inv_str hta hrra
  obtain ⟨sa3, ra3, ua3, rfl, rfl, za3, hta, hrra⟩ := inv_str hta hrra
  obtain ⟨rfl, rfl⟩ := inv_nil hta hrra
  obtain ⟨sb0, rb0, ub0, rfl, rfl, zb0, htb, hrrb⟩ := inv_str htb hrrb
  obtain ⟨sb1, rb1, ub1, rfl, rfl, zb1, htb, hrrb⟩ := inv_str htb hrrb
  obtain ⟨sb2, rb2, ub2, rfl, rfl, zb2, htb, hrrb⟩ := inv_str htb hrrb
  obtain ⟨sb3, rb3, ub3, rfl, rfl, zb3, htb, hrrb⟩ := inv_str htb hrrb
  obtain ⟨rfl, rfl⟩ := inv_nil htb hrrb
  have d7 : Ext [] w7 w7.drew := (Ext.refl _ _).drew
  refine when_dec ⟨by omega, by omega⟩ (ptr_in ⟨_, _, _, _, rd, when_dec ⟨by omega, by omega⟩ (ptr_in ⟨_, _, _, _, rd', ?_⟩)⟩)
  have he : ((ByteArray.toList sa0 == ByteArray.toList sb0) && ((ByteArray.toList sa1 == ByteArray.toList sb1) && ((ByteArray.toList sa2 == ByteArray.toList sb2) && ((ByteArray.toList sa3 == ByteArray.toList sb3) && true)))) = true ↔ ([.str sa0, .str sa1, .str sa2, .str sa3] : List D) = [.str sb0, .str sb1, .str sb2, .str sb3] := by simp [beqs, beqi]
  generalize ((ByteArray.toList sa0 == ByteArray.toList sb0) && ((ByteArray.toList sa1 == ByteArray.toList sb1) && ((ByteArray.toList sa2 == ByteArray.toList sb2) && ((ByteArray.toList sa3 == ByteArray.toList sb3) && true)))) = cd at he ⊢
  cases cd with
  | false =>
    have hne : ¬ ([.str sa0, .str sa1, .str sa2, .str sa3] : List D) = [.str sb0, .str sb1, .str sb2, .str sb3] := fun e => by cases he.2 e
    exact k _ false (e7.trans d7) (by simpa using same_not hra hrb hne)
  | true =>
    have heq := he.1 rfl
    rw [up64 a (by omega)]
    exact ⟨⟨a + 1, rfl, by omega, e7.trans d7, same_step hra hrb ht heq⟩, by simp only [Int.toNat_natCast]; omega⟩
set_option maxRecDepth 8000 in
theorem eqApart_c : EqL 68 tApart := by
  intro w l l' A A' n n' c c' m m' xs xs' R hl hl' k
  apply slices_Equal___api_Apart_api_Apart__nf
  have hle := hl.le
  refine sel_ne (fun hne => k _ false (Ext.refl _ _) ?_) (fun he => ?_)
  · have h1 := hl.ll
    have h2 := hl'.ll
    simp only [Bool.false_eq_true, false_iff]
    rintro rfl
    omega
  obtain rfl : n = n' := by omega
  refine ⟨fun t w' => ∃ a : Nat, t = (a : Int) ∧ a ≤ n ∧ Ext [] w w' ∧ l.take a = l'.take a, fun t _ => n - t.toNat, ⟨0, rfl, by omega, Ext.refl _ _, by simp⟩, ?_⟩
  rintro _ _ w7 ⟨a, rfl, ha, e7, ht⟩
  refine sel_dec (fun hlt => ?_) (fun hge => ?_)
  rotate_left
  · obtain rfl : a = n := by omega
    exact k w7 true e7 (by simp [same_end hl.ll hl'.ll ht])
  obtain ⟨ra, va, ad, hra, hta, hrra, rfl, hts, rd, -⟩ := hl.row (a := a) (by omega)
  obtain ⟨rb, vb, bd, hrb, htb, hrrb, rfl, hts', rd', -⟩ := hl'.row (a := a) (by omega)
  replace rd := row_at (k := 2) hts rfl e7 rd
  replace rd' := row_at (k := 2) hts' rfl e7 rd'
  obtain ⟨sa0, ra0, ua0, rfl, rfl, za0, hta, hrra⟩ := inv_str hta hrra
  obtain ⟨sa1, ra1, ua1, rfl, rfl, za1, hta, hrra⟩ := inv_str hta hrra
  obtain ⟨rfl, rfl⟩ := inv_nil hta hrra
  obtain ⟨sb0, rb0, ub0, rfl, rfl, zb0, htb, hrrb⟩ := inv_str htb hrrb
  obtain ⟨sb1, rb1, ub1, rfl, rfl, zb1, htb, hrrb⟩ := inv_str htb hrrb
  obtain ⟨rfl, rfl⟩ := inv_nil htb hrrb
  have d7 : Ext [] w7 w7.drew := (Ext.refl _ _).drew
  refine when_dec ⟨by omega, by omega⟩ (ptr_in ⟨_, _, rd, when_dec ⟨by omega, by omega⟩ (ptr_in ⟨_, _, rd', ?_⟩)⟩)
  have he : ((ByteArray.toList sa0 == ByteArray.toList sb0) && ((ByteArray.toList sa1 == ByteArray.toList sb1) && true)) = true ↔ ([.str sa0, .str sa1] : List D) = [.str sb0, .str sb1] := by simp [beqs, beqi]
  generalize ((ByteArray.toList sa0 == ByteArray.toList sb0) && ((ByteArray.toList sa1 == ByteArray.toList sb1) && true)) = cd at he ⊢
  cases cd with
  | false =>
    have hne : ¬ ([.str sa0, .str sa1] : List D) = [.str sb0, .str sb1] := fun e => by cases he.2 e
    exact k _ false (e7.trans d7) (by simpa using same_not hra hrb hne)
  | true =>
    have heq := he.1 rfl
    rw [up64 a (by omega)]
    exact ⟨⟨a + 1, rfl, by omega, e7.trans d7, same_step hra hrb ht heq⟩, by simp only [Int.toNat_natCast]; omega⟩
set_option maxRecDepth 8000 in
theorem eqPrefer_c : EqL 69 tPrefer := by
  intro w l l' A A' n n' c c' m m' xs xs' R hl hl' k
  apply slices_Equal___api_Prefer_api_Prefer__nf
  have hle := hl.le
  refine sel_ne (fun hne => k _ false (Ext.refl _ _) ?_) (fun he => ?_)
  · have h1 := hl.ll
    have h2 := hl'.ll
    simp only [Bool.false_eq_true, false_iff]
    rintro rfl
    omega
  obtain rfl : n = n' := by omega
  refine ⟨fun t w' => ∃ a : Nat, t = (a : Int) ∧ a ≤ n ∧ Ext [] w w' ∧ l.take a = l'.take a, fun t _ => n - t.toNat, ⟨0, rfl, by omega, Ext.refl _ _, by simp⟩, ?_⟩
  rintro _ _ w7 ⟨a, rfl, ha, e7, ht⟩
  refine sel_dec (fun hlt => ?_) (fun hge => ?_)
  rotate_left
  · obtain rfl : a = n := by omega
    exact k w7 true e7 (by simp [same_end hl.ll hl'.ll ht])
  obtain ⟨ra, va, ad, hra, hta, hrra, rfl, hts, rd, -⟩ := hl.row (a := a) (by omega)
  obtain ⟨rb, vb, bd, hrb, htb, hrrb, rfl, hts', rd', -⟩ := hl'.row (a := a) (by omega)
  replace rd := row_at (k := 2) hts rfl e7 rd
  replace rd' := row_at (k := 2) hts' rfl e7 rd'
  obtain ⟨sa0, ra0, ua0, rfl, rfl, za0, hta, hrra⟩ := inv_int hta hrra
  obtain ⟨sa1, ra1, ua1, rfl, rfl, za1, hta, hrra⟩ := inv_str hta hrra
  obtain ⟨rfl, rfl⟩ := inv_nil hta hrra
  obtain ⟨sb0, rb0, ub0, rfl, rfl, zb0, htb, hrrb⟩ := inv_int htb hrrb
  obtain ⟨sb1, rb1, ub1, rfl, rfl, zb1, htb, hrrb⟩ := inv_str htb hrrb
  obtain ⟨rfl, rfl⟩ := inv_nil htb hrrb
  have d7 : Ext [] w7 w7.drew := (Ext.refl _ _).drew
  refine when_dec ⟨by omega, by omega⟩ (ptr_in ⟨_, _, rd, when_dec ⟨by omega, by omega⟩ (ptr_in ⟨_, _, rd', ?_⟩)⟩)
  have he : (((sa0 : Int) == sb0) && ((ByteArray.toList sa1 == ByteArray.toList sb1) && true)) = true ↔ ([.int sa0, .str sa1] : List D) = [.int sb0, .str sb1] := by simp [beqs, beqi]
  generalize (((sa0 : Int) == sb0) && ((ByteArray.toList sa1 == ByteArray.toList sb1) && true)) = cd at he ⊢
  cases cd with
  | false =>
    have hne : ¬ ([.int sa0, .str sa1] : List D) = [.int sb0, .str sb1] := fun e => by cases he.2 e
    exact k _ false (e7.trans d7) (by simpa using same_not hra hrb hne)
  | true =>
    have heq := he.1 rfl
    rw [up64 a (by omega)]
    exact ⟨⟨a + 1, rfl, by omega, e7.trans d7, same_step hra hrb ht heq⟩, by simp only [Int.toNat_natCast]; omega⟩
set_option maxRecDepth 8000 in
theorem sameNode_c : Same2 37 tNode := by
  intro w ra rb va vb R ht hr ht' hr' k
  obtain ⟨sa0, ra0, ua0, rfl, rfl, za0, ht, hr⟩ := inv_str ht hr
  obtain ⟨sa1, Aa1, na1, ca1, ma1, xsa1, ra1, ua1, rfl, rfl, za1, ht, hr⟩ := inv_list ht hr
  obtain ⟨sa2, Aa2, na2, ca2, ma2, xsa2, ra2, ua2, rfl, rfl, za2, ht, hr⟩ := inv_list ht hr
  obtain ⟨sa3, Aa3, na3, ca3, ma3, xsa3, ra3, ua3, rfl, rfl, za3, ht, hr⟩ := inv_list ht hr
  obtain ⟨sa4, ra4, ua4, rfl, rfl, ht, hr⟩ := inv_bool ht hr
  obtain ⟨rfl, rfl⟩ := inv_nil ht hr
  obtain ⟨sb0, rb0, ub0, rfl, rfl, zb0, ht', hr'⟩ := inv_str ht' hr'
  obtain ⟨sb1, Ab1, nb1, cb1, mb1, xsb1, rb1, ub1, rfl, rfl, zb1, ht', hr'⟩ := inv_list ht' hr'
  obtain ⟨sb2, Ab2, nb2, cb2, mb2, xsb2, rb2, ub2, rfl, rfl, zb2, ht', hr'⟩ := inv_list ht' hr'
  obtain ⟨sb3, Ab3, nb3, cb3, mb3, xsb3, rb3, ub3, rfl, rfl, zb3, ht', hr'⟩ := inv_list ht' hr'
  obtain ⟨sb4, rb4, ub4, rfl, rfl, ht', hr'⟩ := inv_bool ht' hr'
  obtain ⟨rfl, rfl⟩ := inv_nil ht' hr'
  apply berthlaw26_SameNode_nf
  intro w11 h11 w12 h12
  obtain ⟨b1, x1, z1⟩ := box_new (cs := [.string sa0, .slice Aa1 na1 ca1, .slice Aa2 na2 ca2, .slice Aa3 na3 ca3, .bool sa4]) h11
  obtain ⟨b2, x2, z2⟩ := box_new (cs := [.string sb0, .slice Ab1 nb1 cb1, .slice Ab2 nb2 cb2, .slice Ab3 nb3 cb3, .bool sb4]) h12
  replace b1 := b1.ext x2 (by simp)
  have E := x1.trans x2
  refine ⟨_, cadd b1 rfl, _, cadd b2 rfl, sel_str (fun q0 => ?_) (fun q0 => k _ false E (by simp [q0]))⟩
  refine ⟨_, cadd b1 rfl, _, cadd b2 rfl, sel_bool (fun q4 => ?_) (fun q4 => k _ false E (by simp [q4]))⟩
  refine ⟨_, _, _, cadd b1 rfl, _, _, _, cadd b2 rfl, eqLabel_c (za1.ext0 E) (zb1.ext0 E) fun w' t e g1 => ⟨t, rfl, ?_⟩⟩
  replace b1 := b1.ext e (by simp)
  replace b2 := b2.ext e (by simp)
  replace E := E.trans e
  clear e
  refine sel_intro (fun q1 => ?_) (fun q1 => k _ false E (by rw [q1] at g1; simp only [Bool.false_eq_true, false_iff] at g1; simp [g1]))
  replace q1 : sa1 = sb1 := g1.1 q1
  refine ⟨_, _, _, cadd b1 rfl, _, _, _, cadd b2 rfl, eqTaint_c (za2.ext0 E) (zb2.ext0 E) fun w' t e g2 => ⟨t, rfl, ?_⟩⟩
  replace b1 := b1.ext e (by simp)
  replace b2 := b2.ext e (by simp)
  replace E := E.trans e
  clear e
  refine sel_intro (fun q2 => ?_) (fun q2 => k _ false E (by rw [q2] at g2; simp only [Bool.false_eq_true, false_iff] at g2; simp [g2]))
  replace q2 : sa2 = sb2 := g2.1 q2
  refine ⟨_, _, _, cadd b1 rfl, _, _, _, cadd b2 rfl, eqItem_c (za3.ext0 E) (zb3.ext0 E) fun w' t e g3 => ⟨t, rfl, ?_⟩⟩
  replace b1 := b1.ext e (by simp)
  replace b2 := b2.ext e (by simp)
  replace E := E.trans e
  clear e
  exact k _ t E (by rw [g3]; simp [q0, q4, q1, q2])
set_option maxRecDepth 8000 in
theorem samePod_c : Same2 38 tPod := by
  intro w ra rb va vb R ht hr ht' hr' k
  obtain ⟨sa0, ra0, ua0, rfl, rfl, za0, ht, hr⟩ := inv_str ht hr
  obtain ⟨sa1, Aa1, na1, ca1, ma1, xsa1, ra1, ua1, rfl, rfl, za1, ht, hr⟩ := inv_list ht hr
  obtain ⟨sa2, Aa2, na2, ca2, ma2, xsa2, ra2, ua2, rfl, rfl, za2, ht, hr⟩ := inv_list ht hr
  obtain ⟨sa3, Aa3, na3, ca3, ma3, xsa3, ra3, ua3, rfl, rfl, za3, ht, hr⟩ := inv_list ht hr
  obtain ⟨sa4, ra4, ua4, rfl, rfl, za4, ht, hr⟩ := inv_str ht hr
  obtain ⟨sa5, Aa5, na5, ca5, ma5, xsa5, ra5, ua5, rfl, rfl, za5, ht, hr⟩ := inv_list ht hr
  obtain ⟨sa6, Aa6, na6, ca6, ma6, xsa6, ra6, ua6, rfl, rfl, za6, ht, hr⟩ := inv_list ht hr
  obtain ⟨sa7, ra7, ua7, rfl, rfl, za7, ht, hr⟩ := inv_int ht hr
  obtain ⟨rfl, rfl⟩ := inv_nil ht hr
  obtain ⟨sb0, rb0, ub0, rfl, rfl, zb0, ht', hr'⟩ := inv_str ht' hr'
  obtain ⟨sb1, Ab1, nb1, cb1, mb1, xsb1, rb1, ub1, rfl, rfl, zb1, ht', hr'⟩ := inv_list ht' hr'
  obtain ⟨sb2, Ab2, nb2, cb2, mb2, xsb2, rb2, ub2, rfl, rfl, zb2, ht', hr'⟩ := inv_list ht' hr'
  obtain ⟨sb3, Ab3, nb3, cb3, mb3, xsb3, rb3, ub3, rfl, rfl, zb3, ht', hr'⟩ := inv_list ht' hr'
  obtain ⟨sb4, rb4, ub4, rfl, rfl, zb4, ht', hr'⟩ := inv_str ht' hr'
  obtain ⟨sb5, Ab5, nb5, cb5, mb5, xsb5, rb5, ub5, rfl, rfl, zb5, ht', hr'⟩ := inv_list ht' hr'
  obtain ⟨sb6, Ab6, nb6, cb6, mb6, xsb6, rb6, ub6, rfl, rfl, zb6, ht', hr'⟩ := inv_list ht' hr'
  obtain ⟨sb7, rb7, ub7, rfl, rfl, zb7, ht', hr'⟩ := inv_int ht' hr'
  obtain ⟨rfl, rfl⟩ := inv_nil ht' hr'
  apply berthlaw26_SamePod_nf
  intro w11 h11 w12 h12
  obtain ⟨b1, x1, z1⟩ := box_new (cs := [.string sa0, .slice Aa1 na1 ca1, .slice Aa2 na2 ca2, .slice Aa3 na3 ca3, .string sa4, .slice Aa5 na5 ca5, .slice Aa6 na6 ca6, .int .i64 sa7]) h11
  obtain ⟨b2, x2, z2⟩ := box_new (cs := [.string sb0, .slice Ab1 nb1 cb1, .slice Ab2 nb2 cb2, .slice Ab3 nb3 cb3, .string sb4, .slice Ab5 nb5 cb5, .slice Ab6 nb6 cb6, .int .i64 sb7]) h12
  replace b1 := b1.ext x2 (by simp)
  have E := x1.trans x2
  refine ⟨fun t w' => Ext [] w12 w' ∧ (t = true ↔ (sa1 = sb1 ∧ sa2 = sb2 ∧ sa3 = sb3)), ?_, ?_⟩
  · clear k
    have E0 := Ext.refl [] w12
    refine ⟨_, _, _, cadd b1 rfl, _, _, _, cadd b2 rfl, eqLabel_c (za1.ext0 E) (zb1.ext0 E) fun w' t e g1 => ⟨t, rfl, ?_⟩⟩
    replace E0 := E0.trans e
    replace b1 := b1.ext e (by simp)
    replace b2 := b2.ext e (by simp)
    replace E := E.trans e
    clear e
    refine sel_intro (fun q1 => ?_) (fun q1 => ⟨E0, by rw [q1] at g1; simp only [Bool.false_eq_true, false_iff] at g1; simp [g1]⟩)
    replace q1 : sa1 = sb1 := g1.1 q1
    refine ⟨_, _, _, cadd b1 rfl, _, _, _, cadd b2 rfl, eqItem_c (za2.ext0 E) (zb2.ext0 E) fun w' t e g2 => ⟨t, rfl, ?_⟩⟩
    replace E0 := E0.trans e
    replace b1 := b1.ext e (by simp)
    replace b2 := b2.ext e (by simp)
    replace E := E.trans e
    clear e
    refine sel_intro (fun q2 => ?_) (fun q2 => ⟨E0, by rw [q2] at g2; simp only [Bool.false_eq_true, false_iff] at g2; simp [g2]⟩)
    replace q2 : sa2 = sb2 := g2.1 q2
    refine ⟨_, _, _, cadd b1 rfl, _, _, _, cadd b2 rfl, eqToleration_c (za3.ext0 E) (zb3.ext0 E) fun w' t e g3 => ⟨t, rfl, ?_⟩⟩
    replace E0 := E0.trans e
    replace b1 := b1.ext e (by simp)
    replace b2 := b2.ext e (by simp)
    replace E := E.trans e
    clear e
    exact ⟨E0, by rw [g3]; simp [q1, q2]⟩
  rintro lists _ w37 ⟨e, hlists⟩
  replace b1 := b1.ext e (by simp)
  replace b2 := b2.ext e (by simp)
  replace E := E.trans e
  clear e
  refine ⟨fun t w' => Ext [] w37 w' ∧ (t = true ↔ (sa5 = sb5 ∧ sa6 = sb6)), ?_, ?_⟩
  · clear k
    have E0 := Ext.refl [] w37
    refine ⟨_, _, _, cadd b1 rfl, _, _, _, cadd b2 rfl, eqApart_c (za5.ext0 E) (zb5.ext0 E) fun w' t e g5 => ⟨t, rfl, ?_⟩⟩
    replace E0 := E0.trans e
    replace b1 := b1.ext e (by simp)
    replace b2 := b2.ext e (by simp)
    replace E := E.trans e
    clear e
    refine sel_intro (fun q5 => ?_) (fun q5 => ⟨E0, by rw [q5] at g5; simp only [Bool.false_eq_true, false_iff] at g5; simp [g5]⟩)
    replace q5 : sa5 = sb5 := g5.1 q5
    refine ⟨_, _, _, cadd b1 rfl, _, _, _, cadd b2 rfl, eqPrefer_c (za6.ext0 E) (zb6.ext0 E) fun w' t e g6 => ⟨t, rfl, ?_⟩⟩
    replace E0 := E0.trans e
    replace b1 := b1.ext e (by simp)
    replace b2 := b2.ext e (by simp)
    replace E := E.trans e
    clear e
    exact ⟨E0, by rw [g6]; simp [q5]⟩
  rintro terms _ w51 ⟨e, hterms⟩
  replace b1 := b1.ext e (by simp)
  replace b2 := b2.ext e (by simp)
  replace E := E.trans e
  clear e
  refine sel_intro (fun ql => sel_intro (fun qt => ?_) (fun qt => k _ false E ?_)) (fun ql => k _ false E ?_)
  rotate_left
  · rw [qt] at hterms
    simp only [Bool.false_eq_true, false_iff] at hterms
    simp only [Bool.false_eq_true, false_iff]
    intro h
    simp only [List.cons.injEq, D.list.injEq] at h
    exact hterms ⟨h.2.2.2.2.2.1, h.2.2.2.2.2.2.1⟩
  · rw [ql] at hlists
    simp only [Bool.false_eq_true, false_iff] at hlists
    simp only [Bool.false_eq_true, false_iff]
    intro h
    simp only [List.cons.injEq, D.list.injEq] at h
    exact hlists ⟨h.2.1, h.2.2.1, h.2.2.2.1⟩
  obtain ⟨q1, q2, q3⟩ := hlists.1 ql
  obtain ⟨q5, q6⟩ := hterms.1 qt
  refine ⟨_, cadd b1 rfl, _, cadd b2 rfl, sel_str (fun q0 => ?_) (fun q0 => k _ false E (by simp [q0]))⟩
  refine ⟨_, cadd b1 rfl, _, cadd b2 rfl, sel_str (fun q4 => ?_) (fun q4 => k _ false E (by simp [q4]))⟩
  refine ⟨_, cadd b1 rfl, _, cadd b2 rfl, k _ _ E (by simp [q1, q2, q3, q5, q6, q0, q4])⟩
set_option maxRecDepth 8000 in
theorem samePending_c : Same2 39 tPending := by
  intro w ra rb va vb R ht hr ht' hr' k
  have ht0 := ht
  have hr0 := hr
  have ht0' := ht'
  have hr0' := hr'
  obtain ⟨sa0, ra0, ua0, rfl, rfl, za0, ht, hr⟩ := inv_str ht hr
  obtain ⟨sa1, Aa1, na1, ca1, ma1, xsa1, ra1, ua1, rfl, rfl, za1, ht, hr⟩ := inv_list ht hr
  obtain ⟨sa2, Aa2, na2, ca2, ma2, xsa2, ra2, ua2, rfl, rfl, za2, ht, hr⟩ := inv_list ht hr
  obtain ⟨sa3, Aa3, na3, ca3, ma3, xsa3, ra3, ua3, rfl, rfl, za3, ht, hr⟩ := inv_list ht hr
  obtain ⟨sa4, ra4, ua4, rfl, rfl, za4, ht, hr⟩ := inv_str ht hr
  obtain ⟨sa5, Aa5, na5, ca5, ma5, xsa5, ra5, ua5, rfl, rfl, za5, ht, hr⟩ := inv_list ht hr
  obtain ⟨sa6, Aa6, na6, ca6, ma6, xsa6, ra6, ua6, rfl, rfl, za6, ht, hr⟩ := inv_list ht hr
  obtain ⟨sa7, ra7, ua7, rfl, rfl, za7, ht, hr⟩ := inv_int ht hr
  obtain ⟨sa8, ra8, ua8, rfl, rfl, za8, ht, hr⟩ := inv_int ht hr
  obtain ⟨sa9, ra9, ua9, rfl, rfl, za9, ht, hr⟩ := inv_int ht hr
  obtain ⟨sa10, ra10, ua10, rfl, rfl, za10, ht, hr⟩ := inv_int ht hr
  obtain ⟨sa11, ra11, ua11, rfl, rfl, ht, hr⟩ := inv_bool ht hr
  obtain ⟨rfl, rfl⟩ := inv_nil ht hr
  obtain ⟨sb0, rb0, ub0, rfl, rfl, zb0, ht', hr'⟩ := inv_str ht' hr'
  obtain ⟨sb1, Ab1, nb1, cb1, mb1, xsb1, rb1, ub1, rfl, rfl, zb1, ht', hr'⟩ := inv_list ht' hr'
  obtain ⟨sb2, Ab2, nb2, cb2, mb2, xsb2, rb2, ub2, rfl, rfl, zb2, ht', hr'⟩ := inv_list ht' hr'
  obtain ⟨sb3, Ab3, nb3, cb3, mb3, xsb3, rb3, ub3, rfl, rfl, zb3, ht', hr'⟩ := inv_list ht' hr'
  obtain ⟨sb4, rb4, ub4, rfl, rfl, zb4, ht', hr'⟩ := inv_str ht' hr'
  obtain ⟨sb5, Ab5, nb5, cb5, mb5, xsb5, rb5, ub5, rfl, rfl, zb5, ht', hr'⟩ := inv_list ht' hr'
  obtain ⟨sb6, Ab6, nb6, cb6, mb6, xsb6, rb6, ub6, rfl, rfl, zb6, ht', hr'⟩ := inv_list ht' hr'
  obtain ⟨sb7, rb7, ub7, rfl, rfl, zb7, ht', hr'⟩ := inv_int ht' hr'
  obtain ⟨sb8, rb8, ub8, rfl, rfl, zb8, ht', hr'⟩ := inv_int ht' hr'
  obtain ⟨sb9, rb9, ub9, rfl, rfl, zb9, ht', hr'⟩ := inv_int ht' hr'
  obtain ⟨sb10, rb10, ub10, rfl, rfl, zb10, ht', hr'⟩ := inv_int ht' hr'
  obtain ⟨sb11, rb11, ub11, rfl, rfl, ht', hr'⟩ := inv_bool ht' hr'
  obtain ⟨rfl, rfl⟩ := inv_nil ht' hr'
  apply berthlaw26_SamePending_nf
  intro w11 h11 w12 h12
  obtain ⟨b1, x1, z1⟩ := box_new (cs := [.string sa0, .slice Aa1 na1 ca1, .slice Aa2 na2 ca2, .slice Aa3 na3 ca3, .string sa4, .slice Aa5 na5 ca5, .slice Aa6 na6 ca6, .int .i64 sa7, .int .i64 sa8, .int .i64 sa9, .int .i64 sa10, .bool sa11]) h11
  obtain ⟨b2, x2, z2⟩ := box_new (cs := [.string sb0, .slice Ab1 nb1 cb1, .slice Ab2 nb2 cb2, .slice Ab3 nb3 cb3, .string sb4, .slice Ab5 nb5 cb5, .slice Ab6 nb6 cb6, .int .i64 sb7, .int .i64 sb8, .int .i64 sb9, .int .i64 sb10, .bool sb11]) h12
  replace b1 := b1.ext x2 (by simp)
  have E := x1.trans x2
  have hspa := tyR_split (ts := tPod) (us := [.int, .int, .int, .bool]) (a := [.str sa0, .list sa1, .list sa2, .list sa3, .str sa4, .list sa5, .list sa6, .int sa7]) (b := [.int sa8, .int sa9, .int sa10, .bool sa11]) rfl ht0
  have hsra := RepR.split (w := w) (a := [.str sa0, .list sa1, .list sa2, .list sa3, .str sa4, .list sa5, .list sa6, .int sa7]) (b := [.int sa8, .int sa9, .int sa10, .bool sa11]) (va := [.string sa0, .slice Aa1 na1 ca1, .slice Aa2 na2 ca2, .slice Aa3 na3 ca3, .string sa4, .slice Aa5 na5 ca5, .slice Aa6 na6 ca6, .int .i64 sa7]) (vb := [.int .i64 sa8, .int .i64 sa9, .int .i64 sa10, .bool sa11]) rfl hr0
  have hspb := tyR_split (ts := tPod) (us := [.int, .int, .int, .bool]) (a := [.str sb0, .list sb1, .list sb2, .list sb3, .str sb4, .list sb5, .list sb6, .int sb7]) (b := [.int sb8, .int sb9, .int sb10, .bool sb11]) rfl ht0'
  have hsrb := RepR.split (w := w) (a := [.str sb0, .list sb1, .list sb2, .list sb3, .str sb4, .list sb5, .list sb6, .int sb7]) (b := [.int sb8, .int sb9, .int sb10, .bool sb11]) (va := [.string sb0, .slice Ab1 nb1 cb1, .slice Ab2 nb2 cb2, .slice Ab3 nb3 cb3, .string sb4, .slice Ab5 nb5 cb5, .slice Ab6 nb6 cb6, .int .i64 sb7]) (vb := [.int .i64 sb8, .int .i64 sb9, .int .i64 sb10, .bool sb11]) rfl hr0'
  refine ⟨_, _, _, _, _, _, _, _, _, _, _, _, _, _, _, _, _, _, cells8 b1, _, _, _, _, _, _, _, _, _, _, _, _, _, _, _, _, _, _, cells8 b2, samePod_c hspa.1 (hsra.1.ext0 E) hspb.1 (hsrb.1.ext0 E) fun w' t e g => ⟨t, rfl, ?_⟩⟩
  replace b1 := b1.ext e (by simp)
  replace b2 := b2.ext e (by simp)
  replace E := E.trans e
  clear e
  refine sel_intro (fun q => ?_) (fun q => k _ false E (by rw [q] at g; simp only [Bool.false_eq_true, false_iff] at g; simp only [Bool.false_eq_true, false_iff]; intro h; exact g (by have := congrArg (List.take 8) h; simpa using this)))
  replace q := g.1 q
  simp only [List.cons.injEq, D.str.injEq, D.int.injEq, D.list.injEq, and_true] at q
  obtain ⟨q0, q1, q2, q3, q4, q5, q6, q7⟩ := q
  refine ⟨_, cadd b1 rfl, _, cadd b2 rfl, sel_int (fun q8 => ?_) (fun q8 => k _ false E (by simp [q8]))⟩
  refine ⟨_, cadd b1 rfl, _, cadd b2 rfl, sel_int (fun q9 => ?_) (fun q9 => k _ false E (by simp [q9]))⟩
  refine ⟨_, cadd b1 rfl, _, cadd b2 rfl, sel_int (fun q10 => ?_) (fun q10 => k _ false E (by simp [q10]))⟩
  refine ⟨_, cadd b1 rfl, _, cadd b2 rfl, k _ _ E (by simp [q0, q1, q2, q3, q4, q5, q6, q7, q8, q9, q10])⟩
end Go.Proofs.YtoaeefjcjdhlkaaGreat
