/- Image: the writer, by what it is asked to write. (Printed by gen_image.py.) -/
import Derived.Test.YtoaeefjcjdhlkaaGreatI4
set_option linter.unusedVariables false
set_option linter.unusedSimpArgs false
namespace Go.Proofs.YtoaeefjcjdhlkaaGreat
open Go Go.V Go.B

theorem wu64 {n : Int} (h : 0 ≤ n ∧ n < 18446744073709551616) : IntKind.wrap .u64 n = n := by
  simp only [IntKind.wrap, IntKind.bits, IntKind.signed]
  simp
  omega
theorem RepR.split {w : World} : ∀ {a b : List D} {va vb : List Value}, va.length = a.length → RepR w (a ++ b) (va ++ vb) → RepR w a va ∧ RepR w b vb
  | [], b, [], vb, _, h => ⟨rfl, h⟩
  | [], b, v :: va, vb, hl, h => by simp at hl
  | d :: a, b, [], vb, hl, h => by simp at hl
  | d :: a, b, v :: va, vb, hl, h => by
    simp only [List.cons_append, RepPR] at h ⊢
    obtain ⟨v', vs', e, h2, h3⟩ := h
    cases e
    obtain ⟨h4, h5⟩ := RepR.split (by simpa using hl) h3
    exact ⟨⟨v, va, rfl, h2, h4⟩, h5⟩
theorem tyR_split : ∀ {ts us : List Ty} {a b : List D}, a.length = ts.length → tyR (ts ++ us) (a ++ b) → tyR ts a ∧ tyR us b
  | [], us, [], b, _, h => ⟨trivial, h⟩
  | [], us, d :: a, b, hl, h => by simp at hl
  | t :: ts, us, [], b, hl, h => by simp at hl
  | t :: ts, us, d :: a, b, hl, h => by
    simp only [List.cons_append, tyR] at h ⊢
    obtain ⟨h4, h5⟩ := tyR_split (by simpa using hl) h.2
    exact ⟨⟨h.1, h4⟩, h5⟩
theorem flatL_snoc : ∀ {l : List (List D)} {a : Nat} {r : List D}, l[a]? = some r → flatL (l.take (a + 1)) = flatL (l.take a) ++ flatR r
  | [], a, r, h => by simp at h
  | x :: l, 0, r, h => by simp at h; subst h; simp [flatL]
  | x :: l, a + 1, r, h => by
    have ih := flatL_snoc (l := l) (a := a) (by simpa using h)
    simp only [List.take_succ_cons, flatL, ih, List.append_assoc]
theorem flatL_take_le {l : List (List D)} : ∀ {a : Nat}, (flatL (l.take a)).length ≤ (flatL l).length := by
  induction l with
  | nil => intro a; simp [flatL]
  | cons x l ih =>
    intro a
    cases a with
    | zero => simp [flatL]
    | succ a => have := ih (a := a); simp only [List.take_succ_cons, flatL, List.length_append]; omega
/-- A writer at work: what it has written is known by pieces. -/
structure Wtr (W : World) (wb M : Nat) where
  At : List Nat → List Piece → World → Prop
  ex : ∀ {F ps w}, At F ps w → Ext [] W w
  lt : ∀ {F ps w}, At F ps w → ∀ b ∈ F, b < w.heap.size
  st : ∀ {F ps w w' G}, At F ps w → Ext G w w' → (∀ b ∈ G, w.heap.size ≤ b) → At F ps w'
  count : ∀ {F ps w R} {n : Nat}, At F ps w → n < 18446744073709551616 → ps.length < M → (∀ w' F', At F' (ps ++ [.count n]) w' → Ext F w w' → Grow w F F' → R (.returned undef) w') → Calls Tryz.prog 32 #[.pointer (some ⟨wb, 0, none⟩), .int .u64 (n : Int)] w R
  num : ∀ {F ps w n R}, At F ps w → (-9223372036854775808 ≤ n ∧ n < 9223372036854775808) → ps.length < M → (∀ w' F', At F' (ps ++ [.num n]) w' → Ext F w w' → Grow w F F' → R (.returned undef) w') → Calls Tryz.prog 49 #[.pointer (some ⟨wb, 0, none⟩), .int .i64 n] w R
  truth : ∀ {F ps w b R}, At F ps w → ps.length < M → (∀ w' F', At F' (ps ++ [.truth b]) w' → Ext F w w' → Grow w F F' → R (.returned undef) w') → Calls Tryz.prog 82 #[.pointer (some ⟨wb, 0, none⟩), .bool b] w R
  text : ∀ {F ps w s R}, At F ps w → s.size ≤ 16777216 → ps.length < M → (∀ w' F', At F' (ps ++ [.text s]) w' → Ext F w w' → Grow w F F' → R (.returned undef) w') → Calls Tryz.prog 75 #[.pointer (some ⟨wb, 0, none⟩), .string s] w R
variable {W : World} {wb M : Nat}
/-- In the midst of a row: what stands since the entry at w0. -/
structure Cur (Wr : Wtr W wb M) (w0 : World) (F0 : List Nat) (q : Nat) (cs : List Value) (T : TypeId) (F : List Nat) (ps : List Piece) (w : World) : Prop where
  at_ : Wr.At F ps w
  blk : BlkT w q cs T
  nq : q ∉ F
  ex : Ext F0 w0 w
  gr : Grow w0 F0 F
  q0 : w0.heap.size ≤ q
theorem Cur.start (Wr : Wtr W wb M) {F : List Nat} {ps : List Piece} {w w' : World} {cs : List Value} {T : TypeId} (h : Wr.At F ps w) (h' : w' = w.alloc (.cells ⟨cs⟩ T)) : Cur Wr w F w.heap.size cs T F ps w' := by
  obtain ⟨b, x, z⟩ := box_new h'
  exact ⟨Wr.st h x (by simp), b, fun hm => by have := Wr.lt h _ hm; omega, x.up, Grow.refl _ _, Nat.le_refl _⟩
theorem Cur.step {Wr : Wtr W wb M} {w0 w w' : World} {F0 F F' : List Nat} {q : Nat} {cs : List Value} {T : TypeId} {ps ps' : List Piece} (c : Cur Wr w0 F0 q cs T F ps w) (h : Wr.At F' ps' w') (e : Ext F w w') (g : Grow w F F') : Cur Wr w0 F0 q cs T F' ps' w' := by
  have hq := c.blk.lt
  exact ⟨h, c.blk.ext e c.nq, fun hm => by rcases g q hm with h1 | h1; exact c.nq h1; omega, c.ex.grow c.gr e, c.gr.trans g c.ex.size, c.q0⟩
/-- The function f writes a row of these types. -/
def Em (Wr : Wtr W wb M) (f : FuncId) (ts : List Ty) : Prop := ∀ {F : List Nat} {ps : List Piece} {w : World} {r : List D} {vs : List Value} {R : Ending → World → Prop}, Wr.At F ps w → tyR ts r → RepR W r vs → (ps ++ flatR r).length ≤ M →
  (∀ w' F', Wr.At F' (ps ++ flatR r) w' → Ext F w w' → Grow w F F' → R (.returned undef) w') → Calls Tryz.prog f #[.pointer (some ⟨wb, 0, none⟩), .agg ⟨vs⟩] w R
/-- The function lst writes a list by f. -/
def LEm (Wr : Wtr W wb M) (lst f : FuncId) (ts : List Ty) : Prop := ∀ {F : List Nat} {ps : List Piece} {w : World} {l : List (List D)} {A : Option Addr} {n c m : Nat} {xs : List (Row (m + 1))} {R : Ending → World → Prop}, Wr.At F ps w → LRep W ts l A n m xs → (ps ++ (.count l.length :: flatL l)).length ≤ M →
  (∀ w' F', Wr.At F' (ps ++ (.count l.length :: flatL l)) w' → Ext F w w' → Grow w F F' → R (.returned undef) w') → Calls Tryz.prog lst #[.pointer (some ⟨wb, 0, none⟩), .slice A n c, .func (.func f) #[.pointer (some ⟨wb, 0, none⟩)] #[]] w R
theorem iLabel : (Tryz.prog.info? 87).map (·.size) = some 2 := by kernel_rfl
theorem iItem : (Tryz.prog.info? 91).map (·.size) = some 2 := by kernel_rfl
theorem iTaint : (Tryz.prog.info? 89).map (·.size) = some 3 := by kernel_rfl
theorem iToleration : (Tryz.prog.info? 123).map (·.size) = some 4 := by kernel_rfl
theorem iApart : (Tryz.prog.info? 125).map (·.size) = some 2 := by kernel_rfl
theorem iPrefer : (Tryz.prog.info? 127).map (·.size) = some 2 := by kernel_rfl
theorem iNode : (Tryz.prog.info? 53).map (·.size) = some 5 := by kernel_rfl
theorem iPod : (Tryz.prog.info? 68).map (·.size) = some 8 := by kernel_rfl
theorem iBound : (Tryz.prog.info? 71).map (·.size) = some 9 := by kernel_rfl
theorem iPending : (Tryz.prog.info? 73).map (·.size) = some 12 := by kernel_rfl
theorem iState : (Tryz.prog.info? 26).map (·.size) = some 5 := by kernel_rfl
variable (Wr : Wtr W wb M)
include Wr
set_option maxRecDepth 8000 in
theorem wLabel_c : Em Wr 77 tLabel := by
  intro F ps w r vs R hat ht hr hM k
  have ht0 := ht
  have hr0 := hr
  obtain ⟨s0, r0, u0, rfl, rfl, z0, ht, hr⟩ := inv_str ht hr
  obtain ⟨s1, r1, u1, rfl, rfl, z1, ht, hr⟩ := inv_str ht hr
  obtain ⟨rfl, rfl⟩ := inv_nil ht hr
  apply image_writer_label_nf
  intro wb0 hb0
  have c := Cur.start Wr hat hb0
  simp only [flatR, flatD] at hM
  refine ⟨_, cadd c.blk rfl, Wr.text c.at_ z0 (by simp [flatR, flatD] at hM ⊢; omega) fun w' F' a e g => ⟨rfl, ?_⟩⟩
  replace c := c.step a e g
  clear a e g
  refine ⟨_, cadd c.blk rfl, Wr.text c.at_ z1 (by simp [flatR, flatD] at hM ⊢; omega) fun w' F' a e g => ⟨rfl, ?_⟩⟩
  replace c := c.step a e g
  clear a e g
  exact k _ _ (by simpa [flatR, flatD] using c.at_) c.ex c.gr
set_option maxRecDepth 8000 in
set_option maxRecDepth 8000 in
theorem lLabel_c : LEm Wr 76 77 tLabel := by
  intro F ps w l A n c m xs R hat hl hM k
  apply image_list_api_Label__nf
  have hle := hl.le
  have hll := hl.ll
  rw [wu64 (n := ((n : Nat) : Int)) (by omega)]
  refine Wr.count hat (by omega) (by simp at hM; omega) fun w7 F7 a7 e7 g7 => ⟨rfl, ?_⟩
  refine ⟨fun t w' => ∃ (a : Nat) (F' : List Nat), t = a ∧ a ≤ n ∧ Wr.At F' (ps ++ (.count n :: flatL (l.take a))) w' ∧ Ext F w w' ∧ Grow w F F', fun t _ => n - t.toNat, ⟨0, F7, rfl, by omega, by simpa [flatL] using a7, e7, g7⟩, ?_⟩
  rintro _ _ w12 ⟨a, F12, rfl, ha, a12, e12, g12⟩
  refine sel_dec (fun hlt => ?_) (fun hge => ?_)
  rotate_left
  · obtain rfl : a = n := by omega
    rw [List.take_of_length_le (by omega), ← hll] at a12
    exact k w12 F12 a12 e12 g12
  obtain ⟨r, vs, ad, hra, htr, hrr, rfl, hts, rd, hone⟩ := hl.row (a := a) (by omega)
  have hsn := flatL_snoc hra
  have hmo := flatL_take_le (l := l) (a := a + 1)
  rw [hsn] at hmo
  have rd12 : cellsC (fun a v => w12.cell? a = some v) (ad.add (Int.toNat (a : Int) * 2)) vs := by
    have hm : m + 1 = 2 := by rw [← hts]; rfl
    rw [← hm]
    exact fun i v hv => cell_ext (Wr.ex a12) (rd i v hv) (by simp)
  have ht0 := htr
  have hr0 := hrr
  obtain ⟨s0, r0, u0, rfl, rfl, z0, htr, hrr⟩ := inv_str htr hrr
  obtain ⟨s1, r1, u1, rfl, rfl, z1, htr, hrr⟩ := inv_str htr hrr
  obtain ⟨rfl, rfl⟩ := inv_nil htr hrr
  refine when_dec ⟨by omega, by omega⟩ (ptr_in ⟨_, _, rd12, fun w16 h16 => ?_⟩)
  obtain ⟨b16, x16, y16⟩ := box_new (cs := [.string ByteArray.empty, .string ByteArray.empty]) h16
  obtain ⟨w17, hr17, b17, x17⟩ := storeW (P := Tryz.prog) (t := 87) (n := 2) iLabel b16 (by rfl) rfl hone
  have E17 : Ext [] w12 w17 := x16.trans' x17 (fun b hb => by simp at hb; subst hb; exact .inr (Nat.le_refl _))
  refine ⟨w17, hr17, _, _, cadd0 b17, when_intro (by kernel_rfl) (wLabel_c Wr (Wr.st a12 E17 (by simp)) ht0 hr0 (by simp only [List.length_append, List.length_cons] at hM hmo ⊢; omega) fun w' F' a' e' g' => ⟨rfl, ?_⟩)⟩
  rw [up64 a (by omega)]
  refine ⟨⟨a + 1, F', rfl, by omega, ?_, (e12.trans' E17 (by simp)).grow g12 e', g12.trans (fun b hb => (g' b hb).imp id fun h => by have := E17.size; omega) e12.size⟩, by simp only [Int.toNat_natCast]; omega⟩
  rw [hsn]
  simpa using a'
set_option maxRecDepth 8000 in
theorem wItem_c : Em Wr 81 tItem := by
  intro F ps w r vs R hat ht hr hM k
  have ht0 := ht
  have hr0 := hr
  obtain ⟨s0, r0, u0, rfl, rfl, z0, ht, hr⟩ := inv_str ht hr
  obtain ⟨s1, r1, u1, rfl, rfl, z1, ht, hr⟩ := inv_int ht hr
  obtain ⟨rfl, rfl⟩ := inv_nil ht hr
  apply image_writer_item_nf
  intro wb0 hb0
  have c := Cur.start Wr hat hb0
  simp only [flatR, flatD] at hM
  refine ⟨_, cadd c.blk rfl, Wr.text c.at_ z0 (by simp [flatR, flatD] at hM ⊢; omega) fun w' F' a e g => ⟨rfl, ?_⟩⟩
  replace c := c.step a e g
  clear a e g
  refine ⟨_, cadd c.blk rfl, Wr.num c.at_ z1 (by simp [flatR, flatD] at hM ⊢; omega) fun w' F' a e g => ⟨rfl, ?_⟩⟩
  replace c := c.step a e g
  clear a e g
  exact k _ _ (by simpa [flatR, flatD] using c.at_) c.ex c.gr
set_option maxRecDepth 8000 in
set_option maxRecDepth 8000 in
theorem lItem_c : LEm Wr 80 81 tItem := by
  intro F ps w l A n c m xs R hat hl hM k
  apply image_list_api_Item__nf
  have hle := hl.le
  have hll := hl.ll
  rw [wu64 (n := ((n : Nat) : Int)) (by omega)]
  refine Wr.count hat (by omega) (by simp at hM; omega) fun w7 F7 a7 e7 g7 => ⟨rfl, ?_⟩
  refine ⟨fun t w' => ∃ (a : Nat) (F' : List Nat), t = a ∧ a ≤ n ∧ Wr.At F' (ps ++ (.count n :: flatL (l.take a))) w' ∧ Ext F w w' ∧ Grow w F F', fun t _ => n - t.toNat, ⟨0, F7, rfl, by omega, by simpa [flatL] using a7, e7, g7⟩, ?_⟩
  rintro _ _ w12 ⟨a, F12, rfl, ha, a12, e12, g12⟩
  refine sel_dec (fun hlt => ?_) (fun hge => ?_)
  rotate_left
  · obtain rfl : a = n := by omega
    rw [List.take_of_length_le (by omega), ← hll] at a12
    exact k w12 F12 a12 e12 g12
  obtain ⟨r, vs, ad, hra, htr, hrr, rfl, hts, rd, hone⟩ := hl.row (a := a) (by omega)
  have hsn := flatL_snoc hra
  have hmo := flatL_take_le (l := l) (a := a + 1)
  rw [hsn] at hmo
  have rd12 : cellsC (fun a v => w12.cell? a = some v) (ad.add (Int.toNat (a : Int) * 2)) vs := by
    have hm : m + 1 = 2 := by rw [← hts]; rfl
    rw [← hm]
    exact fun i v hv => cell_ext (Wr.ex a12) (rd i v hv) (by simp)
  have ht0 := htr
  have hr0 := hrr
  obtain ⟨s0, r0, u0, rfl, rfl, z0, htr, hrr⟩ := inv_str htr hrr
  obtain ⟨s1, r1, u1, rfl, rfl, z1, htr, hrr⟩ := inv_int htr hrr
  obtain ⟨rfl, rfl⟩ := inv_nil htr hrr
  refine when_dec ⟨by omega, by omega⟩ (ptr_in ⟨_, _, rd12, fun w16 h16 => ?_⟩)
  obtain ⟨b16, x16, y16⟩ := box_new (cs := [.string ByteArray.empty, .int .i64 0]) h16
  obtain ⟨w17, hr17, b17, x17⟩ := storeW (P := Tryz.prog) (t := 91) (n := 2) iItem b16 (by rfl) rfl hone
  have E17 : Ext [] w12 w17 := x16.trans' x17 (fun b hb => by simp at hb; subst hb; exact .inr (Nat.le_refl _))
  refine ⟨w17, hr17, _, _, cadd0 b17, when_intro (by kernel_rfl) (wItem_c Wr (Wr.st a12 E17 (by simp)) ht0 hr0 (by simp only [List.length_append, List.length_cons] at hM hmo ⊢; omega) fun w' F' a' e' g' => ⟨rfl, ?_⟩)⟩
  rw [up64 a (by omega)]
  refine ⟨⟨a + 1, F', rfl, by omega, ?_, (e12.trans' E17 (by simp)).grow g12 e', g12.trans (fun b hb => (g' b hb).imp id fun h => by have := E17.size; omega) e12.size⟩, by simp only [Int.toNat_natCast]; omega⟩
  rw [hsn]
  simpa using a'
set_option maxRecDepth 8000 in
theorem wTaint_c : Em Wr 79 tTaint := by
  intro F ps w r vs R hat ht hr hM k
  have ht0 := ht
  have hr0 := hr
  obtain ⟨s0, r0, u0, rfl, rfl, z0, ht, hr⟩ := inv_str ht hr
  obtain ⟨s1, r1, u1, rfl, rfl, z1, ht, hr⟩ := inv_str ht hr
  obtain ⟨s2, r2, u2, rfl, rfl, z2, ht, hr⟩ := inv_str ht hr
  obtain ⟨rfl, rfl⟩ := inv_nil ht hr
  apply image_writer_taint_nf
  intro wb0 hb0
  have c := Cur.start Wr hat hb0
  simp only [flatR, flatD] at hM
  refine ⟨_, cadd c.blk rfl, Wr.text c.at_ z0 (by simp [flatR, flatD] at hM ⊢; omega) fun w' F' a e g => ⟨rfl, ?_⟩⟩
  replace c := c.step a e g
  clear a e g
  refine ⟨_, cadd c.blk rfl, Wr.text c.at_ z1 (by simp [flatR, flatD] at hM ⊢; omega) fun w' F' a e g => ⟨rfl, ?_⟩⟩
  replace c := c.step a e g
  clear a e g
  refine ⟨_, cadd c.blk rfl, Wr.text c.at_ z2 (by simp [flatR, flatD] at hM ⊢; omega) fun w' F' a e g => ⟨rfl, ?_⟩⟩
  replace c := c.step a e g
  clear a e g
  exact k _ _ (by simpa [flatR, flatD] using c.at_) c.ex c.gr
set_option maxRecDepth 8000 in
set_option maxRecDepth 8000 in
theorem lTaint_c : LEm Wr 78 79 tTaint := by
  intro F ps w l A n c m xs R hat hl hM k
  apply image_list_api_Taint__nf
  have hle := hl.le
  have hll := hl.ll
  rw [wu64 (n := ((n : Nat) : Int)) (by omega)]
  refine Wr.count hat (by omega) (by simp at hM; omega) fun w7 F7 a7 e7 g7 => ⟨rfl, ?_⟩
  refine ⟨fun t w' => ∃ (a : Nat) (F' : List Nat), t = a ∧ a ≤ n ∧ Wr.At F' (ps ++ (.count n :: flatL (l.take a))) w' ∧ Ext F w w' ∧ Grow w F F', fun t _ => n - t.toNat, ⟨0, F7, rfl, by omega, by simpa [flatL] using a7, e7, g7⟩, ?_⟩
  rintro _ _ w12 ⟨a, F12, rfl, ha, a12, e12, g12⟩
  refine sel_dec (fun hlt => ?_) (fun hge => ?_)
  rotate_left
  · obtain rfl : a = n := by omega
    rw [List.take_of_length_le (by omega), ← hll] at a12
    exact k w12 F12 a12 e12 g12
  obtain ⟨r, vs, ad, hra, htr, hrr, rfl, hts, rd, hone⟩ := hl.row (a := a) (by omega)
  have hsn := flatL_snoc hra
  have hmo := flatL_take_le (l := l) (a := a + 1)
  rw [hsn] at hmo
  have rd12 : cellsC (fun a v => w12.cell? a = some v) (ad.add (Int.toNat (a : Int) * 3)) vs := by
    have hm : m + 1 = 3 := by rw [← hts]; rfl
    rw [← hm]
    exact fun i v hv => cell_ext (Wr.ex a12) (rd i v hv) (by simp)
  have ht0 := htr
  have hr0 := hrr
  obtain ⟨s0, r0, u0, rfl, rfl, z0, htr, hrr⟩ := inv_str htr hrr
  obtain ⟨s1, r1, u1, rfl, rfl, z1, htr, hrr⟩ := inv_str htr hrr
  obtain ⟨s2, r2, u2, rfl, rfl, z2, htr, hrr⟩ := inv_str htr hrr
  obtain ⟨rfl, rfl⟩ := inv_nil htr hrr
  refine when_dec ⟨by omega, by omega⟩ (ptr_in ⟨_, _, _, rd12, fun w16 h16 => ?_⟩)
  obtain ⟨b16, x16, y16⟩ := box_new (cs := [.string ByteArray.empty, .string ByteArray.empty, .string ByteArray.empty]) h16
  obtain ⟨w17, hr17, b17, x17⟩ := storeW (P := Tryz.prog) (t := 89) (n := 3) iTaint b16 (by rfl) rfl hone
  have E17 : Ext [] w12 w17 := x16.trans' x17 (fun b hb => by simp at hb; subst hb; exact .inr (Nat.le_refl _))
  refine ⟨w17, hr17, _, _, _, cadd0 b17, when_intro (by kernel_rfl) (wTaint_c Wr (Wr.st a12 E17 (by simp)) ht0 hr0 (by simp only [List.length_append, List.length_cons] at hM hmo ⊢; omega) fun w' F' a' e' g' => ⟨rfl, ?_⟩)⟩
  rw [up64 a (by omega)]
  refine ⟨⟨a + 1, F', rfl, by omega, ?_, (e12.trans' E17 (by simp)).grow g12 e', g12.trans (fun b hb => (g' b hb).imp id fun h => by have := E17.size; omega) e12.size⟩, by simp only [Int.toNat_natCast]; omega⟩
  rw [hsn]
  simpa using a'
set_option maxRecDepth 8000 in
theorem wToleration_c : Em Wr 102 tTol := by
  intro F ps w r vs R hat ht hr hM k
  have ht0 := ht
  have hr0 := hr
  obtain ⟨s0, r0, u0, rfl, rfl, z0, ht, hr⟩ := inv_str ht hr
  obtain ⟨s1, r1, u1, rfl, rfl, z1, ht, hr⟩ := inv_str ht hr
  obtain ⟨s2, r2, u2, rfl, rfl, z2, ht, hr⟩ := inv_str ht hr
  obtain ⟨s3, r3, u3, rfl, rfl, z3, ht, hr⟩ := inv_str ht hr
  obtain ⟨rfl, rfl⟩ := inv_nil ht hr
  apply image_writer_toleration_nf
  intro wb0 hb0
  have c := Cur.start Wr hat hb0
  simp only [flatR, flatD] at hM
  refine ⟨_, cadd c.blk rfl, Wr.text c.at_ z0 (by simp [flatR, flatD] at hM ⊢; omega) fun w' F' a e g => ⟨rfl, ?_⟩⟩
  replace c := c.step a e g
  clear a e g
  refine ⟨_, cadd c.blk rfl, Wr.text c.at_ z1 (by simp [flatR, flatD] at hM ⊢; omega) fun w' F' a e g => ⟨rfl, ?_⟩⟩
  replace c := c.step a e g
  clear a e g
  refine ⟨_, cadd c.blk rfl, Wr.text c.at_ z2 (by simp [flatR, flatD] at hM ⊢; omega) fun w' F' a e g => ⟨rfl, ?_⟩⟩
  replace c := c.step a e g
  clear a e g
  refine ⟨_, cadd c.blk rfl, Wr.text c.at_ z3 (by simp [flatR, flatD] at hM ⊢; omega) fun w' F' a e g => ⟨rfl, ?_⟩⟩
  replace c := c.step a e g
  clear a e g
  exact k _ _ (by simpa [flatR, flatD] using c.at_) c.ex c.gr
set_option maxRecDepth 8000 in
set_option maxRecDepth 8000 in
theorem lToleration_c : LEm Wr 101 102 tTol := by
  intro F ps w l A n c m xs R hat hl hM k
  apply image_list_api_Toleration__nf
  have hle := hl.le
  have hll := hl.ll
  rw [wu64 (n := ((n : Nat) : Int)) (by omega)]
  refine Wr.count hat (by omega) (by simp at hM; omega) fun w7 F7 a7 e7 g7 => ⟨rfl, ?_⟩
  refine ⟨fun t w' => ∃ (a : Nat) (F' : List Nat), t = a ∧ a ≤ n ∧ Wr.At F' (ps ++ (.count n :: flatL (l.take a))) w' ∧ Ext F w w' ∧ Grow w F F', fun t _ => n - t.toNat, ⟨0, F7, rfl, by omega, by simpa [flatL] using a7, e7, g7⟩, ?_⟩
  rintro _ _ w12 ⟨a, F12, rfl, ha, a12, e12, g12⟩
  refine sel_dec (fun hlt => ?_) (fun hge => ?_)
  rotate_left
  · obtain rfl : a = n := by omega
    rw [List.take_of_length_le (by omega), ← hll] at a12
    exact k w12 F12 a12 e12 g12
  obtain ⟨r, vs, ad, hra, htr, hrr, rfl, hts, rd, hone⟩ := hl.row (a := a) (by omega)
  have hsn := flatL_snoc hra
  have hmo := flatL_take_le (l := l) (a := a + 1)
  rw [hsn] at hmo
  have rd12 : cellsC (fun a v => w12.cell? a = some v) (ad.add (Int.toNat (a : Int) * 4)) vs := by
    have hm : m + 1 = 4 := by rw [← hts]; rfl
    rw [← hm]
    exact fun i v hv => cell_ext (Wr.ex a12) (rd i v hv) (by simp)
  have ht0 := htr
  have hr0 := hrr
  obtain ⟨s0, r0, u0, rfl, rfl, z0, htr, hrr⟩ := inv_str htr hrr
  obtain ⟨s1, r1, u1, rfl, rfl, z1, htr, hrr⟩ := inv_str htr hrr
  obtain ⟨s2, r2, u2, rfl, rfl, z2, htr, hrr⟩ := inv_str htr hrr
  obtain ⟨s3, r3, u3, rfl, rfl, z3, htr, hrr⟩ := inv_str htr hrr
  obtain ⟨rfl, rfl⟩ := inv_nil htr hrr
  refine when_dec ⟨by omega, by omega⟩ (ptr_in ⟨_, _, _, _, rd12, fun w16 h16 => ?_⟩)
  obtain ⟨b16, x16, y16⟩ := box_new (cs := [.string ByteArray.empty, .string ByteArray.empty, .string ByteArray.empty, .string ByteArray.empty]) h16
  obtain ⟨w17, hr17, b17, x17⟩ := storeW (P := Tryz.prog) (t := 123) (n := 4) iToleration b16 (by rfl) rfl hone
  have E17 : Ext [] w12 w17 := x16.trans' x17 (fun b hb => by simp at hb; subst hb; exact .inr (Nat.le_refl _))
  refine ⟨w17, hr17, _, _, _, _, cadd0 b17, when_intro (by kernel_rfl) (wToleration_c Wr (Wr.st a12 E17 (by simp)) ht0 hr0 (by simp only [List.length_append, List.length_cons] at hM hmo ⊢; omega) fun w' F' a' e' g' => ⟨rfl, ?_⟩)⟩
  rw [up64 a (by omega)]
  refine ⟨⟨a + 1, F', rfl, by omega, ?_, (e12.trans' E17 (by simp)).grow g12 e', g12.trans (fun b hb => (g' b hb).imp id fun h => by have := E17.size; omega) e12.size⟩, by simp only [Int.toNat_natCast]; omega⟩
  rw [hsn]
  simpa using a'
set_option maxRecDepth 8000 in
theorem wApart_c : Em Wr 104 tApart := by
  intro F ps w r vs R hat ht hr hM k
  have ht0 := ht
  have hr0 := hr
  obtain ⟨s0, r0, u0, rfl, rfl, z0, ht, hr⟩ := inv_str ht hr
  obtain ⟨s1, r1, u1, rfl, rfl, z1, ht, hr⟩ := inv_str ht hr
  obtain ⟨rfl, rfl⟩ := inv_nil ht hr
  apply image_writer_apart_nf
  intro wb0 hb0
  have c := Cur.start Wr hat hb0
  simp only [flatR, flatD] at hM
  refine ⟨_, cadd c.blk rfl, Wr.text c.at_ z0 (by simp [flatR, flatD] at hM ⊢; omega) fun w' F' a e g => ⟨rfl, ?_⟩⟩
  replace c := c.step a e g
  clear a e g
  refine ⟨_, cadd c.blk rfl, Wr.text c.at_ z1 (by simp [flatR, flatD] at hM ⊢; omega) fun w' F' a e g => ⟨rfl, ?_⟩⟩
  replace c := c.step a e g
  clear a e g
  exact k _ _ (by simpa [flatR, flatD] using c.at_) c.ex c.gr
set_option maxRecDepth 8000 in
set_option maxRecDepth 8000 in
theorem lApart_c : LEm Wr 103 104 tApart := by
  intro F ps w l A n c m xs R hat hl hM k
  apply image_list_api_Apart__nf
  have hle := hl.le
  have hll := hl.ll
  rw [wu64 (n := ((n : Nat) : Int)) (by omega)]
  refine Wr.count hat (by omega) (by simp at hM; omega) fun w7 F7 a7 e7 g7 => ⟨rfl, ?_⟩
  refine ⟨fun t w' => ∃ (a : Nat) (F' : List Nat), t = a ∧ a ≤ n ∧ Wr.At F' (ps ++ (.count n :: flatL (l.take a))) w' ∧ Ext F w w' ∧ Grow w F F', fun t _ => n - t.toNat, ⟨0, F7, rfl, by omega, by simpa [flatL] using a7, e7, g7⟩, ?_⟩
  rintro _ _ w12 ⟨a, F12, rfl, ha, a12, e12, g12⟩
  refine sel_dec (fun hlt => ?_) (fun hge => ?_)
  rotate_left
  · obtain rfl : a = n := by omega
    rw [List.take_of_length_le (by omega), ← hll] at a12
    exact k w12 F12 a12 e12 g12
  obtain ⟨r, vs, ad, hra, htr, hrr, rfl, hts, rd, hone⟩ := hl.row (a := a) (by omega)
  have hsn := flatL_snoc hra
  have hmo := flatL_take_le (l := l) (a := a + 1)
  rw [hsn] at hmo
  have rd12 : cellsC (fun a v => w12.cell? a = some v) (ad.add (Int.toNat (a : Int) * 2)) vs := by
    have hm : m + 1 = 2 := by rw [← hts]; rfl
    rw [← hm]
    exact fun i v hv => cell_ext (Wr.ex a12) (rd i v hv) (by simp)
  have ht0 := htr
  have hr0 := hrr
  obtain ⟨s0, r0, u0, rfl, rfl, z0, htr, hrr⟩ := inv_str htr hrr
  obtain ⟨s1, r1, u1, rfl, rfl, z1, htr, hrr⟩ := inv_str htr hrr
  obtain ⟨rfl, rfl⟩ := inv_nil htr hrr
  refine when_dec ⟨by omega, by omega⟩ (ptr_in ⟨_, _, rd12, fun w16 h16 => ?_⟩)
  obtain ⟨b16, x16, y16⟩ := box_new (cs := [.string ByteArray.empty, .string ByteArray.empty]) h16
  obtain ⟨w17, hr17, b17, x17⟩ := storeW (P := Tryz.prog) (t := 125) (n := 2) iApart b16 (by rfl) rfl hone
  have E17 : Ext [] w12 w17 := x16.trans' x17 (fun b hb => by simp at hb; subst hb; exact .inr (Nat.le_refl _))
  refine ⟨w17, hr17, _, _, cadd0 b17, when_intro (by kernel_rfl) (wApart_c Wr (Wr.st a12 E17 (by simp)) ht0 hr0 (by simp only [List.length_append, List.length_cons] at hM hmo ⊢; omega) fun w' F' a' e' g' => ⟨rfl, ?_⟩)⟩
  rw [up64 a (by omega)]
  refine ⟨⟨a + 1, F', rfl, by omega, ?_, (e12.trans' E17 (by simp)).grow g12 e', g12.trans (fun b hb => (g' b hb).imp id fun h => by have := E17.size; omega) e12.size⟩, by simp only [Int.toNat_natCast]; omega⟩
  rw [hsn]
  simpa using a'
set_option maxRecDepth 8000 in
theorem wPrefer_c : Em Wr 106 tPrefer := by
  intro F ps w r vs R hat ht hr hM k
  have ht0 := ht
  have hr0 := hr
  obtain ⟨s0, r0, u0, rfl, rfl, z0, ht, hr⟩ := inv_int ht hr
  obtain ⟨s1, r1, u1, rfl, rfl, z1, ht, hr⟩ := inv_str ht hr
  obtain ⟨rfl, rfl⟩ := inv_nil ht hr
  apply image_writer_prefer_nf
  intro wb0 hb0
  have c := Cur.start Wr hat hb0
  simp only [flatR, flatD] at hM
  refine ⟨_, cadd c.blk rfl, Wr.num c.at_ z0 (by simp [flatR, flatD] at hM ⊢; omega) fun w' F' a e g => ⟨rfl, ?_⟩⟩
  replace c := c.step a e g
  clear a e g
  refine ⟨_, cadd c.blk rfl, Wr.text c.at_ z1 (by simp [flatR, flatD] at hM ⊢; omega) fun w' F' a e g => ⟨rfl, ?_⟩⟩
  replace c := c.step a e g
  clear a e g
  exact k _ _ (by simpa [flatR, flatD] using c.at_) c.ex c.gr
set_option maxRecDepth 8000 in
set_option maxRecDepth 8000 in
theorem lPrefer_c : LEm Wr 105 106 tPrefer := by
  intro F ps w l A n c m xs R hat hl hM k
  apply image_list_api_Prefer__nf
  have hle := hl.le
  have hll := hl.ll
  rw [wu64 (n := ((n : Nat) : Int)) (by omega)]
  refine Wr.count hat (by omega) (by simp at hM; omega) fun w7 F7 a7 e7 g7 => ⟨rfl, ?_⟩
  refine ⟨fun t w' => ∃ (a : Nat) (F' : List Nat), t = a ∧ a ≤ n ∧ Wr.At F' (ps ++ (.count n :: flatL (l.take a))) w' ∧ Ext F w w' ∧ Grow w F F', fun t _ => n - t.toNat, ⟨0, F7, rfl, by omega, by simpa [flatL] using a7, e7, g7⟩, ?_⟩
  rintro _ _ w12 ⟨a, F12, rfl, ha, a12, e12, g12⟩
  refine sel_dec (fun hlt => ?_) (fun hge => ?_)
  rotate_left
  · obtain rfl : a = n := by omega
    rw [List.take_of_length_le (by omega), ← hll] at a12
    exact k w12 F12 a12 e12 g12
  obtain ⟨r, vs, ad, hra, htr, hrr, rfl, hts, rd, hone⟩ := hl.row (a := a) (by omega)
  have hsn := flatL_snoc hra
  have hmo := flatL_take_le (l := l) (a := a + 1)
  rw [hsn] at hmo
  have rd12 : cellsC (fun a v => w12.cell? a = some v) (ad.add (Int.toNat (a : Int) * 2)) vs := by
    have hm : m + 1 = 2 := by rw [← hts]; rfl
    rw [← hm]
    exact fun i v hv => cell_ext (Wr.ex a12) (rd i v hv) (by simp)
  have ht0 := htr
  have hr0 := hrr
  obtain ⟨s0, r0, u0, rfl, rfl, z0, htr, hrr⟩ := inv_int htr hrr
  obtain ⟨s1, r1, u1, rfl, rfl, z1, htr, hrr⟩ := inv_str htr hrr
  obtain ⟨rfl, rfl⟩ := inv_nil htr hrr
  refine when_dec ⟨by omega, by omega⟩ (ptr_in ⟨_, _, rd12, fun w16 h16 => ?_⟩)
  obtain ⟨b16, x16, y16⟩ := box_new (cs := [.int .i64 0, .string ByteArray.empty]) h16
  obtain ⟨w17, hr17, b17, x17⟩ := storeW (P := Tryz.prog) (t := 127) (n := 2) iPrefer b16 (by rfl) rfl hone
  have E17 : Ext [] w12 w17 := x16.trans' x17 (fun b hb => by simp at hb; subst hb; exact .inr (Nat.le_refl _))
  refine ⟨w17, hr17, _, _, cadd0 b17, when_intro (by kernel_rfl) (wPrefer_c Wr (Wr.st a12 E17 (by simp)) ht0 hr0 (by simp only [List.length_append, List.length_cons] at hM hmo ⊢; omega) fun w' F' a' e' g' => ⟨rfl, ?_⟩)⟩
  rw [up64 a (by omega)]
  refine ⟨⟨a + 1, F', rfl, by omega, ?_, (e12.trans' E17 (by simp)).grow g12 e', g12.trans (fun b hb => (g' b hb).imp id fun h => by have := E17.size; omega) e12.size⟩, by simp only [Int.toNat_natCast]; omega⟩
  rw [hsn]
  simpa using a'
set_option maxRecDepth 8000 in
theorem wNode_c : Em Wr 51 tNode := by
  intro F ps w r vs R hat ht hr hM k
  have ht0 := ht
  have hr0 := hr
  obtain ⟨s0, r0, u0, rfl, rfl, z0, ht, hr⟩ := inv_str ht hr
  obtain ⟨s1, A1, n1, c1, m1, xs1, r1, u1, rfl, rfl, z1, ht, hr⟩ := inv_list ht hr
  obtain ⟨s2, A2, n2, c2, m2, xs2, r2, u2, rfl, rfl, z2, ht, hr⟩ := inv_list ht hr
  obtain ⟨s3, A3, n3, c3, m3, xs3, r3, u3, rfl, rfl, z3, ht, hr⟩ := inv_list ht hr
  obtain ⟨s4, r4, u4, rfl, rfl, ht, hr⟩ := inv_bool ht hr
  obtain ⟨rfl, rfl⟩ := inv_nil ht hr
  apply image_writer_node_nf
  intro wb0 hb0
  have c := Cur.start Wr hat hb0
  simp only [flatR, flatD] at hM
  refine ⟨_, cadd c.blk rfl, Wr.text c.at_ z0 (by simp [flatR, flatD] at hM ⊢; omega) fun w' F' a e g => ⟨rfl, ?_⟩⟩
  replace c := c.step a e g
  clear a e g
  refine ⟨_, _, _, cadd c.blk rfl, lLabel_c Wr c.at_ z1 (by simp [flatR, flatD] at hM ⊢; omega) fun w' F' a e g => ⟨rfl, ?_⟩⟩
  replace c := c.step a e g
  clear a e g
  refine ⟨_, _, _, cadd c.blk rfl, lTaint_c Wr c.at_ z2 (by simp [flatR, flatD] at hM ⊢; omega) fun w' F' a e g => ⟨rfl, ?_⟩⟩
  replace c := c.step a e g
  clear a e g
  refine ⟨_, _, _, cadd c.blk rfl, lItem_c Wr c.at_ z3 (by simp [flatR, flatD] at hM ⊢; omega) fun w' F' a e g => ⟨rfl, ?_⟩⟩
  replace c := c.step a e g
  clear a e g
  refine ⟨_, cadd c.blk rfl, Wr.truth c.at_ (by simp [flatR, flatD] at hM ⊢; omega) fun w' F' a e g => ⟨rfl, ?_⟩⟩
  replace c := c.step a e g
  clear a e g
  exact k _ _ (by simpa [flatR, flatD] using c.at_) c.ex c.gr
set_option maxRecDepth 8000 in
set_option maxRecDepth 8000 in
theorem lNode_c : LEm Wr 50 51 tNode := by
  intro F ps w l A n c m xs R hat hl hM k
  apply image_list_api_Node__nf
  have hle := hl.le
  have hll := hl.ll
  rw [wu64 (n := ((n : Nat) : Int)) (by omega)]
  refine Wr.count hat (by omega) (by simp at hM; omega) fun w7 F7 a7 e7 g7 => ⟨rfl, ?_⟩
  refine ⟨fun t w' => ∃ (a : Nat) (F' : List Nat), t = a ∧ a ≤ n ∧ Wr.At F' (ps ++ (.count n :: flatL (l.take a))) w' ∧ Ext F w w' ∧ Grow w F F', fun t _ => n - t.toNat, ⟨0, F7, rfl, by omega, by simpa [flatL] using a7, e7, g7⟩, ?_⟩
  rintro _ _ w12 ⟨a, F12, rfl, ha, a12, e12, g12⟩
  refine sel_dec (fun hlt => ?_) (fun hge => ?_)
  rotate_left
  · obtain rfl : a = n := by omega
    rw [List.take_of_length_le (by omega), ← hll] at a12
    exact k w12 F12 a12 e12 g12
  obtain ⟨r, vs, ad, hra, htr, hrr, rfl, hts, rd, hone⟩ := hl.row (a := a) (by omega)
  have hsn := flatL_snoc hra
  have hmo := flatL_take_le (l := l) (a := a + 1)
  rw [hsn] at hmo
  have rd12 : cellsC (fun a v => w12.cell? a = some v) (ad.add (Int.toNat (a : Int) * 5)) vs := by
    have hm : m + 1 = 5 := by rw [← hts]; rfl
    rw [← hm]
    exact fun i v hv => cell_ext (Wr.ex a12) (rd i v hv) (by simp)
  have ht0 := htr
  have hr0 := hrr
  obtain ⟨s0, r0, u0, rfl, rfl, z0, htr, hrr⟩ := inv_str htr hrr
  obtain ⟨s1, A1, n1, c1, m1, xs1, r1, u1, rfl, rfl, z1, htr, hrr⟩ := inv_list htr hrr
  obtain ⟨s2, A2, n2, c2, m2, xs2, r2, u2, rfl, rfl, z2, htr, hrr⟩ := inv_list htr hrr
  obtain ⟨s3, A3, n3, c3, m3, xs3, r3, u3, rfl, rfl, z3, htr, hrr⟩ := inv_list htr hrr
  obtain ⟨s4, r4, u4, rfl, rfl, htr, hrr⟩ := inv_bool htr hrr
  obtain ⟨rfl, rfl⟩ := inv_nil htr hrr
  refine when_dec ⟨by omega, by omega⟩ (ptr_in ⟨_, _, _, _, _, _, _, _, _, _, _, rd12, fun w16 h16 => ?_⟩)
  obtain ⟨b16, x16, y16⟩ := box_new (cs := [.string ByteArray.empty, .slice none 0 0, .slice none 0 0, .slice none 0 0, .bool false]) h16
  obtain ⟨w17, hr17, b17, x17⟩ := storeW (P := Tryz.prog) (t := 53) (n := 5) iNode b16 (by rfl) rfl hone
  have E17 : Ext [] w12 w17 := x16.trans' x17 (fun b hb => by simp at hb; subst hb; exact .inr (Nat.le_refl _))
  refine ⟨w17, hr17, _, _, _, _, _, _, _, _, _, _, _, cadd0 b17, when_intro (by kernel_rfl) (wNode_c Wr (Wr.st a12 E17 (by simp)) ht0 hr0 (by simp only [List.length_append, List.length_cons] at hM hmo ⊢; omega) fun w' F' a' e' g' => ⟨rfl, ?_⟩)⟩
  rw [up64 a (by omega)]
  refine ⟨⟨a + 1, F', rfl, by omega, ?_, (e12.trans' E17 (by simp)).grow g12 e', g12.trans (fun b hb => (g' b hb).imp id fun h => by have := E17.size; omega) e12.size⟩, by simp only [Int.toNat_natCast]; omega⟩
  rw [hsn]
  simpa using a'
set_option maxRecDepth 8000 in
theorem wPod_c : Em Wr 83 tPod := by
  intro F ps w r vs R hat ht hr hM k
  have ht0 := ht
  have hr0 := hr
  obtain ⟨s0, r0, u0, rfl, rfl, z0, ht, hr⟩ := inv_str ht hr
  obtain ⟨s1, A1, n1, c1, m1, xs1, r1, u1, rfl, rfl, z1, ht, hr⟩ := inv_list ht hr
  obtain ⟨s2, A2, n2, c2, m2, xs2, r2, u2, rfl, rfl, z2, ht, hr⟩ := inv_list ht hr
  obtain ⟨s3, A3, n3, c3, m3, xs3, r3, u3, rfl, rfl, z3, ht, hr⟩ := inv_list ht hr
  obtain ⟨s4, r4, u4, rfl, rfl, z4, ht, hr⟩ := inv_str ht hr
  obtain ⟨s5, A5, n5, c5, m5, xs5, r5, u5, rfl, rfl, z5, ht, hr⟩ := inv_list ht hr
  obtain ⟨s6, A6, n6, c6, m6, xs6, r6, u6, rfl, rfl, z6, ht, hr⟩ := inv_list ht hr
  obtain ⟨s7, r7, u7, rfl, rfl, z7, ht, hr⟩ := inv_int ht hr
  obtain ⟨rfl, rfl⟩ := inv_nil ht hr
  apply image_writer_pod_nf
  intro wb0 hb0
  have c := Cur.start Wr hat hb0
  simp only [flatR, flatD] at hM
  refine ⟨_, cadd c.blk rfl, Wr.text c.at_ z0 (by simp [flatR, flatD] at hM ⊢; omega) fun w' F' a e g => ⟨rfl, ?_⟩⟩
  replace c := c.step a e g
  clear a e g
  refine ⟨_, _, _, cadd c.blk rfl, lLabel_c Wr c.at_ z1 (by simp [flatR, flatD] at hM ⊢; omega) fun w' F' a e g => ⟨rfl, ?_⟩⟩
  replace c := c.step a e g
  clear a e g
  refine ⟨_, _, _, cadd c.blk rfl, lItem_c Wr c.at_ z2 (by simp [flatR, flatD] at hM ⊢; omega) fun w' F' a e g => ⟨rfl, ?_⟩⟩
  replace c := c.step a e g
  clear a e g
  refine ⟨_, _, _, cadd c.blk rfl, lToleration_c Wr c.at_ z3 (by simp [flatR, flatD] at hM ⊢; omega) fun w' F' a e g => ⟨rfl, ?_⟩⟩
  replace c := c.step a e g
  clear a e g
  refine ⟨_, cadd c.blk rfl, Wr.text c.at_ z4 (by simp [flatR, flatD] at hM ⊢; omega) fun w' F' a e g => ⟨rfl, ?_⟩⟩
  replace c := c.step a e g
  clear a e g
  refine ⟨_, _, _, cadd c.blk rfl, lApart_c Wr c.at_ z5 (by simp [flatR, flatD] at hM ⊢; omega) fun w' F' a e g => ⟨rfl, ?_⟩⟩
  replace c := c.step a e g
  clear a e g
  refine ⟨_, _, _, cadd c.blk rfl, lPrefer_c Wr c.at_ z6 (by simp [flatR, flatD] at hM ⊢; omega) fun w' F' a e g => ⟨rfl, ?_⟩⟩
  replace c := c.step a e g
  clear a e g
  refine ⟨_, cadd c.blk rfl, Wr.num c.at_ z7 (by simp [flatR, flatD] at hM ⊢; omega) fun w' F' a e g => ⟨rfl, ?_⟩⟩
  replace c := c.step a e g
  clear a e g
  exact k _ _ (by simpa [flatR, flatD] using c.at_) c.ex c.gr
set_option maxRecDepth 8000 in
theorem wBound_c : Em Wr 53 tBound := by
  intro F ps w r vs R hat ht hr hM k
  have ht0 := ht
  have hr0 := hr
  obtain ⟨s0, r0, u0, rfl, rfl, z0, ht, hr⟩ := inv_str ht hr
  obtain ⟨s1, A1, n1, c1, m1, xs1, r1, u1, rfl, rfl, z1, ht, hr⟩ := inv_list ht hr
  obtain ⟨s2, A2, n2, c2, m2, xs2, r2, u2, rfl, rfl, z2, ht, hr⟩ := inv_list ht hr
  obtain ⟨s3, A3, n3, c3, m3, xs3, r3, u3, rfl, rfl, z3, ht, hr⟩ := inv_list ht hr
  obtain ⟨s4, r4, u4, rfl, rfl, z4, ht, hr⟩ := inv_str ht hr
  obtain ⟨s5, A5, n5, c5, m5, xs5, r5, u5, rfl, rfl, z5, ht, hr⟩ := inv_list ht hr
  obtain ⟨s6, A6, n6, c6, m6, xs6, r6, u6, rfl, rfl, z6, ht, hr⟩ := inv_list ht hr
  obtain ⟨s7, r7, u7, rfl, rfl, z7, ht, hr⟩ := inv_int ht hr
  obtain ⟨s8, r8, u8, rfl, rfl, z8, ht, hr⟩ := inv_str ht hr
  obtain ⟨rfl, rfl⟩ := inv_nil ht hr
  apply image_writer_bound_nf
  intro wb0 hb0
  have c := Cur.start Wr hat hb0
  simp only [flatR, flatD] at hM
  have hsp := tyR_split (ts := tPod) (us := [.str]) (a := [.str s0, .list s1, .list s2, .list s3, .str s4, .list s5, .list s6, .int s7]) (b := [.str s8]) rfl ht0
  have hsr := RepR.split (w := W) (a := [.str s0, .list s1, .list s2, .list s3, .str s4, .list s5, .list s6, .int s7]) (b := [.str s8]) (va := [.string s0, .slice A1 n1 c1, .slice A2 n2 c2, .slice A3 n3 c3, .string s4, .slice A5 n5 c5, .slice A6 n6 c6, .int .i64 s7]) (vb := [.string s8]) rfl hr0
  refine ⟨_, _, _, _, _, _, _, _, _, _, _, _, _, _, _, _, _, _, fun i v hv => ?_, wPod_c Wr c.at_ hsp.1 hsr.1 (by simp [flatR, flatD] at hM ⊢; omega) fun w' F' a e g => ⟨rfl, ?_⟩⟩
  · rw [Addr.add0]
    match i, hv with
    | 0, hv => cases hv; exact c.blk.cell (i := 0) rfl
    | 1, hv => cases hv; exact c.blk.cell (i := 1) rfl
    | 2, hv => cases hv; exact c.blk.cell (i := 2) rfl
    | 3, hv => cases hv; exact c.blk.cell (i := 3) rfl
    | 4, hv => cases hv; exact c.blk.cell (i := 4) rfl
    | 5, hv => cases hv; exact c.blk.cell (i := 5) rfl
    | 6, hv => cases hv; exact c.blk.cell (i := 6) rfl
    | 7, hv => cases hv; exact c.blk.cell (i := 7) rfl
    | _ + 8, hv => cases hv
  replace c := c.step a e g
  clear a e g
  refine ⟨_, cadd c.blk rfl, Wr.text c.at_ z8 (by simp [flatR, flatD] at hM ⊢; omega) fun w' F' a e g => ⟨rfl, ?_⟩⟩
  replace c := c.step a e g
  clear a e g
  exact k _ _ (by simpa [flatR, flatD] using c.at_) c.ex c.gr
set_option maxRecDepth 8000 in
set_option maxRecDepth 8000 in
theorem lBound_c : LEm Wr 52 53 tBound := by
  intro F ps w l A n c m xs R hat hl hM k
  apply image_list_api_Bound__nf
  have hle := hl.le
  have hll := hl.ll
  rw [wu64 (n := ((n : Nat) : Int)) (by omega)]
  refine Wr.count hat (by omega) (by simp at hM; omega) fun w7 F7 a7 e7 g7 => ⟨rfl, ?_⟩
  refine ⟨fun t w' => ∃ (a : Nat) (F' : List Nat), t = a ∧ a ≤ n ∧ Wr.At F' (ps ++ (.count n :: flatL (l.take a))) w' ∧ Ext F w w' ∧ Grow w F F', fun t _ => n - t.toNat, ⟨0, F7, rfl, by omega, by simpa [flatL] using a7, e7, g7⟩, ?_⟩
  rintro _ _ w12 ⟨a, F12, rfl, ha, a12, e12, g12⟩
  refine sel_dec (fun hlt => ?_) (fun hge => ?_)
  rotate_left
  · obtain rfl : a = n := by omega
    rw [List.take_of_length_le (by omega), ← hll] at a12
    exact k w12 F12 a12 e12 g12
  obtain ⟨r, vs, ad, hra, htr, hrr, rfl, hts, rd, hone⟩ := hl.row (a := a) (by omega)
  have hsn := flatL_snoc hra
  have hmo := flatL_take_le (l := l) (a := a + 1)
  rw [hsn] at hmo
  have rd12 : cellsC (fun a v => w12.cell? a = some v) (ad.add (Int.toNat (a : Int) * 9)) vs := by
    have hm : m + 1 = 9 := by rw [← hts]; rfl
    rw [← hm]
    exact fun i v hv => cell_ext (Wr.ex a12) (rd i v hv) (by simp)
  have ht0 := htr
  have hr0 := hrr
  obtain ⟨s0, r0, u0, rfl, rfl, z0, htr, hrr⟩ := inv_str htr hrr
  obtain ⟨s1, A1, n1, c1, m1, xs1, r1, u1, rfl, rfl, z1, htr, hrr⟩ := inv_list htr hrr
  obtain ⟨s2, A2, n2, c2, m2, xs2, r2, u2, rfl, rfl, z2, htr, hrr⟩ := inv_list htr hrr
  obtain ⟨s3, A3, n3, c3, m3, xs3, r3, u3, rfl, rfl, z3, htr, hrr⟩ := inv_list htr hrr
  obtain ⟨s4, r4, u4, rfl, rfl, z4, htr, hrr⟩ := inv_str htr hrr
  obtain ⟨s5, A5, n5, c5, m5, xs5, r5, u5, rfl, rfl, z5, htr, hrr⟩ := inv_list htr hrr
  obtain ⟨s6, A6, n6, c6, m6, xs6, r6, u6, rfl, rfl, z6, htr, hrr⟩ := inv_list htr hrr
  obtain ⟨s7, r7, u7, rfl, rfl, z7, htr, hrr⟩ := inv_int htr hrr
  obtain ⟨s8, r8, u8, rfl, rfl, z8, htr, hrr⟩ := inv_str htr hrr
  obtain ⟨rfl, rfl⟩ := inv_nil htr hrr
  refine when_dec ⟨by omega, by omega⟩ (ptr_in ⟨_, _, _, _, _, _, _, _, _, _, _, _, _, _, _, _, _, _, _, rd12, fun w16 h16 => ?_⟩)
  obtain ⟨b16, x16, y16⟩ := box_new (cs := [.string ByteArray.empty, .slice none 0 0, .slice none 0 0, .slice none 0 0, .string ByteArray.empty, .slice none 0 0, .slice none 0 0, .int .i64 0, .string ByteArray.empty]) h16
  obtain ⟨w17, hr17, b17, x17⟩ := storeW (P := Tryz.prog) (t := 71) (n := 9) iBound b16 (by rfl) rfl hone
  have E17 : Ext [] w12 w17 := x16.trans' x17 (fun b hb => by simp at hb; subst hb; exact .inr (Nat.le_refl _))
  refine ⟨w17, hr17, _, _, _, _, _, _, _, _, _, _, _, _, _, _, _, _, _, _, _, cadd0 b17, when_intro (by kernel_rfl) (wBound_c Wr (Wr.st a12 E17 (by simp)) ht0 hr0 (by simp only [List.length_append, List.length_cons] at hM hmo ⊢; omega) fun w' F' a' e' g' => ⟨rfl, ?_⟩)⟩
  rw [up64 a (by omega)]
  refine ⟨⟨a + 1, F', rfl, by omega, ?_, (e12.trans' E17 (by simp)).grow g12 e', g12.trans (fun b hb => (g' b hb).imp id fun h => by have := E17.size; omega) e12.size⟩, by simp only [Int.toNat_natCast]; omega⟩
  rw [hsn]
  simpa using a'
set_option maxRecDepth 8000 in
theorem wPending_c : Em Wr 55 tPending := by
  intro F ps w r vs R hat ht hr hM k
  have ht0 := ht
  have hr0 := hr
  obtain ⟨s0, r0, u0, rfl, rfl, z0, ht, hr⟩ := inv_str ht hr
  obtain ⟨s1, A1, n1, c1, m1, xs1, r1, u1, rfl, rfl, z1, ht, hr⟩ := inv_list ht hr
  obtain ⟨s2, A2, n2, c2, m2, xs2, r2, u2, rfl, rfl, z2, ht, hr⟩ := inv_list ht hr
  obtain ⟨s3, A3, n3, c3, m3, xs3, r3, u3, rfl, rfl, z3, ht, hr⟩ := inv_list ht hr
  obtain ⟨s4, r4, u4, rfl, rfl, z4, ht, hr⟩ := inv_str ht hr
  obtain ⟨s5, A5, n5, c5, m5, xs5, r5, u5, rfl, rfl, z5, ht, hr⟩ := inv_list ht hr
  obtain ⟨s6, A6, n6, c6, m6, xs6, r6, u6, rfl, rfl, z6, ht, hr⟩ := inv_list ht hr
  obtain ⟨s7, r7, u7, rfl, rfl, z7, ht, hr⟩ := inv_int ht hr
  obtain ⟨s8, r8, u8, rfl, rfl, z8, ht, hr⟩ := inv_int ht hr
  obtain ⟨s9, r9, u9, rfl, rfl, z9, ht, hr⟩ := inv_int ht hr
  obtain ⟨s10, r10, u10, rfl, rfl, z10, ht, hr⟩ := inv_int ht hr
  obtain ⟨s11, r11, u11, rfl, rfl, ht, hr⟩ := inv_bool ht hr
  obtain ⟨rfl, rfl⟩ := inv_nil ht hr
  apply image_writer_pending_nf
  intro wb0 hb0
  have c := Cur.start Wr hat hb0
  simp only [flatR, flatD] at hM
  have hsp := tyR_split (ts := tPod) (us := [.int, .int, .int, .bool]) (a := [.str s0, .list s1, .list s2, .list s3, .str s4, .list s5, .list s6, .int s7]) (b := [.int s8, .int s9, .int s10, .bool s11]) rfl ht0
  have hsr := RepR.split (w := W) (a := [.str s0, .list s1, .list s2, .list s3, .str s4, .list s5, .list s6, .int s7]) (b := [.int s8, .int s9, .int s10, .bool s11]) (va := [.string s0, .slice A1 n1 c1, .slice A2 n2 c2, .slice A3 n3 c3, .string s4, .slice A5 n5 c5, .slice A6 n6 c6, .int .i64 s7]) (vb := [.int .i64 s8, .int .i64 s9, .int .i64 s10, .bool s11]) rfl hr0
  refine ⟨_, _, _, _, _, _, _, _, _, _, _, _, _, _, _, _, _, _, fun i v hv => ?_, wPod_c Wr c.at_ hsp.1 hsr.1 (by simp [flatR, flatD] at hM ⊢; omega) fun w' F' a e g => ⟨rfl, ?_⟩⟩
  · rw [Addr.add0]
    match i, hv with
    | 0, hv => cases hv; exact c.blk.cell (i := 0) rfl
    | 1, hv => cases hv; exact c.blk.cell (i := 1) rfl
    | 2, hv => cases hv; exact c.blk.cell (i := 2) rfl
    | 3, hv => cases hv; exact c.blk.cell (i := 3) rfl
    | 4, hv => cases hv; exact c.blk.cell (i := 4) rfl
    | 5, hv => cases hv; exact c.blk.cell (i := 5) rfl
    | 6, hv => cases hv; exact c.blk.cell (i := 6) rfl
    | 7, hv => cases hv; exact c.blk.cell (i := 7) rfl
    | _ + 8, hv => cases hv
  replace c := c.step a e g
  clear a e g
  refine ⟨_, cadd c.blk rfl, Wr.num c.at_ z8 (by simp [flatR, flatD] at hM ⊢; omega) fun w' F' a e g => ⟨rfl, ?_⟩⟩
  replace c := c.step a e g
  clear a e g
  refine ⟨_, cadd c.blk rfl, Wr.num c.at_ z9 (by simp [flatR, flatD] at hM ⊢; omega) fun w' F' a e g => ⟨rfl, ?_⟩⟩
  replace c := c.step a e g
  clear a e g
  refine ⟨_, cadd c.blk rfl, Wr.num c.at_ z10 (by simp [flatR, flatD] at hM ⊢; omega) fun w' F' a e g => ⟨rfl, ?_⟩⟩
  replace c := c.step a e g
  clear a e g
  refine ⟨_, cadd c.blk rfl, Wr.truth c.at_ (by simp [flatR, flatD] at hM ⊢; omega) fun w' F' a e g => ⟨rfl, ?_⟩⟩
  replace c := c.step a e g
  clear a e g
  exact k _ _ (by simpa [flatR, flatD] using c.at_) c.ex c.gr
set_option maxRecDepth 8000 in
set_option maxRecDepth 8000 in
theorem lPending_c : LEm Wr 54 55 tPending := by
  intro F ps w l A n c m xs R hat hl hM k
  apply image_list_api_Pending__nf
  have hle := hl.le
  have hll := hl.ll
  rw [wu64 (n := ((n : Nat) : Int)) (by omega)]
  refine Wr.count hat (by omega) (by simp at hM; omega) fun w7 F7 a7 e7 g7 => ⟨rfl, ?_⟩
  refine ⟨fun t w' => ∃ (a : Nat) (F' : List Nat), t = a ∧ a ≤ n ∧ Wr.At F' (ps ++ (.count n :: flatL (l.take a))) w' ∧ Ext F w w' ∧ Grow w F F', fun t _ => n - t.toNat, ⟨0, F7, rfl, by omega, by simpa [flatL] using a7, e7, g7⟩, ?_⟩
  rintro _ _ w12 ⟨a, F12, rfl, ha, a12, e12, g12⟩
  refine sel_dec (fun hlt => ?_) (fun hge => ?_)
  rotate_left
  · obtain rfl : a = n := by omega
    rw [List.take_of_length_le (by omega), ← hll] at a12
    exact k w12 F12 a12 e12 g12
  obtain ⟨r, vs, ad, hra, htr, hrr, rfl, hts, rd, hone⟩ := hl.row (a := a) (by omega)
  have hsn := flatL_snoc hra
  have hmo := flatL_take_le (l := l) (a := a + 1)
  rw [hsn] at hmo
  have rd12 : cellsC (fun a v => w12.cell? a = some v) (ad.add (Int.toNat (a : Int) * 12)) vs := by
    have hm : m + 1 = 12 := by rw [← hts]; rfl
    rw [← hm]
    exact fun i v hv => cell_ext (Wr.ex a12) (rd i v hv) (by simp)
  have ht0 := htr
  have hr0 := hrr
  obtain ⟨s0, r0, u0, rfl, rfl, z0, htr, hrr⟩ := inv_str htr hrr
  obtain ⟨s1, A1, n1, c1, m1, xs1, r1, u1, rfl, rfl, z1, htr, hrr⟩ := inv_list htr hrr
  obtain ⟨s2, A2, n2, c2, m2, xs2, r2, u2, rfl, rfl, z2, htr, hrr⟩ := inv_list htr hrr
  obtain ⟨s3, A3, n3, c3, m3, xs3, r3, u3, rfl, rfl, z3, htr, hrr⟩ := inv_list htr hrr
  obtain ⟨s4, r4, u4, rfl, rfl, z4, htr, hrr⟩ := inv_str htr hrr
  obtain ⟨s5, A5, n5, c5, m5, xs5, r5, u5, rfl, rfl, z5, htr, hrr⟩ := inv_list htr hrr
  obtain ⟨s6, A6, n6, c6, m6, xs6, r6, u6, rfl, rfl, z6, htr, hrr⟩ := inv_list htr hrr
  obtain ⟨s7, r7, u7, rfl, rfl, z7, htr, hrr⟩ := inv_int htr hrr
  obtain ⟨s8, r8, u8, rfl, rfl, z8, htr, hrr⟩ := inv_int htr hrr
  obtain ⟨s9, r9, u9, rfl, rfl, z9, htr, hrr⟩ := inv_int htr hrr
  obtain ⟨s10, r10, u10, rfl, rfl, z10, htr, hrr⟩ := inv_int htr hrr
  obtain ⟨s11, r11, u11, rfl, rfl, htr, hrr⟩ := inv_bool htr hrr
  obtain ⟨rfl, rfl⟩ := inv_nil htr hrr
  refine when_dec ⟨by omega, by omega⟩ (ptr_in ⟨_, _, _, _, _, _, _, _, _, _, _, _, _, _, _, _, _, _, _, _, _, _, rd12, fun w16 h16 => ?_⟩)
  obtain ⟨b16, x16, y16⟩ := box_new (cs := [.string ByteArray.empty, .slice none 0 0, .slice none 0 0, .slice none 0 0, .string ByteArray.empty, .slice none 0 0, .slice none 0 0, .int .i64 0, .int .i64 0, .int .i64 0, .int .i64 0, .bool false]) h16
  obtain ⟨w17, hr17, b17, x17⟩ := storeW (P := Tryz.prog) (t := 73) (n := 12) iPending b16 (by rfl) rfl hone
  have E17 : Ext [] w12 w17 := x16.trans' x17 (fun b hb => by simp at hb; subst hb; exact .inr (Nat.le_refl _))
  refine ⟨w17, hr17, _, _, _, _, _, _, _, _, _, _, _, _, _, _, _, _, _, _, _, _, _, _, cadd0 b17, when_intro (by kernel_rfl) (wPending_c Wr (Wr.st a12 E17 (by simp)) ht0 hr0 (by simp only [List.length_append, List.length_cons] at hM hmo ⊢; omega) fun w' F' a' e' g' => ⟨rfl, ?_⟩)⟩
  rw [up64 a (by omega)]
  refine ⟨⟨a + 1, F', rfl, by omega, ?_, (e12.trans' E17 (by simp)).grow g12 e', g12.trans (fun b hb => (g' b hb).imp id fun h => by have := E17.size; omega) e12.size⟩, by simp only [Int.toNat_natCast]; omega⟩
  rw [hsn]
  simpa using a'
set_option maxRecDepth 8000 in
theorem wState_c : Em Wr 29 tState := by
  intro F ps w r vs R hat ht hr hM k
  have ht0 := ht
  have hr0 := hr
  obtain ⟨s0, r0, u0, rfl, rfl, z0, ht, hr⟩ := inv_int ht hr
  obtain ⟨s1, r1, u1, rfl, rfl, z1, ht, hr⟩ := inv_int ht hr
  obtain ⟨s2, A2, n2, c2, m2, xs2, r2, u2, rfl, rfl, z2, ht, hr⟩ := inv_list ht hr
  obtain ⟨s3, A3, n3, c3, m3, xs3, r3, u3, rfl, rfl, z3, ht, hr⟩ := inv_list ht hr
  obtain ⟨s4, A4, n4, c4, m4, xs4, r4, u4, rfl, rfl, z4, ht, hr⟩ := inv_list ht hr
  obtain ⟨rfl, rfl⟩ := inv_nil ht hr
  apply image_writer_state_nf
  intro wb0 hb0
  have c := Cur.start Wr hat hb0
  simp only [flatR, flatD] at hM
  refine ⟨_, cadd c.blk rfl, Wr.num c.at_ z0 (by simp [flatR, flatD] at hM ⊢; omega) fun w' F' a e g => ⟨rfl, ?_⟩⟩
  replace c := c.step a e g
  clear a e g
  refine ⟨_, cadd c.blk rfl, Wr.num c.at_ z1 (by simp [flatR, flatD] at hM ⊢; omega) fun w' F' a e g => ⟨rfl, ?_⟩⟩
  replace c := c.step a e g
  clear a e g
  refine ⟨_, _, _, cadd c.blk rfl, lNode_c Wr c.at_ z2 (by simp [flatR, flatD] at hM ⊢; omega) fun w' F' a e g => ⟨rfl, ?_⟩⟩
  replace c := c.step a e g
  clear a e g
  refine ⟨_, _, _, cadd c.blk rfl, lBound_c Wr c.at_ z3 (by simp [flatR, flatD] at hM ⊢; omega) fun w' F' a e g => ⟨rfl, ?_⟩⟩
  replace c := c.step a e g
  clear a e g
  refine ⟨_, _, _, cadd c.blk rfl, lPending_c Wr c.at_ z4 (by simp [flatR, flatD] at hM ⊢; omega) fun w' F' a e g => ⟨rfl, ?_⟩⟩
  replace c := c.step a e g
  clear a e g
  exact k _ _ (by simpa [flatR, flatD] using c.at_) c.ex c.gr
end Go.Proofs.YtoaeefjcjdhlkaaGreat
