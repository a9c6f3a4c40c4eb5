/- The document's index: how it lies in memory, New, At, Put, Del. -/
import Derived.Test.YtjlkdadafddodaaGreatDoorO15
set_option linter.unusedVariables false
set_option linter.unusedSimpArgs false
namespace Go.Proofs.YtjlkdadafddodaaGreatDoor
open Go Go.V Go.B

structure DR where
  key : ByteArray
  slot : Int
  n : Int
def DR.cells (r : DR) : List Value := [.string r.key, .int .i64 r.slot, .int .i64 r.n]
def DL : Lay DR := ⟨DR.cells, 3, fun _ => rfl, fun x v hv => by
  simp only [DR.cells, List.mem_cons, List.not_mem_nil, or_false] at hv
  rcases hv with rfl | rfl | rfl <;> rfl, by omega⟩
structure Doc where
  N : Int
  A : Option Addr
  l : Nat
  c : Nat
  rows : List DR
def Doc.cells (d : Doc) : List Value := [.int .i64 d.N, .slice d.A d.l d.c]
def Doc.val (d : Doc) : Value := .agg ⟨d.cells⟩
structure DocR (w : World) (d : Doc) : Prop where
  cells : Cells w d.A (DL.flat d.rows)
  len : d.rows.length = d.l
theorem DocR.ext {F : List Nat} {w w' : World} {d : Doc} (h : DocR w d) (e : Ext F w w') (hF : ∀ b ∈ ownF d.A, b ∉ F) : DocR w' d := ⟨h.cells.ext e hF, h.len⟩
theorem DocR.ext0 {w w' : World} {d : Doc} (h : DocR w d) (e : Ext [] w w') : DocR w' d := h.ext e (by simp)
theorem i106 : (Tryz.prog.info? 63).map (fun i => (i.zero, i.size, i.bytes)) = some (some (.agg #[.string ByteArray.empty, .int .i64 0, .int .i64 0]), 3, 32) := by kernel_rfl
theorem u56 : Tryz.prog.underlying 34 = some (.slice 63) := by kernel_rfl
theorem i58s : (Tryz.prog.info? 36).map (·.size) = some 2 := by kernel_rfl
theorem doc_row {w : World} {d : Doc} (h : DocR w d) {a : Nat} (ha : a < d.l) : ∃ r ad, d.rows[a]? = some r ∧ d.A = some ad ∧ cellsC (fun a v => w.cell? a = some v) (ad.add (Int.toNat (a : Int) * 3)) r.cells := by
  have hl := h.len
  obtain ⟨r, hr⟩ : ∃ r, d.rows[a]? = some r := ⟨d.rows[a]'(by omega), List.getElem?_eq_getElem (by omega)⟩
  obtain ⟨ad, hA, hc⟩ := DL.read h.cells hr
  exact ⟨r, ad, hr, hA, by rw [Int.toNat_natCast]; exact hc⟩
theorem doc_box {w w' : World} {d : Doc} (h : w' = w.alloc (.cells #[.int .i64 d.N, .slice d.A d.l d.c] 36)) : BlkT w' w.heap.size d.cells 36 ∧ Ext [] w w' ∧ w'.heap.size = w.heap.size + 1 := box_new (cs := d.cells) h
theorem doc_store {w : World} {g : Nat} {cs : List Value} (hb : BlkT w g cs 36) (hl : cs.length = 2) (d : Doc) : ∃ w', (Instr.storeAt 36 (.pointer (some ⟨g, 0, none⟩)) (.agg #[.int .i64 d.N, .slice d.A d.l d.c])).run Tryz.prog w = .ok () w' ∧ BlkT w' g d.cells 36 ∧ Ext [g] w w' :=
  storeW (P := Tryz.prog) (t := 36) (n := 2) (vs := d.cells) i58s hb rfl hl (fun v hv => by
    simp only [Doc.cells, List.mem_cons, List.not_mem_nil, or_false] at hv
    rcases hv with rfl | rfl <;> rfl)
theorem NewDoc_ok {n : Nat} (hn : n ≤ 65536) {w : World} {R : Ending → World → Prop}
    (k : ∀ w', Ext [] w w' → R (.returned (.tuple #[.agg #[.int .i64 (n : Int), .slice none 0 0], .int .i64 0])) w') : Calls Tryz.prog 20 #[.int .i64 (n : Int)] w R := by
  apply berthref08_New_nf
  intro w2 h2
  obtain ⟨b2, x2, z2⟩ := doc_box (d := ⟨0, none, 0, 0, []⟩) h2
  refine ⟨fun t w' => t = false ∧ w' = w2, sel_dec (fun h => by omega) (fun _ => ⟨by simp; omega, rfl⟩), ?_⟩
  rintro _ _ w6 ⟨rfl, hw⟩
  rw [hw]
  refine sel_false rfl ?_
  obtain ⟨w10, hr10, b10, x10⟩ := doc_store b2 rfl ⟨(n : Int), none, 0, 0, []⟩
  exact ⟨w10, hr10, _, _, _, _, cadd0 b10, k w10 (x2.trans' x10 (fun b hb => .inr (by simp at hb; omega)))⟩
theorem NewDoc_bad {n : Int} (hn : n < 0 ∨ 65536 < n) {w : World} {R : Ending → World → Prop}
    (k : ∀ w', Ext [] w w' → R (.returned (.tuple #[.agg #[.int .i64 0, .slice none 0 0], .int .i64 84])) w') : Calls Tryz.prog 20 #[.int .i64 n] w R := by
  apply berthref08_New_nf
  intro w2 h2
  obtain ⟨b2, x2, z2⟩ := doc_box (d := ⟨0, none, 0, 0, []⟩) h2
  refine ⟨fun t w' => t = true ∧ w' = w2, sel_dec (fun h => ⟨rfl, rfl⟩) (fun _ => ⟨by simp; omega, rfl⟩), ?_⟩
  rintro _ _ w6 ⟨rfl, hw⟩
  rw [hw]
  refine sel_true rfl ?_
  obtain ⟨w7, hr7, b7, x7⟩ := doc_store b2 rfl ⟨0, none, 0, 0, []⟩
  exact ⟨w7, hr7, _, _, _, _, cadd0 b7, k w7 (x2.trans' x7 (fun b hb => .inr (by simp at hb; omega)))⟩
theorem wrong_c {w : World} {N : Nat} {A : Option Addr} {l c : Nat} (key : ByteArray) (slot : Int) {R : Ending → World → Prop} (k : ∀ w', Ext [] w w' → R (.returned (.int .i64 (barV N key slot))) w') :
    Calls Tryz.prog 70 #[.agg #[.int .i64 (N : Int), .slice A l c], .string key, .int .i64 slot] w R := by
  apply berthref08_Index_wrong_nf
  intro w5 h5
  obtain ⟨b5, x5, z5⟩ := doc_box (d := ⟨(N : Int), A, l, c, []⟩) h5
  rw [beqBytes]
  have k5 := k w5 x5
  unfold barV at k5
  refine sel_dec (fun h1 => ?_) (fun h1 => ?_)
  · rw [if_pos h1] at k5; exact k5
  rw [if_neg h1] at k5
  refine sel_dec (fun h2 => ?_) (fun h2 => ⟨_, cadd b5 rfl, sel_dec (fun h3 => ?_) (fun h3 => ?_)⟩)
  · rw [if_pos (.inl h2)] at k5; exact k5
  · rw [if_pos (.inr h3)] at k5; exact k5
  · have h3 : ¬ slot ≥ (N : Int) := h3
    rw [if_neg (by omega)] at k5; exact k5
/-- Where an entry stands. -/
def AtV (rows : List DR) (key : ByteArray) (slot : Int) (a : Int) : Prop := (a = -1 ∧ ∀ r ∈ rows, ¬ (r.key = key ∧ r.slot = slot)) ∨ ∃ (i : Nat) (r : DR), a = i ∧ rows[i]? = some r ∧ r.key = key ∧ r.slot = slot
theorem DocAt_c {w : World} {d : Doc} (h : DocR w d) (hb : d.l < 4611686018427387904) (key : ByteArray) (slot : Int) {R : Ending → World → Prop} (k : ∀ a w', Ext [] w w' → AtV d.rows key slot a → R (.returned (.int .i64 a)) w') :
    Calls Tryz.prog 48 #[.agg #[.int .i64 d.N, .slice d.A d.l d.c], .string key, .int .i64 slot] w R := by
  apply berthref08_Index_At_nf
  intro w5 h5
  obtain ⟨b5, x5, z5⟩ := doc_box (d := d) h5
  have hl := h.len
  refine ⟨fun t w' => ∃ a : Nat, t = a ∧ a ≤ d.l ∧ w' = w5 ∧ ∀ r ∈ d.rows.take a, ¬ (r.key = key ∧ r.slot = slot), fun t _ => d.l - t.toNat, ⟨0, rfl, by omega, rfl, by simp⟩, ?_⟩
  rintro _ _ w10 ⟨a, rfl, ha, hw, hno⟩
  rw [hw]
  refine ⟨_, _, _, cadd b5 rfl, sel_dec (fun hlt => ?_) (fun hge => ?_)⟩
  · have hlt : a < d.l := by omega
    obtain ⟨r, ad, hr, hA, rd⟩ := doc_row (h.ext0 x5) hlt
    refine ⟨_, _, _, cadd b5 rfl, when_dec ⟨by omega, by omega⟩ ?_⟩
    rw [hA]
    have step : ¬ (r.key = key ∧ r.slot = slot) → (∃ a' : Nat, IntKind.wrap .i64 ((a : Int) + 1) = a' ∧ a' ≤ d.l ∧ w5 = w5 ∧ ∀ r ∈ d.rows.take a', ¬ (r.key = key ∧ r.slot = slot)) ∧ d.l - (IntKind.wrap .i64 ((a : Int) + 1)).toNat < d.l - (a : Int).toNat := fun hne => by
      rw [up64 a (by omega)]
      refine ⟨⟨a + 1, rfl, by omega, rfl, fun s hs => ?_⟩, by simp only [Int.toNat_natCast]; omega⟩
      rw [snoc_at hr] at hs
      rcases List.mem_append.1 hs with hs | hs
      · exact hno s hs
      · simp at hs; subst hs; exact hne
    refine ptr_in ⟨_, rd 0 _ rfl, ?_⟩
    rw [beqBytes]
    refine sel_dec (fun hk => ⟨_, _, _, cadd b5 rfl, when_dec ⟨by omega, by omega⟩ ?_⟩) (fun hk => step fun hh => hk hh.1)
    rw [hA]
    refine ptr_in ⟨_, rd 1 _ rfl, sel_intro (fun hs => ?_) (fun hs => step fun hh => ?_)⟩
    · exact k _ w5 x5 (.inr ⟨a, r, rfl, hr, hk, eq_of_beq hs⟩)
    · rw [hh.2] at hs; simp at hs
  · have : a = d.l := by omega
    subst this
    rw [List.take_of_length_le (by omega)] at hno
    exact k _ w5 x5 (.inl ⟨rfl, hno⟩)
/-- What the document's Put answers. -/
structure PutD (d d' : Doc) (key : ByteArray) (slot n e : Int) : Prop where
  N : d'.N = d.N
  alt : (e ≠ 0 ∧ d'.A = d.A ∧ d'.l = d.l ∧ d'.c = d.c ∧ d'.rows = d.rows) ∨ (e = 0 ∧ d'.rows = d.rows ++ [⟨key, slot, n⟩] ∧ d'.l = d.l + 1)
def noRow (rows : List DR) (key : ByteArray) (slot : Int) : Prop := ∀ r ∈ rows, ¬ (r.key = key ∧ r.slot = slot)
/-- A list of the document's: the blocks that it takes, new or as before. -/
theorem DocPut_c {w : World} {d : Doc} {N : Nat} (hN : d.N = N) (h : DocR w d) (hb : d.l ≤ 4000000000000) (key : ByteArray) (slot n : Int) {R : Ending → World → Prop}
    (k : ∀ d' e w', Ext [] w w' → DocR w' d' → PutD d d' key slot n e → (barV N key slot ≠ 0 → e = barV N key slot) → (barV N key slot = 0 → (e = 82 ∧ ¬ noRow d.rows key slot) ∨ (e = 0 ∧ noRow d.rows key slot)) → (∀ b ∈ ownF d'.A, b ∈ ownF d.A ∨ w.heap.size ≤ b ∧ b < w'.heap.size) → R (.returned (.tuple #[.agg #[.int .i64 d'.N, .slice d'.A d'.l d'.c], .int .i64 e])) w') :
    Calls Tryz.prog 45 #[.agg #[.int .i64 d.N, .slice d.A d.l d.c], .string key, .int .i64 slot, .int .i64 n] w R := by
  apply berthref08_Put_nf
  intro w6 h6 w7 h7
  obtain ⟨b6, x6, z6⟩ := doc_box (d := d) h6
  obtain ⟨b7, x7, z7⟩ := doc_box (d := ⟨0, none, 0, 0, []⟩) h7
  have e7 := x6.trans x7
  have b67 := b6.ext0 x7
  refine ⟨_, _, _, _, cadd0 b67, ?_⟩
  rw [hN]
  refine wrong_c key slot fun w12 e12 => ⟨_, rfl, ?_⟩
  have E12 := e7.trans e12
  have p12 := b67.ext0 e12
  have q12 := b7.ext0 e12
  have z12 := e12.size
  -- the same again, with an error
  have same : ∀ e (w22 : World), Ext [] w12 w22 → e ≠ 0 → (barV N key slot ≠ 0 → e = barV N key slot) → (barV N key slot = 0 → e = 82 ∧ ¬ noRow d.rows key slot) →
      (∃ n13, ∃ A14, ∃ A14l, ∃ A14c, V.cellsC (fun a_ x_ => World.cell? w22 a_ = some x_) ⟨w.heap.size, 0, none⟩ [(Value.int .i64 n13), (Value.slice A14 A14l A14c)] ∧ ∃ w15, Sem.run Tryz.prog (Instr.storeAt 36 (Value.pointer (some ⟨w6.heap.size, 0, none⟩)) (Value.agg #[(Value.int .i64 n13), (Value.slice A14 A14l A14c)])) w22 = .ok () w15 ∧
        ∃ n16, ∃ A17, ∃ A17l, ∃ A17c, V.cellsC (fun a_ x_ => World.cell? w15 a_ = some x_) ⟨w6.heap.size, 0, none⟩ [(Value.int .i64 n16), (Value.slice A17 A17l A17c)] ∧ R (Ending.returned (Value.tuple #[(Value.agg #[(Value.int .i64 n16), (Value.slice A17 A17l A17c)]), (Value.int .i64 e)])) w15) := by
    intro e w22 e22 he h1 h2
    obtain ⟨w15, hr15, b15, x15⟩ := doc_store (q12.ext0 e22) rfl d
    have E15 : Ext [] w w15 := (E12.trans e22).trans' x15 (fun b hb => .inr (by simp at hb; omega))
    refine ⟨_, _, _, _, cadd0 (p12.ext0 e22), w15, hr15, _, _, _, _, cadd0 b15, k d e w15 E15 (h.ext0 E15) ⟨rfl, .inl ⟨he, rfl, rfl, rfl, rfl⟩⟩ h1 (fun hz => .inl (h2 hz)) (fun b hb => .inl hb)⟩
  refine sel_intro (fun hbad => ?_) (fun hgood => ?_)
  · have hbad : barV N key slot ≠ 0 := by simpa using hbad
    exact same _ w12 (Ext.refl _ _) hbad (fun _ => rfl) (fun hz => absurd hz hbad)
  have hgood : barV N key slot = 0 := by simpa using hgood
  refine ⟨_, _, _, _, cadd0 p12, ?_⟩
  refine DocAt_c (h.ext0 E12) (by omega) key slot fun a w22 e22 hat => ⟨_, rfl, sel_dec (fun hge => ?_) (fun hlt => ?_)⟩
  · have : ¬ noRow d.rows key slot := fun hno => by
      rcases hat with ⟨rfl, _⟩ | ⟨i, r, rfl, hr, h1, h2⟩
      · omega
      · exact hno r (List.mem_of_getElem? hr) ⟨h1, h2⟩
    exact same 82 w22 e22 (by decide) (fun hz => absurd hgood hz) (fun _ => ⟨rfl, this⟩)
  · have hno : noRow d.rows key slot := by
      rcases hat with ⟨_, hno⟩ | ⟨i, r, rfl, _⟩
      · exact hno
      · omega
    intro w28 h28
    have E22 := E12.trans e22
    obtain ⟨A30, c30, w31, hr31, own31, e31⟩ := copyL (L := DL) (P := Tryz.prog) (ty := 34) (t := 34) (e := 63) (w := w22) u56 i106 rfl (by omega) (h.ext0 E22).cells h.len h28 (by omega) d.c
    have x28 : Ext [] w22 w28 := by subst h28; exact (Ext.refl _ _).alloc _
    refine ⟨_, _, _, cadd ((p12.ext0 e22).ext0 x28) rfl, _, _, _, w31, hr31, fun w32 h32 => ?_⟩
    obtain ⟨b32, x32, z32⟩ := box_new (cs := DR.cells ⟨key, slot, n⟩) h32
    have E31 := E22.trans e31
    obtain ⟨A33, c33, w34, hr34, own34, e34, hF34⟩ := (own31.ext0 x32).more (P := Tryz.prog) (ty := 34) (x := ⟨key, slot, n⟩) u56 i106 rfl (by omega) b32 (by have := e31.size; omega) (by omega)
    have gb := own31.base
    have z22 := E22.size
    have E34 : Ext [] w w34 := (E31.trans x32).trans' e34 (fun b hb => .inr (by have := (gb b hb).1; omega))
    have hz31 := e31.size
    have hz12 := e22.size
    have p34 : BlkT w34 w.heap.size d.cells 36 := (((p12.ext0 e22).ext0 e31).ext0 x32).ext e34 (fun hm => by have := (gb _ hm).1; omega)
    have q34 := ((((q12.ext0 e22).ext0 e31).ext0 x32)).ext e34 (fun hm => by have := (gb _ hm).1; omega)
    obtain ⟨w36, hr36, b36, x36⟩ := doc_store q34 rfl ⟨d.N, A33, d.l + 1, c33, d.rows ++ [⟨key, slot, n⟩]⟩
    have gb34 := own34.base
    have own36 := own34.ext x36 (fun b hb => by have := (gb34 b hb).1; simp; omega)
    have E36 : Ext [] w w36 := E34.trans' x36 (fun b hb => .inr (by simp at hb; omega))
    refine ⟨_, _, _, w34, hr34, _, cadd p34 rfl, w36, hr36, _, _, _, _, cadd0 b36, ?_⟩
    exact k ⟨d.N, A33, d.l + 1, c33, d.rows ++ [⟨key, slot, n⟩]⟩ 0 w36 E36 ⟨own36.cells, own36.len⟩ ⟨rfl, .inr ⟨rfl, rfl, rfl⟩⟩ (fun hz => absurd hgood hz) (fun _ => .inr ⟨rfl, hno⟩) (fun b hb => .inr (by have := gb34 b hb; have := x36.size; omega))
/-- What the document's Del answers. -/
structure DelD (d d' : Doc) (key : ByteArray) (slot e : Int) : Prop where
  N : d'.N = d.N
  l : d'.l ≤ d.l
  alt : (e ≠ 0 ∧ d'.rows = d.rows) ∨ (e = 0 ∧ ∃ (i : Nat) (r : DR), d.rows[i]? = some r ∧ r.key = key ∧ r.slot = slot ∧ d'.rows = d.rows.eraseIdx i)
theorem erase_step {α : Type} {xs : List α} {i a : Nat} {x : α} (h : xs[a]? = some x) : (xs.take (a + 1)).eraseIdx i = if a = i then xs.take a else if i < a then (xs.take a).eraseIdx i ++ [x] else xs.take (a + 1) := by
  have hl := (List.getElem?_eq_some_iff.1 h).1
  rw [snoc_at h]
  split
  · rename_i e
    subst e
    rw [List.eraseIdx_append_of_length_le (by simp; omega)]
    simp [Nat.min_eq_left (Nat.le_of_lt hl)]
  · split
    · rename_i hne hlt
      rw [List.eraseIdx_append_of_lt_length (by simp; omega)]
    · rename_i hne hge
      exact List.eraseIdx_of_length_le (by simp; omega)
theorem DocDel_c {w : World} {d : Doc} {N : Nat} (hN : d.N = N) (h : DocR w d) (hb : d.l ≤ 4000000000000) (key : ByteArray) (slot : Int) {R : Ending → World → Prop}
    (k : ∀ d' e w', Ext [] w w' → DocR w' d' → DelD d d' key slot e → (barV N key slot ≠ 0 → e = barV N key slot) → (barV N key slot = 0 → (e = 83 ∧ noRow d.rows key slot) ∨ (e = 0 ∧ ¬ noRow d.rows key slot)) → (∀ b ∈ ownF d'.A, b ∈ ownF d.A ∨ w.heap.size ≤ b ∧ b < w'.heap.size) → R (.returned (.tuple #[.agg #[.int .i64 d'.N, .slice d'.A d'.l d'.c], .int .i64 e])) w') :
    Calls Tryz.prog 47 #[.agg #[.int .i64 d.N, .slice d.A d.l d.c], .string key, .int .i64 slot] w R := by
  apply berthref08_Del_nf
  intro w5 h5 w6 h6
  obtain ⟨b5, x5, z5⟩ := doc_box (d := d) h5
  obtain ⟨b6, x6, z6⟩ := doc_box (d := ⟨0, none, 0, 0, []⟩) h6
  have e6 := x5.trans x6
  have b56 := b5.ext0 x6
  have hl := h.len
  refine ⟨_, _, _, _, cadd0 b56, ?_⟩
  rw [hN]
  refine wrong_c key slot fun w11 e11 => ⟨_, rfl, ?_⟩
  have E11 := e6.trans e11
  have p11 := b56.ext0 e11
  have q11 := b6.ext0 e11
  have z11 := e11.size
  have same : ∀ e (w22 : World), Ext [] w11 w22 → e ≠ 0 → (barV N key slot ≠ 0 → e = barV N key slot) → (barV N key slot = 0 → e = 83 ∧ noRow d.rows key slot) →
      (∃ n13, ∃ A14, ∃ A14l, ∃ A14c, V.cellsC (fun a_ x_ => World.cell? w22 a_ = some x_) ⟨w.heap.size, 0, none⟩ [(Value.int .i64 n13), (Value.slice A14 A14l A14c)] ∧ ∃ w15, Sem.run Tryz.prog (Instr.storeAt 36 (Value.pointer (some ⟨w5.heap.size, 0, none⟩)) (Value.agg #[(Value.int .i64 n13), (Value.slice A14 A14l A14c)])) w22 = .ok () w15 ∧
        ∃ n16, ∃ A17, ∃ A17l, ∃ A17c, V.cellsC (fun a_ x_ => World.cell? w15 a_ = some x_) ⟨w5.heap.size, 0, none⟩ [(Value.int .i64 n16), (Value.slice A17 A17l A17c)] ∧ R (Ending.returned (Value.tuple #[(Value.agg #[(Value.int .i64 n16), (Value.slice A17 A17l A17c)]), (Value.int .i64 e)])) w15) := by
    intro e w22 e22 he h1 h2
    obtain ⟨w15, hr15, b15, x15⟩ := doc_store (q11.ext0 e22) rfl d
    have E15 : Ext [] w w15 := (E11.trans e22).trans' x15 (fun b hb => .inr (by simp at hb; omega))
    refine ⟨_, _, _, _, cadd0 (p11.ext0 e22), w15, hr15, _, _, _, _, cadd0 b15, k d e w15 E15 (h.ext0 E15) ⟨rfl, Nat.le_refl _, .inl ⟨he, rfl⟩⟩ h1 (fun hz => .inl (h2 hz)) (fun b hb => .inl hb)⟩
  refine sel_intro (fun hbad => ?_) (fun hgood => ?_)
  · have hbad : barV N key slot ≠ 0 := by simpa using hbad
    exact same _ w11 (Ext.refl _ _) hbad (fun _ => rfl) (fun hz => absurd hz hbad)
  have hgood : barV N key slot = 0 := by simpa using hgood
  refine ⟨_, _, _, _, cadd0 p11, ?_⟩
  refine DocAt_c (h.ext0 E11) (by omega) key slot fun a w21 e21 hat => ⟨_, rfl, sel_dec (fun hlt => ?_) (fun hge => ?_)⟩
  · have hno : noRow d.rows key slot := by
      rcases hat with ⟨_, hno⟩ | ⟨i, r, rfl, _⟩
      · exact hno
      · omega
    exact same 83 w21 e21 (by decide) (fun hz => absurd hgood hz) (fun _ => ⟨rfl, hno⟩)
  · obtain ⟨i, r0, rfl, hr0, hk0, hs0⟩ : ∃ (i : Nat) (r : DR), a = i ∧ d.rows[i]? = some r ∧ r.key = key ∧ r.slot = slot := by
      rcases hat with ⟨rfl, _⟩ | h
      · omega
      · exact h
    have hil := (List.getElem?_eq_some_iff.1 hr0).1
    intro w27 h27
    obtain ⟨b27, x27, z27⟩ := box_new (cs := []) h27
    have E21 := E11.trans e21
    have E27 := E21.trans x27
    have z21 := E21.size
    have hz21 := e21.size
    have own27 : OwnL DL w27 w21.heap.size 63 (some ⟨w21.heap.size, 0, none⟩) 0 0 [] := own_of b27 (Nat.le_refl _) (Nat.le_refl _) (by simp only [maxLen]; omega) (by simp) (by simp [Lay.flat])
    refine ⟨fun A n c t w' => ∃ a : Nat, t = a ∧ a ≤ d.l ∧ Ext [] w21 w' ∧ OwnL DL w' w21.heap.size 63 A n c ((d.rows.take a).eraseIdx i) ∧ n ≤ a, fun _ _ _ t _ => d.l - t.toNat, ⟨0, rfl, by omega, x27, by simpa using own27, by omega⟩, ?_⟩
    rintro A n c _ _ w33 ⟨a, rfl, ha, e33, own33, hna⟩
    have p33 := (p11.ext0 e21).ext0 e33
    have q33 := (q11.ext0 e21).ext0 e33
    have gb := own33.base
    refine ⟨_, _, _, cadd p33 rfl, sel_dec (fun hlt => ?_) (fun hge => ?_)⟩
    · have hlt : a < d.l := by omega
      obtain ⟨r, ad, hr, hA, rd⟩ := doc_row ((h.ext0 E21).ext0 e33) hlt
      have hes := erase_step (i := i) hr
      refine sel_intro (fun hne => ?_) (fun heq => ?_)
      · have hne : a ≠ i := fun e => by subst e; simp at hne
        rw [if_neg hne] at hes
        have hes : (d.rows.take (a + 1)).eraseIdx i = (d.rows.take a).eraseIdx i ++ [r] := by
          rw [hes]
          split
          · rfl
          · rw [snoc_at hr, List.eraseIdx_of_length_le (by simp; omega)]
        refine ⟨_, _, _, cadd p33 rfl, when_dec ⟨by omega, by omega⟩ ?_⟩
        rw [hA]
        refine ptr_in ⟨_, _, _, rd, fun w40 h40 => ?_⟩
        obtain ⟨b40, x40, z40⟩ := box_new (cs := r.cells) h40
        obtain ⟨A', c', w42, hr42, own42, e42, hF⟩ := (own33.ext0 x40).more (P := Tryz.prog) (ty := 34) (x := r) u56 i106 rfl (by omega) b40 (by have := e33.size; omega) (by omega)
        refine ⟨_, _, _, w42, hr42, ?_⟩
        rw [up64 a (by omega)]
        exact ⟨⟨a + 1, rfl, by omega, (e33.trans x40).trans' e42 (fun b hb => .inr (gb b hb).1), by rw [hes]; exact own42, by omega⟩, by simp only [Int.toNat_natCast]; omega⟩
      · have heq : a = i := by have := bne_eq_false_iff_eq.1 heq; omega
        rw [if_pos heq] at hes
        rw [up64 a (by omega)]
        refine ⟨⟨a + 1, rfl, by omega, e33, ?_, by omega⟩, by simp only [Int.toNat_natCast]; omega⟩
        rw [hes]
        have : (d.rows.take a).eraseIdx i = d.rows.take a := List.eraseIdx_of_length_le (by simp; omega)
        rw [this] at own33; exact own33
    · have : a = d.l := by omega
      subst this
      rw [List.take_of_length_le (by omega)] at own33
      have gb := own33.base
      obtain ⟨w44, hr44, b44, x44⟩ := doc_store q33 rfl ⟨d.N, A, n, c, d.rows.eraseIdx i⟩
      have own44 := own33.ext x44 (fun b hb => by have := (gb b hb).1; simp; omega)
      have E44 : Ext [] w w44 := (E21.trans e33).trans' x44 (fun b hb => .inr (by simp at hb; omega))
      refine ⟨_, cadd p33 rfl, w44, hr44, _, _, _, _, cadd0 b44, k ⟨d.N, A, n, c, d.rows.eraseIdx i⟩ 0 w44 E44 ⟨own44.cells, own44.len⟩ ⟨rfl, by show n ≤ d.l; omega, .inr ⟨rfl, i, r0, hr0, hk0, hs0, rfl⟩⟩ (fun hz => absurd hgood hz) (fun _ => .inr ⟨rfl, fun hno => hno r0 (List.mem_of_getElem? hr0) ⟨hk0, hs0⟩⟩) (fun b hb => .inr (by have := gb b hb; have := x44.size; omega))⟩
end Go.Proofs.YtjlkdadafddodaaGreatDoor
