/- Posting, the document's index: how it lies in memory; place, with. Posting, the document's index: New, Put, Set, Drop. Posting, the document's index: Put, Set, Drop. Posting, the document's index: Live, Of, In, Has. Posting, the document's index: Keys, Values, Same. -/
import Derived.Test.YtpipenkaaodlgaaGreatDoorZ10
import Derived.Test.YtpipenkaaodlgaaGreatDoorRfb
set_option linter.unusedVariables false
set_option linter.unusedSimpArgs false
namespace Go.Proofs.YtpipenkaaodlgaaGreatDoor
open Go Go.V Go.B

structure DRow where
  s : Int
  A : Option Addr
  n : Nat
  c : Nat
  l : List Lab
def DRow.cells (r : DRow) : List Value := [.int .i64 r.s, .slice r.A r.n r.c]
def WL : Lay DRow := ⟨DRow.cells, 2, fun _ => rfl, fun x v hv => by
  simp only [DRow.cells, List.mem_cons, List.not_mem_nil, or_false] at hv
  rcases hv with rfl | rfl <;> rfl, by omega⟩
structure PDoc where
  N : Nat
  A : Option Addr
  l : Nat
  c : Nat
  rows : List DRow
def PDoc.cells (d : PDoc) : List Value := [.int .i64 (d.N : Int), .slice d.A d.l d.c]
def PDoc.val (d : PDoc) : Value := .agg ⟨d.cells⟩
structure DocAt (w : World) (d : PDoc) : Prop where
  c : Cells w d.A (WL.flat d.rows)
  len : d.rows.length = d.l
  cap : d.l ≤ d.c
  labs : ∀ r ∈ d.rows, Cells w r.A (LbL.flat r.l) ∧ r.l.length = r.n
theorem DocAt.ext {F : List Nat} {w w' : World} {d : PDoc} (h : DocAt w d) (e : Ext F w w') (hA : ∀ b ∈ ownF d.A, b ∉ F) (hr : ∀ r ∈ d.rows, ∀ b ∈ ownF r.A, b ∉ F) : DocAt w' d := ⟨h.c.ext e hA, h.len, h.cap, fun r hm => ⟨(h.labs r hm).1.ext e (hr r hm), (h.labs r hm).2⟩⟩
theorem DocAt.ext0 {w w' : World} {d : PDoc} (h : DocAt w d) (e : Ext [] w w') : DocAt w' d := h.ext e (by simp) (by simp)
def RisD (rows : List DRow) : Prop := rows.Pairwise fun a b => a.s < b.s
structure DocOk (d : PDoc) : Prop where
  ris : RisD d.rows
  in_ : ∀ r ∈ d.rows, ∃ j : Nat, r.s = j ∧ j < d.N
  lab : ∀ r ∈ d.rows, OkL r.l
  small : d.N ≤ 65536
theorem ris_len {rows : List DRow} {N : Nat} (h : RisD rows) (hin : ∀ r ∈ rows, ∃ j : Nat, r.s = j ∧ j < N) : rows.length ≤ N := by
  have hnd : (rows.map fun r => r.s.toNat).Nodup := by
    rw [List.Nodup, List.pairwise_map]
    refine List.Pairwise.imp_of_mem (fun {a b} ha hb hlt => ?_) h
    obtain ⟨i, hi, _⟩ := hin a ha
    obtain ⟨j, hj, _⟩ := hin b hb
    omega
  have := sub_len (m := List.range N) hnd fun x hx => by
    obtain ⟨r, hr, rfl⟩ := List.mem_map.1 hx
    obtain ⟨j, hj, hjN⟩ := hin r hr
    exact List.mem_range.2 (by omega)
  simpa using this
theorem DocOk.len {d : PDoc} (h : DocOk d) : d.rows.length ≤ 65536 := Nat.le_trans (ris_len h.ris h.in_) h.small
def labD (rows : List DRow) : LabF := fun i => (rows.find? fun r => decide (r.s = i)).map (·.l)
theorem ris_uniq {rows : List DRow} (h : RisD rows) {a b : DRow} (ha : a ∈ rows) (hb : b ∈ rows) (e : a.s = b.s) : a = b := by
  have hnd : (rows.map (·.s)).Nodup := by
    rw [List.Nodup, List.pairwise_map]
    exact h.imp fun hlt => by omega
  exact nodup_uniq hnd ha hb e
theorem labD_some {rows : List DRow} (h : RisD rows) {i : Int} {l : List Lab} : labD rows i = some l ↔ ∃ r ∈ rows, r.s = i ∧ r.l = l := by
  unfold labD
  constructor
  · intro hf
    cases hq : rows.find? fun r => decide (r.s = i) with
    | none => rw [hq] at hf; cases hf
    | some r =>
      rw [hq] at hf
      exact ⟨r, List.mem_of_find?_eq_some hq, by simpa using List.find?_some hq, by injection hf⟩
  · rintro ⟨r, hr, rfl, rfl⟩
    cases hq : rows.find? fun r' => decide (r'.s = r.s) with
    | none =>
      have := List.find?_eq_none.1 hq r hr
      simp at this
    | some r' =>
      have h1 := List.mem_of_find?_eq_some hq
      have h2 : r'.s = r.s := by simpa using List.find?_some hq
      rw [ris_uniq h h1 hr h2]; rfl
theorem labD_none {rows : List DRow} {i : Int} : labD rows i = none ↔ ∀ r ∈ rows, r.s ≠ i := by
  unfold labD
  rw [Option.map_eq_none_iff, List.find?_eq_none]
  simp
theorem infoR : (Tryz.prog.info? 84).map (fun i => (i.zero, i.size, i.bytes)) = some (some (.agg #[.int .i64 0, .slice none 0 0]), 2, 32) := by kernel_rfl
theorem uR : Tryz.prog.underlying 35 = some (.slice 84) := by kernel_rfl
theorem iIx : (Tryz.prog.info? 37).map (·.size) = some 2 := by kernel_rfl
theorem doc_box {w w' : World} {N : Int} {A : Option Addr} {l c : Nat} (h : w' = w.alloc (.cells #[.int .i64 N, .slice A l c] 37)) : BlkT w' w.heap.size [.int .i64 N, .slice A l c] 37 ∧ Ext [] w w' ∧ w'.heap.size = w.heap.size + 1 := box_new (cs := [.int .i64 N, .slice A l c]) h
theorem doc_store {w : World} {g : Nat} {cs : List Value} (hb : BlkT w g cs 37) (hl : cs.length = 2) (N : Int) (A : Option Addr) (l c : Nat) : ∃ w', (Instr.storeAt 37 (.pointer (some ⟨g, 0, none⟩)) (.agg #[.int .i64 N, .slice A l c])).run Tryz.prog w = .ok () w' ∧ BlkT w' g [.int .i64 N, .slice A l c] 37 ∧ Ext [g] w w' :=
  storeW (P := Tryz.prog) (t := 37) (n := 2) (vs := [.int .i64 N, .slice A l c]) iIx hb rfl hl (fun v hv => by
    simp only [List.mem_cons, List.not_mem_nil, or_false] at hv
    rcases hv with rfl | rfl <;> rfl)
theorem row_at {w : World} {A : Option Addr} {rows : List DRow} (hc : Cells w A (WL.flat rows)) {n a : Nat} (hl : rows.length = n) (ha : a < n) : ∃ r ad, rows[a]? = some r ∧ A = some ad ∧ w.cell? (Addr.add (Addr.add ad (Int.toNat (a : Int) * 2)) 0) = some (.int .i64 r.s) ∧ w.cell? (Addr.add (Addr.add ad (Int.toNat (a : Int) * 2)) 1) = some (.slice r.A r.n r.c) := by
  obtain ⟨r, ad, h1, h2, h3⟩ := Cells.row (L := WL) hc hl ha
  exact ⟨r, ad, h1, h2, h3 0 _ rfl, h3 1 _ rfl⟩
/-- Where a slot stands among the rows. -/
structure Plc (rows : List DRow) (slot : Int) (k : Nat) : Prop where
  le : k ≤ rows.length
  lt : ∀ r ∈ rows.take k, r.s < slot
  ge : ∀ r ∈ rows.drop k, slot ≤ r.s
def liveD (rows : List DRow) (slot : Int) (k : Nat) : Bool := match rows[k]? with | some r => decide (r.s = slot) | none => false
theorem take_lt {rows : List DRow} (h : RisD rows) {m : Nat} {r : DRow} {slot : Int} (hr : rows[m]? = some r) (hs : r.s < slot) : ∀ q ∈ rows.take (m + 1), q.s < slot := fun q hq => by
  obtain ⟨j, hj⟩ := List.mem_iff_getElem?.1 hq
  rw [List.getElem?_take] at hj
  split at hj
  · rename_i hjm
    obtain ⟨h1, e1⟩ := List.getElem?_eq_some_iff.1 hr
    obtain ⟨h2, e2⟩ := List.getElem?_eq_some_iff.1 hj
    rcases Nat.lt_or_ge j m with hlt | hge
    · have := List.pairwise_iff_getElem.1 h j m h2 h1 hlt
      rw [e1, e2] at this; omega
    · have : j = m := by omega
      subst this
      rw [hr] at hj; cases hj; exact hs
  · cases hj
theorem drop_ge {rows : List DRow} (h : RisD rows) {m : Nat} {r : DRow} {slot : Int} (hr : rows[m]? = some r) (hs : slot ≤ r.s) : ∀ q ∈ rows.drop m, slot ≤ q.s := fun q hq => by
  obtain ⟨j, hj⟩ := List.mem_iff_getElem?.1 hq
  rw [List.getElem?_drop] at hj
  obtain ⟨h1, e1⟩ := List.getElem?_eq_some_iff.1 hr
  obtain ⟨h2, e2⟩ := List.getElem?_eq_some_iff.1 hj
  rcases Nat.eq_zero_or_pos j with rfl | hp
  · rw [Nat.add_zero, hr] at hj; cases hj; exact hs
  · have := List.pairwise_iff_getElem.1 h m (m + j) h1 h2 (by omega)
    rw [e1, e2] at this; omega
set_option maxRecDepth 4000 in
theorem place_c {w : World} {d : PDoc} (h : DocAt w d) (ok : DocOk d) (slot : Int) {R : Ending → World → Prop}
    (k : ∀ w' m, Ext [] w w' → Plc d.rows slot m → R (.returned (.tuple #[.int .i64 (m : Int), .bool (liveD d.rows slot m)])) w') :
    Calls Tryz.prog 32 #[.agg #[.int .i64 (d.N : Int), .slice d.A d.l d.c], .int .i64 slot] w R := by
  apply berthref07_place_nf
  intro w4 h4
  obtain ⟨b4, x4, z4⟩ := doc_box h4
  have hlen := h.len
  have hle := ok.len
  refine ⟨_, _, _, cadd b4 rfl, ?_⟩
  refine ⟨fun lo hi w' => ∃ a b : Nat, lo = a ∧ hi = b ∧ a ≤ b ∧ b ≤ d.l ∧ Ext [] w4 w' ∧ (∀ r ∈ d.rows.take a, r.s < slot) ∧ ∀ r ∈ d.rows.drop b, slot ≤ r.s, fun lo hi _ => (hi - lo).toNat, ⟨0, d.l, rfl, rfl, by omega, by omega, (Ext.refl _ _).drew, by simp, fun r hr => by rw [List.drop_of_length_le (by omega)] at hr; cases hr⟩, ?_⟩
  rintro _ _ _ w11 ⟨a, b, rfl, rfl, hab, hbl, e11, hlt, hge⟩
  have E11 := x4.trans e11
  have p11 := b4.ext0 e11
  have c11 := h.c.ext0 E11
  refine sel_dec (fun hab2 => ?_) (fun hab2 => ?_)
  · have hm : IntKind.wrap .i64 (Int.tdiv (IntKind.wrap .i64 ((a : Int) + (b : Int))) 2) = (((a + b) / 2 : Nat) : Int) := by
      have h1 : IntKind.wrap .i64 ((a : Int) + (b : Int)) = (a : Int) + (b : Int) := w64 (by omega) (by omega)
      rw [h1]
      have : Int.tdiv ((a : Int) + (b : Int)) 2 = (((a + b) / 2 : Nat) : Int) := by
        rw [Int.tdiv_eq_ediv_of_nonneg (by omega)]; omega
      rw [this, w64 (by omega) (by omega)]
    show ∃ _, _
    rw [hm]
    obtain ⟨r, ad, hr, hA, r0, r1⟩ := row_at c11 hlen (a := (a + b) / 2) (by omega)
    refine ⟨_, _, _, cadd p11 rfl, when_dec ⟨by omega, by omega⟩ ?_⟩
    rw [hA]
    refine ptr_in ⟨_, r0, sel_dec (fun hs => ?_) (fun hs => ?_)⟩
    · rw [up64 _ (by omega)]
      exact ⟨⟨(a + b) / 2 + 1, b, rfl, rfl, by omega, hbl, e11, take_lt ok.ris hr hs, hge⟩, by show ((b : Int) - (((a + b) / 2 + 1 : Nat) : Int)).toNat < ((b : Int) - (a : Int)).toNat; omega⟩
    · exact ⟨⟨a, (a + b) / 2, rfl, rfl, by omega, by omega, e11, hlt, drop_ge ok.ris hr (by omega)⟩, by show ((((a + b) / 2 : Nat) : Int) - (a : Int)).toNat < ((b : Int) - (a : Int)).toNat; omega⟩
  · have : a = b := by omega
    subst this
    have hP : Plc d.rows slot a := ⟨by omega, hlt, hge⟩
    refine ⟨_, _, _, cadd p11 rfl, sel_dec (fun hal => ?_) (fun hal => ?_)⟩
    · obtain ⟨r, ad, hr, hA, r0, r1⟩ := row_at c11 hlen (a := a) (by omega)
      refine ⟨_, _, _, cadd p11 rfl, when_dec ⟨by omega, by omega⟩ ?_⟩
      rw [hA]
      refine ptr_in ⟨_, r0, ?_⟩
      have := k w11.drew a E11.drew hP
      unfold liveD at this
      rw [hr] at this
      have e : (r.s == slot) = decide (r.s = slot) := by
        rw [Bool.eq_iff_iff]; simp
      rw [e]
      exact this
    · have := k w11.drew a E11.drew hP
      unfold liveD at this
      rw [List.getElem?_eq_none (by omega)] at this
      exact this
theorem OwnL.many {α : Type} {L : Lay α} {w : World} {B n c m cy : Nat} {e : TypeId} {A Y : Option Addr} {xs ys : List α} {P : Program} {t ty : TypeId} {z : Value} {bytes : Nat} (ht : P.underlying t = some (.slice e)) (hi : (P.info? e).map (fun i => (i.zero, i.size, i.bytes)) = some (some z, L.sz, bytes)) (hz : z.cells.size = L.sz) (hb0 : 0 < bytes)
    (own : OwnL L w B e A n c xs) (hy : Cells w Y (L.flat ys)) (hm : ys.length = m) (hB : B ≤ w.heap.size) (hn : (n + m) * bytes ≤ 140737488355328) :
    ∃ A' c' w2, (Builtin.append_ #[t, t] ty #[.slice A n c, .slice Y m cy]).run P w = .ok (.slice A' (n + m) c') w2 ∧ OwnL L w2 B e A' (n + m) c' (xs ++ ys) ∧ Ext (ownF A) w w2 ∧ (ownF A' = ownF A ∨ ownF A' = [w.heap.size]) := by
  obtain ⟨A', c', w2, hr, ho, he, hat⟩ := appR (P := P) (ty := ty) (m := m) (cy := cy) (Y := Y) ht hi hz L.pos hb0 own (ys := L.flat ys) (by rw [L.flat_len, hm]) hy (L.flat_one _) hB hn
  refine ⟨A', c', w2, hr, ?_, he, hat⟩
  unfold OwnL
  rw [L.flat_app]
  exact ho
set_option maxRecDepth 4000 in
theorem with_c {w : World} {d : PDoc} (h : DocAt w d) (hl : d.l ≤ 65536) {a n : Nat} (han : a + n ≤ d.l) {M : Option Addr} {m cm : Nat} {ms : List DRow} (hM : Cells w M (WL.flat ms)) (hm : ms.length = m) (hm2 : m ≤ 65536) {R : Ending → World → Prop}
    (k : ∀ w' A' l' c', Ext [] w w' → Cells w' A' (WL.flat (d.rows.take a ++ ms ++ d.rows.drop (a + n))) → (d.rows.take a ++ ms ++ d.rows.drop (a + n)).length = l' → l' ≤ c' → (∀ b ∈ ownF A', w.heap.size ≤ b ∧ b < w'.heap.size) → R (.returned (.agg #[.int .i64 (d.N : Int), .slice A' l' c'])) w') :
    Calls Tryz.prog 34 #[.agg #[.int .i64 (d.N : Int), .slice d.A d.l d.c], .int .i64 (a : Int), .int .i64 (n : Int), .slice M m cm] w R := by
  apply berthref07_with_nf
  intro w6 h6 w7 h7 w8 h8
  obtain ⟨b6, x6, z6⟩ := doc_box h6
  obtain ⟨b7, x7, z7⟩ := doc_box h7
  have hlen := h.len
  have hcap := h.cap
  have x8 : Ext [] w7 w8 := by rw [h8]; exact (Ext.refl _ _).alloc _
  have E7 := x6.trans x7
  have p8 := (b6.ext0 x7).ext0 x8
  refine ⟨_, _, _, cadd p8 rfl, when_dec ⟨by omega, by omega⟩ ?_⟩
  rw [addr0, Int.toNat_natCast, Nat.sub_zero]
  have ct : ∀ {w'}, Ext [] w w' → ∀ j, Cells w' d.A (WL.flat (d.rows.take j)) := fun {w'} e j => by
    rw [← WL.flat_take]
    exact (h.c.ext0 e).take _
  obtain ⟨A10, c10, w11, hr11, own11, e11⟩ := copyL (L := WL) (P := Tryz.prog) (ty := 35) (t := 35) (e := 84) (w := w7) (m := a) uR infoR rfl (by omega) (ct E7 a) (by rw [List.length_take]; omega) h8 (by omega) (d.c - 0)
  have E11 := E7.trans e11
  obtain ⟨A12, c12, w13, hr13, own13, e13, hF13⟩ := OwnL.many (P := Tryz.prog) (ty := 35) (t := 35) (cy := cm) uR infoR rfl (by omega) own11 (hM.ext0 E11) hm (by have := e11.size; omega) (by omega)
  have g11 := own11.base
  have z11 := e11.size
  have z67 := E7.size
  have hF : ∀ b ∈ ownF A10, w7.heap.size ≤ b := fun b hb => (g11 b hb).1
  have E13 : Ext [] w w13 := E11.trans' e13 (fun b hb => .inr (by have := hF b hb; omega))
  have p13 : BlkT w13 w.heap.size [.int .i64 (d.N : Int), .slice d.A d.l d.c] 37 := ((b6.ext0 x7).ext0 e11).ext e13 (fun hm => by have := hF _ hm; have := x7.size; omega)
  refine ⟨A10, a, c10, w11, hr11, A12, a + m, c12, w13, hr13, _, _, _, cadd p13 rfl, ?_⟩
  have hw : IntKind.wrap .i64 ((a : Int) + (n : Int)) = ((a + n : Nat) : Int) := by rw [w64 (by omega) (by omega)]; omega
  rw [hw, Int.toNat_natCast]
  refine when_dec ⟨by omega, by omega⟩ ?_
  have cd : Cells w13 (V.cut d.A d.c (a + n) 2) (WL.flat (d.rows.drop (a + n))) := by
    rw [← WL.flat_drop]
    refine Cells.cut (l := a + n) (sz := WL.sz) (h.c.ext0 E13) (fun e => ?_)
    rw [WL.flat_len]
    exact Nat.mul_le_mul_right _ (by omega)
  have g13 := own13.base
  obtain ⟨A15, c15, w16, hr16, own16, e16, hF16⟩ := OwnL.many (P := Tryz.prog) (ty := 35) (t := 35) (cy := d.c - (a + n)) (m := d.l - (a + n)) uR infoR rfl (by omega) own13 cd (by rw [List.length_drop]; omega) (by have := e13.size; omega) (by omega)
  refine ⟨A15, _, c15, w16, hr16, ?_⟩
  have hFg : ∀ b ∈ ownF A12, w7.heap.size ≤ b := fun b hb => (g13 b hb).1
  have z13 := e13.size
  have z16 := e16.size
  have p16 : BlkT w16 w.heap.size [.int .i64 (d.N : Int), .slice d.A d.l d.c] 37 := p13.ext e16 (fun hm => by have := hFg _ hm; have := x7.size; omega)
  have q16 : BlkT w16 w6.heap.size [.int .i64 0, .slice none 0 0] 37 := ((b7.ext0 e11).ext e13 (fun hm => by have := hF _ hm; omega)).ext e16 (fun hm => by have := hFg _ hm; omega)
  obtain ⟨w18, hr18, b18, x18⟩ := doc_store q16 rfl (d.N : Int) A15 (a + m + (d.l - (a + n))) c15
  have g16 := own16.base
  have own18 : OwnL WL w18 w7.heap.size 84 A15 _ c15 _ := OwnL.ext own16 x18 (fun b hb => by have := (g16 b hb).1; simp; omega)
  have E16 : Ext [] w w16 := E13.trans' e16 (fun b hb => .inr (by have := hFg b hb; omega))
  refine ⟨_, cadd p16 rfl, w18, hr18, _, _, _, _, cadd0 b18, k w18 A15 _ c15 (E16.trans' x18 (fun b hb => .inr (by simp at hb; have := x6.size; omega))) own18.cells own18.len own18.cap (fun b hb => by have := own18.base b hb; omega)⟩
end Go.Proofs.YtpipenkaaodlgaaGreatDoor
namespace Go.Proofs.YtpipenkaaodlgaaGreatDoor
open Go Go.V Go.B

theorem live_iff {rows : List DRow} (h : RisD rows) {slot : Int} {k : Nat} (P : Plc rows slot k) : liveD rows slot k = (labD rows slot).isSome := by
  unfold liveD
  cases hr : rows[k]? with
  | none =>
    have hk : rows.length ≤ k := List.getElem?_eq_none_iff.1 hr
    have : labD rows slot = none := labD_none.2 fun r hm => by
      have := P.lt r (by rw [List.take_of_length_le hk]; exact hm)
      omega
    rw [this]; rfl
  | some r =>
    by_cases e : r.s = slot
    · have : labD rows slot = some r.l := (labD_some h).2 ⟨r, List.mem_of_getElem? hr, e, rfl⟩
      rw [this]
      simp [e]
    · have h1 := P.ge r (by
        obtain ⟨h1, h2⟩ := List.getElem?_eq_some_iff.1 hr
        rw [List.drop_eq_getElem_cons h1, h2]; simp)
      have : labD rows slot = none := labD_none.2 fun q hm => by
        rw [← List.take_append_drop k rows] at hm
        rcases List.mem_append.1 hm with hm | hm
        · have := P.lt q hm; omega
        · have := drop_ge h hr (slot := slot + 1) (by omega) q hm; omega
      rw [this]
      simp [e]
theorem splice {rows : List DRow} (h : RisD rows) {slot : Int} {k n : Nat} (P : Plc rows slot k) (hn : (n = 0 ∧ liveD rows slot k = false) ∨ (n = 1 ∧ liveD rows slot k = true)) {ms : List DRow} (hms : ms = [] ∨ ∃ r, ms = [r] ∧ r.s = slot) :
    k + n ≤ rows.length ∧ RisD (rows.take k ++ ms ++ rows.drop (k + n)) ∧ (∀ i, labD (rows.take k ++ ms ++ rows.drop (k + n)) i = if i = slot then (ms.head?).map (·.l) else labD rows i) ∧ ∀ r ∈ rows.take k ++ ms ++ rows.drop (k + n), r ∈ rows ∨ r ∈ ms := by
  have hgt : k + n ≤ rows.length ∧ (∀ r ∈ rows.drop (k + n), slot < r.s) ∧ ∀ r ∈ rows, r.s ≠ slot → r ∈ rows.take k ∨ r ∈ rows.drop (k + n) := by
    have hle := P.le
    rcases hn with ⟨rfl, hl⟩ | ⟨rfl, hl⟩
    · refine ⟨by omega, fun q hq => ?_, fun r hr _ => ?_⟩
      · unfold liveD at hl
        cases hr : rows[k]? with
        | none =>
          rw [Nat.add_zero, List.drop_of_length_le (List.getElem?_eq_none_iff.1 hr)] at hq
          cases hq
        | some r =>
          rw [hr] at hl
          have hl : r.s ≠ slot := by simpa using hl
          have h1 := P.ge r (by
            obtain ⟨h1, h2⟩ := List.getElem?_eq_some_iff.1 hr
            rw [List.drop_eq_getElem_cons h1, h2]; simp)
          have := drop_ge h hr (slot := slot + 1) (by omega) q hq
          omega
      · rw [← List.take_append_drop k rows] at hr
        exact List.mem_append.1 hr
    · unfold liveD at hl
      cases hr : rows[k]? with
      | none => rw [hr] at hl; cases hl
      | some r =>
        rw [hr] at hl
        have hl : r.s = slot := by simpa using hl
        obtain ⟨h1, h2⟩ := List.getElem?_eq_some_iff.1 hr
        have hd : rows.drop k = r :: rows.drop (k + 1) := by rw [List.drop_eq_getElem_cons h1, h2]
        refine ⟨by omega, fun q hq => ?_, fun q hq hne => ?_⟩
        · have hp : RisD (rows.drop k) := List.Pairwise.sublist (List.drop_sublist _ _) h
          rw [hd] at hp
          have := (List.pairwise_cons.1 hp).1 q hq
          omega
        · rw [← List.take_append_drop k rows, hd] at hq
          rcases List.mem_append.1 hq with hq | hq
          · exact .inl hq
          · rcases List.mem_cons.1 hq with rfl | hq
            · exact absurd hl hne
            · exact .inr hq
  obtain ⟨hk, hg, hsub⟩ := hgt
  have hm1 : ∀ r ∈ ms, r.s = slot := fun r hr => by
    rcases hms with rfl | ⟨q, rfl, hq⟩
    · cases hr
    · simp at hr; subst hr; exact hq
  have hris : RisD (rows.take k ++ ms ++ rows.drop (k + n)) := by
    refine List.pairwise_append.2 ⟨List.pairwise_append.2 ⟨List.Pairwise.sublist (List.take_sublist _ _) h, ?_, fun a ha b hb => ?_⟩, List.Pairwise.sublist (List.drop_sublist _ _) h, fun a ha b hb => ?_⟩
    · rcases hms with rfl | ⟨q, rfl, hq⟩
      · exact List.Pairwise.nil
      · simp
    · rw [hm1 b hb]; exact P.lt a ha
    · have := hg b hb
      rcases List.mem_append.1 ha with ha | ha
      · have := P.lt a ha; omega
      · have := hm1 a ha; omega
  have hin : ∀ r ∈ rows.take k ++ ms ++ rows.drop (k + n), r ∈ rows ∨ r ∈ ms := fun r hr => by
    rcases List.mem_append.1 hr with hr | hr
    · rcases List.mem_append.1 hr with hr | hr
      · exact .inl (List.mem_of_mem_take hr)
      · exact .inr hr
    · exact .inl (List.mem_of_mem_drop hr)
  refine ⟨hk, hris, fun i => ?_, hin⟩
  by_cases e : i = slot
  · rw [if_pos e, e]
    rcases hms with rfl | ⟨q, rfl, hq⟩
    · refine labD_none.2 fun r hr => ?_
      rw [List.append_nil] at hr
      rcases List.mem_append.1 hr with hr | hr
      · have := P.lt r hr; omega
      · have := hg r hr; omega
    · exact (labD_some hris).2 ⟨q, by simp, hq, rfl⟩
  · rw [if_neg e]
    refine Option.ext fun l => ?_
    rw [labD_some hris, labD_some h]
    constructor
    · rintro ⟨r, hr, h1, h2⟩
      rcases hin r hr with h3 | h3
      · exact ⟨r, h3, h1, h2⟩
      · exact absurd (h1.symm.trans (hm1 r h3)) e
    · rintro ⟨r, hr, h1, h2⟩
      refine ⟨r, ?_, h1, h2⟩
      rcases hsub r hr (fun h3 => e (h1.symm.trans h3)) with h3 | h3
      · simp [h3]
      · simp [h3]
def dblk (d : PDoc) : List Nat := ownF d.A ++ d.rows.flatMap fun r => ownF r.A
theorem mem_dblk {d : PDoc} {b : Nat} : b ∈ dblk d ↔ b ∈ ownF d.A ∨ ∃ r ∈ d.rows, b ∈ ownF r.A := by simp [dblk]
structure DChg (w w' : World) (d d' : PDoc) (f : LabF) : Prop where
  at_ : DocAt w' d'
  ok : DocOk d'
  N : d'.N = d.N
  lab : labD d'.rows = f
  blk : ∀ b ∈ dblk d', b ∈ dblk d ∨ (w.heap.size ≤ b ∧ b < w'.heap.size)
/-- The result is laid, read and answered. -/
theorem doc_ret {w : World} {g : Nat} {cs : List Value} (hb : BlkT w g cs 37) (hl : cs.length = 2) (N : Int) (A : Option Addr) (l c : Nat) {Q : Int → Option Addr → Nat → Nat → World → Prop} (k : ∀ w', Ext [g] w w' → Q N A l c w') :
    ∃ w9, Sem.run Tryz.prog (Instr.storeAt 37 (Value.pointer (some ⟨g, 0, none⟩)) (Value.agg #[(Value.int .i64 N), (Value.slice A l c)])) w = .ok () w9 ∧
      ∃ n10, ∃ A11, ∃ A11l, ∃ A11c, V.cellsC (fun a_ x_ => World.cell? w9 a_ = some x_) ⟨g, 0, none⟩ [(Value.int .i64 n10), (Value.slice A11 A11l A11c)] ∧ Q n10 A11 A11l A11c w9 := by
  obtain ⟨w9, hr, b9, x9⟩ := doc_store hb hl N A l c
  exact ⟨w9, hr, _, _, _, _, cadd0 b9, k w9 x9⟩
theorem DChg.same {w w' : World} {d : PDoc} (h : DocAt w d) (ok : DocOk d) (e : Ext [] w w') {er slot : Int} (he : er ≠ 0) (o : Option (List Lab)) : DChg w w' d d (updL (labD d.rows) er slot o) :=
  ⟨h.ext0 e, ok, rfl, by funext i; unfold updL; rw [if_neg (fun hh => he hh.1)], fun b hb => .inl hb⟩
theorem DNew_ok {N : Nat} (hN : N ≤ 65536) {w : World} {R : Ending → World → Prop} (k : ∀ w', Ext [] w w' → R (.returned (.tuple #[.agg #[.int .i64 (N : Int), .slice none 0 0], .int .i64 0])) w') : Calls Tryz.prog 47 #[.int .i64 (N : Int)] w R := by
  apply berthref07_New_nf
  intro w2 h2
  obtain ⟨b2, x2, z2⟩ := doc_box h2
  refine ⟨fun t w' => t = false ∧ w' = w2, sel_dec (fun h => by omega) (fun _ => ⟨by simp; omega, rfl⟩), ?_⟩
  rintro _ _ _ ⟨rfl, rfl⟩
  exact sel_false rfl (doc_ret b2 rfl _ _ _ _ (Q := fun n A l c w' => R (.returned (.tuple #[.agg #[.int .i64 n, .slice A l c], .int .i64 0])) w') fun w' e => k w' (x2.trans' e (fun b hb => .inr (by simp at hb; omega))))
theorem DNew_no {n : Int} (hn : n < 0 ∨ 65536 < n) {w : World} {R : Ending → World → Prop} (k : ∀ w', Ext [] w w' → R (.returned (.tuple #[.agg #[.int .i64 0, .slice none 0 0], .int .i64 11])) w') : Calls Tryz.prog 47 #[.int .i64 n] w R := by
  apply berthref07_New_nf
  intro w2 h2
  obtain ⟨b2, x2, z2⟩ := doc_box h2
  refine ⟨fun t w' => t = true ∧ w' = w2, sel_dec (fun h => ⟨rfl, rfl⟩) (fun _ => ⟨by simp; omega, rfl⟩), ?_⟩
  rintro _ _ _ ⟨rfl, rfl⟩
  exact sel_true rfl (doc_ret b2 rfl _ _ _ _ (Q := fun n A l c w' => R (.returned (.tuple #[.agg #[.int .i64 n, .slice A l c], .int .i64 11])) w') fun w' e => k w' (x2.trans' e (fun b hb => .inr (by simp at hb; omega))))
theorem newDoc_at (w : World) (N : Nat) : DocAt w ⟨N, none, 0, 0, []⟩ := ⟨Cells.nil _ _, rfl, Nat.le_refl _, fun r hr => by cases hr⟩
theorem newDoc_ok {N : Nat} (h : N ≤ 65536) : DocOk ⟨N, none, 0, 0, []⟩ := ⟨List.Pairwise.nil, fun r hr => (by cases hr), fun r hr => (by cases hr), h⟩
/-- Behind with: the document turned. -/
theorem DChg.of {w w' : World} {d : PDoc} (h : DocAt w d) (ok : DocOk d) (e : Ext [] w w') {slot : Int} {k n : Nat} (P : Plc d.rows slot k) (hn : (n = 0 ∧ liveD d.rows slot k = false) ∨ (n = 1 ∧ liveD d.rows slot k = true)) {ms : List DRow} (hms : ms = [] ∨ ∃ r, ms = [r] ∧ r.s = slot) (hin : 0 ≤ slot ∧ slot < (d.N : Int))
    (hml : ∀ r ∈ ms, OkL r.l ∧ (Cells w' r.A (LbL.flat r.l) ∧ r.l.length = r.n) ∧ ∀ b ∈ ownF r.A, w.heap.size ≤ b ∧ b < w'.heap.size) {A' : Option Addr} {l' c' : Nat} (hc : Cells w' A' (WL.flat (d.rows.take k ++ ms ++ d.rows.drop (k + n)))) (hl : (d.rows.take k ++ ms ++ d.rows.drop (k + n)).length = l') (hlc : l' ≤ c') (hA : ∀ b ∈ ownF A', w.heap.size ≤ b ∧ b < w'.heap.size) :
    DChg w w' d ⟨d.N, A', l', c', d.rows.take k ++ ms ++ d.rows.drop (k + n)⟩ (updL (labD d.rows) 0 slot ((ms.head?).map (·.l))) := by
  obtain ⟨s1, s2, s3, s4⟩ := splice ok.ris P hn hms
  have hh := h.ext0 e
  refine ⟨⟨hc, hl, hlc, fun r hr => ?_⟩, ⟨s2, fun r hr => ?_, fun r hr => ?_, ok.small⟩, rfl, ?_, fun b hb => ?_⟩
  · rcases s4 r hr with h1 | h1
    · exact hh.labs r h1
    · exact (hml r h1).2.1
  · rcases s4 r hr with h1 | h1
    · exact ok.in_ r h1
    · rcases hms with rfl | ⟨q, rfl, hq⟩
      · cases h1
      · simp at h1; subst h1
        exact ⟨slot.toNat, by rw [hq]; omega, by show slot.toNat < d.N; omega⟩
  · rcases s4 r hr with h1 | h1
    · exact ok.lab r h1
    · exact (hml r h1).1
  · funext i
    rw [s3]
    unfold updL
    by_cases e : i = slot
    · rw [if_pos e, if_pos ⟨rfl, e⟩]
    · rw [if_neg e, if_neg (fun h => e h.2)]
  · rcases mem_dblk.1 hb with h1 | ⟨r, hr, h1⟩
    · exact .inr (hA b h1)
    · rcases s4 r hr with h2 | h2
      · exact .inl (mem_dblk.2 (.inr ⟨r, h2, h1⟩))
      · exact .inr ((hml r h2).2.2 b h1)
theorem Plc.len {rows : List DRow} {slot : Int} {k : Nat} (h : Plc rows slot k) : k ≤ rows.length := h.le
end Go.Proofs.YtpipenkaaodlgaaGreatDoor
namespace Go.Proofs.YtpipenkaaodlgaaGreatDoor
open Go Go.V Go.B

set_option maxRecDepth 4000 in
theorem DPut_c {w : World} {d : PDoc} (h : DocAt w d) (ok : DocOk d) (slot : Int) {A : Option Addr} {n c : Nat} {l : List Lab} (hl : LIn w A n l) {R : Ending → World → Prop}
    (k : ∀ w' d', Ext [] w w' → DChg w w' d d' (updL (labD d.rows) (putE d.N (labD d.rows) slot l) slot (some l)) → R (.returned (.tuple #[.agg #[.int .i64 (d'.N : Int), .slice d'.A d'.l d'.c], .int .i64 (putE d.N (labD d.rows) slot l)])) w') :
    Calls Tryz.prog 10 #[.agg #[.int .i64 (d.N : Int), .slice d.A d.l d.c], .int .i64 slot, .slice A n c] w R := by
  apply berthref07_Put_nf
  intro w5 h5 w6 h6
  obtain ⟨b5, x5, z5⟩ := doc_box h5
  obtain ⟨b6, x6, z6⟩ := doc_box h6
  have p6 := b5.ext0 x6
  have E6 := x5.trans x6
  have hsm := ok.small
  have hlen := h.len
  have hle := ok.len
  -- refused
  have bad : ∀ {e : Int} (w' : World), putE d.N (labD d.rows) slot l = e → e ≠ 0 → Ext [] w6 w' →
      ∃ n7, ∃ A8, ∃ A8l, ∃ A8c, V.cellsC (fun a_ x_ => World.cell? w' a_ = some x_) ⟨w.heap.size, 0, none⟩ [(Value.int .i64 n7), (Value.slice A8 A8l A8c)] ∧
      ∃ w9, Sem.run Tryz.prog (Instr.storeAt 37 (Value.pointer (some ⟨w5.heap.size, 0, none⟩)) (Value.agg #[(Value.int .i64 n7), (Value.slice A8 A8l A8c)])) w' = .ok () w9 ∧
      ∃ n10, ∃ A11, ∃ A11l, ∃ A11c, V.cellsC (fun a_ x_ => World.cell? w9 a_ = some x_) ⟨w5.heap.size, 0, none⟩ [(Value.int .i64 n10), (Value.slice A11 A11l A11c)] ∧
      R (Ending.returned (Value.tuple #[(Value.agg #[(Value.int .i64 n10), (Value.slice A11 A11l A11c)]), (Value.int .i64 e)])) w9 := fun {e} w' he hne ew => by
    refine ⟨_, _, _, _, cadd0 (p6.ext0 ew), doc_ret (b6.ext0 ew) rfl _ _ _ _ (Q := fun n A l c w9 => R (Ending.returned (Value.tuple #[(Value.agg #[(Value.int .i64 n), (Value.slice A l c)]), (Value.int .i64 e)])) w9) fun w9 e9 => ?_⟩
    have E9 : Ext [] w w9 := (E6.trans ew).trans' e9 (fun b hb => by simp at hb; exact .inr (by have := x5.size; omega))
    have := k w9 d E9 (DChg.same h ok E9 (er := putE d.N (labD d.rows) slot l) (by rw [he]; exact hne) _)
    rw [he] at this
    exact this
  refine sel_dec (fun h0 => bad w6 (by unfold putE; rw [if_pos (.inl h0)]) (by decide) (Ext.refl _ _)) (fun h0 => ⟨_, cadd p6 rfl, sel_dec (fun h1 => bad w6 (by unfold putE; rw [if_pos (.inr (by omega))]) (by decide) (Ext.refl _ _)) (fun h1 => ⟨_, _, _, _, cadd0 p6, ?_⟩)⟩)
  have hin : ¬ (slot < 0 ∨ (d.N : Int) ≤ slot) := by omega
  refine place_c (h.ext0 E6) ok slot fun w23 m e23 P => ⟨_, _, rfl, ?_⟩
  have hlv := live_iff ok.ris P
  have hml := P.le
  rw [hlv]
  refine sel_intro (fun h2 => bad w23 (by unfold putE; rw [if_neg hin, if_pos h2]) (by decide) e23) (fun h2 => ?_)
  have he : putE d.N (labD d.rows) slot l = (checkS l).2 := by unfold putE; rw [if_neg hin, if_neg (by rw [h2]; decide)]
  have E23 := E6.trans e23
  refine rCheck_c (hl.ext0 E23) fun w32 e32 => ⟨_, _, rfl, sel_intro (fun h3 => bad w32 he (by simpa using h3) (e23.trans e32)) (fun h3 => ?_)⟩
  have h3 : (checkS l).2 = 0 := by simpa using h3
  have hok := checkS_zero.1 h3
  have d33 : Ext [] w32 w32.drew := (Ext.refl _ _).drew
  have E633 := (e23.trans e32).trans d33
  have E33 := E6.trans E633
  have p33 := p6.ext0 E633
  have q33 := b6.ext0 E633
  have z33 := E633.size
  have z06 := E6.size
  generalize w32.drew = w33 at d33 E633 E33 p33 q33 z33 ⊢
  have hne : w.heap.size ∉ [w5.heap.size] := by simp; omega
  refine ⟨fun w' => Ext [w5.heap.size] w33 w', Ext.refl _ _, _, _, _, _, fun i v hv w39 e39 => cadd (p33.ext e39 hne) hv, fun w42 h42 => ?_⟩
  have x42 : Ext [] w33 w42 := by rw [h42]; exact (Ext.refl _ _).alloc _
  obtain ⟨A43, c43, w44, hr44, own44, e44⟩ := copyL (L := LbL) (P := Tryz.prog) (ty := 22) (t := 22) (e := 33) (w := w33) (m := n) uL infoL rfl (by omega) (hl.ext0 E33).c hl.len h42 (by have := hl.big; omega) c
  refine ⟨x42.up, A43, n, c43, w44, hr44, e44.up, fun w45 h45 => ?_⟩
  obtain ⟨b45, x45, z45⟩ := box_new (cs := WL.enc (⟨slot, A43, n, c43, l⟩ : DRow)) h45
  have E45 := (E33.trans e44).trans x45
  have g44 := own44.base
  have z44 := e44.size
  refine ⟨(e44.trans x45).up, ?_⟩
  refine with_c (ms := [⟨slot, A43, n, c43, l⟩]) (h.ext0 E45) (by omega) (a := m) (n := 0) (by omega) (Cells.of_blk b45.blk) rfl (by simp) fun w49 A' l' c' e49 hc hlr hcap hA => ⟨_, _, _, _, rfl, ((e44.trans x45).trans e49).up, ?_⟩
  have E49 := E45.trans e49
  have q49 := q33.ext0 ((e44.trans x45).trans e49)
  obtain ⟨w50, hr50, b50, x50⟩ := doc_store q49 rfl (d.N : Int) A' l' c'
  have E50 : Ext [] w w50 := E49.trans' x50 (fun b hb => by simp at hb; exact .inr (by have := x5.size; omega))
  have hF : ∀ b, w33.heap.size ≤ b → b ∉ [w5.heap.size] := fun b hb => by simp; omega
  refine ⟨w50, hr50, (((e44.trans x45).trans e49).up).trans x50, _, _, _, _, cadd0 b50, ?_⟩
  have z49 := e49.size
  have z50 := x50.size
  have ch := DChg.of h ok E50 (slot := slot) (k := m) (n := 0) P (.inl ⟨rfl, hlv.trans h2⟩) (ms := [⟨slot, A43, n, c43, l⟩]) (.inr ⟨_, rfl, rfl⟩) (by omega) (fun r hr => by
    simp at hr; subst hr
    exact ⟨hok, ⟨((own44.cells.ext0 x45).ext0 e49).ext x50 (fun b hb => hF b (g44 b hb).1), hl.len⟩, fun b hb => by have := g44 b hb; omega⟩) (A' := A') (l' := l') (c' := c') (hc.ext x50 (fun b hb => hF b (by have := hA b hb; omega))) hlr hcap (fun b hb => by have := hA b hb; omega)
  have := k w50 ⟨d.N, A', l', c', _⟩ E50 (by rw [he, h3]; exact ch)
  rw [he, h3] at this
  exact this
set_option maxRecDepth 4000 in
theorem DSet_c {w : World} {d : PDoc} (h : DocAt w d) (ok : DocOk d) (slot : Int) {A : Option Addr} {n c : Nat} {l : List Lab} (hl : LIn w A n l) {R : Ending → World → Prop}
    (k : ∀ w' d', Ext [] w w' → DChg w w' d d' (updL (labD d.rows) (setE d.N (labD d.rows) slot l) slot (some l)) → R (.returned (.tuple #[.agg #[.int .i64 (d'.N : Int), .slice d'.A d'.l d'.c], .int .i64 (setE d.N (labD d.rows) slot l)])) w') :
    Calls Tryz.prog 66 #[.agg #[.int .i64 (d.N : Int), .slice d.A d.l d.c], .int .i64 slot, .slice A n c] w R := by
  apply berthref07_Set_nf
  intro w5 h5 w6 h6
  obtain ⟨b5, x5, z5⟩ := doc_box h5
  obtain ⟨b6, x6, z6⟩ := doc_box h6
  have p6 := b5.ext0 x6
  have E6 := x5.trans x6
  have hsm := ok.small
  have hlen := h.len
  have hle := ok.len
  -- refused
  have bad : ∀ {e : Int} (w' : World), setE d.N (labD d.rows) slot l = e → e ≠ 0 → Ext [] w6 w' →
      ∃ n7, ∃ A8, ∃ A8l, ∃ A8c, V.cellsC (fun a_ x_ => World.cell? w' a_ = some x_) ⟨w.heap.size, 0, none⟩ [(Value.int .i64 n7), (Value.slice A8 A8l A8c)] ∧
      ∃ w9, Sem.run Tryz.prog (Instr.storeAt 37 (Value.pointer (some ⟨w5.heap.size, 0, none⟩)) (Value.agg #[(Value.int .i64 n7), (Value.slice A8 A8l A8c)])) w' = .ok () w9 ∧
      ∃ n10, ∃ A11, ∃ A11l, ∃ A11c, V.cellsC (fun a_ x_ => World.cell? w9 a_ = some x_) ⟨w5.heap.size, 0, none⟩ [(Value.int .i64 n10), (Value.slice A11 A11l A11c)] ∧
      R (Ending.returned (Value.tuple #[(Value.agg #[(Value.int .i64 n10), (Value.slice A11 A11l A11c)]), (Value.int .i64 e)])) w9 := fun {e} w' he hne ew => by
    refine ⟨_, _, _, _, cadd0 (p6.ext0 ew), doc_ret (b6.ext0 ew) rfl _ _ _ _ (Q := fun n A l c w9 => R (Ending.returned (Value.tuple #[(Value.agg #[(Value.int .i64 n), (Value.slice A l c)]), (Value.int .i64 e)])) w9) fun w9 e9 => ?_⟩
    have E9 : Ext [] w w9 := (E6.trans ew).trans' e9 (fun b hb => by simp at hb; exact .inr (by have := x5.size; omega))
    have := k w9 d E9 (DChg.same h ok E9 (er := setE d.N (labD d.rows) slot l) (by rw [he]; exact hne) _)
    rw [he] at this
    exact this
  refine sel_dec (fun h0 => bad w6 (by unfold setE; rw [if_pos (.inl h0)]) (by decide) (Ext.refl _ _)) (fun h0 => ⟨_, cadd p6 rfl, sel_dec (fun h1 => bad w6 (by unfold setE; rw [if_pos (.inr (by omega))]) (by decide) (Ext.refl _ _)) (fun h1 => ⟨_, _, _, _, cadd0 p6, ?_⟩)⟩)
  have hin : ¬ (slot < 0 ∨ (d.N : Int) ≤ slot) := by omega
  refine place_c (h.ext0 E6) ok slot fun w23 m e23 P => ⟨_, _, rfl, ?_⟩
  have hlv := live_iff ok.ris P
  have hml := P.le
  rw [hlv]
  refine sel_intro (fun h2 => bad w23 (by unfold setE; rw [if_neg hin, if_neg (by simpa using h2)]) (by decide) e23) (fun h2 => ?_)
  have h2 : (labD d.rows slot).isSome = true := nt_ h2
  have he : setE d.N (labD d.rows) slot l = (checkS l).2 := by unfold setE; rw [if_neg hin, if_pos h2]
  have E23 := E6.trans e23
  refine rCheck_c (hl.ext0 E23) fun w32 e32 => ⟨_, _, rfl, sel_intro (fun h3 => bad w32 he (by simpa using h3) (e23.trans e32)) (fun h3 => ?_)⟩
  have h3 : (checkS l).2 = 0 := by simpa using h3
  have hok := checkS_zero.1 h3
  have d33 : Ext [] w32 w32.drew := (Ext.refl _ _).drew
  have E633 := (e23.trans e32).trans d33
  have E33 := E6.trans E633
  have p33 := p6.ext0 E633
  have q33 := b6.ext0 E633
  have z33 := E633.size
  have z06 := E6.size
  generalize w32.drew = w33 at d33 E633 E33 p33 q33 z33 ⊢
  have hne : w.heap.size ∉ [w5.heap.size] := by simp; omega
  refine ⟨fun w' => Ext [w5.heap.size] w33 w', Ext.refl _ _, _, _, _, _, fun i v hv w39 e39 => cadd (p33.ext e39 hne) hv, fun w42 h42 => ?_⟩
  have x42 : Ext [] w33 w42 := by rw [h42]; exact (Ext.refl _ _).alloc _
  obtain ⟨A43, c43, w44, hr44, own44, e44⟩ := copyL (L := LbL) (P := Tryz.prog) (ty := 22) (t := 22) (e := 33) (w := w33) (m := n) uL infoL rfl (by omega) (hl.ext0 E33).c hl.len h42 (by have := hl.big; omega) c
  refine ⟨x42.up, A43, n, c43, w44, hr44, e44.up, fun w45 h45 => ?_⟩
  obtain ⟨b45, x45, z45⟩ := box_new (cs := WL.enc (⟨slot, A43, n, c43, l⟩ : DRow)) h45
  have E45 := (E33.trans e44).trans x45
  have g44 := own44.base
  have z44 := e44.size
  refine ⟨(e44.trans x45).up, ?_⟩
  refine with_c (ms := [⟨slot, A43, n, c43, l⟩]) (h.ext0 E45) (by omega) (a := m) (n := 1) (by have := (splice ok.ris P (.inr ⟨rfl, hlv.trans h2⟩) (ms := []) (.inl rfl)).1; omega) (Cells.of_blk b45.blk) rfl (by simp) fun w49 A' l' c' e49 hc hlr hcap hA => ⟨_, _, _, _, rfl, ((e44.trans x45).trans e49).up, ?_⟩
  have E49 := E45.trans e49
  have q49 := q33.ext0 ((e44.trans x45).trans e49)
  obtain ⟨w50, hr50, b50, x50⟩ := doc_store q49 rfl (d.N : Int) A' l' c'
  have E50 : Ext [] w w50 := E49.trans' x50 (fun b hb => by simp at hb; exact .inr (by have := x5.size; omega))
  have hF : ∀ b, w33.heap.size ≤ b → b ∉ [w5.heap.size] := fun b hb => by simp; omega
  refine ⟨w50, hr50, (((e44.trans x45).trans e49).up).trans x50, _, _, _, _, cadd0 b50, ?_⟩
  have z49 := e49.size
  have z50 := x50.size
  have ch := DChg.of h ok E50 (slot := slot) (k := m) (n := 1) P (.inr ⟨rfl, hlv.trans h2⟩) (ms := [⟨slot, A43, n, c43, l⟩]) (.inr ⟨_, rfl, rfl⟩) (by omega) (fun r hr => by
    simp at hr; subst hr
    exact ⟨hok, ⟨((own44.cells.ext0 x45).ext0 e49).ext x50 (fun b hb => hF b (g44 b hb).1), hl.len⟩, fun b hb => by have := g44 b hb; omega⟩) (A' := A') (l' := l') (c' := c') (hc.ext x50 (fun b hb => hF b (by have := hA b hb; omega))) hlr hcap (fun b hb => by have := hA b hb; omega)
  have := k w50 ⟨d.N, A', l', c', _⟩ E50 (by rw [he, h3]; exact ch)
  rw [he, h3] at this
  exact this
set_option maxRecDepth 4000 in
theorem DDrop_c {w : World} {d : PDoc} (h : DocAt w d) (ok : DocOk d) (slot : Int) {R : Ending → World → Prop}
    (k : ∀ w' d', Ext [] w w' → DChg w w' d d' (updL (labD d.rows) (dropE d.N (labD d.rows) slot) slot none) → R (.returned (.tuple #[.agg #[.int .i64 (d'.N : Int), .slice d'.A d'.l d'.c], .int .i64 (dropE d.N (labD d.rows) slot)])) w') :
    Calls Tryz.prog 68 #[.agg #[.int .i64 (d.N : Int), .slice d.A d.l d.c], .int .i64 slot] w R := by
  apply berthref07_Drop_nf
  intro w5 h5 w6 h6
  obtain ⟨b5, x5, z5⟩ := doc_box h5
  obtain ⟨b6, x6, z6⟩ := doc_box h6
  have p6 := b5.ext0 x6
  have E6 := x5.trans x6
  have hsm := ok.small
  have hlen := h.len
  have hle := ok.len
  -- refused
  have bad : ∀ {e : Int} (w' : World), dropE d.N (labD d.rows) slot = e → e ≠ 0 → Ext [] w6 w' →
      ∃ n7, ∃ A8, ∃ A8l, ∃ A8c, V.cellsC (fun a_ x_ => World.cell? w' a_ = some x_) ⟨w.heap.size, 0, none⟩ [(Value.int .i64 n7), (Value.slice A8 A8l A8c)] ∧
      ∃ w9, Sem.run Tryz.prog (Instr.storeAt 37 (Value.pointer (some ⟨w5.heap.size, 0, none⟩)) (Value.agg #[(Value.int .i64 n7), (Value.slice A8 A8l A8c)])) w' = .ok () w9 ∧
      ∃ n10, ∃ A11, ∃ A11l, ∃ A11c, V.cellsC (fun a_ x_ => World.cell? w9 a_ = some x_) ⟨w5.heap.size, 0, none⟩ [(Value.int .i64 n10), (Value.slice A11 A11l A11c)] ∧
      R (Ending.returned (Value.tuple #[(Value.agg #[(Value.int .i64 n10), (Value.slice A11 A11l A11c)]), (Value.int .i64 e)])) w9 := fun {e} w' he hne ew => by
    refine ⟨_, _, _, _, cadd0 (p6.ext0 ew), doc_ret (b6.ext0 ew) rfl _ _ _ _ (Q := fun n A l c w9 => R (Ending.returned (Value.tuple #[(Value.agg #[(Value.int .i64 n), (Value.slice A l c)]), (Value.int .i64 e)])) w9) fun w9 e9 => ?_⟩
    have E9 : Ext [] w w9 := (E6.trans ew).trans' e9 (fun b hb => by simp at hb; exact .inr (by have := x5.size; omega))
    have := k w9 d E9 (DChg.same h ok E9 (er := dropE d.N (labD d.rows) slot) (by rw [he]; exact hne) _)
    rw [he] at this
    exact this
  refine sel_dec (fun h0 => bad w6 (by unfold dropE; rw [if_pos (.inl h0)]) (by decide) (Ext.refl _ _)) (fun h0 => ⟨_, cadd p6 rfl, sel_dec (fun h1 => bad w6 (by unfold dropE; rw [if_pos (.inr (by omega))]) (by decide) (Ext.refl _ _)) (fun h1 => ⟨_, _, _, _, cadd0 p6, ?_⟩)⟩)
  have hin : ¬ (slot < 0 ∨ (d.N : Int) ≤ slot) := by omega
  refine place_c (h.ext0 E6) ok slot fun w23 m e23 P => ⟨_, _, rfl, ?_⟩
  have hlv := live_iff ok.ris P
  have hml := P.le
  rw [hlv]
  refine sel_intro (fun h2 => bad w23 (by unfold dropE; rw [if_neg hin, if_neg (by simpa using h2)]) (by decide) e23) (fun h2 => ?_)
  have h2 : (labD d.rows slot).isSome = true := nt_ h2
  have he : dropE d.N (labD d.rows) slot = 0 := by unfold dropE; rw [if_neg hin, if_pos h2]
  have E23 := E6.trans e23
  have z23 := E23.size
  have hin2 : m + 1 ≤ d.rows.length := (splice ok.ris P (.inr ⟨rfl, hlv.trans h2⟩) (ms := []) (.inl rfl)).1
  refine ⟨_, _, _, _, cadd0 (p6.ext0 e23), with_c (ms := []) (h.ext0 E23) (by omega) (a := m) (n := 1) (by omega) (Cells.nil _ _) rfl (by simp) fun w49 A' l' c' e49 hc hlr hcap hA => ⟨_, _, _, _, rfl, ?_⟩⟩
  have E49 := E23.trans e49
  have q49 := (b6.ext0 e23).ext0 e49
  obtain ⟨w50, hr50, b50, x50⟩ := doc_store q49 rfl (d.N : Int) A' l' c'
  have E50 : Ext [] w w50 := E49.trans' x50 (fun b hb => by simp at hb; exact .inr (by have := x5.size; omega))
  refine ⟨w50, hr50, _, _, _, _, cadd0 b50, ?_⟩
  have z49 := e49.size
  have z50 := x50.size
  have z623 := e23.size
  have ch := DChg.of h ok E50 (slot := slot) (k := m) (n := 1) P (.inr ⟨rfl, hlv.trans h2⟩) (ms := []) (.inl rfl) (by omega) (fun r hr => by cases hr) (A' := A') (l' := l') (c' := c') (hc.ext x50 (fun b hb => by have := hA b hb; simp; omega)) hlr hcap (fun b hb => by have := hA b hb; omega)
  have := k w50 ⟨d.N, A', l', c', _⟩ E50 (by rw [he]; exact ch)
  rw [he] at this
  exact this
end Go.Proofs.YtpipenkaaodlgaaGreatDoor
namespace Go.Proofs.YtpipenkaaodlgaaGreatDoor
open Go Go.V Go.B

def IL : Lay Int := ⟨fun x => [.int .i64 x], 1, fun _ => rfl, fun x v hv => by simp at hv; subst hv; rfl, by omega⟩
theorem IL_flat (l : List Int) : IL.flat l = ints .i64 l := by
  induction l with
  | nil => rfl
  | cons x r ih => rw [IL.flat_cons, ih]; rfl
theorem ptr_of {A : Option Addr} {ad : Addr} {K : Addr → Prop} (h : A = some ad) (k : K ad) : V.ptr A K := by subst h; exact k
theorem uI : Tryz.prog.underlying 66 = some (.slice 3) := by kernel_rfl
theorem iI : (Tryz.prog.info? 3).map (fun i => (i.zero, i.size, i.bytes)) = some (some (.int .i64 0), 1, 8) := by kernel_rfl
theorem mi_eq {S : SetV} (hs : S.Ok) {ys : List Int} (hp : ys.Pairwise (· < ·)) (hm : ∀ i, i ∈ ys ↔ ∃ j : Nat, i = j ∧ S.mem j = true) : S.mi = ys := by
  have h1 : S.mi.Pairwise (· < ·) := by
    unfold SetV.mi SetV.members
    rw [List.pairwise_map]
    exact (List.pairwise_lt_range.filter _).imp fun h => by simpa using h
  have nd : ∀ {l : List Int}, l.Pairwise (· < ·) → l.Nodup := fun h => h.imp fun h e => by omega
  refine List.Perm.eq_of_pairwise (le := (· < ·)) (fun a b _ _ h1 h2 => by omega) h1 hp ((List.perm_ext_iff_of_nodup (nd h1) (nd hp)).2 fun i => ?_)
  rw [hm]
  unfold SetV.mi
  rw [List.mem_map]
  constructor
  · rintro ⟨j, hj, rfl⟩; exact ⟨j, rfl, (mem_members hs j).1 hj⟩
  · rintro ⟨j, rfl, hj⟩; exact ⟨j, (mem_members hs j).2 hj, rfl⟩
/-- The slots of those rows that p holds of. -/
def slotsP (rows : List DRow) (p : DRow → Bool) : List Int := (rows.filter p).map (·.s)
theorem slotsP_ris {rows : List DRow} (h : RisD rows) (p : DRow → Bool) : (slotsP rows p).Pairwise (· < ·) := by
  unfold slotsP
  rw [List.pairwise_map]
  exact List.Pairwise.sublist List.filter_sublist h
theorem mem_slotsP {rows : List DRow} {p : DRow → Bool} {i : Int} : i ∈ slotsP rows p ↔ ∃ r ∈ rows, p r = true ∧ r.s = i := by
  unfold slotsP
  rw [List.mem_map]
  constructor
  · rintro ⟨r, hr, rfl⟩
    have := List.mem_filter.1 hr
    exact ⟨r, this.1, this.2, rfl⟩
  · rintro ⟨r, hr, hp, rfl⟩
    exact ⟨r, List.mem_filter.2 ⟨hr, hp⟩, rfl⟩
theorem slotsP_snoc {rows : List DRow} {a : Nat} {r : DRow} (h : rows[a]? = some r) (p : DRow → Bool) : slotsP (rows.take (a + 1)) p = slotsP (rows.take a) p ++ if p r then [r.s] else [] := by
  unfold slotsP
  rw [snoc_at h, List.filter_append, List.map_append]
  congr 1
  cases hp : p r <;> simp [hp]
theorem slotsP_len (rows : List DRow) (p : DRow → Bool) : (slotsP rows p).length ≤ rows.length := by
  unfold slotsP
  rw [List.length_map]
  exact List.length_filter_le _ _
/-- Set of the index and list of the document tell the same. -/
theorem same_slots {S : SetV} (hs : S.Ok) {rows : List DRow} (h : RisD rows) (hin : ∀ r ∈ rows, ∃ j : Nat, r.s = j) {p : DRow → Bool} (hm : ∀ i : Nat, S.mem i = true ↔ ∃ r ∈ rows, p r = true ∧ r.s = (i : Int)) : S.mi = slotsP rows p :=
  mi_eq hs (slotsP_ris h p) fun i => by
    rw [mem_slotsP]
    constructor
    · rintro ⟨r, hr, hp, rfl⟩
      obtain ⟨j, hj⟩ := hin r hr
      exact ⟨j, hj, (hm j).2 ⟨r, hr, hp, hj⟩⟩
    · rintro ⟨j, rfl, hj⟩
      exact (hm j).1 hj
theorem more_int {w W w22 : World} {A : Option Addr} {n c : Nat} {l : List Int} {x : Int} (e : Ext [] w W) (own : OwnL IL W w.heap.size 3 A n c l) (h22 : w22 = W.alloc (.cells #[.int .i64 x] 3)) (hn : n ≤ 65536) :
    ∃ A' c' w24, (Builtin.append_ #[66, 66] 66 #[.slice A n c, .slice (some ⟨W.heap.size, 0, none⟩) 1 1]).run Tryz.prog w22 = .ok (.slice A' (n + 1) c') w24 ∧ OwnL IL w24 w.heap.size 3 A' (n + 1) c' (l ++ [x]) ∧ Ext [] w w24 ∧ Ext (ownF A) W w24 := by
  obtain ⟨b22, x22, z22⟩ := box_new (cs := IL.enc x) h22
  obtain ⟨A', c', w24, hr, own', e', _⟩ := (OwnL.ext0 own x22).more (P := Tryz.prog) (ty := 66) (x := x) uI iI rfl (by omega) b22 (by have := e.size; omega) (by omega)
  have gb := own.base
  exact ⟨A', c', w24, hr, own', (e.trans x22).trans' e' (fun b hb => .inr (gb b hb).1), (x22.up (F := ownF A)).trans e'⟩
set_option maxRecDepth 4000 in
theorem DLive_c {w : World} {d : PDoc} (h : DocAt w d) (ok : DocOk d) {R : Ending → World → Prop}
    (k : ∀ w' A n c, Ext [] w w' → Cells w' A (ints .i64 (slotsP d.rows fun _ => true)) → (slotsP d.rows fun _ => true).length = n → R (.returned (.slice A n c)) w') :
    Calls Tryz.prog 69 #[.agg #[.int .i64 (d.N : Int), .slice d.A d.l d.c]] w R := by
  apply berthref07_Live_nf
  intro w3 h3
  obtain ⟨b3, x3, z3⟩ := doc_box h3
  have hlen := h.len
  have hle := ok.len
  refine ⟨fun A n c t w' => ∃ a : Nat, t = a ∧ a ≤ d.l ∧ Ext [] w w' ∧ BlkT w' w.heap.size [.int .i64 (d.N : Int), .slice d.A d.l d.c] 37 ∧ OwnL IL w' w3.heap.size 3 A n c (slotsP (d.rows.take a) fun _ => true), fun _ _ _ t _ => d.l - t.toNat, ⟨0, rfl, by omega, x3, b3, OwnL.nil _ _ _⟩, ?_⟩
  rintro A n c _ _ w9 ⟨a, rfl, ha, e9, p9, own9⟩
  refine ⟨_, _, _, cadd p9 rfl, sel_dec (fun hlt => ?_) (fun hge => ?_)⟩
  · obtain ⟨r, ad, hr, hA, r0, r1⟩ := row_at (h.c.ext0 e9) hlen (a := a) (by omega)
    refine ⟨_, _, _, cadd p9 rfl, when_dec ⟨by omega, by omega⟩ ?_⟩
    have hnl := own9.len
    have hsl := slotsP_len (d.rows.take a) fun _ => true
    rw [List.length_take] at hsl
    refine ptr_of hA ⟨_, r0, fun w14 h14 => ?_⟩
    obtain ⟨b14, x14, z14⟩ := box_new (cs := IL.enc r.s) h14
    have gb := own9.base
    have z9 := e9.size
    obtain ⟨A', c', w16, hr16, own16, e16, _⟩ := (OwnL.ext0 own9 x14).more (P := Tryz.prog) (ty := 66) (x := r.s) uI iI rfl (by omega) b14 (by have := p9.lt; omega) (by omega)
    refine ⟨_, _, _, w16, hr16, ?_⟩
    rw [up64 a (by omega)]
    have hfr : ∀ b ∈ ownF A, w3.heap.size ≤ b := fun b hb => (gb b hb).1
    exact ⟨⟨a + 1, rfl, by omega, (e9.trans x14).trans' e16 (fun b hb => .inr (by have := hfr b hb; omega)), (p9.ext0 x14).ext e16 (fun hm => by have := hfr _ hm; omega), by rw [slotsP_snoc hr]; exact own16⟩, by simp only [Int.toNat_natCast]; omega⟩
  · have : a = d.l := by omega
    subst this
    rw [List.take_of_length_le (by omega)] at own9
    exact k w9 A n c e9 (by rw [← IL_flat]; exact own9.cells) own9.len
theorem SameLabels_c {w : World} {A A' : Option Addr} {n n' c c' : Nat} {xs ys : List Lab} (hx : Cells w A (LbL.flat xs)) (hn : xs.length = n) (hy : Cells w A' (LbL.flat ys)) (hn' : ys.length = n') (hb : n < 4611686018427387904) {R : Ending → World → Prop}
    (k : ∀ w', Ext [] w w' → R (.returned (.bool (decide (xs = ys)))) w') : Calls Tryz.prog 12 #[.slice A n c, .slice A' n' c'] w R := by
  apply berthref07_SameLabels_nf
  refine sel_intro (fun h => ?_) (fun h => ?_)
  · have h : n ≠ n' := fun e => by rw [e] at h; simp at h
    have := k w (Ext.refl _ _)
    rw [decide_eq_false (fun e => h (by rw [← hn, ← hn', e]))] at this
    exact this
  have h : n = n' := by
    have h : ((n : Nat) : Int) = ((n' : Nat) : Int) := by simpa using h
    omega
  subst h
  refine ⟨fun t w' => ∃ a : Nat, t = a ∧ a ≤ n ∧ Ext [] w w' ∧ xs.take a = ys.take a, fun t _ => n - t.toNat, ⟨0, rfl, by omega, Ext.refl _ _, rfl⟩, ?_⟩
  rintro _ _ w1 ⟨a, rfl, ha, e1, he⟩
  refine sel_dec (fun hlt => ?_) (fun hge => ?_)
  · obtain ⟨x, ad, hxx, rfl, rx⟩ := Cells.row (L := LbL) (hx.ext0 e1) hn (a := a) (by omega)
    obtain ⟨y, ad', hyy, rfl, ry⟩ := Cells.row (L := LbL) (hy.ext0 e1) hn' (a := a) (by omega)
    have wd : (0 : Int) ≤ (a : Int) ∧ (a : Int) < ((n : Nat) : Int) := by omega
    have no : x ≠ y → ∀ w', Ext [] w w' → R (.returned (.bool false)) w' := fun hne w' e' => by
      have := k w' e'
      rw [decide_eq_false (fun e => hne (by rw [e, hyy] at hxx; injection hxx with e2; exact e2.symm))] at this
      exact this
    refine when_dec wd (ptr_in ⟨x.1, rx 0 _ rfl, when_dec wd (ptr_in ⟨y.1, ry 0 _ rfl, ?_⟩)⟩)
    rw [teq]
    refine sel_intro (fun h => no (fun e => by subst e; simp at h) _ e1.drew) (fun h => ?_)
    have h1 : x.1 = y.1 := of_decide_eq_true (nt_ h)
    refine when_dec wd (ptr_in ⟨x.2, rx 1 _ rfl, when_dec wd (ptr_in ⟨y.2, ry 1 _ rfl, ?_⟩)⟩)
    rw [teq]
    refine sel_intro (fun h => no (fun e => by subst e; simp at h) _ e1.drew) (fun h => ?_)
    have h2 : x.2 = y.2 := of_decide_eq_true (nt_ h)
    have h : x = y := Prod.ext h1 h2
    rw [up64 a (by omega)]
    exact ⟨⟨a + 1, rfl, by omega, e1.drew, by rw [snoc_at hxx, snoc_at hyy, he, h]⟩, by simp only [Int.toNat_natCast]; omega⟩
  · have : a = n := by omega
    subst this
    rw [List.take_of_length_le (by omega), List.take_of_length_le (by omega)] at he
    have := k w1 e1
    rw [decide_eq_true he] at this
    exact this
theorem DOf_c {w : World} {d : PDoc} (h : DocAt w d) (ok : DocOk d) (slot : Int) {R : Ending → World → Prop}
    (k : ∀ w' A n c, Ext [] w w' → Cells w' A (LbL.flat ((labD d.rows slot).getD [])) → ((labD d.rows slot).getD []).length = n → R (.returned (.tuple #[.slice A n c, .bool (labD d.rows slot).isSome])) w') :
    Calls Tryz.prog 70 #[.agg #[.int .i64 (d.N : Int), .slice d.A d.l d.c], .int .i64 slot] w R := by
  apply berthref07_Of_nf
  intro w4 h4
  obtain ⟨b4, x4, z4⟩ := doc_box h4
  have hlen := h.len
  have hle := ok.len
  refine ⟨_, _, _, _, cadd0 b4, place_c (h.ext0 x4) ok slot fun w10 m e10 P => ⟨_, _, rfl, ?_⟩⟩
  have E10 := x4.trans e10
  have hlv := live_iff ok.ris P
  refine sel_intro (fun hn => ?_) (fun hn w11 h11 => ?_)
  · have hn := nf_ hn
    rw [hlv] at hn
    have hno : labD d.rows slot = none := by simpa using hn
    have := k w10 none 0 0 E10 (by rw [hno]; exact Cells.nil _ _) (by rw [hno]; rfl)
    rw [hno] at this
    exact this
  · have hn := nt_ hn
    have hn0 := hn
    unfold liveD at hn
    cases hr : d.rows[m]? with
    | none => rw [hr] at hn; cases hn
    | some r =>
      rw [hr] at hn
      have hs : r.s = slot := by simpa using hn
      have hml := (List.getElem?_eq_some_iff.1 hr).1
      have hlab : labD d.rows slot = some r.l := (labD_some ok.ris).2 ⟨r, List.mem_of_getElem? hr, hs, rfl⟩
      have x11 : Ext [] w10 w11 := by rw [h11]; exact (Ext.refl _ _).alloc _
      have E11 := E10.trans x11
      obtain ⟨r', ad, hr', hA, r0, r1⟩ := row_at (h.c.ext0 E11) hlen (a := m) (by omega)
      rw [hr] at hr'; cases hr'
      obtain ⟨hcl, hln⟩ := h.labs r (List.mem_of_getElem? hr)
      have hll := (ok.lab r (List.mem_of_getElem? hr)).len
      obtain ⟨A15, c15, w16, hr16, own16, e16⟩ := copyL (L := LbL) (P := Tryz.prog) (ty := 22) (t := 22) (e := 33) (w := w10) (m := r.n) uL infoL rfl (by omega) (hcl.ext0 E10) hln h11 (by omega) r.c
      refine ⟨_, _, _, cadd ((b4.ext0 e10).ext0 x11) rfl, when_dec ⟨by omega, by omega⟩ ?_⟩
      rw [hA]
      have := k w16 A15 r.n c15 (E10.trans e16) (by rw [hlab]; exact own16.cells) (by rw [hlab]; exact own16.len)
      rw [hlab] at this
      exact ptr_in ⟨_, _, _, r1, _, _, _, w16, hr16, this⟩
/-- What a row's labels tell of a key. -/
theorem getS_iff' {l : List Lab} (h : OkL l) (key : ByteArray) : (getS l key).2 = true ↔ ∃ v, (key, v) ∈ l := by
  constructor
  · intro h1
    refine ⟨(getS l key).1, ?_⟩
    induction l with
    | nil => simp [getS] at h1
    | cons x r ih =>
      rw [getS] at h1 ⊢
      by_cases hx : x.1 = key
      · rw [if_pos hx]
        subst hx
        exact List.mem_cons_self
      · rw [if_neg hx] at h1 ⊢
        exact List.mem_cons_of_mem _ (ih ⟨Nat.le_of_succ_le h.len, fun z hz => h.key z (by simp [hz]), fun z hz => h.val z (by simp [hz]), (List.pairwise_cons.1 h.ris).2⟩ h1)
  · rintro ⟨v, hv⟩
    rw [getS_some h.ris.nodup hv]
theorem getS_val {l : List Lab} (h : OkL l) {key v : ByteArray} : ((getS l key).2 = true ∧ (getS l key).1 = v) ↔ (key, v) ∈ l := by
  constructor
  · rintro ⟨h1, h2⟩
    obtain ⟨u, hu⟩ := (getS_iff' h key).1 h1
    rw [getS_some h.ris.nodup hu] at h2
    cases h2; exact hu
  · intro hv
    rw [getS_some h.ris.nodup hv]
    exact ⟨rfl, rfl⟩
set_option maxRecDepth 4000 in
theorem DHas_c {w : World} {d : PDoc} (h : DocAt w d) (ok : DocOk d) (key : ByteArray) {R : Ending → World → Prop}
    (k : ∀ w' A n c, Ext [] w w' → Cells w' A (ints .i64 (slotsP d.rows fun r => (getS r.l key).2)) → (slotsP d.rows fun r => (getS r.l key).2).length = n → R (.returned (.slice A n c)) w') :
    Calls Tryz.prog 72 #[.agg #[.int .i64 (d.N : Int), .slice d.A d.l d.c], .string key] w R := by
  apply berthref07_Has_nf
  intro w3 h3
  obtain ⟨b3, x3, z3⟩ := doc_box h3
  have hlen := h.len
  have hle := ok.len
  refine ⟨fun A n c t w' => ∃ a : Nat, t = a ∧ a ≤ d.l ∧ Ext [] w w' ∧ BlkT w' w.heap.size [.int .i64 (d.N : Int), .slice d.A d.l d.c] 37 ∧ OwnL IL w' w3.heap.size 3 A n c (slotsP (d.rows.take a) fun r => (getS r.l key).2), fun _ _ _ t _ => d.l - t.toNat, ⟨0, rfl, by omega, x3, b3, OwnL.nil _ _ _⟩, ?_⟩
  rintro A n c _ _ w9 ⟨a, rfl, ha, e9, p9, own9⟩
  refine ⟨_, _, _, cadd p9 rfl, sel_dec (fun hlt => ?_) (fun hge => ?_)⟩
  · obtain ⟨r, ad, hr, hA, r0, r1⟩ := row_at (h.c.ext0 e9) hlen (a := a) (by omega)
    obtain ⟨hcl, hln⟩ := h.labs r (List.mem_of_getElem? hr)
    have hll := (ok.lab r (List.mem_of_getElem? hr)).len
    have hsn := slotsP_snoc hr fun r => (getS r.l key).2
    have wd : (0 : Int) ≤ (a : Int) ∧ (a : Int) < ((d.l : Nat) : Int) := by omega
    refine ⟨_, _, _, cadd p9 rfl, when_dec wd ?_⟩
    refine ptr_of hA ⟨_, _, _, r1, rGet_c (hcl.ext0 e9) hln (by omega) key ⟨_, _, rfl, sel_intro (fun hg => ⟨_, _, _, cadd p9 rfl, when_dec wd ?_⟩) (fun hg => ?_)⟩⟩
    · skip
      have hg : (fun r : DRow => (getS r.l key).2) r = true := hg
      rw [if_pos hg] at hsn
      have hnl := own9.len
      have hsl := slotsP_len (d.rows.take a) fun r => (getS r.l key).2
      rw [List.length_take] at hsl
      refine ptr_of hA ⟨_, r0, fun w14 h14 => ?_⟩
      obtain ⟨b14, x14, z14⟩ := box_new (cs := IL.enc r.s) h14
      have gb := own9.base
      obtain ⟨A', c', w16, hr16, own16, e16, _⟩ := (OwnL.ext0 own9 x14).more (P := Tryz.prog) (ty := 66) (x := r.s) uI iI rfl (by omega) b14 (by have := p9.lt; omega) (by omega)
      refine ⟨_, _, _, w16, hr16, ?_⟩
      rw [up64 a (by omega)]
      have hfr : ∀ b ∈ ownF A, w3.heap.size ≤ b := fun b hb => (gb b hb).1
      exact ⟨⟨a + 1, rfl, by omega, (e9.trans x14).trans' e16 (fun b hb => .inr (by have := hfr b hb; omega)), (p9.ext0 x14).ext e16 (fun hm => by have := hfr _ hm; omega), by rw [hsn]; exact own16⟩, by simp only [Int.toNat_natCast]; omega⟩
    · have hg : ¬ (fun r : DRow => (getS r.l key).2) r = true := by show ¬ (getS r.l key).2 = true; rw [hg]; decide
      rw [if_neg hg, List.append_nil] at hsn
      rw [up64 a (by omega)]
      exact ⟨⟨a + 1, rfl, by omega, e9, p9, by rw [hsn]; exact own9⟩, by simp only [Int.toNat_natCast]; omega⟩
  · have : a = d.l := by omega
    subst this
    rw [List.take_of_length_le (by omega)] at own9
    exact k w9 A n c e9 (by rw [← IL_flat]; exact own9.cells) own9.len
def hitP (vs : List ByteArray) (u : ByteArray) : Bool := vs.any fun v => decide (v = u)
def inP (key : ByteArray) (vs : List ByteArray) (r : DRow) : Bool := (getS r.l key).2 && hitP vs (getS r.l key).1
theorem hitP_snoc {vs : List ByteArray} {a : Nat} {v : ByteArray} (h : vs[a]? = some v) (u : ByteArray) : hitP (vs.take (a + 1)) u = (hitP (vs.take a) u || decide (v = u)) := by
  unfold hitP
  rw [snoc_at h, List.any_append]
  simp
theorem hitP_iff {vs : List ByteArray} {u : ByteArray} : hitP vs u = true ↔ u ∈ vs := by
  unfold hitP
  rw [List.any_eq_true]
  constructor
  · rintro ⟨v, hv, e⟩
    have e : v = u := by simpa using e
    rw [← e]; exact hv
  · intro hu
    exact ⟨u, hu, by simp⟩
theorem hitP_mono {vs : List ByteArray} {a : Nat} {u : ByteArray} (h : hitP (vs.take a) u = true) : hitP vs u = true := hitP_iff.2 (List.mem_of_mem_take (hitP_iff.1 h))
set_option maxRecDepth 4000 in
theorem DIn_c {w : World} {d : PDoc} (h : DocAt w d) (ok : DocOk d) (key : ByteArray) {B : Option Addr} {m cb : Nat} {vs : List ByteArray} (hv : Cells w B (SL.flat vs)) (hm : vs.length = m) (hmb : m < 4611686018427387904) {R : Ending → World → Prop}
    (k : ∀ w' A n c, Ext [] w w' → Cells w' A (ints .i64 (slotsP d.rows (inP key vs))) → (slotsP d.rows (inP key vs)).length = n → R (.returned (.slice A n c)) w') :
    Calls Tryz.prog 71 #[.agg #[.int .i64 (d.N : Int), .slice d.A d.l d.c], .string key, .slice B m cb] w R := by
  apply berthref07_In_nf
  intro w3 h3
  obtain ⟨b3, x3, z3⟩ := doc_box h3
  have hlen := h.len
  have hle := ok.len
  refine ⟨fun A n c t w' => ∃ a : Nat, t = a ∧ a ≤ d.l ∧ Ext [] w w' ∧ BlkT w' w.heap.size [.int .i64 (d.N : Int), .slice d.A d.l d.c] 37 ∧ OwnL IL w' w3.heap.size 3 A n c (slotsP (d.rows.take a) (inP key vs)), fun _ _ _ t _ => d.l - t.toNat, ⟨0, rfl, by omega, x3, b3, OwnL.nil _ _ _⟩, ?_⟩
  rintro A n c _ _ w9 ⟨a, rfl, ha, e9, p9, own9⟩
  refine ⟨_, _, _, cadd p9 rfl, sel_dec (fun hlt => ?_) (fun hge => ?_)⟩
  · obtain ⟨r, ad, hr, hA, r0, r1⟩ := row_at (h.c.ext0 e9) hlen (a := a) (by omega)
    obtain ⟨hcl, hln⟩ := h.labs r (List.mem_of_getElem? hr)
    have hll := (ok.lab r (List.mem_of_getElem? hr)).len
    have hsn := slotsP_snoc hr (inP key vs)
    have wd : (0 : Int) ≤ (a : Int) ∧ (a : Int) < ((d.l : Nat) : Int) := by omega
    refine ⟨_, _, _, cadd p9 rfl, when_dec wd ?_⟩
    refine ptr_of hA ⟨_, _, _, r1, rGet_c (hcl.ext0 e9) hln (by omega) key ⟨_, _, rfl, ?_⟩⟩
    refine ⟨fun b w' => w' = w9 ∧ b = inP key vs r, ?_, ?_⟩
    · refine ⟨fun b t w' => ∃ j : Nat, t = j ∧ j ≤ m ∧ w' = w9 ∧ b = ((getS r.l key).2 && hitP (vs.take j) (getS r.l key).1), fun _ t _ => m - t.toNat, ⟨0, rfl, by omega, rfl, by simp [hitP]⟩, ?_⟩
      rintro b _ _ _ ⟨j, rfl, hj, rfl, rfl⟩
      refine sel_dec (fun hj2 => sel_intro (fun hg => sel_intro (fun hh => ?_) (fun hh => ?_)) (fun hg => ?_)) (fun hj2 => ?_)
      · obtain ⟨v, ad2, hvj, hB, rv⟩ := text_at (hv.ext0 e9) hm (a := j) (by omega)
        rw [hB]
        refine when_dec ⟨by omega, by omega⟩ (ptr_in ⟨v, rv, ?_⟩)
        rw [up64 j (by omega)]
        refine ⟨⟨j + 1, rfl, by omega, rfl, ?_⟩, by simp only [Int.toNat_natCast]; omega⟩
        have hh := nf_ hh
        rw [hg, Bool.true_and] at hh
        rw [teq, hitP_snoc hvj, hh, hg]
        simp
      · have hh := nt_ hh
        refine ⟨rfl, ?_⟩
        rw [hh]
        unfold inP
        rw [hg, Bool.true_and] at hh
        rw [hg, hitP_mono hh]; rfl
      · refine ⟨rfl, ?_⟩
        unfold inP
        rw [hg]; rfl
      · have : j = m := by omega
        subst this
        rw [List.take_of_length_le (by omega)]
        exact ⟨rfl, rfl⟩
    · rintro _ _ _ ⟨rfl, rfl⟩
      refine sel_intro (fun hg => ⟨_, _, _, cadd p9 rfl, when_dec wd ?_⟩) (fun hg => ?_)
      · skip
        rw [if_pos hg] at hsn
        have hnl := own9.len
        have hsl := slotsP_len (d.rows.take a) (inP key vs)
        rw [List.length_take] at hsl
        refine ptr_of hA ⟨_, r0, fun w14 h14 => ?_⟩
        obtain ⟨b14, x14, z14⟩ := box_new (cs := IL.enc r.s) h14
        have gb := own9.base
        obtain ⟨A', c', w16, hr16, own16, e16, _⟩ := (OwnL.ext0 own9 x14).more (P := Tryz.prog) (ty := 66) (x := r.s) uI iI rfl (by omega) b14 (by have := p9.lt; omega) (by omega)
        refine ⟨_, _, _, w16, hr16, ?_⟩
        rw [up64 a (by omega)]
        have hfr : ∀ b ∈ ownF A, w3.heap.size ≤ b := fun b hb => (gb b hb).1
        exact ⟨⟨a + 1, rfl, by omega, (e9.trans x14).trans' e16 (fun b hb => .inr (by have := hfr b hb; omega)), (p9.ext0 x14).ext e16 (fun hm => by have := hfr _ hm; omega), by rw [hsn]; exact own16⟩, by simp only [Int.toNat_natCast]; omega⟩
      · have hg : ¬ inP key vs r = true := by rw [hg]; decide
        rw [if_neg hg, List.append_nil] at hsn
        rw [up64 a (by omega)]
        exact ⟨⟨a + 1, rfl, by omega, e9, p9, by rw [hsn]; exact own9⟩, by simp only [Int.toNat_natCast]; omega⟩
  · have : a = d.l := by omega
    subst this
    rw [List.take_of_length_le (by omega)] at own9
    exact k w9 A n c e9 (by rw [← IL_flat]; exact own9.cells) own9.len
end Go.Proofs.YtpipenkaaodlgaaGreatDoor
namespace Go.Proofs.YtpipenkaaodlgaaGreatDoor
open Go Go.V Go.B

theorem blt' (a b : ByteArray) : Op.bytesLess (ByteArray.toList a) (ByteArray.toList b) = decide (bs a < bs b) := by
  rw [ByteArray.toList_eq, ByteArray.toList_eq, bytesLess_eq]; rfl
theorem strict_pair {xs : List ByteArray} (h : Strict xs) {i j : Nat} {x y : ByteArray} (hx : xs[i]? = some x) (hy : xs[j]? = some y) (hij : i < j) : bs x < bs y := by
  obtain ⟨h1, rfl⟩ := List.getElem?_eq_some_iff.1 hx
  obtain ⟨h2, rfl⟩ := List.getElem?_eq_some_iff.1 hy
  exact List.pairwise_iff_getElem.1 h i j h1 h2 hij
theorem more_text {w W w14 : World} {A : Option Addr} {n c : Nat} {l : List ByteArray} {x : ByteArray} (e : Ext [] w W) (own : OwnL SL W w.heap.size 9 A n c l) (h14 : w14 = W.alloc (.cells #[.string x] 9)) (hn : n ≤ 4000000) :
    ∃ A' c' w16, (Builtin.append_ #[23, 23] 23 #[.slice A n c, .slice (some ⟨W.heap.size, 0, none⟩) 1 1]).run Tryz.prog w14 = .ok (.slice A' (n + 1) c') w16 ∧ OwnL SL w16 w.heap.size 9 A' (n + 1) c' (l ++ [x]) ∧ Ext [] w w16 := by
  obtain ⟨b14, x14, z14⟩ := box_new (cs := SL.enc x) h14
  obtain ⟨A', c', w16, hr, own', e', _⟩ := (OwnL.ext0 own x14).more (P := Tryz.prog) (ty := 23) (x := x) uS iS rfl (by omega) b14 (by have := e.size; omega) (by omega)
  have gb := own.base
  exact ⟨A', c', w16, hr, own', (e.trans x14).trans' e' (fun b hb => .inr (gb b hb).1)⟩
set_option maxRecDepth 4000 in
theorem put_c {w : World} {L : Option Addr} {n c : Nat} {xs : List ByteArray} (hc : Cells w L (SL.flat xs)) (hl : xs.length = n) (hs : Strict xs) (hn : n ≤ 3000000) (s : ByteArray) {R : Ending → World → Prop}
    (k : ∀ w' A' n' c' xs', Ext [] w w' → Cells w' A' (SL.flat xs') → xs'.length = n' → Strict xs' → (∀ v, v ∈ xs' ↔ v ∈ xs ∨ v = s) → n' ≤ n + 1 → R (.returned (.slice A' n' c')) w') :
    Calls Tryz.prog 97 #[.slice L n c, .string s] w R := by
  apply berthref07_put_nf
  refine ⟨fun A m cc t w' => ∃ a : Nat, t = a ∧ a ≤ n ∧ m = a ∧ Ext [] w w' ∧ OwnL SL w' w.heap.size 9 A m cc (xs.take a) ∧ (∀ v ∈ xs.take a, bs v < bs s) ∧ ∀ v, xs[a]? = some v → ¬ bs v < bs s, ?_, ?_⟩
  · refine ⟨fun A m cc t w' => ∃ a : Nat, t = a ∧ a ≤ n ∧ m = a ∧ Ext [] w w' ∧ OwnL SL w' w.heap.size 9 A m cc (xs.take a) ∧ ∀ v ∈ xs.take a, bs v < bs s, fun _ _ _ t _ => n - t.toNat, ⟨0, rfl, by omega, rfl, Ext.refl _ _, OwnL.nil _ _ _, by simp⟩, ?_⟩
    rintro A m cc _ _ w9 ⟨a, rfl, ha, rfl, e9, own9, hlt⟩
    refine sel_dec (fun h1 => ?_) (fun h1 => ?_)
    · obtain ⟨v, ad, hv, rfl, rv⟩ := text_at (hc.ext0 e9) hl (a := m) (by omega)
      have wd : (0 : Int) ≤ (m : Int) ∧ (m : Int) < ((n : Nat) : Int) := by omega
      refine when_dec wd (ptr_in ⟨v, rv, ?_⟩)
      rw [blt']
      refine sel_dec (fun h2 => when_dec wd (ptr_in ⟨v, rv, fun w14 h14 => ?_⟩)) (fun h2 => ⟨m, rfl, ha, rfl, e9, own9, hlt, fun u hu => ?_⟩)
      · obtain ⟨A', c', w16, hr, own', e'⟩ := more_text e9 own9 h14 (by omega)
        refine ⟨_, _, _, w16, hr, ?_⟩
        rw [up64 m (by omega)]
        refine ⟨⟨m + 1, rfl, by omega, rfl, e', by rw [snoc_at hv]; exact own', fun u hu => ?_⟩, by simp only [Int.toNat_natCast]; omega⟩
        rw [snoc_at hv] at hu
        rcases List.mem_append.1 hu with hu | hu
        · exact hlt u hu
        · simp at hu; subst hu; exact h2
      · rw [hv] at hu; cases hu; exact h2
    · exact ⟨m, rfl, ha, rfl, e9, own9, hlt, fun u hu => by
        have := (List.getElem?_eq_some_iff.1 hu).1
        omega⟩
  · rintro A m cc _ _ w20 ⟨a, rfl, ha, rfl, e20, own20, hlt, hge⟩
    refine ⟨fun _ _ _ w' => Ext [] w w' ∧ OwnL SL w' w.heap.size 9 A m cc (xs.take m) ∧ ∀ v, xs[m]? = some v → bs s < bs v, ⟨fun t w' => w' = w20 ∧ (t = true → s ∈ xs) ∧ (t = false → ∀ v, xs[m]? = some v → bs s < bs v), ?_, ?_⟩, ?_⟩
    · refine sel_dec (fun h1 => ?_) (fun h1 => ⟨rfl, fun h => (by cases h), fun _ v hv => by
        have := (List.getElem?_eq_some_iff.1 hv).1
        omega⟩)
      obtain ⟨v, ad, hv, rfl, rv⟩ := text_at (hc.ext0 e20) hl (a := m) (by omega)
      refine when_dec ⟨by omega, by omega⟩ (ptr_in ⟨v, rv, rfl, fun h => ?_, fun h u hu => ?_⟩)
      · rw [teq] at h
        rw [← of_decide_eq_true h]
        exact List.mem_of_getElem? hv
      · rw [hv] at hu; cases hu
        rw [teq] at h
        have hne : v ≠ s := of_decide_eq_false h
        rcases List.le_iff_lt_or_eq.1 (List.not_lt.1 (hge v hv)) with h3 | h3
        · exact h3
        · exact absurd (bs_inj h3).symm hne
    · rintro t _ w27 ⟨hw, ht, hf⟩
      rw [hw]
      refine sel_intro (fun h => ?_) (fun h => ⟨e20, own20, hf h⟩)
      exact k w20 L n c xs e20 (hc.ext0 e20) hl hs (fun v => ⟨.inl, fun h1 => h1.elim id fun h1 => h1 ▸ ht h⟩) (by omega)
    · rintro _ _ _ _ w30 ⟨e30, own30, hgt⟩ w31 h31
      obtain ⟨A', c', w33, hr33, own33, e33⟩ := more_text e30 own30 h31 (by omega)
      have hgt' : ∀ v ∈ xs.drop m, bs s < bs v := fun v hv => by
        obtain ⟨j, hj⟩ := List.mem_iff_getElem?.1 hv
        rw [List.getElem?_drop] at hj
        rcases Nat.eq_zero_or_pos j with rfl | hp
        · rw [Nat.add_zero] at hj; exact hgt v hj
        · have hml : m < xs.length := by have := (List.getElem?_eq_some_iff.1 hj).1; omega
          obtain ⟨u, hu⟩ : ∃ u, xs[m]? = some u := ⟨_, List.getElem?_eq_getElem hml⟩
          exact List.lt_trans (hgt u hu) (strict_pair hs hu hj (by omega))
      refine ⟨_, _, _, w33, hr33, fun B q cq t w' => ∃ j : Nat, t = j ∧ m ≤ j ∧ j ≤ n ∧ q = j + 1 ∧ Ext [] w w' ∧ OwnL SL w' w.heap.size 9 B q cq (xs.take m ++ [s] ++ (xs.drop m).take (j - m)), fun _ _ _ t _ => n - t.toNat, ⟨m, rfl, Nat.le_refl _, ha, rfl, e33, by rw [Nat.sub_self, List.take_zero, List.append_nil]; exact own33⟩, ?_⟩
      rintro B _ cq _ _ w39 ⟨j, rfl, hmj, hjn, rfl, e39, own39⟩
      refine sel_dec (fun h1 => ?_) (fun h1 => ?_)
      · obtain ⟨v, ad, hv, rfl, rv⟩ := text_at (hc.ext0 e39) hl (a := j) (by omega)
        refine when_dec ⟨by omega, by omega⟩ (ptr_in ⟨v, rv, fun w42 h42 => ?_⟩)
        obtain ⟨A2, c2, w44, hr44, own44, e44⟩ := more_text e39 own39 h42 (by omega)
        refine ⟨_, _, _, w44, hr44, ?_⟩
        rw [up64 j (by omega)]
        refine ⟨⟨j + 1, rfl, by omega, by omega, rfl, e44, ?_⟩, by simp only [Int.toNat_natCast]; omega⟩
        have hd : (xs.drop m)[j - m]? = some v := by rw [List.getElem?_drop, show m + (j - m) = j by omega]; exact hv
        rw [show j + 1 - m = (j - m) + 1 by omega, snoc_at hd, ← List.append_assoc]
        exact own44
      · have hjn2 : j = n := by omega
        subst hjn2
        have hfull : (xs.drop m).take (j - m) = xs.drop m := List.take_of_length_le (by rw [List.length_drop]; omega)
        rw [hfull] at own39
        refine k w39 B (j + 1) cq _ e39 own39.cells own39.len ?_ (fun v => ?_) (by omega)
        · refine List.pairwise_append.2 ⟨List.pairwise_append.2 ⟨List.Pairwise.sublist (List.take_sublist _ _) hs, by simp, fun a ha b hb => ?_⟩, List.Pairwise.sublist (List.drop_sublist _ _) hs, fun a ha b hb => ?_⟩
          · simp at hb; subst hb; exact hlt a ha
          · rcases List.mem_append.1 ha with ha | ha
            · exact List.lt_trans (hlt a ha) (hgt' b hb)
            · simp at ha; subst ha; exact hgt' b hb
        · conv => rhs; rw [← List.take_append_drop m xs]
          simp only [List.mem_append, List.mem_singleton]
          constructor
          · rintro ((h1 | h1) | h1)
            · exact .inl (.inl h1)
            · exact .inr h1
            · exact .inl (.inr h1)
          · rintro ((h1 | h1) | h1)
            · exact .inl (.inl h1)
            · exact .inr h1
            · exact .inl (.inr h1)
set_option maxRecDepth 4000 in
theorem DValues_c {w : World} {d : PDoc} (h : DocAt w d) (ok : DocOk d) (key : ByteArray) {R : Ending → World → Prop}
    (k : ∀ w' A n c xs, Ext [] w w' → Cells w' A (SL.flat xs) → xs.length = n → Strict xs → (∀ v, v ∈ xs ↔ ∃ r ∈ d.rows, (key, v) ∈ r.l) → n ≤ 65536 → R (.returned (.slice A n c)) w') :
    Calls Tryz.prog 74 #[.agg #[.int .i64 (d.N : Int), .slice d.A d.l d.c], .string key] w R := by
  apply berthref07_Values_nf
  intro w3 h3
  obtain ⟨b3, x3, z3⟩ := doc_box h3
  have hlen := h.len
  have hle := ok.len
  refine ⟨fun A n c t w' => ∃ a : Nat, t = a ∧ a ≤ d.l ∧ Ext [] w w' ∧ BlkT w' w.heap.size [.int .i64 (d.N : Int), .slice d.A d.l d.c] 37 ∧ ∃ xs, Cells w' A (SL.flat xs) ∧ xs.length = n ∧ Strict xs ∧ (∀ v, v ∈ xs ↔ ∃ r ∈ d.rows.take a, (key, v) ∈ r.l) ∧ n ≤ a, fun _ _ _ t _ => d.l - t.toNat, ⟨0, rfl, by omega, x3, b3, [], Cells.nil _ _, rfl, List.Pairwise.nil, by simp, by omega⟩, ?_⟩
  rintro A n c _ _ w9 ⟨a, rfl, ha, e9, p9, xs, hxc, hxl, hxs, hxm, hna⟩
  refine ⟨_, _, _, cadd p9 rfl, sel_dec (fun hlt => ?_) (fun hge => ?_)⟩
  · obtain ⟨r, ad, hr, hA, r0, r1⟩ := row_at (h.c.ext0 e9) hlen (a := a) (by omega)
    obtain ⟨hcl, hln⟩ := h.labs r (List.mem_of_getElem? hr)
    have okl := ok.lab r (List.mem_of_getElem? hr)
    have hll := okl.len
    have wd : (0 : Int) ≤ (a : Int) ∧ (a : Int) < ((d.l : Nat) : Int) := by omega
    have hstep : ∀ v, (∃ q ∈ d.rows.take (a + 1), (key, v) ∈ q.l) ↔ (∃ q ∈ d.rows.take a, (key, v) ∈ q.l) ∨ (key, v) ∈ r.l := fun v => by
      rw [snoc_at hr]
      constructor
      · rintro ⟨q, hq, h1⟩
        rcases List.mem_append.1 hq with hq | hq
        · exact .inl ⟨q, hq, h1⟩
        · simp at hq; subst hq; exact .inr h1
      · rintro (⟨q, hq, h1⟩ | h1)
        · exact ⟨q, by simp [hq], h1⟩
        · exact ⟨r, by simp, h1⟩
    refine ⟨_, _, _, cadd p9 rfl, when_dec wd (ptr_of hA ⟨_, _, _, r1, rGet_c (hcl.ext0 e9) hln (by omega) key ⟨_, _, rfl, sel_intro (fun hg => ?_) (fun hg => ?_)⟩⟩)⟩
    · refine put_c hxc hxl hxs (by omega) _ fun w21 A' n' c' ys e21 hyc hyl hys hym hn' => ⟨_, _, _, rfl, ?_⟩
      rw [up64 a (by omega)]
      refine ⟨⟨a + 1, rfl, by omega, e9.trans e21, p9.ext0 e21, ys, hyc, hyl, hys, fun v => ?_, by omega⟩, by simp only [Int.toNat_natCast]; omega⟩
      rw [hym, hxm, hstep]
      constructor
      · rintro (h1 | rfl)
        · exact .inl h1
        · exact .inr ((getS_val okl).1 ⟨hg, rfl⟩)
      · rintro (h1 | h1)
        · exact .inl h1
        · exact .inr ((getS_val okl).2 h1).2.symm
    · rw [up64 a (by omega)]
      refine ⟨⟨a + 1, rfl, by omega, e9, p9, xs, hxc, hxl, hxs, fun v => ?_, by omega⟩, by simp only [Int.toNat_natCast]; omega⟩
      rw [hxm, hstep]
      constructor
      · exact .inl
      · rintro (h1 | h1)
        · exact h1
        · have := ((getS_val okl).2 h1).1
          rw [hg] at this; cases this
  · have : a = d.l := by omega
    subst this
    rw [List.take_of_length_le (by omega)] at hxm
    exact k w9 A n c xs e9 hxc hxl hxs hxm (by omega)
set_option maxRecDepth 4000 in
theorem DKeys_c {w : World} {d : PDoc} (h : DocAt w d) (ok : DocOk d) {R : Ending → World → Prop}
    (k : ∀ w' A n c xs, Ext [] w w' → Cells w' A (SL.flat xs) → xs.length = n → Strict xs → (∀ v, v ∈ xs ↔ ∃ r ∈ d.rows, v ∈ keys r.l) → n ≤ 3000000 → R (.returned (.slice A n c)) w') :
    Calls Tryz.prog 73 #[.agg #[.int .i64 (d.N : Int), .slice d.A d.l d.c]] w R := by
  apply berthref07_Keys_nf
  intro w3 h3
  obtain ⟨b3, x3, z3⟩ := doc_box h3
  have hlen := h.len
  have hle := ok.len
  refine ⟨fun A n c t w' => ∃ a : Nat, t = a ∧ a ≤ d.l ∧ Ext [] w w' ∧ BlkT w' w.heap.size [.int .i64 (d.N : Int), .slice d.A d.l d.c] 37 ∧ ∃ xs, Cells w' A (SL.flat xs) ∧ xs.length = n ∧ Strict xs ∧ (∀ v, v ∈ xs ↔ ∃ r ∈ d.rows.take a, v ∈ keys r.l) ∧ n ≤ a * 32, fun _ _ _ t _ => d.l - t.toNat, ⟨0, rfl, by omega, x3, b3, [], Cells.nil _ _, rfl, List.Pairwise.nil, by simp, by omega⟩, ?_⟩
  rintro A n c _ _ w9 ⟨a, rfl, ha, e9, p9, xs, hxc, hxl, hxs, hxm, hna⟩
  refine ⟨_, _, _, cadd p9 rfl, sel_dec (fun hlt => ?_) (fun hge => ?_)⟩
  · obtain ⟨r, _, hr, _⟩ := row_at (h.c.ext0 e9) hlen (a := a) (by omega)
    obtain ⟨hcl, hln⟩ := h.labs r (List.mem_of_getElem? hr)
    have okl := ok.lab r (List.mem_of_getElem? hr)
    have hll := okl.len
    have wd : (0 : Int) ≤ (a : Int) ∧ (a : Int) < ((d.l : Nat) : Int) := by omega
    refine ⟨fun A n c t w' => ∃ j : Nat, t = j ∧ j ≤ r.n ∧ Ext [] w w' ∧ BlkT w' w.heap.size [.int .i64 (d.N : Int), .slice d.A d.l d.c] 37 ∧ ∃ xs, Cells w' A (SL.flat xs) ∧ xs.length = n ∧ Strict xs ∧ (∀ v, v ∈ xs ↔ (∃ r ∈ d.rows.take a, v ∈ keys r.l) ∨ v ∈ keys (r.l.take j)) ∧ n ≤ a * 32 + j, fun _ _ _ t _ => r.n - t.toNat, ⟨0, rfl, by omega, e9, p9, xs, hxc, hxl, hxs, fun v => by rw [hxm]; simp [keys], by omega⟩, ?_⟩
    rintro A n c _ _ w16 ⟨j, rfl, hj, e16, p16, ys, hyc, hyl, hys, hym, hnj⟩
    obtain ⟨r', ad, hr', hA, r0, r1⟩ := row_at (h.c.ext0 e16) hlen (a := a) (by omega)
    rw [hr] at hr'; cases hr'
    refine ⟨_, _, _, cadd p16 rfl, when_dec wd (ptr_of hA ⟨_, _, _, r1, sel_dec (fun hj2 => ?_) (fun hj2 => ?_)⟩)⟩
    · obtain ⟨y, ad2, hy, hB, ry⟩ := Cells.row (L := LbL) (hcl.ext0 e16) hln (a := j) (by omega)
      refine ⟨_, _, _, cadd p16 rfl, when_dec wd (ptr_of hA ⟨_, _, _, r1, when_dec ⟨by omega, by omega⟩ (ptr_of hB ⟨_, ry 0 _ rfl, put_c hyc hyl hys (by omega) _ fun w27 A' n' c' zs e27 hzc hzl hzs hzm hn' => ⟨_, _, _, rfl, ?_⟩⟩)⟩)⟩
      rw [up64 j (by omega)]
      refine ⟨⟨j + 1, rfl, by omega, e16.trans e27, p16.ext0 e27, zs, hzc, hzl, hzs, fun v => ?_, by omega⟩, by simp only [Int.toNat_natCast]; omega⟩
      rw [hzm, hym, snoc_at hy]
      unfold keys
      rw [List.map_append, List.mem_append]
      simp only [List.map_cons, List.map_nil, List.mem_singleton]
      constructor
      · rintro ((h1 | h1) | h1)
        · exact .inl h1
        · exact .inr (.inl h1)
        · exact .inr (.inr h1)
      · rintro (h1 | h1 | h1)
        · exact .inl (.inl h1)
        · exact .inl (.inr h1)
        · exact .inr h1
    · have : j = r.n := by omega
      subst this
      rw [List.take_of_length_le (l := r.l) (by omega)] at hym
      rw [up64 a (by omega)]
      refine ⟨⟨a + 1, rfl, by omega, e16, p16, ys, hyc, hyl, hys, fun v => ?_, by omega⟩, by simp only [Int.toNat_natCast]; omega⟩
      rw [hym, snoc_at hr]
      constructor
      · rintro (⟨q, hq, h1⟩ | h1)
        · exact ⟨q, by simp [hq], h1⟩
        · exact ⟨r, by simp, h1⟩
      · rintro ⟨q, hq, h1⟩
        rcases List.mem_append.1 hq with hq | hq
        · exact .inl ⟨q, hq, h1⟩
        · simp at hq; subst hq; exact .inr h1
  · have : a = d.l := by omega
    subst this
    rw [List.take_of_length_le (by omega)] at hxm
    exact k w9 A n c xs e9 hxc hxl hxs hxm (by omega)
def DRow.pr (r : DRow) : Int × List Lab := (r.s, r.l)
set_option maxRecDepth 4000 in
theorem DSame_c {w : World} {a b : PDoc} (ha : DocAt w a) (oka : DocOk a) (hb : DocAt w b) (okb : DocOk b) {R : Ending → World → Prop}
    (k : ∀ w', Ext [] w w' → R (.returned (.bool (decide (a.rows.map DRow.pr = b.rows.map DRow.pr)))) w') :
    Calls Tryz.prog 75 #[.agg #[.int .i64 (a.N : Int), .slice a.A a.l a.c], .agg #[.int .i64 (b.N : Int), .slice b.A b.l b.c]] w R := by
  apply berthref07_Same_nf
  intro w5 h5 w6 h6
  obtain ⟨b5, x5, z5⟩ := doc_box h5
  obtain ⟨b6, x6, z6⟩ := doc_box h6
  have hla := ha.len
  have hlb := hb.len
  have hle := oka.len
  have p6 := b5.ext0 x6
  refine ⟨_, _, _, cadd p6 rfl, _, _, _, cadd b6 rfl, sel_intro (fun h => ?_) (fun h => ?_)⟩
  · have h : a.l ≠ b.l := fun e => by rw [e] at h; simp at h
    have := k w6 (x5.trans x6)
    rw [decide_eq_false (fun e => h (by
      have := congrArg List.length e
      simp at this; omega))] at this
    exact this
  have h : a.l = b.l := by
    have h : ((a.l : Nat) : Int) = ((b.l : Nat) : Int) := by simpa using h
    omega
  refine ⟨fun t w' => ∃ i : Nat, t = i ∧ i ≤ a.l ∧ Ext [] w6 w' ∧ (a.rows.take i).map DRow.pr = (b.rows.take i).map DRow.pr, fun t _ => a.l - t.toNat, ⟨0, rfl, by omega, Ext.refl _ _, rfl⟩, ?_⟩
  rintro _ _ w13 ⟨i, rfl, hi, e13, he⟩
  have E13 := (x5.trans x6).trans e13
  refine ⟨_, _, _, cadd (p6.ext0 e13) rfl, sel_dec (fun hlt => ?_) (fun hge => ?_)⟩
  · have d13 : Ext [] w13 w13.drew := (Ext.refl _ _).drew
    have pd := (p6.ext0 e13).ext0 d13
    have qd := (b6.ext0 e13).ext0 d13
    have Ed := E13.trans d13
    have e13' := e13.trans d13
    generalize w13.drew = w14 at d13 pd qd Ed e13' ⊢
    obtain ⟨r, ad, hr, hA, _⟩ := row_at (ha.c.ext0 Ed) hla (a := i) (by omega)
    obtain ⟨q, ad', hq, hB, _⟩ := row_at (hb.c.ext0 Ed) hlb (a := i) (by omega)
    have ra : ∀ w', Ext [] w14 w' → w'.cell? (Addr.add (Addr.add ad (Int.toNat (i : Int) * 2)) 0) = some (.int .i64 r.s) ∧ w'.cell? (Addr.add (Addr.add ad (Int.toNat (i : Int) * 2)) 1) = some (.slice r.A r.n r.c) := fun w' e => by
      obtain ⟨r', ad2, h1, h2, h3, h4⟩ := row_at ((ha.c.ext0 Ed).ext0 e) hla (a := i) (by omega)
      rw [hr] at h1; cases h1
      rw [hA] at h2; cases h2
      exact ⟨h3, h4⟩
    have rb : ∀ w', Ext [] w14 w' → w'.cell? (Addr.add (Addr.add ad' (Int.toNat (i : Int) * 2)) 0) = some (.int .i64 q.s) ∧ w'.cell? (Addr.add (Addr.add ad' (Int.toNat (i : Int) * 2)) 1) = some (.slice q.A q.n q.c) := fun w' e => by
      obtain ⟨r', ad2, h1, h2, h3, h4⟩ := row_at ((hb.c.ext0 Ed).ext0 e) hlb (a := i) (by omega)
      rw [hq] at h1; cases h1
      rw [hB] at h2; cases h2
      exact ⟨h3, h4⟩
    have wa : (0 : Int) ≤ (i : Int) ∧ (i : Int) < ((a.l : Nat) : Int) := by omega
    have wb : (0 : Int) ≤ (i : Int) ∧ (i : Int) < ((b.l : Nat) : Int) := by omega
    obtain ⟨hcr, hlr⟩ := ha.labs r (List.mem_of_getElem? hr)
    obtain ⟨hcq, hlq⟩ := hb.labs q (List.mem_of_getElem? hq)
    have hlen := (oka.lab r (List.mem_of_getElem? hr)).len
    have no : r.pr ≠ q.pr → ∀ w', Ext [] w w' → R (.returned (.bool false)) w' := fun hne w' e' => by
      have := k w' e'
      rw [decide_eq_false (fun e => hne (by
        have h1 := congrArg (·[i]?) e
        simp only [List.getElem?_map, hr, hq, Option.map_some, Option.some.injEq] at h1
        exact h1))] at this
      exact this
    refine ⟨fun w' => Ext [] w14 w', Ext.refl _ _, _, _, _, fun w' e => cadd (pd.ext0 e) rfl, when_dec wa (ptr_of hA ⟨_, _, _, fun w' e => (ra w' e).2, _, _, _, fun w' e => cadd (qd.ext0 e) rfl, when_dec wb (ptr_of hB ⟨_, _, _, fun w' e => (rb w' e).2, ?_⟩)⟩)⟩
    refine SameLabels_c (hcr.ext0 Ed) hlr (hcq.ext0 Ed) hlq (by omega) fun w25 e25 => ⟨_, rfl, e25, sel_intro (fun hl => no (fun e => ?_) _ (Ed.trans e25).drew) (fun hl => ?_)⟩
    · have hl := nf_ hl
      exact absurd (congrArg (·.2) e) (of_decide_eq_false hl)
    · have hl : r.l = q.l := of_decide_eq_true (nt_ hl)
      refine ⟨_, _, _, cadd (pd.ext0 e25) rfl, when_dec wa (ptr_of hA ⟨_, (ra _ e25).1, _, _, _, cadd (qd.ext0 e25) rfl, when_dec wb (ptr_of hB ⟨_, (rb _ e25).1, sel_intro (fun hs => no (fun e => ?_) _ (Ed.trans e25).drew) (fun hs => ?_)⟩)⟩)⟩
      · have : r.s = q.s := congrArg (·.1) e
        rw [this] at hs; simp at hs
      · have hs : r.s = q.s := by simpa using hs
        rw [up64 i (by omega)]
        refine ⟨⟨i + 1, rfl, by omega, (e13'.trans e25).drew, ?_⟩, by simp only [Int.toNat_natCast]; omega⟩
        rw [snoc_at hr, snoc_at hq, List.map_append, List.map_append, he]
        simp [DRow.pr, hs, hl]
  · have : i = a.l := by omega
    subst this
    rw [List.take_of_length_le (by omega), List.take_of_length_le (by omega)] at he
    have := k w13 E13
    rw [decide_eq_true he] at this
    exact this
/-- Rows and what they tell. -/
theorem rows_same {a b : List DRow} (ha : RisD a) (hb : RisD b) : a.map DRow.pr = b.map DRow.pr ↔ labD a = labD b := by
  have hm : ∀ {c : List DRow}, RisD c → ∀ y : Int × List Lab, y ∈ c.map DRow.pr ↔ labD c y.1 = some y.2 := fun {c} hc y => by
    rw [List.mem_map, labD_some hc]
    constructor
    · rintro ⟨r, hr, rfl⟩; exact ⟨r, hr, rfl, rfl⟩
    · rintro ⟨r, hr, h1, h2⟩; exact ⟨r, hr, Prod.ext h1 h2⟩
  have hp : ∀ {c : List DRow}, RisD c → (c.map DRow.pr).Pairwise fun x y => x.1 < y.1 := fun {c} hc => by
    rw [List.pairwise_map]; exact hc
  have nd : ∀ {c : List (Int × List Lab)}, (c.Pairwise fun x y => x.1 < y.1) → c.Nodup := fun h => h.imp fun h e => by rw [e] at h; omega
  constructor
  · intro e
    funext i
    refine Option.ext fun l => ?_
    have h1 := hm ha (i, l)
    have h2 := hm hb (i, l)
    rw [e] at h1
    exact h1.symm.trans h2
  · intro e
    refine List.Perm.eq_of_pairwise (le := fun x y : Int × List Lab => x.1 < y.1) (fun x y _ _ h1 h2 => by omega) (hp ha) (hp hb) ((List.perm_ext_iff_of_nodup (nd (hp ha)) (nd (hp hb))).2 fun y => ?_)
    rw [hm ha, hm hb, e]
end Go.Proofs.YtpipenkaaodlgaaGreatDoor
