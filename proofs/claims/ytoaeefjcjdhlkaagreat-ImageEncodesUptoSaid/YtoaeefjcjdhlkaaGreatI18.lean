/- Image: bytes.Equal, bytes.Clone, the document's sum; the small example. -/
import Derived.Test.YtoaeefjcjdhlkaaGreatI17
import Derived.Lib.SlBytesConst
set_option linter.unusedVariables false
set_option linter.unusedSimpArgs false
namespace Go.Proofs.YtoaeefjcjdhlkaaGreat
open Go Go.V Go.B

theorem uU8 : Tryz.prog.underlying 5 = some (.int .u8) := by kernel_rfl
theorem uStrT : Tryz.prog.underlying 9 = some .string := by kernel_rfl
theorem unb_inj {a b : List UInt8} (h : unb a = unb b) : a = b := by rw [← bs_unb a, h, bs_unb]
theorem equalB_c {w : World} {A A' : Option Addr} {n n' c c' : Nat} {x y : List UInt8} (hx : Cells w A (BL.flat x)) (hl : x.length = n) (hy : Cells w A' (BL.flat y)) (hl' : y.length = n') {R : Ending → World → Prop} (k : R (.returned (.bool (decide (x = y)))) w) : Calls Tryz.prog 16 #[.slice A n c, .slice A' n' c'] w R := by
  apply bytes_Equal_nf
  refine ⟨_, _, conv_B (P := Tryz.prog) (e := 5) uB uU8 uStrT hx hl, _, _, conv_B (P := Tryz.prog) (e := 5) uB uU8 uStrT hy hl', ?_⟩
  rw [beqs]
  have e : decide (unb x = unb y) = decide (x = y) := by
    rw [decide_eq_decide]
    exact ⟨unb_inj, fun h => by rw [h]⟩
  rw [e]
  exact k
theorem OwnL.many {α : Type} {L : Lay α} {w : World} {B n c m cy : Nat} {e : TypeId} {A Y : Option Addr} {xs ys : List α} {P : Program} {t ty : TypeId} {z : Value} {bytes : Nat} (ht : P.underlying t = some (.slice e)) (hi : (P.info? e).map (fun i => (i.zero, i.size, i.bytes)) = some (some z, L.sz, bytes)) (hz : z.cells.size = L.sz) (hb0 : 0 < bytes)
    (own : OwnL L w B e A n c xs) (hy : Cells w Y (L.flat ys)) (hm : ys.length = m) (hB : B ≤ w.heap.size) (hn : (n + m) * bytes ≤ 140737488355328) :
    ∃ A' c' w2, (Builtin.append_ #[t, t] ty #[.slice A n c, .slice Y m cy]).run P w = .ok (.slice A' (n + m) c') w2 ∧ OwnL L w2 B e A' (n + m) c' (xs ++ ys) ∧ Ext (ownF A) w w2 ∧ (ownF A' = ownF A ∨ ownF A' = [w.heap.size]) := by
  obtain ⟨A', c', w2, hr, ho, he, hat⟩ := appR (P := P) (ty := ty) (m := m) (cy := cy) (Y := Y) ht hi hz L.pos hb0 own (ys := L.flat ys) (by rw [L.flat_len, hm]) hy (L.flat_one _) hB hn
  refine ⟨A', c', w2, hr, ?_, he, hat⟩
  unfold OwnL
  rw [L.flat_app]
  exact ho
theorem own_empty {α : Type} {L : Lay α} {w w' : World} {e : TypeId} (h : w' = w.alloc (.cells #[] e)) : OwnL L w' w.heap.size e (some ⟨w.heap.size, 0, none⟩) 0 0 [] ∧ Ext [] w w' ∧ w'.heap.size = w.heap.size + 1 := by
  obtain ⟨b1, x1, z1⟩ := box_new (cs := []) h
  exact ⟨own_of b1 (Nat.le_refl _) (Nat.le_refl _) (by simp only [maxLen]; omega) (by simp) (by simp [Lay.flat_nil]), x1, z1⟩
theorem clone_c {w : World} {A : Option Addr} {n c : Nat} {b : List UInt8} (hx : Cells w A (BL.flat b)) (hl : b.length = n) (hn : n ≤ 140737488355328) {R : Ending → World → Prop}
    (k : ∀ A' c' w', Ext [] w w' → OwnL BL w' w.heap.size 5 A' n c' b → R (.returned (.slice A' n c')) w') : Calls Tryz.prog 22 #[.slice A n c] w R := by
  apply bytes_Clone_nf
  cases A with
  | none =>
    have hb : b = [] := by
      cases b with
      | nil => rfl
      | cons x r =>
        obtain ⟨ad, h, _⟩ := hx 0 (.int .u8 (x.toNat : Int)) (by rw [BL_flat]; rfl)
        cases h
    subst hb
    simp at hl
    subst hl
    exact sel_true rfl (k none 0 w (Ext.refl _ _) (OwnL.nil _ _ _))
  | some a =>
    refine sel_false rfl fun w2 h2 => ?_
    obtain ⟨o2, x2, z2⟩ := own_empty (L := BL) h2
    obtain ⟨A3, c3, w4, hr, ho, he, hat⟩ := OwnL.many (P := Tryz.prog) (t := 28) (ty := 28) (cy := c) uB iB rfl (by omega) o2 (hx.ext0 x2) hl (by omega) (by omega)
    rw [Nat.zero_add, List.nil_append] at ho
    rw [Nat.zero_add] at hr
    exact ⟨A3, n, c3, w4, hr, k A3 c3 w4 (x2.trans' he fun x hx => by simp [ownF] at hx; subst hx; exact .inr (Nat.le_refl _)) ho⟩
theorem refsum_c {w : World} {A : Option Addr} {n c : Nat} {b : List UInt8} (hc : Cells w A (BL.flat b)) (hl : b.length = n) (hn : n < 4611686018427387904) {R : Ending → World → Prop} (k : R (.returned (.int .u64 ((sumS b : Nat) : Int))) w) : Calls Tryz.prog 42 #[.slice A n c] w R := by
  apply berthref26_Sum_nf
  refine ⟨fun h t w' => ∃ a : Nat, t = a ∧ a ≤ n ∧ h = (((b.take a).foldl fnvStep 14695981039346656037 : Nat) : Int) ∧ w' = w, fun _ t _ => n - t.toNat, ⟨0, rfl, by omega, by simp, rfl⟩, ?_⟩
  rintro _ _ _ _ ⟨a, rfl, ha, rfl, rfl⟩
  refine sel_dec (fun hlt => ?_) (fun hge => ?_)
  · obtain ⟨x, ad, hx, rfl, rd⟩ := Cells.row (L := BL) hc hl (a := a) (by omega)
    have hh := fnv_lt (b.take a) 14695981039346656037 (by omega)
    refine when_dec ⟨by omega, by omega⟩ (ptr_in ⟨_, by have := rd 0 _ rfl; rw [Addr.add_zero'] at this; exact this, ?_⟩)
    have e : (b.take (a + 1)).foldl fnvStep 14695981039346656037 = fnvStep ((b.take a).foldl fnvStep 14695981039346656037) x := by
      rw [snoc_at hx, List.foldl_append, foldl_one]
    refine lt_eq (fnv_step _ _ hh) ?_
    rw [up64 a (by omega)]
    exact ⟨⟨a + 1, rfl, by omega, by rw [e], rfl⟩, by simp only [Int.toNat_natCast]; omega⟩
  · obtain rfl : a = n := by omega
    rw [List.take_of_length_le (by omega)]
    exact k
theorem pow_byte (j : Nat) : 2 ^ (8 * j) = 256 ^ j := by rw [Nat.pow_mul]
/-- Bytes of the call's own, or a full list. -/
inductive Bts (w : World) (B : Nat) (A : Option Addr) (n c : Nat) (x : List UInt8) : Prop where
  | own (h : OwnL BL w B 5 A n c x)
  | full (g : Nat) (hA : A = some ⟨g, 0, none⟩) (hg : B ≤ g) (hlt : g < w.heap.size) (hc : c = n) (h : Cells w A (BL.flat x)) (hl : x.length = n)
theorem Bts.cells {w : World} {B : Nat} {A : Option Addr} {n c : Nat} {x : List UInt8} (h : Bts w B A n c x) : Cells w A (BL.flat x) := by
  cases h with
  | own h => exact h.cells
  | full g hA hg hlt hc h hl => exact h
theorem Bts.len {w : World} {B : Nat} {A : Option Addr} {n c : Nat} {x : List UInt8} (h : Bts w B A n c x) : x.length = n := by
  cases h with
  | own h => exact h.len
  | full g hA hg hlt hc h hl => exact hl
theorem Bts.base {w : World} {B : Nat} {A : Option Addr} {n c : Nat} {x : List UInt8} (h : Bts w B A n c x) : ∀ b ∈ ownF A, B ≤ b ∧ b < w.heap.size := by
  cases h with
  | own h => exact h.base
  | full g hA hg hlt hc h hl => subst hA; intro b hb; simp [ownF] at hb; subst hb; exact ⟨hg, hlt⟩
theorem Bts.ext0 {w w' : World} {B : Nat} {A : Option Addr} {n c : Nat} {x : List UInt8} (h : Bts w B A n c x) (e : Ext [] w w') : Bts w' B A n c x := by
  cases h with
  | own h => exact .own (h.ext0 e)
  | full g hA hg hlt hc h hl => exact .full g hA hg (by have := e.size; omega) hc (h.ext0 e) hl
/-- append to a full list: into a new block. -/
theorem grow_B {w : World} {g n m cy : Nat} {Y : Option Addr} {x y : List UInt8} (hx : Cells w (some ⟨g, 0, none⟩) (BL.flat x)) (hxl : x.length = n) (hy : Cells w Y (BL.flat y)) (hyl : y.length = m) (hm : 0 < m) (hn : n + m ≤ 140737488355328) :
    ∃ c' w', (Builtin.append_ #[28, 28] 28 #[.slice (some ⟨g, 0, none⟩) n n, .slice Y m cy]).run Tryz.prog w = .ok (.slice (some ⟨w.heap.size, 0, none⟩) (n + m) c') w' ∧ OwnL BL w' w.heap.size 5 (some ⟨w.heap.size, 0, none⟩) (n + m) c' (x ++ y) ∧ Ext [] w w' := by
  obtain ⟨i, hi1, hz0, hz1, hz2⟩ := info_parts iB
  obtain ⟨ad, rfl, _⟩ := hy 0 ((BL.flat y)[0]'(by rw [BL_flat, List.length_map]; omega)) (List.getElem?_eq_getElem _)
  have hr := run_append_grow (P := Tryz.prog) (w := w) 28 28 5 i (.int .u8 0) uB hi1 hz0 ⟨g, 0, none⟩ n n (BL.flat x) (by rw [BL_flat, List.length_map, hz1, hxl, Nat.mul_one]) (fun j v hj => by obtain ⟨ad', h, hc⟩ := hx j v hj; cases h; exact hc)
    ad m cy (BL.flat y) (by rw [BL_flat, List.length_map, hz1, hyl, Nat.mul_one]) (fun j v hj => by obtain ⟨ad', h, hc⟩ := hy j v hj; cases h; exact hc) (by omega) (by omega) (growslice_fits (by omega) (by rw [hz2]; omega))
  have hge := grownCap_ge w (n + m) n 5
  refine ⟨_, _, hr, own_of (BlkT.new w.drew ((BL.flat x).toArray ++ (BL.flat y).toArray ++ Builtin.zeroCells (Value.cells (.int .u8 0)) (grownCap w (n + m) n 5 - (n + m))).toList _) (Nat.le_refl _) hge (grownCap_le_maxLen w (n + m) n 5 (by simp only [maxLen]; omega)) ?_ ?_, ((Ext.refl _ w).drew).alloc _⟩
  · have hz : (Value.cells (.int .u8 0)).size = 1 := rfl
    simp only [Array.length_toList, Array.size_append, List.size_toArray, size_zeroCells, hz, BL_flat, List.length_map, hxl, hyl]
    show _ = _ * 1
    omega
  · show List.take ((n + m) * 1) _ = _
    rw [Nat.mul_one, Array.toList_append, Array.toList_append, BL.flat_app, List.take_left' (by simp [BL_flat, hxl, hyl])]
/-- One byte more. -/
theorem Bts.more {w w11 : World} {B : Nat} {A : Option Addr} {n c : Nat} {x : List UInt8} {y : UInt8} (h : Bts w B A n c x) (h11 : w11 = w.alloc (.cells ⟨BL.enc y⟩ 5)) (hB : B ≤ w.heap.size) (hn : n + 1 ≤ 140737488355328) :
    ∃ A' c' w', (Builtin.append_ #[28, 28] 28 #[.slice A n c, .slice (some ⟨w.heap.size, 0, none⟩) 1 1]).run Tryz.prog w11 = .ok (.slice A' (n + 1) c') w' ∧ OwnL BL w' B 5 A' (n + 1) c' (x ++ [y]) ∧ Ext (ownF A) w w' ∧ ∀ z ∈ ownF A', z ∈ ownF A ∨ w.heap.size ≤ z := by
  obtain ⟨b11, x11, z11⟩ := box_new h11
  cases h with
  | own h =>
    obtain ⟨A2, c2, w2, hr, ho, he, hat⟩ := OwnL.more (P := Tryz.prog) (t := 28) (ty := 28) (T := 5) uB iB rfl (by omega) (h.ext0 x11) b11 (by omega) (by omega)
    refine ⟨A2, c2, w2, hr, ho, x11.up.trans he, fun z hz => ?_⟩
    rcases hat with h | h
    · exact .inl (h ▸ hz)
    · rw [h] at hz; simp at hz; exact .inr (by omega)
  | full g hA hg hlt hc h hl =>
    subst hA
    subst hc
    have hy : Cells w11 (some ⟨w.heap.size, 0, none⟩) (BL.flat [y]) := Cells.of_blk b11.blk
    obtain ⟨c', w', hr, ho, he⟩ := grow_B (m := 1) (cy := 1) (h.ext0 x11) hl hy rfl (by omega) (by omega)
    exact ⟨_, c', w', hr, ho.weaken (by omega), (x11.trans he).up, fun z hz => by simp [ownF] at hz; exact .inr (by omega)⟩
set_option maxRecDepth 8000 in
theorem signed_c {w : World} {A : Option Addr} {n c B : Nat} {b : List UInt8} (own : Bts w B A n c b) (hB : B ≤ w.heap.size) (hn : n + 8 ≤ 140737488355328) {R : Ending → World → Prop}
    (k : ∀ A' c' w', Ext (ownF A) w w' → OwnL BL w' B 5 A' (n + 8) c' (signS b) → R (.returned (.slice A' (n + 8) c')) w') : Calls Tryz.prog 21 #[.slice A n c] w R := by
  apply berthref26_Signed_nf
  refine refsum_c own.cells own.len (by omega) ⟨_, rfl, ?_⟩
  refine ⟨fun A' l c' i w' => ∃ j : Nat, i = (j : Int) ∧ j ≤ 8 ∧ l = n + j ∧ Ext (ownF A) w w' ∧ Bts w' B A' l c' (b ++ le8 j (sumS b)) ∧ (0 < j → OwnL BL w' B 5 A' l c' (b ++ le8 j (sumS b))) ∧ ∀ y ∈ ownF A', y ∈ ownF A ∨ w.heap.size ≤ y, fun _ _ _ i _ => 8 - i.toNat, ⟨0, rfl, by omega, rfl, Ext.refl _ _, by simpa [le8] using own, fun h => by omega, fun y hy => .inl hy⟩, ?_⟩
  rintro A' _ c' _ _ w10 ⟨j, rfl, hj, rfl, e10, o10, oo10, f10⟩
  refine sel_dec (fun hlt => ?_) (fun hge => ?_)
  rotate_left
  · obtain rfl : j = 8 := by omega
    exact k A' c' w10 e10 (oo10 (by omega))
  have ew : IntKind.wrap .i64 (8 * (j : Int)) = ((8 * j : Nat) : Int) := by rw [wi64 (by omega)]; omega
  rw [ew, Int.toNat_natCast, Nat.min_eq_left (by omega)]
  refine when_dec (by omega) fun w11 h11 => ?_
  have ef : Int.fdiv ((sumS b : Nat) : Int) (2 ^ (8 * j)) = ((sumS b / 256 ^ j : Nat) : Int) := by
    have e2 : ((2 : Int) ^ (8 * j)) = ((256 ^ j : Nat) : Int) := by rw [← pow_byte j]; push_cast; rfl
    rw [e2, Int.fdiv_eq_ediv_of_nonneg _ (Int.natCast_nonneg _)]
    norm_cast
  rw [ef, u8_mod] at h11
  have hs10 := e10.size
  obtain ⟨A2, c2, w2, hr, ho, he, hat⟩ := o10.more h11 (by omega) (by omega)
  refine ⟨A2, _, c2, w2, hr, ?_⟩
  rw [up64 j (by omega)]
  have ho' : OwnL BL w2 B 5 A2 (n + j + 1) c2 (b ++ le8 (j + 1) (sumS b)) := by
    rw [le8_snoc, ← List.append_assoc]
    exact ho
  refine ⟨⟨j + 1, rfl, by omega, by omega, e10.trans' he (fun y hy => f10 y hy), .own ho', fun _ => ho', fun y hy => ?_⟩, by simp only [Int.toNat_natCast]; omega⟩
  rcases hat y hy with h | h
  · exact f10 y h
  · exact .inr (by omega)
/-- []byte(the head), and bytes behind it. -/
theorem head_c {w w6 : World} {A : Option Addr} {n c : Nat} {x : List UInt8} (hx : Cells w A (BL.flat x)) (hl : x.length = n) (hn : n ≤ 140737488351232) (h6 : w6 = w.alloc (.cells #[.int .u8 98, .int .u8 101, .int .u8 114, .int .u8 116, .int .u8 104, .int .u8 1] 5)) :
    ∃ w8, (convert 28 28 (.slice (some ⟨w.heap.size, 0, none⟩) 6 6)).run Tryz.prog w6 = .ok (.slice (some ⟨w.heap.size, 0, none⟩) 6 6) w8 ∧
    ∃ A' c' w', (Builtin.append_ #[28, 28] 28 #[.slice (some ⟨w.heap.size, 0, none⟩) 6 6, .slice A n c]).run Tryz.prog w8 = .ok (.slice A' (6 + n) c') w' ∧ Bts w' w.heap.size A' (6 + n) c' (headB ++ x) ∧ Ext [] w w' := by
  subst h6
  refine ⟨_, Go.Lib.run_convert_bytes_const (P := Tryz.prog) w 28 5 _ 6 6 uB uU8, ?_⟩
  generalize h8 : w.alloc (.cells #[.int .u8 98, .int .u8 101, .int .u8 114, .int .u8 116, .int .u8 104, .int .u8 1] 5 (6, 6 + 1)) = w8
  have x8 : Ext [] w w8 := by rw [← h8]; exact (Ext.refl _ _).alloc _
  have s8 : w8.heap.size = w.heap.size + 1 := by rw [← h8]; exact World.size_alloc _ _
  have c8 : Cells w8 (some ⟨w.heap.size, 0, none⟩) (BL.flat headB) := fun j v hj => ⟨_, rfl, by
    rw [Addr.add0, ← h8, World.cell?_alloc_mark]
    rw [BL_flat] at hj
    rw [← Array.getElem?_toList]
    exact hj⟩
  show ∃ A' c' w', (Builtin.append_ _ _ _).run Tryz.prog w8 = _ ∧ _
  rcases Nat.eq_zero_or_pos n with h0 | h0
  · subst h0
    obtain rfl : x = [] := List.eq_nil_of_length_eq_zero hl
    refine ⟨_, 6, w8, ?_, .full w.heap.size rfl (Nat.le_refl _) (by omega) rfl (by simpa using c8) rfl, x8⟩
    obtain ⟨i, hi1, hz0, hz1, hz2⟩ := info_parts iB
    cases A <;> simp [Builtin.append_, run_underlying uB, sizeOf, typeInfo, hi1, Builtin.lenOf, Builtin.firstCells, storeCells, loadCells, loadCellsFrom]
  · obtain ⟨c', w', hr, ho, he⟩ := grow_B (cy := c) c8 rfl (hx.ext0 x8) hl h0 (by show 6 + n ≤ _; omega)
    exact ⟨_, c', w', hr, .own (ho.weaken (by omega)), x8.trans he⟩
end Go.Proofs.YtoaeefjcjdhlkaaGreat
