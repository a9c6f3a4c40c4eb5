/- Image: the document's pieces of a node, a pod, a state. (Printed by gen_ref.py.) -/
import Derived.Test.YtoaeefjcjdhlkaaGreatI28
set_option linter.unusedVariables false
set_option linter.unusedSimpArgs false
namespace Go.Proofs.YtoaeefjcjdhlkaaGreat
open Go Go.V Go.B

/-- In the midst of a function with a box. -/
structure PCur (W w0 : World) (A0 : Option Addr) (q : Nat) (cs : List Value) (T : TypeId) (A : Option Addr) (n c : Nat) (ps : List Piece) (w : World) : Prop where
  p : Pc W w A n c ps
  blk : BlkT w q cs T
  nq : q ∉ ownF A
  ex : Ext (ownF A0) w0 w
  gr : ∀ y ∈ ownF A, y ∈ ownF A0 ∨ w0.heap.size ≤ y
  q0 : w0.heap.size ≤ q
  W0 : W.heap.size ≤ w0.heap.size
theorem PCur.start {W w w' : World} {A : Option Addr} {n c : Nat} {ps : List Piece} {cs : List Value} {T : TypeId} (h : Pc W w A n c ps) (h' : w' = w.alloc (.cells ⟨cs⟩ T)) : PCur W w A w.heap.size cs T A n c ps w' := by
  obtain ⟨b, x, z⟩ := box_new h'
  exact ⟨h.ext0 x, b, fun hm => by have := (h.own.base _ hm).2; omega, x.up, fun y hy => .inl hy, Nat.le_refl _, h.ex.size⟩
theorem PCur.step {W w0 w w' : World} {A0 A A' : Option Addr} {q n c n' c' : Nat} {cs : List Value} {T : TypeId} {ps ps' : List Piece} (k : PCur W w0 A0 q cs T A n c ps w) (h : Pc W w' A' n' c' ps') (e : Ext (ownF A) w w') (g : ∀ y ∈ ownF A', y ∈ ownF A ∨ w.heap.size ≤ y) : PCur W w0 A0 q cs T A' n' c' ps' w' := by
  have hq := k.blk.lt
  have hs := k.ex.size
  refine ⟨h, k.blk.ext e k.nq, fun hm => ?_, k.ex.trans' e k.gr, fun y hy => ?_, k.q0, k.W0⟩
  · rcases g q hm with h1 | h1
    · exact k.nq h1
    · omega
  · rcases g y hy with h1 | h1
    · exact k.gr y h1
    · exact .inr (by omega)
theorem PCur.box {W w0 w w' : World} {A0 A : Option Addr} {q n c : Nat} {cs cs' : List Value} {T : TypeId} {ps : List Piece} (k : PCur W w0 A0 q cs T A n c ps w) (b : BlkT w' q cs' T) (e : Ext [q] w w') : PCur W w0 A0 q cs' T A n c ps w' := by
  have hq := k.q0
  refine ⟨⟨k.p.ex.trans' e fun y hy => ?_, k.p.own.ext e fun y hy hm => ?_⟩, b, k.nq, k.ex.trans' e fun y hy => ?_, k.gr, k.q0, k.W0⟩
  · simp at hy; subst hy; have := k.W0; exact .inr (by omega)
  · simp at hm; subst hm; exact k.nq hy
  · simp at hy; subst hy; exact .inr hq
set_option maxRecDepth 8000 in
set_option maxHeartbeats 1000000 in
theorem pNode_c {W w : World} {A : Option Addr} {n c : Nat} {ps : List Piece} (h : Pc W w A n c ps) {r : List D} {vs : List Value} (ht : tyR tNode r) (hr : RepR W r vs) (hn : n + (flatR r).length ≤ 1000000000000) {R : Ending → World → Prop} (k : After W w A (ps ++ flatR r) R) :
    Calls Tryz.prog 45 #[.slice A n c, .agg ⟨vs⟩] w R := by
  obtain ⟨s0, r0, u0, rfl, rfl, z0, ht, hr⟩ := inv_str ht hr
  obtain ⟨s1, A1, n1, c1, m1, xs1, r1, u1, rfl, rfl, z1, ht, hr⟩ := inv_list ht hr
  obtain ⟨s2, A2, n2, c2, m2, xs2, r2, u2, rfl, rfl, z2, ht, hr⟩ := inv_list ht hr
  obtain ⟨s3, A3, n3, c3, m3, xs3, r3, u3, rfl, rfl, z3, ht, hr⟩ := inv_list ht hr
  obtain ⟨s4, r4, u4, rfl, rfl, ht, hr⟩ := inv_bool ht hr
  obtain ⟨rfl, rfl⟩ := inv_nil ht hr
  apply berthref26_node_nf
  intro wb hb
  have c := PCur.start (cs := [.string s0, .slice A1 n1 c1, .slice A2 n2 c2, .slice A3 n3 c3, .bool s4]) h hb
  refine ⟨_, cadd c.blk rfl, pText_c c.p (by have h0 := h.len; have h1 := c.p.len; simp [flatR, flatD] at hn h1; omega) fun A' n' c' w' p e g => ⟨_, _, _, rfl, ?_⟩⟩
  replace c := c.step p e g
  clear p e g
  refine ⟨_, _, _, cadd c.blk rfl, pLabels_c c.p z1 (by have h0 := h.len; have h1 := c.p.len; have h2 := z1.ll; simp [flatR, flatD] at hn h1; omega) fun A' n' c' w' p e g => ⟨_, _, _, rfl, ?_⟩⟩
  replace c := c.step p e g
  clear p e g
  refine ⟨_, _, _, cadd c.blk rfl, pCount_c c.p (by have h0 := h.len; have h1 := c.p.len; simp [flatR, flatD] at hn h1; omega) fun A' n' c' w' p e g => ⟨_, _, _, rfl, ?_⟩⟩
  replace c := c.step p e g
  clear p e g
  have hll2 := z2.ll
  have hle2 := z2.le
  refine ⟨fun A' l' c' t w' => ∃ a : Nat, t = (a : Int) ∧ a ≤ n2 ∧ PCur W w A w.heap.size [.string s0, .slice A1 n1 c1, .slice A2 n2 c2, .slice A3 n3 c3, .bool s4] 53 A' l' c' (((ps ++ [.text s0]) ++ (.count s1.length :: flatL s1)) ++ (.count n2 :: flatL (s2.take a))) w', fun _ _ _ t _ => n2 - t.toNat, ⟨0, rfl, by omega, by simpa [flatL] using c⟩, ?_⟩
  clear c
  rintro A' n' c' _ _ w' ⟨a, rfl, ha, c⟩
  refine ⟨_, _, _, cadd c.blk rfl, sel_dec (fun hlt => ?_) (fun hge => ?_)⟩
  · obtain ⟨r, vs, ad, hra, htr, hrr, rfl, hts, rd, -⟩ := z2.row (a := a) (by omega)
    have hsn := flatL_snoc hra
    have hmo := flatL_take_le (l := s2) (a := a + 1)
    rw [hsn, List.length_append] at hmo
    replace rd := row_at (k := 3) hts rfl (Ext.refl [] W) rd
    obtain ⟨sq0, rq0, uq0, rfl, rfl, zq0, htr, hrr⟩ := inv_str htr hrr
    obtain ⟨sq1, rq1, uq1, rfl, rfl, zq1, htr, hrr⟩ := inv_str htr hrr
    obtain ⟨sq2, rq2, uq2, rfl, rfl, zq2, htr, hrr⟩ := inv_str htr hrr
    obtain ⟨rfl, rfl⟩ := inv_nil htr hrr
    simp [flatR, flatD] at hmo
    refine ⟨_, _, _, cadd c.blk rfl, when_dec ⟨by omega, by omega⟩ (ptr_in ⟨_, cell_ext c.p.ex (rd 0 _ rfl) (by simp), pText_c c.p (by have h0 := h.len; have h1 := c.p.len; simp [flatR, flatD] at hn h1; omega) fun A' n' c' w' p e g => ⟨_, _, _, rfl, ?_⟩⟩)⟩
    replace c := c.step p e g
    clear p e g
    refine ⟨_, _, _, cadd c.blk rfl, when_dec ⟨by omega, by omega⟩ (ptr_in ⟨_, cell_ext c.p.ex (rd 1 _ rfl) (by simp), pText_c c.p (by have h0 := h.len; have h1 := c.p.len; simp [flatR, flatD] at hn h1; omega) fun A' n' c' w' p e g => ⟨_, _, _, rfl, ?_⟩⟩)⟩
    replace c := c.step p e g
    clear p e g
    refine ⟨_, _, _, cadd c.blk rfl, when_dec ⟨by omega, by omega⟩ (ptr_in ⟨_, cell_ext c.p.ex (rd 2 _ rfl) (by simp), pText_c c.p (by have h0 := h.len; have h1 := c.p.len; simp [flatR, flatD] at hn h1; omega) fun A' n' c' w' p e g => ⟨_, _, _, rfl, ?_⟩⟩)⟩
    replace c := c.step p e g
    clear p e g
    rw [up64 a (by omega)]
    exact ⟨⟨a + 1, rfl, by omega, by rw [hsn]; simpa [flatR, flatD] using c⟩, by simp only [Int.toNat_natCast]; omega⟩
  obtain rfl : n2 = a := by omega
  rw [List.take_of_length_le (by omega)] at c
  refine ⟨_, _, _, cadd c.blk rfl, pItems_c c.p z3 (by have h0 := h.len; have h1 := c.p.len; have h2 := z3.ll; simp [flatR, flatD] at hn h1; omega) fun A' n' c' w' p e g => ⟨_, _, _, rfl, ?_⟩⟩
  replace c := c.step p e g
  clear p e g
  refine ⟨_, cadd c.blk rfl, pTruth_c c.p (by have h0 := h.len; have h1 := c.p.len; simp [flatR, flatD] at hn h1; omega) fun A' n' c' w' p e g => ⟨_, _, _, rfl, ?_⟩⟩
  replace c := c.step p e g
  clear p e g
  exact k _ _ _ _ (by simpa [flatR, flatD, *] using c.p) c.ex c.gr
set_option maxRecDepth 8000 in
set_option maxHeartbeats 1000000 in
theorem pPod_c {W w : World} {A : Option Addr} {n c : Nat} {ps : List Piece} (h : Pc W w A n c ps) {r : List D} {vs : List Value} (ht : tyR tPod r) (hr : RepR W r vs) (hn : n + (flatR r).length ≤ 1000000000000) {R : Ending → World → Prop} (k : After W w A (ps ++ flatR r) R) :
    Calls Tryz.prog 46 #[.slice A n c, .agg ⟨vs⟩] w R := by
  obtain ⟨s0, r0, u0, rfl, rfl, z0, ht, hr⟩ := inv_str ht hr
  obtain ⟨s1, A1, n1, c1, m1, xs1, r1, u1, rfl, rfl, z1, ht, hr⟩ := inv_list ht hr
  obtain ⟨s2, A2, n2, c2, m2, xs2, r2, u2, rfl, rfl, z2, ht, hr⟩ := inv_list ht hr
  obtain ⟨s3, A3, n3, c3, m3, xs3, r3, u3, rfl, rfl, z3, ht, hr⟩ := inv_list ht hr
  obtain ⟨s4, r4, u4, rfl, rfl, z4, ht, hr⟩ := inv_str ht hr
  obtain ⟨s5, A5, n5, c5, m5, xs5, r5, u5, rfl, rfl, z5, ht, hr⟩ := inv_list ht hr
  obtain ⟨s6, A6, n6, c6, m6, xs6, r6, u6, rfl, rfl, z6, ht, hr⟩ := inv_list ht hr
  obtain ⟨s7, r7, u7, rfl, rfl, z7, ht, hr⟩ := inv_int ht hr
  obtain ⟨rfl, rfl⟩ := inv_nil ht hr
  apply berthref26_pod_nf
  intro wb hb
  have c := PCur.start (cs := [.string s0, .slice A1 n1 c1, .slice A2 n2 c2, .slice A3 n3 c3, .string s4, .slice A5 n5 c5, .slice A6 n6 c6, .int .i64 s7]) h hb
  refine ⟨_, cadd c.blk rfl, pText_c c.p (by have h0 := h.len; have h1 := c.p.len; simp [flatR, flatD] at hn h1; omega) fun A' n' c' w' p e g => ⟨_, _, _, rfl, ?_⟩⟩
  replace c := c.step p e g
  clear p e g
  refine ⟨_, _, _, cadd c.blk rfl, pLabels_c c.p z1 (by have h0 := h.len; have h1 := c.p.len; have h2 := z1.ll; simp [flatR, flatD] at hn h1; omega) fun A' n' c' w' p e g => ⟨_, _, _, rfl, ?_⟩⟩
  replace c := c.step p e g
  clear p e g
  refine ⟨_, _, _, cadd c.blk rfl, pItems_c c.p z2 (by have h0 := h.len; have h1 := c.p.len; have h2 := z2.ll; simp [flatR, flatD] at hn h1; omega) fun A' n' c' w' p e g => ⟨_, _, _, rfl, ?_⟩⟩
  replace c := c.step p e g
  clear p e g
  refine ⟨_, _, _, cadd c.blk rfl, pCount_c c.p (by have h0 := h.len; have h1 := c.p.len; simp [flatR, flatD] at hn h1; omega) fun A' n' c' w' p e g => ⟨_, _, _, rfl, ?_⟩⟩
  replace c := c.step p e g
  clear p e g
  have hll3 := z3.ll
  have hle3 := z3.le
  refine ⟨fun A' l' c' t w' => ∃ a : Nat, t = (a : Int) ∧ a ≤ n3 ∧ PCur W w A w.heap.size [.string s0, .slice A1 n1 c1, .slice A2 n2 c2, .slice A3 n3 c3, .string s4, .slice A5 n5 c5, .slice A6 n6 c6, .int .i64 s7] 68 A' l' c' ((((ps ++ [.text s0]) ++ (.count s1.length :: flatL s1)) ++ (.count s2.length :: flatL s2)) ++ (.count n3 :: flatL (s3.take a))) w', fun _ _ _ t _ => n3 - t.toNat, ⟨0, rfl, by omega, by simpa [flatL] using c⟩, ?_⟩
  clear c
  rintro A' n' c' _ _ w' ⟨a, rfl, ha, c⟩
  refine ⟨_, _, _, cadd c.blk rfl, sel_dec (fun hlt => ?_) (fun hge => ?_)⟩
  · obtain ⟨r, vs, ad, hra, htr, hrr, rfl, hts, rd, -⟩ := z3.row (a := a) (by omega)
    have hsn := flatL_snoc hra
    have hmo := flatL_take_le (l := s3) (a := a + 1)
    rw [hsn, List.length_append] at hmo
    replace rd := row_at (k := 4) hts rfl (Ext.refl [] W) rd
    obtain ⟨sq0, rq0, uq0, rfl, rfl, zq0, htr, hrr⟩ := inv_str htr hrr
    obtain ⟨sq1, rq1, uq1, rfl, rfl, zq1, htr, hrr⟩ := inv_str htr hrr
    obtain ⟨sq2, rq2, uq2, rfl, rfl, zq2, htr, hrr⟩ := inv_str htr hrr
    obtain ⟨sq3, rq3, uq3, rfl, rfl, zq3, htr, hrr⟩ := inv_str htr hrr
    obtain ⟨rfl, rfl⟩ := inv_nil htr hrr
    simp [flatR, flatD] at hmo
    refine ⟨_, _, _, cadd c.blk rfl, when_dec ⟨by omega, by omega⟩ (ptr_in ⟨_, _, _, _, fun i v hv => cell_ext c.p.ex (rd i v hv) (by simp), fun wo ho => ?_⟩)⟩
    have d := PCur.start (cs := [.string ByteArray.empty, .string ByteArray.empty, .string ByteArray.empty, .string ByteArray.empty]) c.p ho
    obtain ⟨wp, hsp, bp, xp⟩ := storeW (P := Tryz.prog) (t := 123) (n := 4) iToleration d.blk (vs := [.string sq0, .string sq1, .string sq2, .string sq3]) rfl rfl (by simp [Value.oneCell'])
    replace d := d.box bp xp
    refine ⟨wp, hsp, ?_⟩
    refine ⟨_, cadd d.blk rfl, pText_c d.p (by have h0 := h.len; have h1 := d.p.len; simp [flatR, flatD] at hn h1; omega) fun A' n' c' w' p e g => ⟨_, _, _, rfl, ?_⟩⟩
    replace d := d.step p e g
    clear p e g
    refine ⟨_, cadd d.blk rfl, pText_c d.p (by have h0 := h.len; have h1 := d.p.len; simp [flatR, flatD] at hn h1; omega) fun A' n' c' w' p e g => ⟨_, _, _, rfl, ?_⟩⟩
    replace d := d.step p e g
    clear p e g
    refine ⟨_, cadd d.blk rfl, pText_c d.p (by have h0 := h.len; have h1 := d.p.len; simp [flatR, flatD] at hn h1; omega) fun A' n' c' w' p e g => ⟨_, _, _, rfl, ?_⟩⟩
    replace d := d.step p e g
    clear p e g
    refine ⟨_, cadd d.blk rfl, pText_c d.p (by have h0 := h.len; have h1 := d.p.len; simp [flatR, flatD] at hn h1; omega) fun A' n' c' w' p e g => ⟨_, _, _, rfl, ?_⟩⟩
    replace d := d.step p e g
    clear p e g
    replace c := c.step d.p d.ex d.gr
    rw [up64 a (by omega)]
    exact ⟨⟨a + 1, rfl, by omega, by rw [hsn]; simpa [flatR, flatD] using c⟩, by simp only [Int.toNat_natCast]; omega⟩
  obtain rfl : n3 = a := by omega
  rw [List.take_of_length_le (by omega)] at c
  refine ⟨_, cadd c.blk rfl, pText_c c.p (by have h0 := h.len; have h1 := c.p.len; simp [flatR, flatD] at hn h1; omega) fun A' n' c' w' p e g => ⟨_, _, _, rfl, ?_⟩⟩
  replace c := c.step p e g
  clear p e g
  refine ⟨_, _, _, cadd c.blk rfl, pCount_c c.p (by have h0 := h.len; have h1 := c.p.len; simp [flatR, flatD] at hn h1; omega) fun A' n' c' w' p e g => ⟨_, _, _, rfl, ?_⟩⟩
  replace c := c.step p e g
  clear p e g
  have hll5 := z5.ll
  have hle5 := z5.le
  refine ⟨fun A' l' c' t w' => ∃ a : Nat, t = (a : Int) ∧ a ≤ n5 ∧ PCur W w A w.heap.size [.string s0, .slice A1 n1 c1, .slice A2 n2 c2, .slice A3 n3 c3, .string s4, .slice A5 n5 c5, .slice A6 n6 c6, .int .i64 s7] 68 A' l' c' ((((((ps ++ [.text s0]) ++ (.count s1.length :: flatL s1)) ++ (.count s2.length :: flatL s2)) ++ (.count n3 :: flatL s3)) ++ [.text s4]) ++ (.count n5 :: flatL (s5.take a))) w', fun _ _ _ t _ => n5 - t.toNat, ⟨0, rfl, by omega, by simpa [flatL] using c⟩, ?_⟩
  clear c
  rintro A' n' c' _ _ w' ⟨a, rfl, ha, c⟩
  refine ⟨_, _, _, cadd c.blk rfl, sel_dec (fun hlt => ?_) (fun hge => ?_)⟩
  · obtain ⟨r, vs, ad, hra, htr, hrr, rfl, hts, rd, -⟩ := z5.row (a := a) (by omega)
    have hsn := flatL_snoc hra
    have hmo := flatL_take_le (l := s5) (a := a + 1)
    rw [hsn, List.length_append] at hmo
    replace rd := row_at (k := 2) hts rfl (Ext.refl [] W) rd
    obtain ⟨sq0, rq0, uq0, rfl, rfl, zq0, htr, hrr⟩ := inv_str htr hrr
    obtain ⟨sq1, rq1, uq1, rfl, rfl, zq1, htr, hrr⟩ := inv_str htr hrr
    obtain ⟨rfl, rfl⟩ := inv_nil htr hrr
    simp [flatR, flatD] at hmo
    refine ⟨_, _, _, cadd c.blk rfl, when_dec ⟨by omega, by omega⟩ (ptr_in ⟨_, cell_ext c.p.ex (rd 0 _ rfl) (by simp), pText_c c.p (by have h0 := h.len; have h1 := c.p.len; simp [flatR, flatD] at hn h1; omega) fun A' n' c' w' p e g => ⟨_, _, _, rfl, ?_⟩⟩)⟩
    replace c := c.step p e g
    clear p e g
    refine ⟨_, _, _, cadd c.blk rfl, when_dec ⟨by omega, by omega⟩ (ptr_in ⟨_, cell_ext c.p.ex (rd 1 _ rfl) (by simp), pText_c c.p (by have h0 := h.len; have h1 := c.p.len; simp [flatR, flatD] at hn h1; omega) fun A' n' c' w' p e g => ⟨_, _, _, rfl, ?_⟩⟩)⟩
    replace c := c.step p e g
    clear p e g
    rw [up64 a (by omega)]
    exact ⟨⟨a + 1, rfl, by omega, by rw [hsn]; simpa [flatR, flatD] using c⟩, by simp only [Int.toNat_natCast]; omega⟩
  obtain rfl : n5 = a := by omega
  rw [List.take_of_length_le (by omega)] at c
  refine ⟨_, _, _, cadd c.blk rfl, pCount_c c.p (by have h0 := h.len; have h1 := c.p.len; simp [flatR, flatD] at hn h1; omega) fun A' n' c' w' p e g => ⟨_, _, _, rfl, ?_⟩⟩
  replace c := c.step p e g
  clear p e g
  have hll6 := z6.ll
  have hle6 := z6.le
  refine ⟨fun A' l' c' t w' => ∃ a : Nat, t = (a : Int) ∧ a ≤ n6 ∧ PCur W w A w.heap.size [.string s0, .slice A1 n1 c1, .slice A2 n2 c2, .slice A3 n3 c3, .string s4, .slice A5 n5 c5, .slice A6 n6 c6, .int .i64 s7] 68 A' l' c' (((((((ps ++ [.text s0]) ++ (.count s1.length :: flatL s1)) ++ (.count s2.length :: flatL s2)) ++ (.count n3 :: flatL s3)) ++ [.text s4]) ++ (.count n5 :: flatL s5)) ++ (.count n6 :: flatL (s6.take a))) w', fun _ _ _ t _ => n6 - t.toNat, ⟨0, rfl, by omega, by simpa [flatL] using c⟩, ?_⟩
  clear c
  rintro A' n' c' _ _ w' ⟨a, rfl, ha, c⟩
  refine ⟨_, _, _, cadd c.blk rfl, sel_dec (fun hlt => ?_) (fun hge => ?_)⟩
  · obtain ⟨r, vs, ad, hra, htr, hrr, rfl, hts, rd, -⟩ := z6.row (a := a) (by omega)
    have hsn := flatL_snoc hra
    have hmo := flatL_take_le (l := s6) (a := a + 1)
    rw [hsn, List.length_append] at hmo
    replace rd := row_at (k := 2) hts rfl (Ext.refl [] W) rd
    obtain ⟨sq0, rq0, uq0, rfl, rfl, zq0, htr, hrr⟩ := inv_int htr hrr
    obtain ⟨sq1, rq1, uq1, rfl, rfl, zq1, htr, hrr⟩ := inv_str htr hrr
    obtain ⟨rfl, rfl⟩ := inv_nil htr hrr
    simp [flatR, flatD] at hmo
    refine ⟨_, _, _, cadd c.blk rfl, when_dec ⟨by omega, by omega⟩ (ptr_in ⟨_, cell_ext c.p.ex (rd 0 _ rfl) (by simp), pNum_c c.p (by have h0 := h.len; have h1 := c.p.len; simp [flatR, flatD] at hn h1; omega) fun A' n' c' w' p e g => ⟨_, _, _, rfl, ?_⟩⟩)⟩
    replace c := c.step p e g
    clear p e g
    refine ⟨_, _, _, cadd c.blk rfl, when_dec ⟨by omega, by omega⟩ (ptr_in ⟨_, cell_ext c.p.ex (rd 1 _ rfl) (by simp), pText_c c.p (by have h0 := h.len; have h1 := c.p.len; simp [flatR, flatD] at hn h1; omega) fun A' n' c' w' p e g => ⟨_, _, _, rfl, ?_⟩⟩)⟩
    replace c := c.step p e g
    clear p e g
    rw [up64 a (by omega)]
    exact ⟨⟨a + 1, rfl, by omega, by rw [hsn]; simpa [flatR, flatD] using c⟩, by simp only [Int.toNat_natCast]; omega⟩
  obtain rfl : n6 = a := by omega
  rw [List.take_of_length_le (by omega)] at c
  refine ⟨_, cadd c.blk rfl, pNum_c c.p (by have h0 := h.len; have h1 := c.p.len; simp [flatR, flatD] at hn h1; omega) fun A' n' c' w' p e g => ⟨_, _, _, rfl, ?_⟩⟩
  replace c := c.step p e g
  clear p e g
  exact k _ _ _ _ (by simpa [flatR, flatD, *] using c.p) c.ex c.gr
set_option maxRecDepth 8000 in
set_option maxHeartbeats 1000000 in
theorem Flat_c {w : World} {r : List D} {vs : List Value} (ht : tyR tState r) (hr : RepR w r vs) (hn : (flatR r).length ≤ 1000000000000) {R : Ending → World → Prop} (k : ∀ A n c w', Pc w w' A n c (flatR r) → R (.returned (.slice A n c)) w') :
    Calls Tryz.prog 23 #[.agg ⟨vs⟩] w R := by
  obtain ⟨s0, r0, u0, rfl, rfl, z0, ht, hr⟩ := inv_int ht hr
  obtain ⟨s1, r1, u1, rfl, rfl, z1, ht, hr⟩ := inv_int ht hr
  obtain ⟨s2, A2, n2, c2, m2, xs2, r2, u2, rfl, rfl, z2, ht, hr⟩ := inv_list ht hr
  obtain ⟨s3, A3, n3, c3, m3, xs3, r3, u3, rfl, rfl, z3, ht, hr⟩ := inv_list ht hr
  obtain ⟨s4, A4, n4, c4, m4, xs4, r4, u4, rfl, rfl, z4, ht, hr⟩ := inv_list ht hr
  obtain ⟨rfl, rfl⟩ := inv_nil ht hr
  apply berthref26_Flat_nf
  intro wb hb
  have h := Pc.nil w
  have c := PCur.start (cs := [.int .i64 s0, .int .i64 s1, .slice A2 n2 c2, .slice A3 n3 c3, .slice A4 n4 c4]) h hb
  refine ⟨_, cadd c.blk rfl, pNum_c c.p (by have h1 := c.p.len; simp [flatR, flatD] at hn h1; omega) fun A' n' c' w' p e g => ⟨_, _, _, rfl, ?_⟩⟩
  replace c := c.step p e g
  clear p e g
  refine ⟨_, cadd c.blk rfl, pNum_c c.p (by have h1 := c.p.len; simp [flatR, flatD] at hn h1; omega) fun A' n' c' w' p e g => ⟨_, _, _, rfl, ?_⟩⟩
  replace c := c.step p e g
  clear p e g
  refine ⟨_, _, _, cadd c.blk rfl, pCount_c c.p (by have h1 := c.p.len; simp [flatR, flatD] at hn h1; omega) fun A' n' c' w' p e g => ⟨_, _, _, rfl, ?_⟩⟩
  replace c := c.step p e g
  clear p e g
  have hll2 := z2.ll
  have hle2 := z2.le
  refine ⟨fun A' l' c' t w' => ∃ a : Nat, t = (a : Int) ∧ a ≤ n2 ∧ PCur w w none w.heap.size [.int .i64 s0, .int .i64 s1, .slice A2 n2 c2, .slice A3 n3 c3, .slice A4 n4 c4] 26 A' l' c' (((([] : List Piece) ++ [.num s0]) ++ [.num s1]) ++ (.count n2 :: flatL (s2.take a))) w', fun _ _ _ t _ => n2 - t.toNat, ⟨0, rfl, by omega, by simpa [flatL] using c⟩, ?_⟩
  clear c
  rintro A' n' c' _ _ w' ⟨a, rfl, ha, c⟩
  refine ⟨_, _, _, cadd c.blk rfl, sel_dec (fun hlt => ?_) (fun hge => ?_)⟩
  · obtain ⟨r, vs, ad, hra, htr, hrr, rfl, hts, rd, -⟩ := z2.row (a := a) (by omega)
    have hsn := flatL_snoc hra
    have hmo := flatL_take_le (l := s2) (a := a + 1)
    rw [hsn, List.length_append] at hmo
    replace rd := row_at (k := 5) hts rfl (Ext.refl [] w) rd
    have htc := htr
    have hrc := hrr
    obtain ⟨sq0, rq0, uq0, rfl, rfl, zq0, htr, hrr⟩ := inv_str htr hrr
    obtain ⟨sq1, Aq1, nq1, cq1, mq1, xsq1, rq1, uq1, rfl, rfl, zq1, htr, hrr⟩ := inv_list htr hrr
    obtain ⟨sq2, Aq2, nq2, cq2, mq2, xsq2, rq2, uq2, rfl, rfl, zq2, htr, hrr⟩ := inv_list htr hrr
    obtain ⟨sq3, Aq3, nq3, cq3, mq3, xsq3, rq3, uq3, rfl, rfl, zq3, htr, hrr⟩ := inv_list htr hrr
    obtain ⟨sq4, rq4, uq4, rfl, rfl, htr, hrr⟩ := inv_bool htr hrr
    obtain ⟨rfl, rfl⟩ := inv_nil htr hrr
    refine ⟨_, _, _, cadd c.blk rfl, when_dec ⟨by omega, by omega⟩ (ptr_in ⟨_, _, _, _, _, _, _, _, _, _, _, fun i v hv => cell_ext c.p.ex (rd i v hv) (by simp), pNode_c c.p htc hrc (by have h1 := c.p.len; simp [flatR, flatD] at hn h1 hmo ⊢; omega) fun A' n' c' w' p e g => ⟨_, _, _, rfl, ?_⟩⟩)⟩
    replace c := c.step p e g
    clear p e g
    rw [up64 a (by omega)]
    exact ⟨⟨a + 1, rfl, by omega, by rw [hsn]; simpa [flatR, flatD] using c⟩, by simp only [Int.toNat_natCast]; omega⟩
  obtain rfl : n2 = a := by omega
  rw [List.take_of_length_le (by omega)] at c
  refine ⟨_, _, _, cadd c.blk rfl, pCount_c c.p (by have h1 := c.p.len; simp [flatR, flatD] at hn h1; omega) fun A' n' c' w' p e g => ⟨_, _, _, rfl, ?_⟩⟩
  replace c := c.step p e g
  clear p e g
  have hll3 := z3.ll
  have hle3 := z3.le
  refine ⟨fun A' l' c' t w' => ∃ a : Nat, t = (a : Int) ∧ a ≤ n3 ∧ PCur w w none w.heap.size [.int .i64 s0, .int .i64 s1, .slice A2 n2 c2, .slice A3 n3 c3, .slice A4 n4 c4] 26 A' l' c' ((((([] : List Piece) ++ [.num s0]) ++ [.num s1]) ++ (.count n2 :: flatL s2)) ++ (.count n3 :: flatL (s3.take a))) w', fun _ _ _ t _ => n3 - t.toNat, ⟨0, rfl, by omega, by simpa [flatL] using c⟩, ?_⟩
  clear c
  rintro A' n' c' _ _ w' ⟨a, rfl, ha, c⟩
  refine ⟨_, _, _, cadd c.blk rfl, sel_dec (fun hlt => ?_) (fun hge => ?_)⟩
  · obtain ⟨r, vs, ad, hra, htr, hrr, rfl, hts, rd, -⟩ := z3.row (a := a) (by omega)
    have hsn := flatL_snoc hra
    have hmo := flatL_take_le (l := s3) (a := a + 1)
    rw [hsn, List.length_append] at hmo
    replace rd := row_at (k := 9) hts rfl (Ext.refl [] w) rd
    have htc := htr
    have hrc := hrr
    obtain ⟨sq0, rq0, uq0, rfl, rfl, zq0, htr, hrr⟩ := inv_str htr hrr
    obtain ⟨sq1, Aq1, nq1, cq1, mq1, xsq1, rq1, uq1, rfl, rfl, zq1, htr, hrr⟩ := inv_list htr hrr
    obtain ⟨sq2, Aq2, nq2, cq2, mq2, xsq2, rq2, uq2, rfl, rfl, zq2, htr, hrr⟩ := inv_list htr hrr
    obtain ⟨sq3, Aq3, nq3, cq3, mq3, xsq3, rq3, uq3, rfl, rfl, zq3, htr, hrr⟩ := inv_list htr hrr
    obtain ⟨sq4, rq4, uq4, rfl, rfl, zq4, htr, hrr⟩ := inv_str htr hrr
    obtain ⟨sq5, Aq5, nq5, cq5, mq5, xsq5, rq5, uq5, rfl, rfl, zq5, htr, hrr⟩ := inv_list htr hrr
    obtain ⟨sq6, Aq6, nq6, cq6, mq6, xsq6, rq6, uq6, rfl, rfl, zq6, htr, hrr⟩ := inv_list htr hrr
    obtain ⟨sq7, rq7, uq7, rfl, rfl, zq7, htr, hrr⟩ := inv_int htr hrr
    obtain ⟨sq8, rq8, uq8, rfl, rfl, zq8, htr, hrr⟩ := inv_str htr hrr
    obtain ⟨rfl, rfl⟩ := inv_nil htr hrr
    have hsp := tyR_split (ts := tPod) (us := [.str]) (a := [.str sq0, .list sq1, .list sq2, .list sq3, .str sq4, .list sq5, .list sq6, .int sq7]) (b := [.str sq8]) rfl htc
    have hsr := RepR.split (w := w) (a := [.str sq0, .list sq1, .list sq2, .list sq3, .str sq4, .list sq5, .list sq6, .int sq7]) (b := [.str sq8]) (va := [.string sq0, .slice Aq1 nq1 cq1, .slice Aq2 nq2 cq2, .slice Aq3 nq3 cq3, .string sq4, .slice Aq5 nq5 cq5, .slice Aq6 nq6 cq6, .int .i64 sq7]) (vb := [.string sq8]) rfl hrc
    refine ⟨_, _, _, cadd c.blk rfl, when_dec ⟨by omega, by omega⟩ (ptr_in ⟨_, _, _, _, _, _, _, _, _, _, _, _, _, _, _, _, _, _, fun i v hv => cell_ext c.p.ex (cells9 rd i v hv) (by simp), pPod_c c.p hsp.1 hsr.1 (by have h1 := c.p.len; simp [flatR, flatD] at hn h1 hmo ⊢; omega) fun A' n' c' w' p e g => ⟨_, _, _, rfl, ?_⟩⟩)⟩
    replace c := c.step p e g
    clear p e g
    refine ⟨_, _, _, cadd c.blk rfl, when_dec ⟨by omega, by omega⟩ (ptr_in ⟨_, cell_ext c.p.ex (rd 8 _ rfl) (by simp), pText_c c.p (by have h1 := c.p.len; simp [flatR, flatD] at hn h1 hmo ⊢; omega) fun A' n' c' w' p e g => ⟨_, _, _, rfl, ?_⟩⟩)⟩
    replace c := c.step p e g
    clear p e g
    rw [up64 a (by omega)]
    exact ⟨⟨a + 1, rfl, by omega, by rw [hsn]; simpa [flatR, flatD] using c⟩, by simp only [Int.toNat_natCast]; omega⟩
  obtain rfl : n3 = a := by omega
  rw [List.take_of_length_le (by omega)] at c
  refine ⟨_, _, _, cadd c.blk rfl, pCount_c c.p (by have h1 := c.p.len; simp [flatR, flatD] at hn h1; omega) fun A' n' c' w' p e g => ⟨_, _, _, rfl, ?_⟩⟩
  replace c := c.step p e g
  clear p e g
  have hll4 := z4.ll
  have hle4 := z4.le
  refine ⟨fun A' l' c' t w' => ∃ a : Nat, t = (a : Int) ∧ a ≤ n4 ∧ PCur w w none w.heap.size [.int .i64 s0, .int .i64 s1, .slice A2 n2 c2, .slice A3 n3 c3, .slice A4 n4 c4] 26 A' l' c' (((((([] : List Piece) ++ [.num s0]) ++ [.num s1]) ++ (.count n2 :: flatL s2)) ++ (.count n3 :: flatL s3)) ++ (.count n4 :: flatL (s4.take a))) w', fun _ _ _ t _ => n4 - t.toNat, ⟨0, rfl, by omega, by simpa [flatL] using c⟩, ?_⟩
  clear c
  rintro A' n' c' _ _ w' ⟨a, rfl, ha, c⟩
  refine ⟨_, _, _, cadd c.blk rfl, sel_dec (fun hlt => ?_) (fun hge => ?_)⟩
  · obtain ⟨r, vs, ad, hra, htr, hrr, rfl, hts, rd, -⟩ := z4.row (a := a) (by omega)
    have hsn := flatL_snoc hra
    have hmo := flatL_take_le (l := s4) (a := a + 1)
    rw [hsn, List.length_append] at hmo
    replace rd := row_at (k := 12) hts rfl (Ext.refl [] w) rd
    have htc := htr
    have hrc := hrr
    obtain ⟨sq0, rq0, uq0, rfl, rfl, zq0, htr, hrr⟩ := inv_str htr hrr
    obtain ⟨sq1, Aq1, nq1, cq1, mq1, xsq1, rq1, uq1, rfl, rfl, zq1, htr, hrr⟩ := inv_list htr hrr
    obtain ⟨sq2, Aq2, nq2, cq2, mq2, xsq2, rq2, uq2, rfl, rfl, zq2, htr, hrr⟩ := inv_list htr hrr
    obtain ⟨sq3, Aq3, nq3, cq3, mq3, xsq3, rq3, uq3, rfl, rfl, zq3, htr, hrr⟩ := inv_list htr hrr
    obtain ⟨sq4, rq4, uq4, rfl, rfl, zq4, htr, hrr⟩ := inv_str htr hrr
    obtain ⟨sq5, Aq5, nq5, cq5, mq5, xsq5, rq5, uq5, rfl, rfl, zq5, htr, hrr⟩ := inv_list htr hrr
    obtain ⟨sq6, Aq6, nq6, cq6, mq6, xsq6, rq6, uq6, rfl, rfl, zq6, htr, hrr⟩ := inv_list htr hrr
    obtain ⟨sq7, rq7, uq7, rfl, rfl, zq7, htr, hrr⟩ := inv_int htr hrr
    obtain ⟨sq8, rq8, uq8, rfl, rfl, zq8, htr, hrr⟩ := inv_int htr hrr
    obtain ⟨sq9, rq9, uq9, rfl, rfl, zq9, htr, hrr⟩ := inv_int htr hrr
    obtain ⟨sq10, rq10, uq10, rfl, rfl, zq10, htr, hrr⟩ := inv_int htr hrr
    obtain ⟨sq11, rq11, uq11, rfl, rfl, htr, hrr⟩ := inv_bool htr hrr
    obtain ⟨rfl, rfl⟩ := inv_nil htr hrr
    have hsp := tyR_split (ts := tPod) (us := [.int, .int, .int, .bool]) (a := [.str sq0, .list sq1, .list sq2, .list sq3, .str sq4, .list sq5, .list sq6, .int sq7]) (b := [.int sq8, .int sq9, .int sq10, .bool sq11]) rfl htc
    have hsr := RepR.split (w := w) (a := [.str sq0, .list sq1, .list sq2, .list sq3, .str sq4, .list sq5, .list sq6, .int sq7]) (b := [.int sq8, .int sq9, .int sq10, .bool sq11]) (va := [.string sq0, .slice Aq1 nq1 cq1, .slice Aq2 nq2 cq2, .slice Aq3 nq3 cq3, .string sq4, .slice Aq5 nq5 cq5, .slice Aq6 nq6 cq6, .int .i64 sq7]) (vb := [.int .i64 sq8, .int .i64 sq9, .int .i64 sq10, .bool sq11]) rfl hrc
    refine ⟨_, _, _, cadd c.blk rfl, when_dec ⟨by omega, by omega⟩ (ptr_in ⟨_, _, _, _, _, _, _, _, _, _, _, _, _, _, _, _, _, _, _, _, _, _, fun i v hv => cell_ext c.p.ex (rd i v hv) (by simp), fun wo ho => ?_⟩)⟩
    have d := PCur.start (cs := [.string ByteArray.empty, .slice none 0 0, .slice none 0 0, .slice none 0 0, .string ByteArray.empty, .slice none 0 0, .slice none 0 0, .int .i64 0, .int .i64 0, .int .i64 0, .int .i64 0, .bool false]) c.p ho
    obtain ⟨wp, hsp', bp, xp⟩ := storeW (P := Tryz.prog) (t := 73) (n := 12) iPending d.blk (vs := [.string sq0, .slice Aq1 nq1 cq1, .slice Aq2 nq2 cq2, .slice Aq3 nq3 cq3, .string sq4, .slice Aq5 nq5 cq5, .slice Aq6 nq6 cq6, .int .i64 sq7, .int .i64 sq8, .int .i64 sq9, .int .i64 sq10, .bool sq11]) rfl rfl (by simp [Value.oneCell'])
    replace d := d.box bp xp
    refine ⟨wp, hsp', _, _, _, _, _, _, _, _, _, _, _, _, _, _, _, _, _, _, cells8 d.blk, pPod_c d.p hsp.1 hsr.1 (by have h1 := d.p.len; simp [flatR, flatD] at hn h1 hmo ⊢; omega) fun A' n' c' w' p e g => ⟨_, _, _, rfl, ?_⟩⟩
    replace d := d.step p e g
    clear p e g
    refine ⟨_, cadd d.blk rfl, pNum_c d.p (by have h1 := d.p.len; simp [flatR, flatD] at hn h1 hmo ⊢; omega) fun A' n' c' w' p e g => ⟨_, _, _, rfl, ?_⟩⟩
    replace d := d.step p e g
    clear p e g
    refine ⟨_, cadd d.blk rfl, pNum_c d.p (by have h1 := d.p.len; simp [flatR, flatD] at hn h1 hmo ⊢; omega) fun A' n' c' w' p e g => ⟨_, _, _, rfl, ?_⟩⟩
    replace d := d.step p e g
    clear p e g
    refine ⟨_, cadd d.blk rfl, pNum_c d.p (by have h1 := d.p.len; simp [flatR, flatD] at hn h1 hmo ⊢; omega) fun A' n' c' w' p e g => ⟨_, _, _, rfl, ?_⟩⟩
    replace d := d.step p e g
    clear p e g
    refine ⟨_, cadd d.blk rfl, pTruth_c d.p (by have h1 := d.p.len; simp [flatR, flatD] at hn h1 hmo ⊢; omega) fun A' n' c' w' p e g => ⟨_, _, _, rfl, ?_⟩⟩
    replace d := d.step p e g
    clear p e g
    replace c := c.step d.p d.ex d.gr
    rw [up64 a (by omega)]
    exact ⟨⟨a + 1, rfl, by omega, by rw [hsn]; simpa [flatR, flatD] using c⟩, by simp only [Int.toNat_natCast]; omega⟩
  obtain rfl : n4 = a := by omega
  rw [List.take_of_length_le (by omega)] at c
  exact k _ _ _ _ (by simpa [flatR, flatD, *] using c.p)
end Go.Proofs.YtoaeefjcjdhlkaaGreat
