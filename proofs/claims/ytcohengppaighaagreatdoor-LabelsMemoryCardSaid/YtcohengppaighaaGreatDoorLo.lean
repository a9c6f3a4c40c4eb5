/- Labels: the scripts that come in. -/
import Derived.Test.YtcohengppaighaaGreatDoorLl
import Derived.Test.YtcohengppaighaaGreatDoorLb8
set_option linter.unusedVariables false
set_option linter.unusedSimpArgs false
namespace Go.Proofs.YtcohengppaighaaGreatDoor
open Go Go.V Go.B
open Go.ChangeShapes Go.WideShapes Go.ChangeAt Go.RowKit

/-- One step of a script. -/
structure LOp where
  kind : Int
  A : Option Addr
  n : Nat
  c : Nat
  l : List Lab
  B : Option Addr
  m : Nat
  c2 : Nat
  l2 : List Lab
  D : Option Addr
  q : Nat
  c3 : Nat
  ds : List DL
  text : ByteArray
  key : ByteArray
  value : ByteArray
  num : Int
def LOp.cells (o : LOp) : List Value := [.int .i64 o.kind, .slice o.A o.n o.c, .slice o.B o.m o.c2, .slice o.D o.q o.c3, .string o.text, .string o.key, .string o.value, .int .i64 o.num]
structure LOp.In (o : LOp) (w : World) : Prop where
  l : LIn w o.A o.n o.l
  l2 : LIn w o.B o.m o.l2
  ds : DIn w o.D o.q o.ds
  text : o.text.size ≤ 140737488351232
  key : o.key.size ≤ 140737488351232
  value : o.value.size ≤ 140737488351232
  lo : -9223372036854775808 ≤ o.num
  hi : o.num ≤ 9223372036854775807
theorem LOp.In.ext0 {o : LOp} {w w' : World} (h : o.In w) (e : Ext [] w w') : o.In w' := ⟨h.l.ext0 e, h.l2.ext0 e, h.ds.ext0 e, h.text, h.key, h.value, h.lo, h.hi⟩
theorem LOp.one (o : LOp) : ∀ v ∈ o.cells, v.oneCell' = true := fun v hv => by
  simp only [LOp.cells, List.mem_cons, List.not_mem_nil, or_false] at hv
  rcases hv with rfl | rfl | rfl | rfl | rfl | rfl | rfl | rfl <;> rfl
def OL : Lay LOp := ⟨LOp.cells, 8, fun _ => rfl, LOp.one, by omega⟩
structure OpsAt (w : World) (A : Option Addr) (n : Nat) (ops : List LOp) : Prop where
  c : Cells w A (OL.flat ops)
  len : ops.length = n
  in_ : ∀ o ∈ ops, o.In w
  sz : n * 136 ≤ 140737488351232
theorem OpsAt.ext0 {w w' : World} {A : Option Addr} {n : Nat} {ops : List LOp} (h : OpsAt w A n ops) (e : Ext [] w w') : OpsAt w' A n ops := ⟨h.c.ext0 e, h.len, fun o ho => (h.in_ o ho).ext0 e, h.sz⟩
theorem OpsAt.read {w : World} {A : Option Addr} {n : Nat} {ops : List LOp} (h : OpsAt w A n ops) {a : Nat} (ha : a < n) : ∃ o ad, ops[a]? = some o ∧ A = some ad ∧ cellsC (fun a v => w.cell? a = some v) (ad.add (Int.toNat (a : Int) * 8)) o.cells := h.c.row h.len ha
section
variable {H : Type} {enc : TypeId × Value → H} {w : World}
theorem open_bool1 {n : Nat} {cs : List Value} {y : DataW H × List MemPlace} (h : DataW.trod enc Tryz.prog w 0 (fun _ => true) true n 4 cs = some y) : ∃ b : Bool, cs = [.bool b] := by
  obtain ⟨b, h1, _⟩ := DataW.trod_bool Tryz.underlying4 h
  exact ⟨b, h1⟩
theorem five {α : Type} {cs : List α} {a b c d e : α} (h : cs.length = 5) (h0 : cs[0]? = some a) (h1 : cs[1]? = some b) (h2 : cs[2]? = some c) (h3 : cs[3]? = some d) (h4 : cs[4]? = some e) : cs = [a, b, c, d, e] := by
  match cs, h with
  | [_, _, _, _, _], _ => simp at h0 h1 h2 h3 h4; simp [h0, h1, h2, h3, h4]
theorem eight {α : Type} {cs : List α} {a b c d e f g i : α} (h : cs.length = 8) (h0 : cs[0]? = some a) (h1 : cs[1]? = some b) (h2 : cs[2]? = some c) (h3 : cs[3]? = some d) (h4 : cs[4]? = some e) (h5 : cs[5]? = some f) (h6 : cs[6]? = some g) (h7 : cs[7]? = some i) : cs = [a, b, c, d, e, f, g, i] := by
  match cs, h with
  | [_, _, _, _, _, _, _, _], _ => simp at h0 h1 h2 h3 h4 h5 h6 h7; simp [h0, h1, h2, h3, h4, h5, h6, h7]
set_option maxRecDepth 8000 in
theorem open_diff1 {n : Nat} {cs : List Value} {z : DataW H × List MemPlace} (h : DataW.trod enc Tryz.prog w 0 (fun _ => true) true n 59 cs = some z) (hw : ∀ k ∈ z.1.weights Tryz.prog 59, k ≤ reachBytes) :
    ∃ x : DL, cs = DLL.enc x ∧ x.key.size ≤ 140737488351232 ∧ x.old.size ≤ 140737488351232 ∧ x.new.size ≤ 140737488351232 := by
  obtain ⟨hl, m, hf⟩ := trod_fields Tryz.underlying59 (by kernel_rfl) (by kernel_rfl) h hw
  obtain ⟨v0, y0, e0, t0, w0⟩ := hf 0 _ rfl
  obtain ⟨v1, y1, e1, t1, w1⟩ := hf 1 _ rfl
  obtain ⟨v2, y2, e2, t2, w2⟩ := hf 2 _ rfl
  obtain ⟨v3, y3, e3, t3, -⟩ := hf 3 _ rfl
  obtain ⟨v4, y4, e4, t4, -⟩ := hf 4 _ rfl
  obtain ⟨a, r0, z0⟩ := open_str1 t0 w0
  obtain ⟨b, r1, z1⟩ := open_str1 t1 w1
  obtain ⟨c, r2, z2⟩ := open_str1 t2 w2
  obtain ⟨d, r3⟩ := open_bool1 t3
  obtain ⟨e, r4⟩ := open_bool1 t4
  simp only [List.cons.injEq, and_true] at r0 r1 r2 r3 r4
  subst r0 r1 r2 r3 r4
  exact ⟨⟨a, b, c, d, e⟩, five hl e0 e1 e2 e3 e4, z0, z1, z2⟩
set_option maxRecDepth 8000 in
theorem open_diffs1 {fuel : Nat} {v : Value} {y : DataW H × List MemPlace} (h : DataW.trod enc Tryz.prog w 0 (fun _ => true) true fuel 23 [v] = some y) (hw : ∀ n ∈ y.1.weights Tryz.prog 23, n ≤ reachBytes) :
    ∃ A n c l, v = .slice A n c ∧ DIn w A n l := by
  obtain ⟨A, n, c, l, hv, hc, hlen, hin, hb⟩ := open_flat DLL (P := Tryz.prog) (t := 23) (e := 59) (Q := fun x : DL => x.key.size ≤ 140737488351232 ∧ x.old.size ≤ 140737488351232 ∧ x.new.size ≤ 140737488351232) Tryz.underlying23 (by kernel_rfl) (by decide) (fun _ _ _ h hw => open_diff1 h hw) h hw
  have eb : Tryz.prog.bytesOf 59 = 56 := by kernel_rfl
  rw [eb] at hb
  exact ⟨A, n, c, l, hv, hc, hlen, hin, hb⟩
set_option maxRecDepth 8000 in
theorem open_op1 {n : Nat} {cs : List Value} {z : DataW H × List MemPlace} (h : DataW.trod enc Tryz.prog w 0 (fun _ => true) true n 25 cs = some z) (hw : ∀ k ∈ z.1.weights Tryz.prog 25, k ≤ reachBytes) :
    ∃ o : LOp, cs = OL.enc o ∧ o.In w := by
  obtain ⟨hl, m, hf⟩ := trod_fields Tryz.underlying25 (by kernel_rfl) (by kernel_rfl) h hw
  obtain ⟨v0, y0, e0, t0, -⟩ := hf 0 _ rfl
  obtain ⟨v1, y1, e1, t1, w1⟩ := hf 1 _ rfl
  obtain ⟨v2, y2, e2, t2, w2⟩ := hf 2 _ rfl
  obtain ⟨v3, y3, e3, t3, w3⟩ := hf 3 _ rfl
  obtain ⟨v4, y4, e4, t4, w4⟩ := hf 4 _ rfl
  obtain ⟨v5, y5, e5, t5, w5⟩ := hf 5 _ rfl
  obtain ⟨v6, y6, e6, t6, w6⟩ := hf 6 _ rfl
  obtain ⟨v7, y7, e7, t7, -⟩ := hf 7 _ rfl
  obtain ⟨a0, r0, -⟩ := DataW.trod_int Tryz.underlying3 t0
  obtain ⟨a7, r7, -, wa⟩ := DataW.trod_int Tryz.underlying3 t7
  obtain ⟨A, n, c, l, rfl, hA⟩ := open_labs1 t1 w1
  obtain ⟨B, m, c2, l2, rfl, hB⟩ := open_labs1 t2 w2
  obtain ⟨D, q, c3, ds, rfl, hD⟩ := open_diffs1 t3 w3
  obtain ⟨s4, r4, z4⟩ := open_str1 t4 w4
  obtain ⟨s5, r5, z5⟩ := open_str1 t5 w5
  obtain ⟨s6, r6, z6⟩ := open_str1 t6 w6
  simp only [List.cons.injEq, and_true] at r0 r4 r5 r6 r7
  subst r0 r4 r5 r6 r7
  have wb : IntKind.min .i64 ≤ a7 ∧ a7 ≤ IntKind.max .i64 := by simpa [Lit.wf] using wa
  have q1 : IntKind.min .i64 = -9223372036854775808 := by decide
  have q2 : IntKind.max .i64 = 9223372036854775807 := by decide
  rw [q1, q2] at wb
  exact ⟨⟨a0, A, n, c, l, B, m, c2, l2, D, q, c3, ds, s4, s5, s6, a7⟩, eight hl e0 e1 e2 e3 e4 e5 e6 e7, hA, hB, hD, z4, z5, z6, wb.1, wb.2⟩
set_option maxRecDepth 8000 in
theorem open_op {base : Nat} {v : Value} {d : DataW H} {p : List MemPlace} (hok : Value.okWide Tryz.prog w .any base 25 v) (h : DataW.Trod enc Tryz.prog w 0 (fun _ => true) true 25 v d p) (hw : ∀ n ∈ d.weights Tryz.prog 25, n ≤ reachBytes) :
    ∃ o : LOp, v = .agg ⟨o.cells⟩ ∧ o.In w := by
  obtain ⟨cs, rfl, _⟩ := Go.WideShapes.okWide_struct Tryz.underlying25 hok
  obtain ⟨fuel, hf⟩ := h
  have hf' : DataW.trod enc Tryz.prog w 0 (fun _ => true) true fuel 25 cs.toList = some (d, p) := hf
  obtain ⟨o, hx, z⟩ := open_op1 hf' hw
  refine ⟨o, ?_, z⟩
  congr 1
  exact Array.toList_inj.1 hx
set_option maxRecDepth 8000 in
theorem open_ops {base : Nat} {v : Value} {d : DataW H} {p : List MemPlace} (hok : Value.okWide Tryz.prog w .any base 29 v) (h : DataW.Trod enc Tryz.prog w 0 (fun _ => true) true 29 v d p)
    (hw : ∀ n ∈ d.weights Tryz.prog 29, n ≤ reachBytes) : ∃ A n c ops, v = .slice A n c ∧ OpsAt w A n ops := by
  obtain ⟨a, l, c, rfl⟩ := Go.WideShapes.okWide_slice Tryz.underlying29 hok
  obtain ⟨fuel, hf⟩ := h
  have hf' : DataW.trod enc Tryz.prog w 0 (fun _ => true) true fuel 29 [.slice a l c] = some (d, p) := hf
  obtain ⟨A, n, c', ops, hv, hc, hlen, hin, hb⟩ := open_flat OL (P := Tryz.prog) (t := 29) (e := 25) (Q := fun o => o.In w) Tryz.underlying29 (by kernel_rfl) (by decide) (fun _ _ _ h hw => open_op1 h hw) hf' hw
  have eb : Tryz.prog.bytesOf 25 = 136 := by kernel_rfl
  rw [eb] at hb
  simp only [Value.slice.injEq] at hv
  obtain ⟨rfl, rfl, rfl⟩ := hv
  exact ⟨a, l, c, ops, rfl, hc, hlen, hin, hb⟩
end
end Go.Proofs.YtcohengppaighaaGreatDoor
