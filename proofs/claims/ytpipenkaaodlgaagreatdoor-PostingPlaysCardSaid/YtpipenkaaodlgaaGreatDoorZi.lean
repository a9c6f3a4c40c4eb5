/- Posting: the scripts that come in. -/
import Derived.Test.YtpipenkaaodlgaaGreatDoorZ9
import Derived.Test.YtpipenkaaodlgaaGreatDoorL2L
set_option linter.unusedVariables false
set_option linter.unusedSimpArgs false
namespace Go.Proofs.YtpipenkaaodlgaaGreatDoor
open Go Go.V Go.B
open Go.ChangeShapes Go.WideShapes Go.ChangeAt Go.RowKit

/-- Texts that are read. -/
structure SIn (w : World) (A : Option Addr) (n : Nat) (l : List ByteArray) : Prop where
  c : Cells w A (SL.flat l)
  len : l.length = n
  big : n * 16 ≤ 140737488351232
theorem SIn.ext0 {w w' : World} {A : Option Addr} {n : Nat} {l : List ByteArray} (h : SIn w A n l) (e : Ext [] w w') : SIn w' A n l := ⟨h.c.ext0 e, h.len, h.big⟩
/-- One step of a script. -/
structure POp where
  kind : Int
  x : Int
  n : Int
  A : Option Addr
  m : Nat
  c : Nat
  l : List Lab
  key : ByteArray
  value : ByteArray
  B : Option Addr
  m2 : Nat
  c2 : Nat
  vs : List ByteArray
def POp.cells (o : POp) : List Value := [.int .i64 o.kind, .int .i64 o.x, .int .i64 o.n, .slice o.A o.m o.c, .string o.key, .string o.value, .slice o.B o.m2 o.c2]
structure POp.In (o : POp) (w : World) : Prop where
  l : LIn w o.A o.m o.l
  vs : SIn w o.B o.m2 o.vs
  key : o.key.size ≤ 140737488351232
  value : o.value.size ≤ 140737488351232
  lb : o.m * 32 ≤ 140737488351232
  n0 : -9223372036854775808 ≤ o.n
  n1 : o.n ≤ 9223372036854775807
theorem POp.In.ext0 {o : POp} {w w' : World} (h : o.In w) (e : Ext [] w w') : o.In w' := ⟨h.l.ext0 e, h.vs.ext0 e, h.key, h.value, h.lb, h.n0, h.n1⟩
theorem POp.one (o : POp) : ∀ v ∈ o.cells, v.oneCell' = true := fun v hv => by
  simp only [POp.cells, List.mem_cons, List.not_mem_nil, or_false] at hv
  rcases hv with rfl | rfl | rfl | rfl | rfl | rfl | rfl <;> rfl
def OL : Lay POp := ⟨POp.cells, 7, fun _ => rfl, POp.one, by omega⟩
structure OpsAt (w : World) (A : Option Addr) (n : Nat) (ops : List POp) : Prop where
  c : Cells w A (OL.flat ops)
  len : ops.length = n
  in_ : ∀ o ∈ ops, o.In w
  sz : n * 104 ≤ 140737488351232
theorem OpsAt.ext0 {w w' : World} {A : Option Addr} {n : Nat} {ops : List POp} (h : OpsAt w A n ops) (e : Ext [] w w') : OpsAt w' A n ops := ⟨h.c.ext0 e, h.len, fun o ho => (h.in_ o ho).ext0 e, h.sz⟩
theorem OpsAt.read {w : World} {A : Option Addr} {n : Nat} {ops : List POp} (h : OpsAt w A n ops) {a : Nat} (ha : a < n) : ∃ o ad, ops[a]? = some o ∧ A = some ad ∧ cellsC (fun a v => w.cell? a = some v) (ad.add (Int.toNat (a : Int) * 7)) o.cells := h.c.row h.len ha
theorem own : ownKnob Tryz.prog.godebug = none := by kernel_rfl
theorem laidOut : laidOutB Tryz.prog = true := by kernel_rfl
section
variable {H : Type} {enc : TypeId × Value → H} {w : World}
theorem open_str1 {n : Nat} {cs : List Value} {y : DataW H × List MemPlace} (h : DataW.trod enc Tryz.prog w 0 (fun _ => true) true n 9 cs = some y) (hw : ∀ k ∈ y.1.weights Tryz.prog 9, k ≤ reachBytes) : ∃ s : ByteArray, cs = [.string s] ∧ s.size ≤ 140737488351232 := by
  obtain ⟨s, h1, rfl, _⟩ := DataW.trod_string Tryz.underlying9 h
  refine ⟨s, h1, ?_⟩
  have := hw s.data.toList.length (by simp [DataW.weights])
  rw [show s.data.toList.length = s.size from bs_len s] at this
  simp only [reachBytes] at this
  omega
set_option maxRecDepth 8000 in
theorem open_lab1 {n : Nat} {cs : List Value} {z : DataW H × List MemPlace} (h : DataW.trod enc Tryz.prog w 0 (fun _ => true) true n 33 cs = some z) (hw : ∀ k ∈ z.1.weights Tryz.prog 33, k ≤ reachBytes) :
    ∃ x : Lab, cs = LbL.enc x ∧ x.1.size ≤ 140737488351232 ∧ x.2.size ≤ 140737488351232 := by
  obtain ⟨hl, m, hf⟩ := trod_fields Tryz.underlying33 (by kernel_rfl) (by kernel_rfl) h hw
  obtain ⟨v0, y0, e0, t0, w0⟩ := hf 0 _ rfl
  obtain ⟨v1, y1, e1, t1, w1⟩ := hf 1 _ rfl
  obtain ⟨a, r0, z0⟩ := open_str1 t0 w0
  obtain ⟨b, r1, z1⟩ := open_str1 t1 w1
  simp only [List.cons.injEq, and_true] at r0 r1
  subst r0 r1
  refine ⟨(a, b), ?_, z0, z1⟩
  match cs, hl with
  | [x, y], _ => simp at e0 e1; simp [e0, e1, LbL]
set_option maxRecDepth 8000 in
theorem open_labs1 {fuel : Nat} {v : Value} {y : DataW H × List MemPlace} (h : DataW.trod enc Tryz.prog w 0 (fun _ => true) true fuel 22 [v] = some y) (hw : ∀ n ∈ y.1.weights Tryz.prog 22, n ≤ reachBytes) :
    ∃ A n c l, v = .slice A n c ∧ LIn w A n l ∧ n * 32 ≤ 140737488351232 := by
  obtain ⟨A, n, c, l, hv, hc, hlen, hin, hb⟩ := open_flat LbL (P := Tryz.prog) (t := 22) (e := 33) (Q := fun x : Lab => x.1.size ≤ 140737488351232 ∧ x.2.size ≤ 140737488351232) Tryz.underlying22 (by kernel_rfl) (by decide) (fun _ _ _ h hw => open_lab1 h hw) h hw
  have eb : Tryz.prog.bytesOf 33 = 32 := by kernel_rfl
  rw [eb] at hb
  exact ⟨A, n, c, l, hv, ⟨hc, hlen, hin, by omega⟩, hb⟩
set_option maxRecDepth 8000 in
theorem open_texts1 {fuel : Nat} {v : Value} {y : DataW H × List MemPlace} (h : DataW.trod enc Tryz.prog w 0 (fun _ => true) true fuel 23 [v] = some y) (hw : ∀ n ∈ y.1.weights Tryz.prog 23, n ≤ reachBytes) :
    ∃ A n c l, v = .slice A n c ∧ SIn w A n l := by
  obtain ⟨A, n, c, l, hv, hc, hlen, hin, hb⟩ := open_flat SL (P := Tryz.prog) (t := 23) (e := 9) (Q := fun x : ByteArray => True) Tryz.underlying23 (by kernel_rfl) (by decide) (fun _ _ _ h hw => by
    obtain ⟨s, h1, _⟩ := open_str1 h hw
    exact ⟨s, h1, trivial⟩) h hw
  have eb : Tryz.prog.bytesOf 9 = 16 := by kernel_rfl
  rw [eb] at hb
  exact ⟨A, n, c, l, hv, hc, hlen, hb⟩
theorem seven_ {α : Type} {cs : List α} {a b c d e f g : α} (h : cs.length = 7) (h0 : cs[0]? = some a) (h1 : cs[1]? = some b) (h2 : cs[2]? = some c) (h3 : cs[3]? = some d) (h4 : cs[4]? = some e) (h5 : cs[5]? = some f) (h6 : cs[6]? = some g) : cs = [a, b, c, d, e, f, g] := by
  match cs, h with
  | [_, _, _, _, _, _, _], _ => simp at h0 h1 h2 h3 h4 h5 h6; simp [h0, h1, h2, h3, h4, h5, h6]
set_option maxRecDepth 8000 in
theorem open_op1 {n : Nat} {cs : List Value} {z : DataW H × List MemPlace} (h : DataW.trod enc Tryz.prog w 0 (fun _ => true) true n 25 cs = some z) (hw : ∀ k ∈ z.1.weights Tryz.prog 25, k ≤ reachBytes) :
    ∃ o : POp, cs = OL.enc o ∧ o.In w := by
  obtain ⟨hl, m, hf⟩ := trod_fields Tryz.underlying25 (by kernel_rfl) (by kernel_rfl) h hw
  obtain ⟨v0, y0, e0, t0, -⟩ := hf 0 _ rfl
  obtain ⟨v1, y1, e1, t1, -⟩ := hf 1 _ rfl
  obtain ⟨v2, y2, e2, t2, -⟩ := hf 2 _ rfl
  obtain ⟨v3, y3, e3, t3, w3⟩ := hf 3 _ rfl
  obtain ⟨v4, y4, e4, t4, w4⟩ := hf 4 _ rfl
  obtain ⟨v5, y5, e5, t5, w5⟩ := hf 5 _ rfl
  obtain ⟨v6, y6, e6, t6, w6⟩ := hf 6 _ rfl
  obtain ⟨a0, r0, -⟩ := DataW.trod_int Tryz.underlying3 t0
  obtain ⟨a1, r1, -⟩ := DataW.trod_int Tryz.underlying3 t1
  obtain ⟨a2, r2, -, wa⟩ := DataW.trod_int Tryz.underlying3 t2
  obtain ⟨A, n, c, l, rfl, hA, hlb⟩ := open_labs1 t3 w3
  obtain ⟨s4, r4, z4⟩ := open_str1 t4 w4
  obtain ⟨s5, r5, z5⟩ := open_str1 t5 w5
  obtain ⟨B, m2, c2, vs, rfl, hB⟩ := open_texts1 t6 w6
  simp only [List.cons.injEq, and_true] at r0 r1 r2 r4 r5
  subst r0 r1 r2 r4 r5
  have wb : IntKind.min .i64 ≤ a2 ∧ a2 ≤ IntKind.max .i64 := by simpa [Lit.wf] using wa
  have q1 : IntKind.min .i64 = -9223372036854775808 := by decide
  have q2 : IntKind.max .i64 = 9223372036854775807 := by decide
  rw [q1, q2] at wb
  exact ⟨⟨a0, a1, a2, A, n, c, l, s4, s5, B, m2, c2, vs⟩, seven_ hl e0 e1 e2 e3 e4 e5 e6, hA, hB, z4, z5, hlb, wb.1, wb.2⟩
set_option maxRecDepth 8000 in
theorem open_op {base : Nat} {v : Value} {d : DataW H} {p : List MemPlace} (hok : Value.okWide Tryz.prog w .any base 25 v) (h : DataW.Trod enc Tryz.prog w 0 (fun _ => true) true 25 v d p) (hw : ∀ n ∈ d.weights Tryz.prog 25, n ≤ reachBytes) :
    ∃ o : POp, v = .agg ⟨o.cells⟩ ∧ o.In w := by
  obtain ⟨cs, rfl, _⟩ := Go.WideShapes.okWide_struct Tryz.underlying25 hok
  obtain ⟨fuel, hf⟩ := h
  have hf' : DataW.trod enc Tryz.prog w 0 (fun _ => true) true fuel 25 cs.toList = some (d, p) := hf
  obtain ⟨o, hx, z⟩ := open_op1 hf' hw
  refine ⟨o, ?_, z⟩
  congr 1
  exact Array.toList_inj.1 hx
set_option maxRecDepth 8000 in
theorem open_ops {base : Nat} {v : Value} {d : DataW H} {p : List MemPlace} (hok : Value.okWide Tryz.prog w .any base 55 v) (h : DataW.Trod enc Tryz.prog w 0 (fun _ => true) true 55 v d p)
    (hw : ∀ n ∈ d.weights Tryz.prog 55, n ≤ reachBytes) : ∃ A n c ops, v = .slice A n c ∧ OpsAt w A n ops := by
  obtain ⟨a, l, c, rfl⟩ := Go.WideShapes.okWide_slice Tryz.underlying55 hok
  obtain ⟨fuel, hf⟩ := h
  have hf' : DataW.trod enc Tryz.prog w 0 (fun _ => true) true fuel 55 [.slice a l c] = some (d, p) := hf
  obtain ⟨A, n, c', ops, hv, hc, hlen, hin, hb⟩ := open_flat OL (P := Tryz.prog) (t := 55) (e := 25) (Q := fun o => o.In w) Tryz.underlying55 (by kernel_rfl) (by decide) (fun _ _ _ h hw => open_op1 h hw) hf' hw
  have eb : Tryz.prog.bytesOf 25 = 104 := by kernel_rfl
  rw [eb] at hb
  simp only [Value.slice.injEq] at hv
  obtain ⟨rfl, rfl, rfl⟩ := hv
  exact ⟨a, l, c, ops, rfl, hc, hlen, hin, hb⟩
end
end Go.Proofs.YtpipenkaaodlgaaGreatDoor
