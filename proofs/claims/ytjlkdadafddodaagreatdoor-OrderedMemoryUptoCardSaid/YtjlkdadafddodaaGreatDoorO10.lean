/- Ordered: the scripts that come in; what the laws share. -/
import Derived.Test.YtjlkdadafddodaaGreatDoorO9
import Derived.Test.YtjlkdadafddodaaGreatDoorOg
set_option linter.unusedVariables false
set_option linter.unusedSimpArgs false
namespace Go.Proofs.YtjlkdadafddodaaGreatDoor
open Go Go.V Go.B
open Go.ChangeShapes Go.WideShapes Go.ChangeAt Go.RowKit

/-- One step of a script. -/
structure Op where
  kind : Int
  at_ : Int
  to : Int
  key : ByteArray
  slot : Int
  n : Int
  cmp : Int
  A : Option Addr
  l : Nat
  c : Nat
  ns : List Int
def Op.cells (o : Op) : List Value := [.int .i64 o.kind, .int .i64 o.at_, .int .i64 o.to, .string o.key, .int .i64 o.slot, .int .i64 o.n, .int .i64 o.cmp, .slice o.A o.l o.c]
structure Op.In (o : Op) (w : World) : Prop where
  n0 : -9223372036854775808 ≤ o.n
  n1 : o.n ≤ 9223372036854775807
  t0 : -9223372036854775808 ≤ o.to
  t1 : o.to ≤ 9223372036854775807
  key : o.key.size ≤ 140737488351232
  ns : Ints w .i64 o.A o.l o.ns
  nl : o.l * 8 ≤ 140737488351232
theorem Op.In.ext0 {o : Op} {w w' : World} (h : o.In w) (e : Ext [] w w') : o.In w' := ⟨h.n0, h.n1, h.t0, h.t1, h.key, h.ns.ext0 e, h.nl⟩
theorem Op.one (o : Op) : ∀ v ∈ o.cells, v.oneCell' = true := fun v hv => by
  simp only [Op.cells, List.mem_cons, List.not_mem_nil, or_false] at hv
  rcases hv with rfl | rfl | rfl | rfl | rfl | rfl | rfl | rfl <;> rfl
def OL : Lay Op := ⟨Op.cells, 8, fun _ => rfl, Op.one, by omega⟩
structure OpsAt (w : World) (A : Option Addr) (n : Nat) (ops : List Op) : Prop where
  c : Cells w A (OL.flat ops)
  len : ops.length = n
  in_ : ∀ o ∈ ops, o.In w
  sz : n * 88 ≤ 140737488351232
theorem OpsAt.ext0 {w w' : World} {A : Option Addr} {n : Nat} {ops : List Op} (h : OpsAt w A n ops) (e : Ext [] w w') : OpsAt w' A n ops := ⟨h.c.ext0 e, h.len, fun o ho => (h.in_ o ho).ext0 e, h.sz⟩
theorem OpsAt.read {w : World} {A : Option Addr} {n : Nat} {ops : List Op} (h : OpsAt w A n ops) {a : Nat} (ha : a < n) : ∃ o ad, ops[a]? = some o ∧ A = some ad ∧ cellsC (fun a v => w.cell? a = some v) (ad.add (Int.toNat (a : Int) * 8)) o.cells := h.c.row h.len ha
structure Asked where
  key : ByteArray
  n : Int
  hi : Int
structure Asked.In (o : Asked) : Prop where
  n0 : -9223372036854775808 ≤ o.n
  n1 : o.n ≤ 9223372036854775807
  h0 : -9223372036854775808 ≤ o.hi
  h1 : o.hi ≤ 9223372036854775807
  key : o.key.size ≤ 140737488351232
theorem open_str1 {H : Type} {enc : TypeId × Value → H} {w : World} {n : Nat} {cs : List Value} {y : DataW H × List MemPlace} (h : DataW.trod enc Tryz.prog w 0 (fun _ => true) true n 9 cs = some y) (hw : ∀ k ∈ y.1.weights Tryz.prog 9, k ≤ reachBytes) : ∃ a : ByteArray, cs = [.string a] ∧ a.size ≤ 140737488351232 := by
  obtain ⟨s, h1, rfl, _⟩ := DataW.trod_string Tryz.underlying9 h
  refine ⟨s, h1, ?_⟩
  have := hw s.data.toList.length (by simp [DataW.weights])
  rw [show s.data.toList.length = s.size from Array.length_toList] at this
  simp only [reachBytes] at this
  omega
theorem three {α : Type} {cs : List α} {a b c : α} (h : cs.length = 3) (h0 : cs[0]? = some a) (h1 : cs[1]? = some b) (h2 : cs[2]? = some c) : cs = [a, b, c] := by
  match cs, h with
  | [_, _, _], _ => simp at h0 h1 h2; simp [h0, h1, h2]
theorem eight {α : Type} {cs : List α} {a b c d e f g i : α} (h : cs.length = 8) (h0 : cs[0]? = some a) (h1 : cs[1]? = some b) (h2 : cs[2]? = some c) (h3 : cs[3]? = some d) (h4 : cs[4]? = some e) (h5 : cs[5]? = some f) (h6 : cs[6]? = some g) (h7 : cs[7]? = some i) : cs = [a, b, c, d, e, f, g, i] := by
  match cs, h with
  | [_, _, _, _, _, _, _, _], _ => simp at h0 h1 h2 h3 h4 h5 h6 h7; simp [h0, h1, h2, h3, h4, h5, h6, h7]
theorem rng_of {a : Int} (wa : Lit.wf (.int .i64 a) = true) : -9223372036854775808 ≤ a ∧ a ≤ 9223372036854775807 := by
  have wb : IntKind.min .i64 ≤ a ∧ a ≤ IntKind.max .i64 := by simpa [Lit.wf] using wa
  have q1 : IntKind.min .i64 = -9223372036854775808 := by decide
  have q2 : IntKind.max .i64 = 9223372036854775807 := by decide
  rw [q1, q2] at wb
  exact wb
section
variable {H : Type} {enc : TypeId × Value → H} {w : World}
set_option maxRecDepth 8000 in
theorem open_op1 {n : Nat} {cs : List Value} {z : DataW H × List MemPlace} (h : DataW.trod enc Tryz.prog w 0 (fun _ => true) true n 29 cs = some z) (hw : ∀ k ∈ z.1.weights Tryz.prog 29, k ≤ reachBytes) :
    ∃ o : Op, cs = OL.enc o ∧ o.In w := by
  obtain ⟨hl, m, hf⟩ := trod_fields Tryz.underlying29 (by kernel_rfl) (by kernel_rfl) h hw
  obtain ⟨v0, y0, e0, t0, -⟩ := hf 0 _ rfl
  obtain ⟨v1, y1, e1, t1, w1⟩ := hf 1 _ rfl
  obtain ⟨v2, y2, e2, t2, w2⟩ := hf 2 _ rfl
  obtain ⟨v3, y3, e3, t3, w3⟩ := hf 3 _ rfl
  obtain ⟨v4, y4, e4, t4, w4⟩ := hf 4 _ rfl
  obtain ⟨v5, y5, e5, t5, w5⟩ := hf 5 _ rfl
  obtain ⟨v6, y6, e6, t6, w6⟩ := hf 6 _ rfl
  obtain ⟨v7, y7, e7, t7, w7⟩ := hf 7 _ rfl
  obtain ⟨a0, r0, -⟩ := DataW.trod_int Tryz.underlying3 t0
  obtain ⟨a1, r1, -⟩ := DataW.trod_int Tryz.underlying3 t1
  obtain ⟨a2, r2, -, wa2⟩ := DataW.trod_int Tryz.underlying3 t2
  obtain ⟨s3, r3, z3⟩ := open_str1 t3 w3
  obtain ⟨a4, r4, -⟩ := DataW.trod_int Tryz.underlying3 t4
  obtain ⟨a5, r5, -, wa⟩ := DataW.trod_int Tryz.underlying3 t5
  obtain ⟨a6, r6, -⟩ := DataW.trod_int Tryz.underlying3 t6
  obtain ⟨A, l, c, ns, rfl, hx, hl7⟩ := open_list Tryz.underlying23 Tryz.underlying3 (by kernel_rfl) (by kernel_rfl) t7 w7
  simp only [List.cons.injEq, and_true] at r0 r1 r2 r3 r4 r5 r6
  subst r0 r1 r2 r3 r4 r5 r6
  have wb := rng_of wa
  have wc := rng_of wa2
  exact ⟨⟨a0, a1, a2, s3, a4, a5, a6, A, l, c, ns⟩, eight hl e0 e1 e2 e3 e4 e5 e6 e7, wb.1, wb.2, wc.1, wc.2, z3, hx, hl7⟩
set_option maxRecDepth 8000 in
theorem open_ops {base : Nat} {v : Value} {d : DataW H} {p : List MemPlace} (hok : Value.okWide Tryz.prog w .any base 22 v) (h : DataW.Trod enc Tryz.prog w 0 (fun _ => true) true 22 v d p)
    (hw : ∀ n ∈ d.weights Tryz.prog 22, n ≤ reachBytes) : ∃ A n c ops, v = .slice A n c ∧ OpsAt w A n ops := by
  obtain ⟨a, l, c, rfl⟩ := Go.WideShapes.okWide_slice Tryz.underlying22 hok
  obtain ⟨fuel, hf⟩ := h
  have hf' : DataW.trod enc Tryz.prog w 0 (fun _ => true) true fuel 22 [.slice a l c] = some (d, p) := hf
  obtain ⟨A, n, c', ops, hv, hc, hlen, hin, hb⟩ := open_flat OL (P := Tryz.prog) (t := 22) (e := 29) (Q := fun o => o.In w) Tryz.underlying22 (by kernel_rfl) (by decide) (fun _ _ _ h hw => open_op1 h hw) hf' hw
  have eb : Tryz.prog.bytesOf 29 = 88 := by kernel_rfl
  rw [eb] at hb
  simp only [Value.slice.injEq] at hv
  obtain ⟨rfl, rfl, rfl⟩ := hv
  exact ⟨a, l, c, ops, rfl, hc, hlen, hin, hb⟩
set_option maxRecDepth 8000 in
end
theorem i50s : (Tryz.prog.info? 29).map (·.size) = some 8 := by kernel_rfl
theorem op_box {w w1 : World} {o : Op} (h : w1 = w.alloc (.cells #[.int .i64 0, .int .i64 0, .int .i64 0, .string ByteArray.empty, .int .i64 0, .int .i64 0, .int .i64 0, .slice none 0 0] 29)) :
    ∃ w2, (Instr.storeAt 29 (.pointer (some ⟨w.heap.size, 0, none⟩)) (.agg #[.int .i64 o.kind, .int .i64 o.at_, .int .i64 o.to, .string o.key, .int .i64 o.slot, .int .i64 o.n, .int .i64 o.cmp, .slice o.A o.l o.c])).run Tryz.prog w1 = .ok () w2 ∧ BlkT w2 w.heap.size o.cells 29 ∧ Ext [] w w2 := by
  obtain ⟨b1, x1, z1⟩ := box_new (cs := [.int .i64 0, .int .i64 0, .int .i64 0, .string ByteArray.empty, .int .i64 0, .int .i64 0, .int .i64 0, .slice none 0 0]) h
  obtain ⟨w2, hr, b2, x2⟩ := storeW (P := Tryz.prog) (t := 29) (n := 8) (vs := o.cells) i50s b1 rfl rfl (Op.one o)
  exact ⟨w2, hr, b2, x1.trans' x2 (fun b hb => .inr (by simp at hb; omega))⟩
theorem own : ownKnob Tryz.prog.godebug = none := by kernel_rfl
theorem laidOut : laidOutB Tryz.prog = true := by kernel_rfl
def Rng (x : Ix) : Prop := ∀ k i n, x.val k i = some n → -9223372036854775808 ≤ n ∧ n ≤ 9223372036854775807
theorem IxAt.g {w : World} {F : List Nat} {cnt : Nat} {x : Ix} (h : IxAt w F cnt x) (ok : IxOk x) (hc : cnt ≤ 8000000000000) (hr : Rng x) : IxG w (some ⟨x.q, 0, none⟩) x := ⟨.inr ⟨F, cnt, rfl, h⟩, ok, fun k C hk => Nat.le_trans (h.rows k C hk) hc, hr⟩
theorem isSet_c {w : World} {p bw : Nat} {S : SetV} (hs : SetAt w p bw S) {N : Nat} (hN : S.N = N) {xs : List Int} (hxs : S.mi = xs) {A : Option Addr} {l c : Nat} (hm : Ints w .i64 A l xs) {R : Ending → World → Prop} (k : ∀ w', Ext [] w w' → R (.returned (.bool true)) w') :
    Calls Tryz.prog 17 #[.pointer (some ⟨p, 0, none⟩), .int .i64 (N : Int), .slice A l c] w R := by
  subst hN
  subst hxs
  apply berthlaw08_isSet_nf
  refine sel_true rfl (Size_c hs.ref ⟨_, rfl, sel_true (by simp) ?_⟩)
  apply berthlaw08_hasJust_nf
  have hl := hm.len
  have hc := count_le hs.ok
  rw [mi_length] at hl
  refine Members_c hs.ref fun A' c' w5 e5 own5 => ⟨_, _, _, rfl, sel_false (by simp [hl]) ?_⟩
  have hA := own_cells own5
  refine ⟨fun t w' => ∃ a : Nat, t = a ∧ a ≤ l ∧ Ext [] w5 w', fun t _ => l - t.toNat, ⟨0, rfl, by omega, Ext.refl _ _⟩, ?_⟩
  rintro _ _ w10 ⟨a, rfl, ha, e10⟩
  refine sel_dec (fun hlt => ?_) (fun hge => ⟨_, rfl, k w10 (e5.trans e10)⟩)
  have hlt : a < l := by omega
  obtain ⟨ad, e1, hc1⟩ := (hm.ext0 (e5.trans e10)).cells a hlt
  obtain ⟨ad', e2, hc2⟩ := (hA.ext0 e10) a _ (ints_get (k := .i64) (by rw [mi_length]; omega))
  rw [e1, e2]
  refine when_dec ⟨by omega, by omega⟩ (ptr_in ⟨_, by rw [Int.toNat_natCast, Nat.mul_one]; exact hc2, when_dec ⟨by omega, by omega⟩ (ptr_in ⟨_, by rw [Int.toNat_natCast, Nat.mul_one]; exact hc1, sel_false (by simp) ?_⟩)⟩)
  rw [up64 a (by omega)]
  exact ⟨⟨a + 1, rfl, by omega, e10.drew⟩, by simp only [Int.toNat_natCast]; omega⟩
end Go.Proofs.YtjlkdadafddodaaGreatDoor
