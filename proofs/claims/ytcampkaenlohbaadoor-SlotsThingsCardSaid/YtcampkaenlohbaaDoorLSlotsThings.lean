/- SlotsThings: whatever script comes in, where the powers of ten stand, tables of structs and of texts answer like one of numbers. -/
import Derived.Test.YtcampkaenlohbaaDoorP2
import Derived.Test.YtcampkaenlohbaaDoorL1L
import Derived.Test.YtcampkaenlohbaaDoorL2L
import Derived.Test.YtcampkaenlohbaaDoorRows
import Derived.Test.YtcampkaenlohbaaDoorTie
import Derived.Test.YtcampkaenlohbaaDoorCards
import Derived.ProofKit
import Derived.LaidMore
import Derived.OpenShut
import Derived.Stop.Joined
import Derived.SevenTiedAt
import Derived.LaidHandle
set_option linter.unusedVariables false
set_option linter.unusedSimpArgs false
namespace Go.Proofs.YtcampkaenlohbaaDoor
open Go Go.V Go.B
open Go.ChangeShapes Go.WideShapes Go.ChangeAt Go.RowKit

theorem own : ownKnob Tryd.prog.godebug = none := by kernel_rfl
theorem laidOut : laidOutB Tryd.prog = true := by kernel_rfl
def OB (o : Op) : Prop := -9223372036854775808 ≤ o.v ∧ o.v ≤ 9223372036854775807
section
variable {H : Type} {enc : TypeId × Value → H} {w : World}
set_option maxRecDepth 8000 in
theorem open_opV {n : Nat} {cs : List Value} {z : DataW H × List MemPlace} (h : DataW.trod enc Tryd.prog w 0 (fun _ => true) true n 49 cs = some z) (hw : ∀ k ∈ z.1.weights Tryd.prog 49, k ≤ reachBytes) :
    ∃ o : Op, cs = OL.enc o ∧ OB o := by
  obtain ⟨hl, m, hf⟩ := trod_fields Tryd.underlying49 (by kernel_rfl) (by kernel_rfl) h hw
  obtain ⟨v0, y0, e0, t0, -⟩ := hf 0 _ rfl
  obtain ⟨v1, y1, e1, t1, -⟩ := hf 1 _ rfl
  obtain ⟨v2, y2, e2, t2, -⟩ := hf 2 _ rfl
  obtain ⟨v3, y3, e3, t3, -⟩ := hf 3 _ rfl
  obtain ⟨v4, y4, e4, t4, -⟩ := hf 4 _ rfl
  obtain ⟨a0, r0, -⟩ := DataW.trod_int Tryd.underlying3 t0
  obtain ⟨a1, r1, -⟩ := DataW.trod_int Tryd.underlying3 t1
  obtain ⟨a2, r2, -⟩ := DataW.trod_int Tryd.underlying3 t2
  obtain ⟨s, r3, -⟩ := DataW.trod_string Tryd.underlying9 t3
  obtain ⟨a4, r4, -, wa⟩ := DataW.trod_int Tryd.underlying3 t4
  simp only [List.cons.injEq, and_true] at r0 r1 r2 r3 r4
  subst r0 r1 r2 r3 r4
  have wb : IntKind.min .i64 ≤ a4 ∧ a4 ≤ IntKind.max .i64 := by simpa [Lit.wf] using wa
  have q1 : IntKind.min .i64 = -9223372036854775808 := by decide
  have q2 : IntKind.max .i64 = 9223372036854775807 := by decide
  rw [q1, q2] at wb
  exact ⟨⟨a0, a1, a2, s, a4⟩, five hl e0 e1 e2 e3 e4, wb⟩
set_option maxRecDepth 8000 in
theorem open_opsV {base : Nat} {v : Value} {d : DataW H} {p : List MemPlace} (hok : Value.okWide Tryd.prog w .any base 34 v) (h : DataW.Trod enc Tryd.prog w 0 (fun _ => true) true 34 v d p)
    (hw : ∀ n ∈ d.weights Tryd.prog 34, n ≤ reachBytes) : ∃ A n c ops, v = .slice A n c ∧ OpsAt w A n ops ∧ ∀ o ∈ ops, OB o := by
  obtain ⟨a, l, c, rfl⟩ := Go.WideShapes.okWide_slice Tryd.underlying34 hok
  obtain ⟨fuel, hf⟩ := h
  have hf' : DataW.trod enc Tryd.prog w 0 (fun _ => true) true fuel 34 [.slice a l c] = some (d, p) := hf
  obtain ⟨A, n, c', ops, hv, hc, hlen, hin, hb⟩ := open_flat OL (P := Tryd.prog) (t := 34) (e := 49) (Q := OB) Tryd.underlying34 (by kernel_rfl) (by decide) (fun _ _ _ h hw => open_opV h hw) hf' hw
  have eb : Tryd.prog.bytesOf 49 = 48 := by kernel_rfl
  rw [eb] at hb
  simp only [Value.slice.injEq] at hv
  obtain ⟨rfl, rfl, rfl⟩ := hv
  exact ⟨a, l, c, ops, rfl, ⟨hc, hlen, hb⟩, hin⟩
end
/-- Between two steps. -/
def InvT (w : World) (bm pt pu n : Nat) (t : Int) (w' : World) : Prop := ∃ a : Nat, t = a ∧ a ≤ n ∧ ∃ ft fu s A nn c ds, Tr w w' [bm] pt pu ft fu s s s A nn ds ∧ BlkT w' bm (dt (s.most : Int) A nn c) 45 ∧ VB s
set_option maxRecDepth 8000 in
theorem fin_c {w w17 w24 w36 w63 : World} {n pt pu a : Nat} {ft fu : List Nat} {s : TS} {A : Option Addr} {nn c : Nat} {ds : List DR} {o : Op} {vs : List Value} (ha : a < n) (hn : n < 4611686018427387904) (hp : Pow w)
    (tr : Tr w w63 [w36.heap.size, w24.heap.size, w17.heap.size] pt pu ft fu s s s A nn ds) (bn : BlkT w63 w36.heap.size (dt (s.most : Int) A nn c) 45) (bo : BlkT w63 w24.heap.size o.cells 49) (bm : BlkT w63 w17.heap.size vs 45) (hvs : vs.length = 2) (hne : w24.heap.size ≠ w17.heap.size) (vb : VB s) {R : Ending → World → Prop} :
    ∃ n64, ∃ A65, ∃ A65l, ∃ A65c, V.cellsC (fun a_ x_ => World.cell? w63 a_ = some x_) ⟨Array.size (World.heap w36), 0, none⟩ [(Value.int .i64 n64), (Value.slice A65 A65l A65c)] ∧
  ∃ w66, Sem.run Tryd.prog (Instr.storeAt 45 (Value.pointer (some ⟨Array.size (World.heap w17), 0, none⟩)) (Value.agg #[(Value.int .i64 n64), (Value.slice A65 A65l A65c)])) w63 = .ok () w66 ∧
  ∃ A67, ∃ A67l, ∃ A67c, World.cell? w66 (Addr.add ⟨Array.size (World.heap w17), 0, none⟩ 1) = some (Value.slice A67 A67l A67c) ∧
  ∃ I68 : Int → World → Prop, ∃ μ69 : Int → World → Nat, I68 0 w66 ∧
  ∀ t204_70 (j71 : Nat → Value) (w72 : World), I68 t204_70 w72 →
  (V.sel (decide (t204_70 < ((A67l : Nat) : Int)))
  (V.when (decide ((0 : Int) ≤ t204_70 ∧ (t204_70 : Int) < ((A67l : Nat) : Int))) (V.ptr A67 fun a73 =>
  ∃ n74, ∃ s75, ∃ n76, V.cellsC (fun a_ x_ => World.cell? w72 a_ = some x_) (Addr.add a73 ((Int.toNat t204_70) * 3)) [(Value.int .i64 n74), (Value.string s75), (Value.int .i64 n76)] ∧
  ∀ w77, w77 = (World.alloc w72 (.cells #[(Value.int .i64 0), (Value.string ByteArray.empty), (Value.int .i64 0)] 59)) →
  ∃ w78, Sem.run Tryd.prog (Instr.storeAt 59 (Value.pointer (some ⟨Array.size (World.heap w72), 0, none⟩)) (Value.agg #[(Value.int .i64 n74), (Value.string s75), (Value.int .i64 n76)])) w77 = .ok () w78 ∧
  ∃ s79, World.cell? w78 (Addr.add ⟨Array.size (World.heap w72), 0, none⟩ 1) = some (Value.string s79) ∧
  Calls Tryd.prog 25 #[(Value.pointer (some (⟨pt, 0, none⟩ : Addr))), (Value.string s79)] w78 fun e84 w85 =>
  ∃ n80, ∃ n81, ∃ s82, ∃ b83, e84 = Ending.returned (Value.tuple #[(Value.int .i64 n80), (Value.agg #[(Value.int .i64 n81), (Value.string s82)]), (Value.bool b83)]) ∧
  ∀ w86, w86 = (World.alloc w85 (.cells #[(Value.int .i64 0), (Value.string ByteArray.empty)] 39)) →
  ∃ w87, Sem.run Tryd.prog (Instr.storeAt 39 (Value.pointer (some ⟨Array.size (World.heap w85), 0, none⟩)) (Value.agg #[(Value.int .i64 n81), (Value.string s82)])) w86 = .ok () w87 ∧
  ∃ n88, World.cell? w87 (Addr.add ⟨Array.size (World.heap w72), 0, none⟩ 0) = some (Value.int .i64 n88) ∧
  Calls Tryd.prog 26 #[(Value.pointer (some (⟨pu, 0, none⟩ : Addr))), (Value.int .i64 n88)] w87 fun e92 w93 =>
  ∃ s89, ∃ s90, ∃ b91, e92 = Ending.returned (Value.tuple #[(Value.string s89), (Value.string s90), (Value.bool b91)]) ∧
  ∃ n94, World.cell? w93 (Addr.add ⟨Array.size (World.heap w72), 0, none⟩ 2) = some (Value.int .i64 n94) ∧
  Calls Tryd.prog 9 #[(Value.int .i64 n94)] w93 fun e96 w97 =>
  ∃ s95, e96 = Ending.returned (Value.string s95) ∧
  V.sel (!b83)
  (R (Ending.returned (Value.bool false)) w97)
  (V.sel (!b91)
  (R (Ending.returned (Value.bool false)) w97)
  (∃ n98, ∃ s99, V.cellsC (fun a_ x_ => World.cell? w97 a_ = some x_) ⟨Array.size (World.heap w85), 0, none⟩ [(Value.int .i64 n98), (Value.string s99)] ∧
  ∃ n100, World.cell? w97 (Addr.add ⟨Array.size (World.heap w72), 0, none⟩ 2) = some (Value.int .i64 n100) ∧
  V.sel (!(((n98 : Int) == n100) && ((ByteArray.toList s99 == ByteArray.toList s95) && true)))
  (R (Ending.returned (Value.bool false)) w97)
  (V.sel (!(ByteArray.toList s90 == ByteArray.toList s95))
  (R (Ending.returned (Value.bool false)) w97)
  (I68 (IntKind.wrap .i64 (t204_70 + 1)) w97 ∧ μ69 (IntKind.wrap .i64 (t204_70 + 1)) w97 < μ69 t204_70 w72))))))
  (∃ n101, World.cell? w72 (Addr.add ⟨Array.size (World.heap w24), 0, none⟩ 4) = some (Value.int .i64 n101) ∧
  Calls Tryd.prog 27 #[(Value.pointer (some (⟨pt, 0, none⟩ : Addr))), (Value.int .i64 n101)] w72 fun e106 w107 =>
  ∃ s102, ∃ n103, ∃ s104, ∃ b105, e106 = Ending.returned (Value.tuple #[(Value.string s102), (Value.agg #[(Value.int .i64 n103), (Value.string s104)]), (Value.bool b105)]) ∧
  ∀ w108, w108 = (World.alloc w107 (.cells #[(Value.int .i64 0), (Value.string ByteArray.empty)] 39)) →
  ∃ w109, Sem.run Tryd.prog (Instr.storeAt 39 (Value.pointer (some ⟨Array.size (World.heap w107), 0, none⟩)) (Value.agg #[(Value.int .i64 n103), (Value.string s104)])) w108 = .ok () w109 ∧
  ∃ n110, ∃ A111, ∃ A111l, ∃ A111c, V.cellsC (fun a_ x_ => World.cell? w109 a_ = some x_) ⟨Array.size (World.heap w17), 0, none⟩ [(Value.int .i64 n110), (Value.slice A111 A111l A111c)] ∧
  ∃ n112, World.cell? w109 (Addr.add ⟨Array.size (World.heap w24), 0, none⟩ 4) = some (Value.int .i64 n112) ∧
  Calls Tryd.prog 28 #[(Value.agg #[(Value.int .i64 n110), (Value.slice A111 A111l A111c)]), (Value.int .i64 n112)] w109 fun e114 w115 =>
  ∃ n113, e114 = Ending.returned (Value.int .i64 n113) ∧
  V.sel (decide (n113 < 0))
  (V.sel (!(ByteArray.toList s102 == ByteArray.toList ByteArray.empty))
  (R (Ending.returned (Value.bool false)) w115)
  (V.sel b105
  (R (Ending.returned (Value.bool false)) w115)
  (∃ n116, ∃ s117, V.cellsC (fun a_ x_ => World.cell? w115 a_ = some x_) ⟨Array.size (World.heap w107), 0, none⟩ [(Value.int .i64 n116), (Value.string s117)] ∧
  V.sel (!(((n116 : Int) == 0) && ((ByteArray.toList s117 == ByteArray.toList ByteArray.empty) && true)))
  (R (Ending.returned (Value.bool false)) w115)
  ((InvT w w17.heap.size pt pu n) (IntKind.wrap .i64 (((a : Nat) : Int) + 1)) w115 ∧ (fun (t : Int) (_ : World) => n - t.toNat) (IntKind.wrap .i64 (((a : Nat) : Int) + 1)) w115 < (fun (t : Int) (_ : World) => n - t.toNat) ((a : Nat) : Int) w24))))
  ((InvT w w17.heap.size pt pu n) (IntKind.wrap .i64 (((a : Nat) : Int) + 1)) w115 ∧ (fun (t : Int) (_ : World) => n - t.toNat) (IntKind.wrap .i64 (((a : Nat) : Int) + 1)) w115 < (fun (t : Int) (_ : World) => n - t.toNat) ((a : Nat) : Int) w24))) := by
  obtain ⟨w66, hr66, b66, e66⟩ := dt_box (w0 := w) bm hvs (s.most : Int) A nn c
  have tr66 := tr.extZ e66 (by simp)
  obtain ⟨B, ht⟩ := tr66.t
  obtain ⟨B', hu⟩ := tr66.u
  have key := tail_c (w24 := w24) (wX := w66) (pt := pt) (pu := pu) (bm := w17.heap.size) (bo := w24.heap.size) (o := o) (a := a) (I := InvT w w17.heap.size pt pu n) (μ := fun (t : Int) (_ : World) => n - t.toNat) (R := R) ht hu tr66.d b66 (bo.ext e66 (by simpa using hne)) (hp.ext0 tr66.e) vb fun w' e => ?_
  · exact ⟨_, _, _, _, cadd0 bn, w66, hr66, key⟩
  rw [up64 a (by omega)]
  exact ⟨⟨a + 1, rfl, by omega, ft, fu, s, A, nn, c, ds, (tr66.ext0 e).less (by simp), b66.ext0 e, vb⟩, by simp only [Int.toNat_natCast]; omega⟩
set_option maxRecDepth 8000 in
theorem slotsThingsW_c {w : World} {A : Option Addr} {n c : Nat} {ops : List Op} (ho : OpsAt w A n ops) (hvs : ∀ o ∈ ops, OB o) (hp : Pow w) {R : Ending → World → Prop} (k : ∀ w', Ext [] w w' → R (.returned (.bool true)) w') : Calls Tryd.prog 4 #[.slice A n c] w R := by
  have hnb := ho.2.2
  apply berthlaw05_SlotsThings_nf
  refine fixed_c fun w4 e4 => ⟨_, rfl, sel_false rfl (KT.New_c 5 (fun h => by omega) fun pt ft0 w8 _ _ e8 qt hft => ⟨_, _, rfl, KS.New_c 5 (fun h => by omega) fun pu fu0 w12 _ _ e12 qu hfu => ⟨_, _, rfl, refNew_c 5 fun w17 e17 => ⟨_, _, _, _, _, rfl, fun w18 h18 => ?_⟩⟩⟩)⟩
  obtain ⟨b18, x18, z18⟩ := box_new (cs := [.int .i64 0, .slice none 0 0]) h18
  obtain ⟨w19, hr19, b19, x19⟩ := dt_box (w0 := w) b18 rfl 5 none 0 0
  have s4 := e4.size
  have s8 := e8.size
  have s12 := e12.size
  have s17 := e17.size
  have s19 := x19.size
  have e19 : Ext [] w17 w19 := x18.trans' x19 (fun b hb => .inr (by simp at hb; omega))
  have hq := qt.lt
  have hq2 := qu.lt
  have hok := qt.inv
  refine ⟨w19, hr19, sel_false rfl (sel_false rfl (sel_false rfl (sel_false rfl ?_)))⟩
  have tr19 : Tr w w19 [w17.heap.size] pt pu ft0 fu0 ⟨5, [], [], 0⟩ ⟨5, [], [], 0⟩ ⟨5, [], [], 0⟩ none 0 [] :=
    ⟨(((e4.trans e8).trans e12).trans e17).trans e19, ⟨_, (((qt.ext0 e12).ext0 e17).ext0 e19)⟩, ⟨_, (qu.ext0 e17).ext0 e19⟩, ⟨Cells.nil _ _, rfl, hok, List.Perm.refl _⟩, fun b hb => by have := hft b hb; omega, fun b hb => by have := hfu b hb; omega,
      fun b hb => by
        have hb : b = w17.heap.size := by simpa using hb
        subst hb
        exact ⟨by omega, by omega, fun hm => by have := hq _ hm; omega, fun hm => by have := hq2 _ hm; omega⟩,
      fun b hb hm => by have := hq b hb; have := hfu b hm; omega, fun h => absurd rfl h⟩
  refine ⟨InvT w w17.heap.size pt pu n, fun t _ => n - t.toNat, ⟨0, rfl, by omega, ft0, fu0, _, none, 0, 0, [], tr19, b19, fun x hx => by cases hx⟩, ?_⟩
  rintro _ _ w24 ⟨a, rfl, ha, ft, fu, s, A', nn, c', ds, tr, bmx, vb⟩
  have hbm := (tr.z w17.heap.size (by simp)).2.1
  refine sel_dec (fun hlt => ?_) (fun hge => ?_)
  · obtain ⟨o, ad, hoo, rfl, ro⟩ := (ho.ext0 tr.e).read (a := a) (by omega)
    have hv := hvs o (List.mem_of_getElem? hoo)
    refine when_dec ⟨by omega, by omega⟩ (ptr_in ⟨_, _, _, _, _, ro, fun w31 h31 => ?_⟩)
    obtain ⟨w32, hr32, b32, e32⟩ := op_box (o := o) h31
    have tr32 := tr.new e32 (b := w24.heap.size) ⟨Nat.le_refl _, b32.lt⟩
    refine ⟨w32, hr32, _, cadd b32 (i := 4) rfl, ItoaI_c (hp.ext0 tr32.e) o.v hv.1 hv.2 fun w36 e36 => ⟨_, rfl, _, _, _, _, cadd0 ((bmx.ext0 e32).ext0 e36), fun w39 h39 => ?_⟩⟩
    obtain ⟨b39, x39, z39⟩ := box_new (cs := [.int .i64 0, .slice none 0 0]) h39
    obtain ⟨w40, hr40, b40, x40⟩ := dt_box (w0 := w) b39 rfl (s.most : Int) A' nn c'
    have s36 := e36.size
    have s32 := e32.size
    have s40 := b40.lt
    have e40 : Ext [] w32 w40 := (e36.trans x39).trans' x40 (fun b hb => .inr (by simp at hb; omega))
    have tr40 := tr32.new e40 (b := w36.heap.size) ⟨s36, s40⟩
    have bo40 : BlkT w40 w24.heap.size o.cells 49 := b32.ext0 e40
    have bm40 : BlkT w40 w17.heap.size (dt (s.most : Int) A' nn c') 45 := bmx.ext0 (e32.trans e40)
    have hne : w24.heap.size ≠ w17.heap.size := by omega
    have hlo := b32.lt
    have hbno : w24.heap.size ∉ [w36.heap.size] := by simp; omega
    have hbnm : w17.heap.size ∉ [w36.heap.size] := by simp; omega
    refine ⟨w40, hr40, _, cadd bo40 (i := 0) rfl, ?_⟩
    obtain ⟨B, ht⟩ := tr40.t
    have zo := tr40.z w24.heap.size (by simp)
    have zm := tr40.z w17.heap.size (by simp)
    have zn := tr40.z w36.heap.size (by simp)
    by_cases k2 : o.kind = 2
    · refine sel_true (by simp [k2]) ⟨_, cadd bo40 (i := 3) rfl, _, cadd bo40 (i := 4) rfl, KT.Put_c ht o.name o.v fun w47 ft' at47 e47 g47 => ⟨_, _, rfl, ?_⟩⟩
      have tr47 := tr40.stepT e47 at47 g47
      obtain ⟨B', hu⟩ := tr47.u
      have bo47 := bo40.ext e47 zo.2.2.1
      have bm47 := bm40.ext e47 zm.2.2.1
      have bn47 := b40.ext e47 zn.2.2.1
      refine ⟨_, cadd bo47 (i := 3) rfl, KS.Put_c hu o.name o.v fun w52 fu' au52 e52 g52 => ⟨_, _, rfl, ?_⟩⟩
      have tr52 := tr47.stepU e52 au52 g52
      have bo52 := bo47.ext e52 zo.2.2.2
      have bm52 := bm47.ext e52 zm.2.2.2
      have bn52 := bn47.ext e52 zn.2.2.2
      refine ⟨_, _, _, _, cadd0 bm52, _, cadd bo52 (i := 3) rfl, _, cadd bo52 (i := 4) rfl, refPut_c tr52.d c' o.name o.v at47.inv fun A2 n2 c2 ds2 w62 e62 d62 hA2 => ⟨_, _, _, _, _, _, rfl, ?_⟩⟩
      have tr62 := tr52.stepD e62 d62 hA2
      obtain ⟨w63, hr63, b63, x63⟩ := dt_box (w0 := w) (bn52.ext0 e62) rfl (s.most : Int) A2 n2 c2
      have tr63 := tr62.extZ x63 (by simp)
      refine ⟨w63, hr63, sel_false (by simp) (sel_false (by simp) (sel_false (by simp) (sel_false (by simp) ?_)))⟩
      rw [← most_put s o.name o.v] at b63
      exact fin_c (by omega) (by omega) hp tr63 b63 ((bo52.ext0 e62).ext x63 hbno) ((bm52.ext0 e62).ext x63 hbnm) rfl hne (vb.put o.name hv)
    refine sel_false (by simp [k2]) ?_
    by_cases k3 : o.kind = 3
    · refine sel_true (by simp [k3]) ⟨_, cadd bo40 (i := 3) rfl, _, cadd bo40 (i := 4) rfl, KT.Set_c ht o.name o.v fun w47 at47 e47 => ⟨_, rfl, ?_⟩⟩
      have tr47 := tr40.stepT e47 at47 (Grow.refl _ _)
      obtain ⟨B', hu⟩ := tr47.u
      have bo47 := bo40.ext e47 zo.2.2.1
      have bm47 := bm40.ext e47 zm.2.2.1
      have bn47 := b40.ext e47 zn.2.2.1
      refine ⟨_, cadd bo47 (i := 3) rfl, KS.Set_c hu o.name o.v fun w52 au52 e52 => ⟨_, rfl, ?_⟩⟩
      have tr52 := tr47.stepU e52 au52 (Grow.refl _ _)
      have bo52 := bo47.ext e52 zo.2.2.2
      have bm52 := bm47.ext e52 zm.2.2.2
      have bn52 := bn47.ext e52 zn.2.2.2
      refine ⟨_, _, _, _, cadd0 bm52, _, cadd bo52 (i := 3) rfl, _, cadd bo52 (i := 4) rfl, refSet_c tr52.d _ c' o.name o.v fun A2 n2 c2 ds2 w62 e62 d62 hA2 => ⟨_, _, _, _, _, rfl, ?_⟩⟩
      have tr62 := tr52.stepD e62 d62 hA2
      obtain ⟨w63, hr63, b63, x63⟩ := dt_box (w0 := w) (bn52.ext0 e62) rfl (s.most : Int) A2 n2 c2
      have tr63 := tr62.extZ x63 (by simp)
      refine ⟨w63, hr63, sel_false (by simp) (sel_false (by simp) ?_)⟩
      rw [← most_set s o.name o.v] at b63
      exact fin_c (by omega) (by omega) hp tr63 b63 ((bo52.ext0 e62).ext x63 hbno) ((bm52.ext0 e62).ext x63 hbnm) rfl hne (vb.set o.name hv)
    refine sel_false (by simp [k3]) ?_
    by_cases k4 : o.kind = 4
    · refine sel_true (by simp [k4]) ⟨_, cadd bo40 (i := 3) rfl, KT.Drop_c ht o.name fun w47 at47 e47 => ⟨_, _, rfl, ?_⟩⟩
      have tr47 := tr40.stepT e47 at47 (Grow.refl _ _)
      obtain ⟨B', hu⟩ := tr47.u
      have bo47 := bo40.ext e47 zo.2.2.1
      have bm47 := bm40.ext e47 zm.2.2.1
      have bn47 := b40.ext e47 zn.2.2.1
      refine ⟨_, cadd bo47 (i := 3) rfl, KS.Drop_c hu o.name fun w52 au52 e52 => ⟨_, _, rfl, ?_⟩⟩
      have tr52 := tr47.stepU e52 au52 (Grow.refl _ _)
      have bo52 := bo47.ext e52 zo.2.2.2
      have bm52 := bm47.ext e52 zm.2.2.2
      have bn52 := bn47.ext e52 zn.2.2.2
      refine ⟨_, _, _, _, cadd0 bm52, _, cadd bo52 (i := 3) rfl, refDrop_c tr52.d _ c' o.name at47.inv fun A2 n2 c2 ds2 w62 e62 d62 hA2 => ⟨_, _, _, _, _, _, rfl, ?_⟩⟩
      have tr62 := tr52.stepD e62 d62 hA2
      obtain ⟨w63, hr63, b63, x63⟩ := dt_box (w0 := w) (bn52.ext0 e62) rfl (s.most : Int) A2 n2 c2
      have tr63 := tr62.extZ x63 (by simp)
      refine ⟨w63, hr63, sel_false (by simp) (sel_false (by simp) (sel_false (by simp) (sel_false (by simp) ?_)))⟩
      rw [← most_drop s o.name] at b63
      exact fin_c (by omega) (by omega) hp tr63 b63 ((bo52.ext0 e62).ext x63 hbno) ((bm52.ext0 e62).ext x63 hbnm) rfl hne (vb.drop o.name)
    refine sel_false (by simp [k4]) ?_
    exact fin_c (by omega) (by omega) hp tr40 b40 bo40 bm40 rfl hne vb
  · obtain ⟨B, ht⟩ := tr.t
    obtain ⟨B', hu⟩ := tr.u
    have d : Ext [] w24 w24.drew := (Ext.refl _ _).drew
    refine ⟨fun w' => Ext [] w24 w', d, _, _, _, _, cellsC_S (S := fun w' => Ext [] w24 w') (fun w' e => cadd0 (bmx.ext0 e)), KT.Names_c (ht.ext0 d) fun A1 n1 c1 w25 e25 own25 => ⟨_, _, _, rfl, d.trans e25, refNames_c (tr.d.ext0 (d.trans e25)) _ c' fun A2 n2 c2 w28 e28 own28 => ⟨_, _, _, rfl, (d.trans e25).trans e28, ?_⟩⟩⟩
    have e28' := (d.trans e25).trans e28
    have hnames : ∀ n1 : Nat, (srt (names s.rows)).length = n1 → n1 < 4611686018427387904 := fun n1 h1 => by
      have h2 := prs_len s.rows
      have h3 := KT.At.len ht
      simp only [srt, names, List.length_map, List.length_mergeSort] at h1
      omega
    refine textsAre_c (own25.ext0 e28).cells own25.len own28.cells own28.len (hnames _ own25.len) (fun _ w31 e31 => ⟨_, rfl, e28'.trans e31, sel_true rfl ⟨_, _, _, _, cellsC_S (S := fun w' => Ext [] w24 w') (fun w' e => cadd0 (bmx.ext0 e)), ?_⟩⟩) (fun hne => absurd rfl hne)
    have e31' := e28'.trans e31
    refine KS.Names_c (hu.ext0 e31') fun A3 n3 c3 w36 e36 own36 => ⟨_, _, _, rfl, e31'.trans e36, refNames_c (tr.d.ext0 (e31'.trans e36)) _ c' fun A4 n4 c4 w39 e39 own39 => ⟨_, _, _, rfl, (e31'.trans e36).trans e39, ?_⟩⟩
    have e39' := (e31'.trans e36).trans e39
    exact textsAre_c (own36.ext0 e39).cells own36.len own39.cells own39.len (hnames _ own36.len) (fun _ w42 e42 => ⟨_, rfl, e39'.trans e42, k w42 (tr.e.trans (e39'.trans e42))⟩) (fun hne => absurd rfl hne)
/-! ### the library's tables, and the tied card -/
theorem pow_data : (Rows.laid_internal_strconv_uint64pow10 : DataW Unit) = Go.Lib.tabData .u64 Go.Lib.pow10Tab := by kernel_rfl
theorem laid_pow {W : World} (h : laidMetH Tryd.prog Rows.slotsThingsRow.laid W) : Pow W := by
  rw [MakeChecks.laidMetH_plain _ _ _ (by kernel_rfl)] at h
  have h1 := Go.Lib.laidMet.reads h (n := "internal/strconv.uint64pow10") (d := Rows.laid_internal_strconv_uint64pow10) (.tail _ (.tail _ (.head _)))
  rw [pow_data] at h1
  obtain ⟨g, hg⟩ := pow_at
  exact tab_of_reads (g := 0) (t := 144) (e := 127) (n := 20) (by kernel_rfl) (by kernel_rfl) (by kernel_rfl) (by kernel_rfl) (by kernel_rfl) (by kernel_rfl) h1
theorem door_met (os : Os) (args : Array Value) : laidMetH Tryd.prog Rows.slotsThingsRow.laid ((World.doorLaid Tryd.prog 4000 os).forCall (fun _ _ => 0) ⟨#[], args, []⟩).memory :=
  laidMetH_of_parts3 (fuel := 8) (laidMet_of_run' 8 (by kernel_rfl) (by kernel_rfl)) (by kernel_rfl) (by kernel_rfl)
set_option maxRecDepth 8000 in
theorem slotsThings_lifted (os : Os) (started : os.Started) (H : Type) (enc : TypeId × Value → H) (F : Stop.Interp) :
    ReturnsInHanded {} Tryd.checked os 4 .any ((OpenSpec.ofChange Rows.slotsThingsSpec).preRow enc Tryd.prog Tryd.f4 Rows.slotsThingsRow.domain false Rows.slotsThingsRow.laid) (((OpenSpec.ofChange Rows.slotsThingsSpec).at F).post enc Tryd.prog Tryd.f4 false true false false) :=
  lift1L (C := Tryd.checked) (T := 34) (tb := 4) own (by kernel_rfl) Tryd.func4 (by kernel_rfl) (by kernel_rfl) Tryd.underlying4 rfl (fun _ _ => rfl) laidOut (by kernel_rfl) (of_decide_eq_true (by kernel_rfl)) os started H enc F
    (fun W base v d p hok h hw hL => by
      obtain ⟨A, n, c, ops, rfl, ho, hvs⟩ := open_opsV hok h hw
      exact slotsThingsW_c ho hvs (laid_pow hL) fun w' e => ⟨rfl, e.below⟩)
    (ChangeSpec.witness_shaped (enc := enc) (C := Tryd.checked) (os := os) (X := fun w _ => laidMetH Tryd.prog Rows.slotsThingsRow.laid w) false (World.doorLaid Tryd.prog 4000 os) #[.slice none 0 0] 8 rfl (World.shaped_of_RefB (by kernel_rfl) (by kernel_rfl)) (by kernel_rfl) (by kernel_rfl) (by kernel_rfl) (door_met os _))
theorem slotsThings_holds : Rows.SlotsThingsSaid :=
  OpenClaim.holds_of_cond 4 Tryd.f4 rfl rfl rfl rfl rfl rfl rfl ⟨rfl, rfl, rfl, rfl, rfl⟩ rfl rfl rfl rfl rfl (by kernel_rfl) Tryd.func4 (by kernel_rfl)
    (of_decide_eq_true (by kernel_rfl)) (by unfold Func.isWrapper; first | (rw [if_pos (by decide +kernel)]; kernel_rfl) | (rw [if_neg (by decide +kernel)]; exact ⟨rfl, rfl⟩))
    (fun os started H enc _ F0 => by rw [OpenClaim.pre_eq_preRow]; exact slotsThings_lifted os started H enc F0)
theorem slotsThings_card_holds : Rows.SlotsThingsCardSaid :=
  Claim7.holds_tied_plain_at .later [] [.data, .data, .data] true (true, Rows.slotsThingsCard.stood.harness.2) false
    slotsThings_holds (fun _ h => by cases h) (by kernel_rfl) (fun _ h => by cases h) slotsThings_row_tie rfl ⟨rfl, rfl⟩ (by kernel_rfl) rfl
    (fun f fn hf hfn => by
      obtain rfl : f = 4 := Option.some.inj ((show Tryd.prog.funcNamed "berth/berthlaw05.SlotsThings" = some 4 by kernel_rfl).symm.trans hf) |>.symm
      obtain rfl : fn = Tryd.f4 := (Option.some.inj (Tryd.func4.symm.trans hfn)).symm
      exact ⟨by kernel_rfl, fun j t ht => by
        rw [Tryd.params4] at ht
        have hm : t ∈ [34] := by simpa using Array.mem_of_getElem? ht
        have hall : ([34].all fun u => !Tryd.prog.wantsStandIn u) = true := by kernel_rfl
        exact (show Tryd.prog.wantsStandIn t = false by simpa using List.all_eq_true.1 hall t hm)⟩)
    (by kernel_rfl)
end Go.Proofs.YtcampkaenlohbaaDoor
