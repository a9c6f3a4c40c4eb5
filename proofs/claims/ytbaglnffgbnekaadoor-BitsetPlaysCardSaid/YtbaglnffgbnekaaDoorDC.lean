/- The scripts of berthlaw01 that come in. berthlaw01.Regs: the steps that make a set out of two. berthlaw01.Regs: a set is changed where it stands; the document's answer is put in beside it. berthlaw01.Regs: the steps that change a set. berthlaw01.Regs: the steps that ask. berthlaw01.Regs: a step. -/
import Derived.Test.YtbaglnffgbnekaaDoorDB
import Derived.Test.YtbaglnffgbnekaaDoorOg
import Derived.Test.YtbaglnffgbnekaaDoorND
set_option linter.unusedVariables false
set_option linter.unusedSimpArgs false
namespace Go.Proofs.YtbaglnffgbnekaaDoor
open Go Go.V Go.B
open Go.ChangeShapes Go.WideShapes Go.ChangeAt Go.RowKit

theorem making_c {w0 w : World} {gb : Nat} {rs : List Rg1} (h : Gs w0 w gb rs) {o : BOp} (ho : o.In w) (hk : 1 ≤ o.kind ∧ o.kind ≤ 3) {R : Ending → World → Prop} (k : ∀ w' rs', Gs w0 w' gb rs' → R (.returned (.bool true)) w') :
    Calls Tryd.prog 53 #[.pointer (some ⟨gb, 0, none⟩), .agg ⟨o.cells⟩] w R := by
  rcases (by omega : o.kind = 1 ∨ o.kind = 2 ∨ o.kind = 3) with h1 | h1 | h1
  · exact makingNew_c h h1 k
  · exact makingFrom_c h ho h1 k
  · exact makingWords_c h ho h1 k
theorem BOp.one (o : BOp) : ∀ v ∈ o.cells, v.oneCell' = true := fun v hv => by
  simp only [BOp.cells, List.mem_cons, List.not_mem_nil, or_false] at hv
  rcases hv with rfl | rfl | rfl | rfl | rfl | rfl | rfl <;> rfl
def BL : Lay BOp := ⟨BOp.cells, 7, fun _ => rfl, BOp.one, by omega⟩
structure OpsAt (w : World) (A : Option Addr) (n : Nat) (ops : List BOp) : Prop where
  c : Cells w A (BL.flat ops)
  len : ops.length = n
  in_ : ∀ o ∈ ops, o.In w
  sz : n * 88 ≤ 140737488351232
theorem OpsAt.ext0 {w w' : World} {A : Option Addr} {n : Nat} {ops : List BOp} (h : OpsAt w A n ops) (e : Ext [] w w') : OpsAt w' A n ops := ⟨h.c.ext0 e, h.len, fun o ho => (h.in_ o ho).ext0 e, h.sz⟩
theorem OpsAt.read {w : World} {A : Option Addr} {n : Nat} {ops : List BOp} (h : OpsAt w A n ops) {a : Nat} (ha : a < n) : ∃ o ad, ops[a]? = some o ∧ A = some ad ∧ cellsC (fun a v => w.cell? a = some v) (ad.add (Int.toNat (a : Int) * 7)) o.cells := h.c.row h.len ha
section
variable {H : Type} {enc : TypeId × Value → H} {w : World}
/-- A list of words that came in. -/
theorem open_wlist {fuel : Nat} {v : Value} {y : DataW H × List MemPlace} {P : Program} {t e : TypeId} (ht : P.underlying t = some (.slice e)) (he : P.underlying e = some (.int .u64)) (hc : P.cellsOf e = 1) (hby : P.bytesOf e = 8)
    (h : DataW.trod enc P w 0 (fun _ => true) true fuel t [v] = some y) (hw : ∀ n ∈ y.1.weights P t, n ≤ reachBytes) :
    ∃ A l c ws, v = .slice A l c ∧ Ints w .u64 A l (wi ws) ∧ l * 8 ≤ 140737488351232 ∧ ∀ j, ws.getD j 0 < 18446744073709551616 := by
  rcases open_ints ht he hc h with ⟨hcs, hx⟩ | ⟨a, len, cap, zs, hcs, _, hl, hm, hz, hx, hcell, hwz⟩
  · injection hcs with hv _
    exact ⟨none, 0, 0, [], hv, Ints.nil _ _ _, by omega, by simp⟩
  · injection hcs with hv _
    simp only [if_true] at hz
    have hw0 : ∀ z ∈ zs, 0 ≤ z ∧ z < 18446744073709551616 := fun z hz' => by
      have := hwz z hz'
      have e1 : IntKind.min .u64 = 0 := by decide
      have e2 : IntKind.max .u64 = 18446744073709551615 := by decide
      have wb : IntKind.min .u64 ≤ z ∧ z ≤ IntKind.max .u64 := by simpa [Lit.wf] using this
      rw [e1, e2] at wb; omega
    have hwi : wi ((zs.take len).map Int.toNat) = zs.take len := by
      unfold wi
      rw [List.map_map]
      conv => rhs; rw [← List.map_id (zs.take len)]
      refine List.map_congr_left fun z hz' => ?_
      have := hw0 z (List.mem_of_mem_take hz')
      show Int.ofNat z.toNat = z
      rw [Int.ofNat_eq_natCast]
      omega
    refine ⟨some a, len, cap, (zs.take len).map Int.toNat, hv, ?_, ?_, fun j => ?_⟩
    · rw [hwi]
      exact ⟨by simp; omega, fun j hj => ⟨a, rfl, by rw [hcell j (by omega)]; simp [List.getD_eq_getElem?_getD, List.getElem?_take, hj]⟩⟩
    · rw [hx] at hw
      have := hw (((Go.ChangeShapes.lits (H := H) .u64 (zs.take len)).length + (Go.ChangeShapes.lits (H := H) .u64 (zs.drop len)).length) * 8) (by simp [DataW.weights, ht, hby])
      simp only [Go.ChangeShapes.lits, List.length_map, List.length_take, List.length_drop, reachBytes] at this
      omega
    · rw [List.getD_eq_getElem?_getD]
      cases hq : ((zs.take len).map Int.toNat)[j]? with
      | none => simp
      | some y =>
        rw [List.getElem?_map, Option.map_eq_some_iff] at hq
        obtain ⟨z, hz1, rfl⟩ := hq
        have := hw0 z (List.mem_of_mem_take (List.mem_of_getElem? hz1))
        show z.toNat < _
        omega
theorem seven {α : Type} {cs : List α} {a b c d e f g : α} (h : cs.length = 7) (h0 : cs[0]? = some a) (h1 : cs[1]? = some b) (h2 : cs[2]? = some c) (h3 : cs[3]? = some d) (h4 : cs[4]? = some e) (h5 : cs[5]? = some f) (h6 : cs[6]? = some g) : cs = [a, b, c, d, e, f, g] := by
  match cs, h with
  | [_, _, _, _, _, _, _], _ => simp at h0 h1 h2 h3 h4 h5 h6; simp [h0, h1, h2, h3, h4, h5, h6]
set_option maxRecDepth 8000 in
theorem open_op {n : Nat} {cs : List Value} {z : DataW H × List MemPlace} (h : DataW.trod enc Tryd.prog w 0 (fun _ => true) true n 56 cs = some z) (hw : ∀ k ∈ z.1.weights Tryd.prog 56, k ≤ reachBytes) :
    ∃ o : BOp, cs = BL.enc o ∧ o.In w := by
  obtain ⟨hl, m, hf⟩ := trod_fields Tryd.underlying56 (by kernel_rfl) (by kernel_rfl) h hw
  obtain ⟨v0, y0, e0, t0, -⟩ := hf 0 _ rfl
  obtain ⟨v1, y1, e1, t1, -⟩ := hf 1 _ rfl
  obtain ⟨v2, y2, e2, t2, -⟩ := hf 2 _ rfl
  obtain ⟨v3, y3, e3, t3, -⟩ := hf 3 _ rfl
  obtain ⟨v4, y4, e4, t4, -⟩ := hf 4 _ rfl
  obtain ⟨v5, y5, e5, t5, w5⟩ := hf 5 _ rfl
  obtain ⟨v6, y6, e6, t6, w6⟩ := hf 6 _ rfl
  obtain ⟨a0, r0, -⟩ := DataW.trod_int Tryd.underlying3 t0
  obtain ⟨a1, r1, -⟩ := DataW.trod_int Tryd.underlying3 t1
  obtain ⟨a2, r2, -⟩ := DataW.trod_int Tryd.underlying3 t2
  obtain ⟨a3, r3, -⟩ := DataW.trod_int Tryd.underlying3 t3
  obtain ⟨a4, r4, -, wa⟩ := DataW.trod_int Tryd.underlying3 t4
  simp only [List.cons.injEq, and_true] at r0 r1 r2 r3 r4
  obtain ⟨L, ll, lc, xs, rfl, hx, lx⟩ := open_list Tryd.underlying22 Tryd.underlying3 (by kernel_rfl) (by kernel_rfl) t5 w5
  obtain ⟨W, wl, wc, ws, rfl, hy, ly, hb⟩ := open_wlist Tryd.underlying38 Tryd.underlying63 (by kernel_rfl) (by kernel_rfl) t6 w6
  subst r0 r1 r2 r3 r4
  have wb : IntKind.min .i64 ≤ a4 ∧ a4 ≤ IntKind.max .i64 := by simpa [Lit.wf] using wa
  have q1 : IntKind.min .i64 = -9223372036854775808 := by decide
  have q2 : IntKind.max .i64 = 9223372036854775807 := by decide
  rw [q1, q2] at wb
  exact ⟨⟨a0, a1, a2, a3, a4, L, ll, lc, xs, W, wl, wc, ws⟩, seven hl e0 e1 e2 e3 e4 e5 e6, wb.1, wb.2, hx, lx, hy, ly, hb⟩
set_option maxRecDepth 8000 in
theorem open_ops {base : Nat} {v : Value} {d : DataW H} {p : List MemPlace} (hok : Value.okWide Tryd.prog w .any base 45 v) (h : DataW.Trod enc Tryd.prog w 0 (fun _ => true) true 45 v d p)
    (hw : ∀ n ∈ d.weights Tryd.prog 45, n ≤ reachBytes) : ∃ A n c ops, v = .slice A n c ∧ OpsAt w A n ops := by
  obtain ⟨a, l, c, rfl⟩ := Go.WideShapes.okWide_slice Tryd.underlying45 hok
  obtain ⟨fuel, hf⟩ := h
  have hf' : DataW.trod enc Tryd.prog w 0 (fun _ => true) true fuel 45 [.slice a l c] = some (d, p) := hf
  obtain ⟨A, n, c', ops, hv, hc, hlen, hin, hb⟩ := open_flat BL (P := Tryd.prog) (t := 45) (e := 56) (Q := fun o => o.In w) Tryd.underlying45 (by kernel_rfl) (by decide) (fun _ _ _ h hw => open_op h hw) hf' hw
  have eb : Tryd.prog.bytesOf 56 = 88 := by kernel_rfl
  rw [eb] at hb
  simp only [Value.slice.injEq] at hv
  obtain ⟨rfl, rfl, rfl⟩ := hv
  exact ⟨a, l, c, ops, rfl, hc, hlen, hin, hb⟩
end
end Go.Proofs.YtbaglnffgbnekaaDoor
namespace Go.Proofs.YtbaglnffgbnekaaDoor
open Go Go.V Go.B

set_option maxRecDepth 4000 in
theorem cloneR_c {w0 w9 w16 : World} {gb a b : Nat} {rs : List Rg1} (h : Gs w0 w9 gb rs) {r rb : Rg1} (hra : rs[a]? = some r) (hrb : rs[b]? = some rb) (bx : BlkT w16 w9.heap.size [.int .i64 0, .slice none 0 0] 50) (x16 : Ext [] w9 w16)
    {R : Ending → World → Prop} (k : ∀ w' rs', Gs w0 w' gb rs' → R (.returned (.bool true)) w') :
    ∃ S168 : World → Prop, S168 (World.drew w16) ∧
  V.ptr (some (⟨gb, 0, none⟩ : Addr)) fun a170 =>
  V.when (decide ((0 : Int) ≤ ((b : Nat) : Int) ∧ (((b : Nat) : Int) : Int) < 4)) (∃ p171, (∀ w169, S168 w169 → World.cell? w169 (Addr.add (Addr.add a170 0) ((Int.toNat ((b : Nat) : Int)) * 1)) = some (Value.pointer p171)) ∧
  V.ptr (some (⟨gb, 0, none⟩ : Addr)) fun a172 =>
  V.when (decide ((0 : Int) ≤ ((b : Nat) : Int) ∧ (((b : Nat) : Int) : Int) < 4)) (∃ n173, ∃ A174, ∃ A174l, ∃ A174c, V.cellsC (fun a_ x_ => ∀ w169, S168 w169 → World.cell? w169 a_ = some x_) (Addr.add (Addr.add a172 4) ((Int.toNat ((b : Nat) : Int)) * 2)) [(Value.int .i64 n173), (Value.slice A174 A174l A174c)] ∧
  Calls Tryd.prog 27 #[(Value.pointer p171)] (World.drew w16) fun e176 w177 =>
  ∃ p175, e176 = Ending.returned (Value.pointer p175) ∧
  S168 w177 ∧
  Calls Tryd.prog 72 #[(Value.agg #[(Value.int .i64 n173), (Value.slice A174 A174l A174c)])] w177 fun e180 w181 =>
  ∃ n178, ∃ A179, ∃ A179l, ∃ A179c, e180 = Ending.returned (Value.agg #[(Value.int .i64 n178), (Value.slice A179 A179l A179c)]) ∧
  S168 w181 ∧
  ∃ w182, Sem.run Tryd.prog (Instr.storeAt 50 (Value.pointer (some ⟨Array.size (World.heap (World.drew w9)), 0, none⟩)) (Value.agg #[(Value.int .i64 n178), (Value.slice A179 A179l A179c)])) w181 = .ok () w182 ∧
  V.sel (Option.isNone p175)
  (R (Ending.returned (Value.bool false)) w182)
  (∃ S183 : World → Prop, S183 (World.drew w182) ∧
  ∃ n185, ∃ A186, ∃ A186l, ∃ A186c, V.cellsC (fun a_ x_ => ∀ w184, S183 w184 → World.cell? w184 a_ = some x_) ⟨Array.size (World.heap (World.drew w9)), 0, none⟩ [(Value.int .i64 n185), (Value.slice A186 A186l A186c)] ∧
  V.ptr (some (⟨gb, 0, none⟩ : Addr)) fun a187 =>
  V.when (decide ((0 : Int) ≤ ((a : Nat) : Int) ∧ (((a : Nat) : Int) : Int) < 4)) (V.ptr (some (⟨gb, 0, none⟩ : Addr)) fun a188 =>
  V.ptr (some (⟨gb, 0, none⟩ : Addr)) fun a189 =>
  ∃ w190, Sem.run Tryd.prog (Instr.storeAt 27 (Value.pointer (some (Addr.add (Addr.add a187 0) ((Int.toNat ((a : Nat) : Int)) * 1)))) (Value.pointer p175)) (World.drew w182) = .ok () w190 ∧
  S183 w190 ∧
  V.when (decide ((0 : Int) ≤ ((a : Nat) : Int) ∧ (((a : Nat) : Int) : Int) < 4)) (∃ w191, Sem.run Tryd.prog (Instr.storeAt 50 (Value.pointer (some (Addr.add (Addr.add a188 4) ((Int.toNat ((a : Nat) : Int)) * 2)))) (Value.agg #[(Value.int .i64 n185), (Value.slice A186 A186l A186c)])) w190 = .ok () w191 ∧
  S183 w191 ∧
  V.when (decide ((0 : Int) ≤ ((a : Nat) : Int) ∧ (((a : Nat) : Int) : Int) < 4)) (∃ w192, Sem.run Tryd.prog (Instr.storeAt 4 (Value.pointer (some (Addr.add (Addr.add a189 12) ((Int.toNat ((a : Nat) : Int)) * 1)))) (Value.bool false)) w191 = .ok () w192 ∧
  S183 w192 ∧
  R (Ending.returned (Value.bool true)) w192)))))) := by
  have ra := (List.getElem?_eq_some_iff.1 hra).1
  have rb4 := (List.getElem?_eq_some_iff.1 hrb).1
  have h4 := h.len
  have ib : (0 : Int) ≤ (b : Int) ∧ (b : Int) < 4 := by omega
  have h16 := h.ext0 x16
  have d16 : Ext [] w16 w16.drew := (Ext.refl _ _).drew
  have s16 := x16.size
  have hxl := bx.lt
  have atb := (h16.ext0 d16).at_ b rb hrb
  refine ⟨fun w' => Ext [] w16 w', d16, ptr_in (when_dec ib ⟨_, fun w' e => (h16.ext0 e).read_p hrb, ptr_in (when_dec ib ⟨_, _, _, _, cellsC_S (S := fun w' => Ext [] w16 w') (fun w' e => (h16.ext0 e).read_d hrb), ?_⟩)⟩)⟩
  refine Clone_c atb.ref fun p bw w32 e32 hp1 hbw hC => ⟨_, rfl, d16.trans e32, ?_⟩
  have f32 := (x16.trans d16).trans e32
  refine refClone_c (atb.doc.ext0 e32) fun M m d w36 e36 hM hrf => ⟨_, _, _, _, rfl, (d16.trans e32).trans e36, ?_⟩
  have f36 := f32.trans e36
  obtain ⟨w37, hr37, b37, x37⟩ := storeW (P := Tryd.prog) (t := 50) (n := 2) (vs := [.int .i64 (rb.S.N : Int), .slice M m d]) i50s (((bx.ext0 d16).ext0 e32).ext0 e36) rfl rfl (fun v hv => by simp at hv; rcases hv with rfl | rfl <;> rfl)
  have e37 : Ext [] w9 w37 := f36.trans' x37 (fun b hb => .inr (by simp at hb; omega))
  have s32 := e32.size
  have s36 := e36.size
  have s37 := x37.size
  have sd : w16.drew.heap.size = w16.heap.size := rfl
  refine ⟨w37, hr37, sel_false rfl ⟨fun w' => Ext [gb] w37 w', (Ext.refl _ _).drew, _, _, _, _, cellsC_S (S := fun w' => Ext [gb] w37 w') (fun w' e => cadd0 (b37.ext e (by have := h.blk.lt; simp; omega))), ?_⟩⟩
  have hl := hC.hdr.lt
  have hl2 := hC.wrd.lt
  refine put3 (r' := ⟨some (p, bw), rb.S, M, m, d⟩) h hra e37 (by simp) ⟨?_, ?_⟩ (fun y hy => ?_) (fun y hy => ?_) (fun y hy => ?_) (S := fun w' => Ext [gb] w37 w') (fun w' e => e) fun w' hg => k w' _ hg
  · exact ((hC.ext0 e36).ext x37 (by simp; omega) (by simp; omega)).ref
  · exact hrf.ext x37 (fun y hy hm => by have := hM y hy; simp at hm; omega)
  · have hy : y = p ∨ y = bw := by simpa [Rg1.f] using hy
    refine .inr ⟨by omega, fun hm => ?_⟩
    have := hM y hm
    omega
  · have := hM y hy
    exact .inr (by omega)
  · have := hM y hy
    show y < w37.heap.size
    omega
set_option maxRecDepth 4000 in
theorem joining_c {w0 w : World} {gb : Nat} {rs : List Rg1} (h : Gs w0 w gb rs) {o : BOp} {R : Ending → World → Prop} (k : ∀ w' rs', Gs w0 w' gb rs' → R (.returned (.bool true)) w') :
    Calls Tryd.prog 54 #[.pointer (some ⟨gb, 0, none⟩), .agg ⟨o.cells⟩] w R := by
  unfold BOp.cells
  apply berthlaw01_Regs_joining_nf
  intro w9 h9
  obtain ⟨b9, x9, z9⟩ := box_new (cs := o.cells) h9
  obtain ⟨a, ha, ea⟩ := and3 o.a
  obtain ⟨b, hb, eb⟩ := and3 o.b
  obtain ⟨c, hc, ec⟩ := and3 o.c
  obtain ⟨r, hr⟩ := h.at ha
  obtain ⟨rb, hrb⟩ := h.at hb
  obtain ⟨rc, hrc⟩ := h.at hc
  have d9 : Ext [] w9 w9.drew := (Ext.refl _ _).drew
  have hg := (h.ext0 x9).ext0 d9
  have atb := hg.at_ b rb hrb
  have atc := hg.at_ c rc hrc
  refine ⟨_, cadd b9 (i := 1) rfl, _, cadd b9 (i := 2) rfl, _, cadd b9 (i := 3) rfl, lt_eq ea (lt_eq eb (lt_eq ec ?_))⟩
  intro w16 h16
  obtain ⟨b16, x16, z16⟩ := box_new (cs := [.int .i64 0, .slice none 0 0]) h16
  refine ⟨_, cadd ((b9.ext0 d9).ext0 x16) (i := 0) rfl, ?_⟩
  by_cases k4 : o.kind = 4
  · refine sel_true (by simp [k4]) ?_
    exact joinR_c (NN := max rb.S.N rc.S.N) (f := fun i => rb.S.mem i && rc.S.mem i) hg hr hrb hrc b16 x16 (fun w' R e kk => And_c (atb.ref.ext0 e) (atc.ref.ext0 e) kk)
      (fun w' R e kk => refAnd_c (atb.doc.ext0 e) (atc.doc.ext0 e) fun M m d w'' e' hM hq => kk M m d w'' e' hM fun C oC hm => hq C oC fun i => by rw [hm]; unfold pickP; cases rb.S.mem i <;> cases rc.S.mem i <;> rfl) k
  refine sel_false (by simp [k4]) ?_
  by_cases k5 : o.kind = 5
  · refine sel_true (by simp [k5]) ?_
    exact joinR_c (NN := max rb.S.N rc.S.N) (f := fun i => rb.S.mem i || rc.S.mem i) hg hr hrb hrc b16 x16 (fun w' R e kk => Or_c (atb.ref.ext0 e) (atc.ref.ext0 e) kk)
      (fun w' R e kk => refOr_c (atb.doc.ext0 e) (atc.doc.ext0 e) fun M m d w'' e' hM hq => kk M m d w'' e' hM fun C oC hm => hq C oC fun i => by rw [hm]; unfold pickP; cases rb.S.mem i <;> cases rc.S.mem i <;> rfl) k
  refine sel_false (by simp [k5]) ?_
  by_cases k6 : o.kind = 6
  · refine sel_true (by simp [k6]) ?_
    exact joinR_c (NN := max rb.S.N rc.S.N) (f := fun i => rb.S.mem i && !rc.S.mem i) hg hr hrb hrc b16 x16 (fun w' R e kk => AndNot_c (atb.ref.ext0 e) (atc.ref.ext0 e) kk)
      (fun w' R e kk => refAndNot_c (atb.doc.ext0 e) (atc.doc.ext0 e) fun M m d w'' e' hM hq => kk M m d w'' e' hM fun C oC hm => hq C oC fun i => by rw [hm]; unfold pickP; cases rb.S.mem i <;> cases rc.S.mem i <;> rfl) k
  refine sel_false (by simp [k6]) ?_
  by_cases k7 : o.kind = 7
  · refine sel_true (by simp [k7]) ?_
    exact joinR_c (NN := max rb.S.N rc.S.N) (f := fun i => rb.S.mem i ^^ rc.S.mem i) hg hr hrb hrc b16 x16 (fun w' R e kk => Xor_c (atb.ref.ext0 e) (atc.ref.ext0 e) kk)
      (fun w' R e kk => refXor_c (atb.doc.ext0 e) (atc.doc.ext0 e) fun M m d w'' e' hM hq => kk M m d w'' e' hM fun C oC hm => hq C oC fun i => by rw [hm]; unfold pickP; cases rb.S.mem i <;> cases rc.S.mem i <;> rfl) k
  refine sel_false (by simp [k7]) ?_
  by_cases k8 : o.kind = 8
  · refine sel_true (by simp [k8]) ?_
    exact joinR_c (NN := rc.S.N) (f := fun i => rc.S.mem i && !rb.S.mem i) hg hr hrb hrc b16 x16 (fun w' R e kk => Not_c (atb.ref.ext0 e) (atc.ref.ext0 e) kk)
      (fun w' R e kk => refNot_c (atb.doc.ext0 e) (atc.doc.ext0 e) fun M m d w'' e' hM hq => kk M m d w'' e' hM fun C oC hm => hq C oC fun i => by rw [hm]; unfold pickP; cases rb.S.mem i <;> cases rc.S.mem i <;> rfl) k
  refine sel_false (by simp [k8]) ?_
  exact cloneR_c hg hr hrb b16 x16 k
end Go.Proofs.YtbaglnffgbnekaaDoor
namespace Go.Proofs.YtbaglnffgbnekaaDoor
open Go Go.V Go.B

theorem _root_.Go.B.Ext.wide {F F' : List Nat} {w w' : World} (e : Ext F w w') (h : ∀ b ∈ F, b ∈ F') : Ext F' w w' := ⟨e.os, e.tape, e.output, e.size, fun q hq hm => e.same q hq fun hb => hm (h q hb)⟩
section
variable {w : World} {q : Option Addr} {S : SetV} {f : List Nat}
theorem AddU (h : RefAt w q S f) (i : Int) {R : Ending → World → Prop}
    (k : ∀ w' T t, Ext f w w' → RefAt w' q T f → T.N = S.N → (∀ j, T.mem j = (S.mem j || decide (0 ≤ i ∧ i < (S.N : Int) ∧ (j : Int) = i))) → t = (decide (0 ≤ i ∧ i < (S.N : Int)) && !S.has i) → R (.returned (.bool t)) w') :
    Calls Tryd.prog 18 #[.pointer q, .int .i64 i] w R := by
  rcases h with ⟨rfl, rfl, rfl⟩ | ⟨p, bw, rfl, hs, rfl⟩
  · have hz : ((SetV.nil.N : Nat) : Int) = 0 := rfl
    refine Add_nil (k w SetV.nil false (Ext.refl _ _) (RefAt.nil w) rfl (fun j => ?_) ?_)
    · rw [decide_eq_false (by rw [hz]; omega), Bool.or_false]
    · rw [decide_eq_false (by rw [hz]; omega), Bool.false_and]
  · exact Add_c hs i fun w' T t e hT => k w' T t (e.wide (by simp)) hT.ref
theorem RemoveU (h : RefAt w q S f) (i : Int) {R : Ending → World → Prop}
    (k : ∀ w' T t, Ext f w w' → RefAt w' q T f → T.N = S.N → (∀ j, T.mem j = (S.mem j && !decide ((j : Int) = i))) → t = S.has i → R (.returned (.bool t)) w') :
    Calls Tryd.prog 19 #[.pointer q, .int .i64 i] w R := by
  rcases h with ⟨rfl, rfl, rfl⟩ | ⟨p, bw, rfl, hs, rfl⟩
  · exact Remove_nil (k w SetV.nil false (Ext.refl _ _) (RefAt.nil w) rfl (fun j => by simp [SetV.mem, SetV.nil]) (by simp [SetV.has, SetV.mem, SetV.nil]))
  · exact Remove_c hs i fun w' T t e hT => k w' T t (e.wide (by simp)) hT.ref
theorem rdU {p bw : Nat} {T : SetV} {qt : Option Addr} {ft : List Nat} (ht : RefAt w qt T ft) (hx : (qt = some ⟨p, 0, none⟩ ∧ T = S) ∨ ∀ b ∈ [p, bw], b ∉ ft) (F : Nat → Nat) : Rd w p bw S F qt T := by
  rcases hx with ⟨rfl, rfl⟩ | hx
  · exact Rd.self F
  · exact Rd.other ht (hx bw (by simp))
theorem AndU {T : SetV} {qt : Option Addr} {ft : List Nat} (h : RefAt w q S f) (ht : RefAt w qt T ft) (hx : (qt = q ∧ T = S) ∨ ∀ b ∈ f, b ∉ ft) {R : Ending → World → Prop}
    (k : ∀ w' C, Ext f w w' → RefAt w' q C f → C.N = S.N → (∀ i, C.mem i = (S.mem i && T.mem i)) → R (.returned undef) w') :
    Calls Tryd.prog 22 #[.pointer q, .pointer qt] w R := by
  have ot := ht.ok
  rcases h with ⟨rfl, rfl, rfl⟩ | ⟨p, bw, rfl, hs, rfl⟩
  · exact AndWith_nil (k w SetV.nil (Ext.refl _ _) (RefAt.nil w) rfl (fun j => by simp [SetV.mem, SetV.nil]))
  · exact AndWith_c hs ot (rdU ht hx _) fun w' C e hC => k w' C (e.wide (by simp)) hC.ref
theorem AndNotU {T : SetV} {qt : Option Addr} {ft : List Nat} (h : RefAt w q S f) (ht : RefAt w qt T ft) (hx : (qt = q ∧ T = S) ∨ ∀ b ∈ f, b ∉ ft) {R : Ending → World → Prop}
    (k : ∀ w' C, Ext f w w' → RefAt w' q C f → C.N = S.N → (∀ i, C.mem i = (S.mem i && !T.mem i)) → R (.returned undef) w') :
    Calls Tryd.prog 24 #[.pointer q, .pointer qt] w R := by
  have ot := ht.ok
  rcases h with ⟨rfl, rfl, rfl⟩ | ⟨p, bw, rfl, hs, rfl⟩
  · exact AndNotWith_nil (k w SetV.nil (Ext.refl _ _) (RefAt.nil w) rfl (fun j => by simp [SetV.mem, SetV.nil]))
  · exact AndNotWith_c hs ot (rdU ht hx _) fun w' C e hC => k w' C (e.wide (by simp)) hC.ref
theorem OrU {T : SetV} {qt : Option Addr} {ft : List Nat} (h : RefAt w q S f) (ht : RefAt w qt T ft) (hx : (qt = q ∧ T = S) ∨ ∀ b ∈ f, b ∉ ft) {R : Ending → World → Prop}
    (k : ∀ w' C, Ext f w w' → RefAt w' q C f → C.N = S.N → (∀ i, C.mem i = (S.mem i || (decide (i < S.N) && T.mem i))) → R (.returned undef) w') :
    Calls Tryd.prog 23 #[.pointer q, .pointer qt] w R := by
  have ot := ht.ok
  rcases h with ⟨rfl, rfl, rfl⟩ | ⟨p, bw, rfl, hs, rfl⟩
  · exact OrWith_nil (k w SetV.nil (Ext.refl _ _) (RefAt.nil w) rfl (fun j => by simp [SetV.mem, SetV.nil]))
  · exact OrWith_c hs ot (rdU ht hx _) fun w' C e hC => k w' C (e.wide (by simp)) hC.ref
end
theorem read_pB {w : World} {gb : Nat} {rs : List Rg1} (b : BlkT w gb (gcells rs) 53) (hl : rs.length = 4) {i : Nat} {r : Rg1} (hr : rs[i]? = some r) : w.cell? (Addr.add (Addr.add ⟨gb, 0, none⟩ 0) (Int.toNat (i : Int) * 1)) = some (.pointer r.p) := by
  rw [Addr.add_zero', Int.toNat_natCast, Nat.mul_one]
  exact cadd b (g_p hl hr)
theorem read_dB {w : World} {gb : Nat} {rs : List Rg1} (b : BlkT w gb (gcells rs) 53) (hl : rs.length = 4) {i : Nat} {r : Rg1} (hr : rs[i]? = some r) : cellsC (fun a v => w.cell? a = some v) (Addr.add (Addr.add ⟨gb, 0, none⟩ 4) (Int.toNat (i : Int) * 2)) [.int .i64 (r.S.N : Int), .slice r.A r.n r.c] := by
  intro j v hv
  rw [Int.toNat_natCast, Addr.add_add, Addr.add_add]
  exact cadd b (by rw [← Nat.add_assoc]; exact g_d hl hr j v hv)
theorem read_nB {w : World} {gb : Nat} {rs : List Rg1} (b : BlkT w gb (gcells rs) 53) (hl : rs.length = 4) {i : Nat} {r : Rg1} (hr : rs[i]? = some r) : w.cell? (Addr.add (Addr.add ⟨gb, 0, none⟩ 12) (Int.toNat (i : Int) * 1)) = some (.bool r.q.isNone) := by
  rw [Int.toNat_natCast, Nat.mul_one, Addr.add_add]
  exact cadd b (g_n hl hr)
theorem g_setD {rs : List Rg1} (h : rs.length = 4) {i : Nat} {r r' : Rg1} (hr : rs[i]? = some r) (hp : r'.p = r.p) (hn : r'.q.isNone = r.q.isNone) : ((gcells rs).take (4 + i * 2) ++ [Value.int .i64 (r'.S.N : Int), .slice r'.A r'.n r'.c] ++ (gcells rs).drop (4 + i * 2 + 2)) = gcells (rs.set i r') := by
  match rs, h with
  | [a, b, c, d], _ =>
    match i, hr with
    | 0, hr => cases hr; simp [gcells, hp, hn]
    | 1, hr => cases hr; simp [gcells, hp, hn]
    | 2, hr => cases hr; simp [gcells, hp, hn]
    | 3, hr => cases hr; simp [gcells, hp, hn]
    | n + 4, hr => simp at hr
theorem putD {w0 wB w : World} {gb a : Nat} {rs : List Rg1} (h : Gs w0 wB gb rs) {r r' : Rg1} (hr : rs[a]? = some r) {F : List Nat} (e : Ext F wB w) (hF : ∀ b ∈ F, b ∈ r.f ∨ wB.heap.size ≤ b) (hat : Rg1At w r') (hp : r'.p = r.p) (hn : r'.q.isNone = r.q.isNone)
    (n1 : ∀ b ∈ r'.f, b ∈ r.f ∨ (wB.heap.size ≤ b ∧ b ∉ ownF r'.A)) (n2 : ∀ b ∈ ownF r'.A, b ∈ ownF r.A ∨ wB.heap.size ≤ b) (n3 : ∀ b ∈ ownF r'.A, b < w.heap.size) {K : World → Prop} (k : ∀ w', Gs w0 w' gb (rs.set a r') → K w') :
    Go.V.when (decide ((0 : Int) ≤ (a : Int) ∧ (a : Int) < 4)) (∃ w20, Sem.run Tryd.prog (Instr.storeAt 50 (.pointer (some (Addr.add (Addr.add ⟨gb, 0, none⟩ 4) ((Int.toNat (a : Int)) * 2)))) (.agg #[.int .i64 (r'.S.N : Int), .slice r'.A r'.n r'.c])) w = .ok () w20 ∧ K w20) := by
  have ha4 : a < 4 := by have := (List.getElem?_eq_some_iff.1 hr).1; have := h.len; omega
  have hgl := h.blk.lt
  have s := e.size
  have hgF : gb ∉ F := fun hm => by
    rcases hF gb hm with h1 | h1
    · exact (h.s3 a r hr).1 h1
    · omega
  have b0 : BlkT w gb (gcells rs) 53 := h.blk.ext e hgF
  have gl := g_len h.len
  refine when_dec ⟨by omega, by omega⟩ ?_
  obtain ⟨w20, hr20, b20, x⟩ := storeN (P := Tryd.prog) i50s b0 (o := 4 + a * 2) (vs := [.int .i64 (r'.S.N : Int), .slice r'.A r'.n r'.c]) rfl (by rw [gl]; omega) (fun v hv => by simp at hv; rcases hv with rfl | rfl <;> rfl)
  refine ⟨w20, by rw [Int.toNat_natCast, Addr.add_add, Addr.add_lit, Nat.zero_add]; exact hr20, k w20 ?_⟩
  rw [g_setD h.len hr hp hn] at b20
  have hlt' := hat.lt
  refine h.put hr (F := gb :: F) ⟨x.os.trans e.os, x.tape.trans e.tape, x.output.trans e.output, Nat.le_trans e.size x.size, fun q hq hm => ?_⟩ (fun b hb => ?_) b20 (hat.ext x (fun b hb hm => ?_) (fun b hb hm => ?_)) n1 n2 (fun b hb => by have := n3 b hb; have := x.size; omega)
  · simp only [List.mem_cons, not_or] at hm
    rw [x.same q (by omega) (by simpa using hm.1), e.same q hq hm.2]
  · simp only [List.mem_cons] at hb
    rcases hb with h1 | h1
    · exact .inl h1
    · rcases hF b h1 with h2 | h2
      · exact .inr (.inl h2)
      · exact .inr (.inr h2)
  · have hm : b = gb := by simpa using hm
    subst hm
    rcases n1 _ hb with h1 | ⟨h1, _⟩
    · exact (h.s3 a r hr).1 h1
    · omega
  · have hm : b = gb := by simpa using hm
    subst hm
    rcases n2 _ hb with h1 | h1
    · exact (h.s3 a r hr).2 h1
    · omega
/-- What the document's answer is, wherever it was put for a while. -/
def Jd (w22 : World) (r : Rg1) (T : SetV) (ra : Option Addr) (w : World) : Prop := ∃ (pb : Nat) (M : Option Addr) (m d : Nat), ra = some ⟨pb, 0, none⟩ ∧ BlkT w pb [.int .i64 (T.N : Int), .slice M m d] 50 ∧ Ext [] w22 w ∧ Rf w T M m d ∧ ∀ b ∈ ownF M, (b ∈ ownF r.A ∨ w22.heap.size ≤ b) ∧ b < w.heap.size
def Jb (w22 : World) (r : Rg1) (T : SetV) (tv : Bool) (ra : Option Addr) (b : Bool) (w : World) : Prop := b = tv ∧ Jd w22 r T ra w
def Ji (w22 : World) (r : Rg1) (T : SetV) (tv : Int) (ra : Option Addr) (b : Int) (w : World) : Prop := b = tv ∧ Jd w22 r T ra w
section
variable {w w22 : World} {gb a : Nat} {rs : List Rg1} {r : Rg1} {o : BOp} {pf : FuncId} {T : SetV}
theorem twoB (g : BlkT w22 gb (gcells rs) 53) (hl : rs.length = 4) (hra : rs[a]? = some r) (hb : BlkT w22 w.heap.size o.cells 56) (hlt : ∀ b ∈ ownF r.A, b < w22.heap.size) {tv : Bool}
    (hd : ∀ (w1 : World) (R1 : Ending → World → Prop), Ext [] w22 w1 → (∀ M m d w2, Ext [] w1 w2 → Rf w2 T M m d → (∀ b ∈ ownF M, (b ∈ ownF r.A ∨ w1.heap.size ≤ b) ∧ b < w2.heap.size) → R1 (.returned (.tuple #[rv (T.N : Int) M m d, .bool tv])) w2) → Calls Tryd.prog pf #[rv (r.S.N : Int) r.A r.n r.c, .int .i64 o.i] w1 R1) :
    ∃ S24 : World → Prop, S24 (World.drew w22) ∧
  V.ptr (some (⟨gb, 0, none⟩ : Addr)) fun a26 =>
  V.when (decide ((0 : Int) ≤ ((a : Nat) : Int) ∧ (((a : Nat) : Int) : Int) < 4)) (∃ n27, ∃ A28, ∃ A28l, ∃ A28c, V.cellsC (fun a_ x_ => ∀ w25, S24 w25 → World.cell? w25 a_ = some x_) (Addr.add (Addr.add a26 4) ((Int.toNat ((a : Nat) : Int)) * 2)) [(Value.int .i64 n27), (Value.slice A28 A28l A28c)] ∧
  ∃ n29, (∀ w25, S24 w25 → World.cell? w25 (Addr.add ⟨Array.size (World.heap w), 0, none⟩ 4) = some (Value.int .i64 n29)) ∧
  (Calls Tryd.prog pf #[(Value.agg #[(Value.int .i64 n27), (Value.slice A28 A28l A28c)]), (Value.int .i64 n29)] (World.drew w22) fun e33 w34 =>
  ∃ n30, ∃ A31, ∃ A31l, ∃ A31c, ∃ b32, e33 = Ending.returned (Value.tuple #[(Value.agg #[(Value.int .i64 n30), (Value.slice A31 A31l A31c)]), (Value.bool b32)]) ∧
  S24 w34 ∧
  ∀ w35, w35 = (World.alloc w34 (.cells #[(Value.int .i64 0), (Value.slice none 0 0)] 50)) →
  S24 w35 ∧
  ∃ w36, Sem.run Tryd.prog (Instr.storeAt 50 (Value.pointer (some ⟨Array.size (World.heap w34), 0, none⟩)) (Value.agg #[(Value.int .i64 n30), (Value.slice A31 A31l A31c)])) w35 = .ok () w36 ∧
  S24 w36 ∧
  (Jb w22 r T tv) (some ⟨Array.size (World.heap w34), 0, none⟩) b32 w36) ∧
  (∀ w37, w37 = (World.alloc (World.drew w22) (.cells #[(Value.int .i64 0), (Value.slice none 0 0)] 50)) →
  S24 w37 ∧
  Calls Tryd.prog pf #[(Value.agg #[(Value.int .i64 n27), (Value.slice A28 A28l A28c)]), (Value.int .i64 n29)] w37 fun e41 w42 =>
  ∃ n38, ∃ A39, ∃ A39l, ∃ A39c, ∃ b40, e41 = Ending.returned (Value.tuple #[(Value.agg #[(Value.int .i64 n38), (Value.slice A39 A39l A39c)]), (Value.bool b40)]) ∧
  S24 w42 ∧
  ∃ w43, Sem.run Tryd.prog (Instr.storeAt 50 (Value.pointer (some ⟨Array.size (World.heap (World.drew w22)), 0, none⟩)) (Value.agg #[(Value.int .i64 n38), (Value.slice A39 A39l A39c)])) w42 = .ok () w43 ∧
  S24 w43 ∧
  (Jb w22 r T tv) (some ⟨Array.size (World.heap (World.drew w22)), 0, none⟩) b40 w43) ∧ True) := by
  have ra4 := (List.getElem?_eq_some_iff.1 hra).1
  have ia : (0 : Int) ≤ (a : Int) ∧ (a : Int) < 4 := by omega
  have d22 : Ext [] w22 w22.drew := (Ext.refl _ _).drew
  refine ⟨fun w' => Ext [] w22 w', d22, ptr_in (when_dec ia ⟨_, _, _, _, cellsC_S (S := fun w' => Ext [] w22 w') (fun w' e => read_dB (g.ext0 e) hl hra), _, fun w' e => cadd (hb.ext0 e) (i := 4) rfl, ?_, ?_, trivial⟩)⟩
  · refine hd _ _ d22 fun M m d w34 e34 hrf hM => ⟨_, _, _, _, _, rfl, d22.trans e34, ?_⟩
    intro w35 h35
    obtain ⟨b35, x35, z35⟩ := box_new (cs := [.int .i64 0, .slice none 0 0]) h35
    obtain ⟨w36, hr36, b36, x36⟩ := storeW (P := Tryd.prog) (t := 50) (n := 2) (vs := [.int .i64 (T.N : Int), .slice M m d]) i50s b35 rfl rfl (fun v hv => by simp at hv; rcases hv with rfl | rfl <;> rfl)
    have s34 := (d22.trans e34).size
    have s36 := x36.size
    have s35 := x35.size
    have e36 : Ext [] w22 w36 := ((d22.trans e34).trans x35).trans' x36 (fun b hb => .inr (by simp at hb; omega))
    have sd : w22.drew.heap.size = w22.heap.size := rfl
    refine ⟨(d22.trans e34).trans x35, w36, hr36, e36, rfl, w34.heap.size, M, m, d, rfl, b36, e36, (hrf.ext0 x35).ext x36 (fun b hb hm => by have := (hM b hb).2; simp at hm; omega), fun b hb => ?_⟩
    obtain ⟨h1, h2⟩ := hM b hb
    rw [sd] at h1
    exact ⟨h1, by omega⟩
  · intro w37 h37
    obtain ⟨b37, x37, z37⟩ := box_new (cs := [.int .i64 0, .slice none 0 0]) h37
    have sd : w22.drew.heap.size = w22.heap.size := rfl
    refine ⟨d22.trans x37, hd _ _ (d22.trans x37) fun M m d w42 e42 hrf hM => ⟨_, _, _, _, _, rfl, (d22.trans x37).trans e42, ?_⟩⟩
    obtain ⟨w43, hr43, b43, x43⟩ := storeW (P := Tryd.prog) (t := 50) (n := 2) (vs := [.int .i64 (T.N : Int), .slice M m d]) i50s (b37.ext0 e42) rfl rfl (fun v hv => by simp at hv; rcases hv with rfl | rfl <;> rfl)
    have s37 := b37.lt
    have s42 := e42.size
    have s43 := x43.size
    have e43 : Ext [] w22 w43 := ((d22.trans x37).trans e42).trans' x43 (fun b hb => .inr (by simp at hb; omega))
    refine ⟨w43, hr43, e43, rfl, w22.drew.heap.size, M, m, d, rfl, b43, e43, hrf.ext x43 (fun b hb hm => ?_), fun b hb => ?_⟩
    · have hm : b = w22.drew.heap.size := by simpa using hm
      rcases (hM b hb).1 with h1 | h1
      · have := hlt b h1; omega
      · omega
    · obtain ⟨h1, h2⟩ := hM b hb
      refine ⟨?_, by omega⟩
      rcases h1 with h1 | h1
      · exact .inl h1
      · exact .inr (by omega)
theorem twoI (g : BlkT w22 gb (gcells rs) 53) (hl : rs.length = 4) (hra : rs[a]? = some r) (hb : BlkT w22 w.heap.size o.cells 56) (hlt : ∀ b ∈ ownF r.A, b < w22.heap.size) {tv : Int}
    (hd : ∀ (w1 : World) (R1 : Ending → World → Prop), Ext [] w22 w1 → (∀ M m d w2, Ext [] w1 w2 → Rf w2 T M m d → (∀ b ∈ ownF M, (b ∈ ownF r.A ∨ w1.heap.size ≤ b) ∧ b < w2.heap.size) → R1 (.returned (.tuple #[rv (T.N : Int) M m d, .int .i64 tv])) w2) → Calls Tryd.prog pf #[rv (r.S.N : Int) r.A r.n r.c, .int .i64 o.i] w1 R1) :
    ∃ S105 : World → Prop, S105 (World.drew w22) ∧
  V.ptr (some (⟨gb, 0, none⟩ : Addr)) fun a107 =>
  V.when (decide ((0 : Int) ≤ ((a : Nat) : Int) ∧ (((a : Nat) : Int) : Int) < 4)) (∃ n108, ∃ A109, ∃ A109l, ∃ A109c, V.cellsC (fun a_ x_ => ∀ w106, S105 w106 → World.cell? w106 a_ = some x_) (Addr.add (Addr.add a107 4) ((Int.toNat ((a : Nat) : Int)) * 2)) [(Value.int .i64 n108), (Value.slice A109 A109l A109c)] ∧
  ∃ n110, (∀ w106, S105 w106 → World.cell? w106 (Addr.add ⟨Array.size (World.heap w), 0, none⟩ 4) = some (Value.int .i64 n110)) ∧
  (Calls Tryd.prog pf #[(Value.agg #[(Value.int .i64 n108), (Value.slice A109 A109l A109c)]), (Value.int .i64 n110)] (World.drew w22) fun e114 w115 =>
  ∃ n111, ∃ A112, ∃ A112l, ∃ A112c, ∃ n113, e114 = Ending.returned (Value.tuple #[(Value.agg #[(Value.int .i64 n111), (Value.slice A112 A112l A112c)]), (Value.int .i64 n113)]) ∧
  S105 w115 ∧
  ∀ w116, w116 = (World.alloc w115 (.cells #[(Value.int .i64 0), (Value.slice none 0 0)] 50)) →
  S105 w116 ∧
  ∃ w117, Sem.run Tryd.prog (Instr.storeAt 50 (Value.pointer (some ⟨Array.size (World.heap w115), 0, none⟩)) (Value.agg #[(Value.int .i64 n111), (Value.slice A112 A112l A112c)])) w116 = .ok () w117 ∧
  S105 w117 ∧
  (Ji w22 r T tv) (some ⟨Array.size (World.heap w115), 0, none⟩) n113 w117) ∧
  (∀ w118, w118 = (World.alloc (World.drew w22) (.cells #[(Value.int .i64 0), (Value.slice none 0 0)] 50)) →
  S105 w118 ∧
  Calls Tryd.prog pf #[(Value.agg #[(Value.int .i64 n108), (Value.slice A109 A109l A109c)]), (Value.int .i64 n110)] w118 fun e122 w123 =>
  ∃ n119, ∃ A120, ∃ A120l, ∃ A120c, ∃ n121, e122 = Ending.returned (Value.tuple #[(Value.agg #[(Value.int .i64 n119), (Value.slice A120 A120l A120c)]), (Value.int .i64 n121)]) ∧
  S105 w123 ∧
  ∃ w124, Sem.run Tryd.prog (Instr.storeAt 50 (Value.pointer (some ⟨Array.size (World.heap (World.drew w22)), 0, none⟩)) (Value.agg #[(Value.int .i64 n119), (Value.slice A120 A120l A120c)])) w123 = .ok () w124 ∧
  S105 w124 ∧
  (Ji w22 r T tv) (some ⟨Array.size (World.heap (World.drew w22)), 0, none⟩) n121 w124) ∧ True) := by
  have ra4 := (List.getElem?_eq_some_iff.1 hra).1
  have ia : (0 : Int) ≤ (a : Int) ∧ (a : Int) < 4 := by omega
  have d22 : Ext [] w22 w22.drew := (Ext.refl _ _).drew
  refine ⟨fun w' => Ext [] w22 w', d22, ptr_in (when_dec ia ⟨_, _, _, _, cellsC_S (S := fun w' => Ext [] w22 w') (fun w' e => read_dB (g.ext0 e) hl hra), _, fun w' e => cadd (hb.ext0 e) (i := 4) rfl, ?_, ?_, trivial⟩)⟩
  · refine hd _ _ d22 fun M m d w34 e34 hrf hM => ⟨_, _, _, _, _, rfl, d22.trans e34, ?_⟩
    intro w35 h35
    obtain ⟨b35, x35, z35⟩ := box_new (cs := [.int .i64 0, .slice none 0 0]) h35
    obtain ⟨w36, hr36, b36, x36⟩ := storeW (P := Tryd.prog) (t := 50) (n := 2) (vs := [.int .i64 (T.N : Int), .slice M m d]) i50s b35 rfl rfl (fun v hv => by simp at hv; rcases hv with rfl | rfl <;> rfl)
    have s34 := (d22.trans e34).size
    have s36 := x36.size
    have s35 := x35.size
    have e36 : Ext [] w22 w36 := ((d22.trans e34).trans x35).trans' x36 (fun b hb => .inr (by simp at hb; omega))
    have sd : w22.drew.heap.size = w22.heap.size := rfl
    refine ⟨(d22.trans e34).trans x35, w36, hr36, e36, rfl, w34.heap.size, M, m, d, rfl, b36, e36, (hrf.ext0 x35).ext x36 (fun b hb hm => by have := (hM b hb).2; simp at hm; omega), fun b hb => ?_⟩
    obtain ⟨h1, h2⟩ := hM b hb
    rw [sd] at h1
    exact ⟨h1, by omega⟩
  · intro w37 h37
    obtain ⟨b37, x37, z37⟩ := box_new (cs := [.int .i64 0, .slice none 0 0]) h37
    have sd : w22.drew.heap.size = w22.heap.size := rfl
    refine ⟨d22.trans x37, hd _ _ (d22.trans x37) fun M m d w42 e42 hrf hM => ⟨_, _, _, _, _, rfl, (d22.trans x37).trans e42, ?_⟩⟩
    obtain ⟨w43, hr43, b43, x43⟩ := storeW (P := Tryd.prog) (t := 50) (n := 2) (vs := [.int .i64 (T.N : Int), .slice M m d]) i50s (b37.ext0 e42) rfl rfl (fun v hv => by simp at hv; rcases hv with rfl | rfl <;> rfl)
    have s37 := b37.lt
    have s42 := e42.size
    have s43 := x43.size
    have e43 : Ext [] w22 w43 := ((d22.trans x37).trans e42).trans' x43 (fun b hb => .inr (by simp at hb; omega))
    refine ⟨w43, hr43, e43, rfl, w22.drew.heap.size, M, m, d, rfl, b43, e43, hrf.ext x43 (fun b hb hm => ?_), fun b hb => ?_⟩
    · have hm : b = w22.drew.heap.size := by simpa using hm
      rcases (hM b hb).1 with h1 | h1
      · have := hlt b h1; omega
      · omega
    · obtain ⟨h1, h2⟩ := hM b hb
      refine ⟨?_, by omega⟩
      rcases h1 with h1 | h1
      · exact .inl h1
      · exact .inr (by omega)
end
theorem withR_c {w0 w9 : World} {gb a b : Nat} {rs : List Rg1} (h : Gs w0 w9 gb rs) {r rb : Rg1} (hra : rs[a]? = some r) (hrb : rs[b]? = some rb) {pf df : FuncId} {f : Nat → Bool}
    (hp : ∀ R : Ending → World → Prop, (∀ w' C, Ext r.f w9.drew.drew w' → RefAt w' r.p C r.f → C.N = r.S.N → (∀ i, C.mem i = f i) → R (.returned undef) w') → Calls Tryd.prog pf #[.pointer r.p, .pointer rb.p] w9.drew.drew R)
    (hd : ∀ (w' : World) (R : Ending → World → Prop), Rf w' r.S r.A r.n r.c → Rf w' rb.S rb.A rb.n rb.c → (∀ M m d w'', Ext [] w' w'' → (∀ b ∈ ownF M, w'.heap.size ≤ b ∧ b < w''.heap.size) → (∀ C : SetV, C.Ok → (∀ i, C.mem i = f i) → Rf w'' C M m d) → R (.returned (rv (r.S.N : Int) M m d)) w'') → Calls Tryd.prog df #[rv (r.S.N : Int) r.A r.n r.c, rv (rb.S.N : Int) rb.A rb.n rb.c] w' R)
    {R : Ending → World → Prop} (k : ∀ w' rs', Gs w0 w' gb rs' → R (.returned (.bool true)) w') :
    V.ptr (some (⟨gb, 0, none⟩ : Addr)) fun a137 =>
  V.when (decide ((0 : Int) ≤ ((a : Nat) : Int) ∧ (((a : Nat) : Int) : Int) < 4)) (∃ p138, World.cell? (World.drew w9) (Addr.add (Addr.add a137 0) ((Int.toNat ((a : Nat) : Int)) * 1)) = some (Value.pointer p138) ∧
  V.ptr (some (⟨gb, 0, none⟩ : Addr)) fun a139 =>
  V.when (decide ((0 : Int) ≤ ((b : Nat) : Int) ∧ (((b : Nat) : Int) : Int) < 4)) (∃ p140, World.cell? (World.drew w9) (Addr.add (Addr.add a139 0) ((Int.toNat ((b : Nat) : Int)) * 1)) = some (Value.pointer p140) ∧
  Calls Tryd.prog pf #[(Value.pointer p138), (Value.pointer p140)] (World.drew (World.drew w9)) fun e141 w142 =>
  e141 = Ending.returned undef ∧
  ∃ S143 : World → Prop, S143 (World.drew w142) ∧
  V.ptr (some (⟨gb, 0, none⟩ : Addr)) fun a145 =>
  V.when (decide ((0 : Int) ≤ ((a : Nat) : Int) ∧ (((a : Nat) : Int) : Int) < 4)) (∃ n146, ∃ A147, ∃ A147l, ∃ A147c, V.cellsC (fun a_ x_ => ∀ w144, S143 w144 → World.cell? w144 a_ = some x_) (Addr.add (Addr.add a145 4) ((Int.toNat ((a : Nat) : Int)) * 2)) [(Value.int .i64 n146), (Value.slice A147 A147l A147c)] ∧
  V.ptr (some (⟨gb, 0, none⟩ : Addr)) fun a148 =>
  V.when (decide ((0 : Int) ≤ ((b : Nat) : Int) ∧ (((b : Nat) : Int) : Int) < 4)) (∃ n149, ∃ A150, ∃ A150l, ∃ A150c, V.cellsC (fun a_ x_ => ∀ w144, S143 w144 → World.cell? w144 a_ = some x_) (Addr.add (Addr.add a148 4) ((Int.toNat ((b : Nat) : Int)) * 2)) [(Value.int .i64 n149), (Value.slice A150 A150l A150c)] ∧
  V.ptr (some (⟨gb, 0, none⟩ : Addr)) fun a151 =>
  Calls Tryd.prog df #[(Value.agg #[(Value.int .i64 n146), (Value.slice A147 A147l A147c)]), (Value.agg #[(Value.int .i64 n149), (Value.slice A150 A150l A150c)])] (World.drew w142) fun e154 w155 =>
  ∃ n152, ∃ A153, ∃ A153l, ∃ A153c, e154 = Ending.returned (Value.agg #[(Value.int .i64 n152), (Value.slice A153 A153l A153c)]) ∧
  S143 w155 ∧
  V.when (decide ((0 : Int) ≤ ((a : Nat) : Int) ∧ (((a : Nat) : Int) : Int) < 4)) (∃ w156, Sem.run Tryd.prog (Instr.storeAt 50 (Value.pointer (some (Addr.add (Addr.add a151 4) ((Int.toNat ((a : Nat) : Int)) * 2)))) (Value.agg #[(Value.int .i64 n152), (Value.slice A153 A153l A153c)])) w155 = .ok () w156 ∧
  R (Ending.returned (Value.bool true)) w156))))) := by
  have h4 := h.len
  have ra4 := (List.getElem?_eq_some_iff.1 hra).1
  have rb4 := (List.getElem?_eq_some_iff.1 hrb).1
  have ia : (0 : Int) ≤ (a : Int) ∧ (a : Int) < 4 := by omega
  have ib : (0 : Int) ≤ (b : Int) ∧ (b : Int) < 4 := by omega
  have d9 : Ext [] w9 w9.drew := (Ext.refl _ _).drew
  have d99 : Ext [] w9 w9.drew.drew := d9.drew
  have g1 := h.ext0 d9
  have g2 := h.ext0 d99
  have hgF : gb ∉ r.f := (h.s3 a r hra).1
  refine ptr_in (when_dec ia ⟨_, g1.read_p hra, ptr_in (when_dec ib ⟨_, g1.read_p hrb, hp _ fun w' C e hC hCN hCm => ⟨rfl, ?_⟩⟩)⟩)
  have blk' := g2.blk.ext e hgF
  have docA := (g2.at_ a r hra).doc.ext e (fun y hy => h.s2 a a r r hra hra y hy)
  have docB := (g2.at_ b rb hrb).doc.ext e (fun y hy => h.s2 b a rb r hrb hra y hy)
  have dw : Ext [] w' w'.drew := (Ext.refl _ _).drew
  refine ⟨fun w1 => Ext [] w' w1, dw, ptr_in (when_dec ia ⟨_, _, _, _, cellsC_S (S := fun w1 => Ext [] w' w1) (fun w1 e1 => read_dB (blk'.ext0 e1) h4 hra), ptr_in (when_dec ib ⟨_, _, _, _, cellsC_S (S := fun w1 => Ext [] w' w1) (fun w1 e1 => read_dB (blk'.ext0 e1) h4 hrb), ptr_in ?_⟩)⟩)⟩
  refine hd _ _ (docA.ext0 dw) (docB.ext0 dw) fun M m d w2 e2 hM hrf => ⟨_, _, _, _, rfl, dw.trans e2, ?_⟩
  have f2 := dw.trans e2
  have s2 := f2.size
  have s1 := e.size
  have sd : w9.drew.drew.heap.size = w9.heap.size := rfl
  have eF : Ext r.f w9 w2 := ((d99.wide (F' := r.f) (by simp)).trans e).trans (f2.wide (by simp))
  have hd1 : w'.drew.heap.size = w'.heap.size := rfl
  rw [← hCN]
  exact putD (r' := ⟨r.q, C, M, m, d⟩) h hra eF (fun b hb => .inl hb) ⟨hC.ext0 f2, hrf C hC.ok hCm⟩ rfl rfl (fun y hy => .inl hy) (fun y hy => .inr (by have := (hM y hy).1; omega)) (fun y hy => (hM y hy).2) fun w' hg => k w' _ hg
end Go.Proofs.YtbaglnffgbnekaaDoor
namespace Go.Proofs.YtbaglnffgbnekaaDoor
open Go Go.V Go.B

theorem GrowU {w : World} {p bw : Nat} {S : SetV} (hs : SetAt w p bw S) (n : Int) {R : Ending → World → Prop}
    (k : ∀ w' T (ec : Int) bw', Ext [p] w w' → SetAt w' p bw' T → (bw' = bw ∨ w.heap.size ≤ bw') → ((T = S ∧ (((n < 0 ∨ 65536 < n) ∧ ec = 11) ∨ (0 ≤ n ∧ n ≤ 65536 ∧ n < (S.N : Int) ∧ ec = 13))) ∨ (0 ≤ n ∧ n ≤ 65536 ∧ (S.N : Int) ≤ n ∧ ec = 0 ∧ (T.N : Int) = n ∧ ∀ i, T.mem i = S.mem i)) → R (.returned (.int .i64 ec)) w') :
    Calls Tryd.prog 21 #[.pointer (some ⟨p, 0, none⟩), .int .i64 n] w R := by
  have hN := hs.ok.N
  refine Grow_c hs n (fun hb => ?_) (fun h1 h2 => ?_) fun bw' w' T h1 h2 e hb hT hN hm => ?_
  · exact k w S 11 bw (Ext.refl _ _) hs (.inl rfl) (.inl ⟨rfl, .inl ⟨hb, rfl⟩⟩)
  · exact k w S 13 bw (Ext.refl _ _) hs (.inl rfl) (.inl ⟨rfl, .inr ⟨h1, by omega, h2, rfl⟩⟩)
  · exact k w' T 0 bw' e hT (.inr hb) (.inr ⟨by omega, h2, h1, rfl, hN, hm⟩)
set_option maxRecDepth 8000 in
theorem changing_c {w0 w : World} {gb : Nat} {rs : List Rg1} (h : Gs w0 w gb rs) {o : BOp} {R : Ending → World → Prop} (k : ∀ w' rs', Gs w0 w' gb rs' → R (.returned (.bool true)) w') :
    Calls Tryd.prog 55 #[.pointer (some ⟨gb, 0, none⟩), .agg ⟨o.cells⟩] w R := by
  unfold BOp.cells
  apply berthlaw01_Regs_changing_nfd
  intro w9 h9
  obtain ⟨b9, x9, z9⟩ := box_new (cs := o.cells) h9
  obtain ⟨a, ha, ea⟩ := and3 o.a
  obtain ⟨b, hb, eb⟩ := and3 o.b
  obtain ⟨r, hr⟩ := h.at ha
  obtain ⟨rb, hrb⟩ := h.at hb
  have ia : (0 : Int) ≤ (a : Int) ∧ (a : Int) < 4 := by omega
  have d9 : Ext [] w9 w9.drew := (Ext.refl _ _).drew
  have d99 : Ext [] w9 w9.drew.drew := d9.drew
  have h4 := h.len
  have hlw := (h.at_ a r hr).lt
  have g := h.ext0 x9
  have g2 := g.ext0 d99
  have at2 := g2.at_ a r hr
  have b2 := b9.ext0 d99
  have hgF : gb ∉ r.f := (h.s3 a r hr).1
  have hoF : w.heap.size ∉ r.f := fun hm => by have := hlw _ hm; omega
  have hoF0 : w.heap.size ∉ ownF r.A := fun hm => by have := h.lt a r hr _ hm; omega
  have sA : ∀ y ∈ ownF r.A, y ∉ r.f := fun y hy => h.s2 a a r r hr hr y hy
  have s9 := x9.size
  have sd : w9.drew.drew.heap.size = w9.heap.size := rfl
  refine ⟨_, cadd b9 (i := 1) rfl, _, cadd b9 (i := 2) rfl, lt_eq ea (lt_eq eb ⟨_, cadd (b9.ext0 d9) (i := 0) rfl, ?_⟩)⟩
  by_cases k1 : o.kind = 11
  · refine sel_true (by simp [k1]) ⟨fun w' => Ext r.f w9.drew.drew w', Ext.refl _ _, ptr_in (when_dec ia ⟨_, fun w' e => read_pB (g2.blk.ext e hgF) h4 hr, _, fun w' e => cadd (b2.ext e hoF) (i := 4) rfl, ?_⟩)⟩
    refine AddU at2.ref o.i fun w22 T t e22 hT hTN hTm ht => ⟨_, rfl, e22, Jb w22 r T t, ?_, ?_⟩
    · have dA := at2.doc.ext e22 sA
      have s22 := e22.size
      refine twoB (g2.blk.ext e22 hgF) h4 hr (b2.ext e22 hoF) (fun y hy => by have := h.lt a r hr y hy; omega) fun w1 R1 e1 kk => refAdd_c (dA.ext0 e1) o.i (fun w2 e2 hc => ?_) fun M m d w2 e2 hM h1 h2 h3 hrf => ?_
      · have et : t = false := by
          rw [ht]
          rcases hc with hc | hc | hc
          · rw [decide_eq_false (by omega), Bool.false_and]
          · rw [decide_eq_false (by omega), Bool.false_and]
          · rw [hc]; simp
        have eT : T = r.S := SetV.ext_mem hT.ok dA.ok hTN fun j => by
          rw [hTm j]
          by_cases hh : 0 ≤ o.i ∧ o.i < (r.S.N : Int) ∧ (j : Int) = o.i
          · rw [decide_eq_true hh]
            rcases hc with hc | hc | hc
            · omega
            · omega
            · rw [← hh.2.2, SetV.has_nat] at hc
              rw [hc]; rfl
          · rw [decide_eq_false hh, Bool.or_false]
        have := kk r.A r.n r.c w2 e2 (by rw [eT]; exact (dA.ext0 e1).ext0 e2) fun y hy => ⟨.inl hy, by have := h.lt a r hr y hy; have := e1.size; have := e2.size; omega⟩
        rw [eT, et] at this
        exact this
      · have et : t = true := by rw [ht, decide_eq_true ⟨h1, h2⟩, h3]; rfl
        have := kk M m d w2 e2 (hrf T hT.ok hTN fun j => by
          rw [hTm j]
          congr 1
          simp [h1, h2]) fun y hy => ⟨.inr (hM y hy).1, (hM y hy).2⟩
        rw [hTN, et] at this
        exact this
    · rintro r44 want j w47 ⟨rfl, pb, M, m, d, rfl, b47, e47, hrf, hM⟩
      have e99 : Ext r.f w9 w47.drew := ((d99.wide (F' := r.f) (by simp)).trans e22).trans ((e47.drew).wide (by simp))
      have s22 := e22.size
      refine ptr_in ⟨_, _, _, _, cadd0 b47, ptr_in (putD (r' := ⟨r.q, T, M, m, d⟩) g hr e99 (fun y hy => .inl hy) ⟨hT.ext0 e47.drew, hrf.ext0 (Ext.refl _ _).drew⟩ rfl rfl (fun y hy => .inl hy) (fun y hy => ?_) (fun y hy => (hM y hy).2) fun w' hg => ?_)⟩
      · rcases (hM y hy).1 with h1 | h1
        · exact .inl h1
        · exact .inr (by omega)
      · rw [beq_self_eq_true]
        exact k w' _ hg
  refine sel_false (by simp [k1]) ?_
  by_cases k2 : o.kind = 12
  · refine sel_true (by simp [k2]) ⟨fun w' => Ext r.f w9.drew.drew w', Ext.refl _ _, ptr_in (when_dec ia ⟨_, fun w' e => read_pB (g2.blk.ext e hgF) h4 hr, _, fun w' e => cadd (b2.ext e hoF) (i := 4) rfl, ?_⟩)⟩
    refine RemoveU at2.ref o.i fun w22 T t e22 hT hTN hTm ht => ⟨_, rfl, e22, Jb w22 r T t, ?_, ?_⟩
    · have dA := at2.doc.ext e22 sA
      have s22 := e22.size
      refine twoB (g2.blk.ext e22 hgF) h4 hr (b2.ext e22 hoF) (fun y hy => by have := h.lt a r hr y hy; omega) fun w1 R1 e1 kk => refRemove_c (dA.ext0 e1) o.i (fun w2 e2 hc => ?_) fun M m d w2 e2 hM h3 hrf => ?_
      · have et : t = false := by rw [ht, hc]
        have eT : T = r.S := SetV.ext_mem hT.ok dA.ok hTN fun j => by
          rw [hTm j]
          by_cases hh : (j : Int) = o.i
          · rw [← hh, SetV.has_nat] at hc
            rw [hc]; rfl
          · rw [decide_eq_false hh]; simp
        have := kk r.A r.n r.c w2 e2 (by rw [eT]; exact (dA.ext0 e1).ext0 e2) fun y hy => ⟨.inl hy, by have := h.lt a r hr y hy; have := e1.size; have := e2.size; omega⟩
        rw [eT, et] at this
        exact this
      · have et : t = true := by rw [ht, h3]
        have := kk M m d w2 e2 (hrf T hT.ok hTN fun j => by
          rw [hTm j]
          congr 1
          simp) fun y hy => ⟨.inr (hM y hy).1, (hM y hy).2⟩
        rw [hTN, et] at this
        exact this
    · rintro r44 want j w47 ⟨rfl, pb, M, m, d, rfl, b47, e47, hrf, hM⟩
      have e99 : Ext r.f w9 w47.drew := ((d99.wide (F' := r.f) (by simp)).trans e22).trans ((e47.drew).wide (by simp))
      have s22 := e22.size
      refine ptr_in ⟨_, _, _, _, cadd0 b47, ptr_in (putD (r' := ⟨r.q, T, M, m, d⟩) g hr e99 (fun y hy => .inl hy) ⟨hT.ext0 e47.drew, hrf.ext0 (Ext.refl _ _).drew⟩ rfl rfl (fun y hy => .inl hy) (fun y hy => ?_) (fun y hy => (hM y hy).2) fun w' hg => ?_)⟩
      · rcases (hM y hy).1 with h1 | h1
        · exact .inl h1
        · exact .inr (by omega)
      · rw [beq_self_eq_true]
        exact k w' _ hg
  refine sel_false (by simp [k2]) ?_
  by_cases k3 : o.kind = 13
  · refine sel_true (by simp [k3]) ?_
    refine ⟨fun w' => Ext r.f w9.drew.drew w', Ext.refl _ _, ptr_in (when_dec ia ⟨_, fun w' e => read_pB (g2.blk.ext e hgF) h4 hr, _, fun w' e => cadd (b2.ext e hoF) (i := 4) rfl, ?_⟩)⟩
    rcases at2.ref with ⟨hq, hS, hf⟩ | ⟨p, bw, hq, hs, hf⟩
    · have hn : r.q.isNone = true := by
        unfold Rg1.p at hq
        cases hh : r.q with
        | none => rfl
        | some x => rw [hh] at hq; cases hq
      rw [hq]
      refine Grow_nil ⟨_, rfl, Ext.refl _ _, ptr_in (when_dec ia ⟨_, read_nB g2.blk h4 hr, sel_true hn (num_c 1 ⟨_, rfl, k _ rs g2⟩)⟩)⟩
    · obtain ⟨hn, hqq⟩ : r.q.isNone = false ∧ r.q = some (p, bw) := by
        unfold Rg1.p at hq
        unfold Rg1.f at hf
        cases hh : r.q with
        | none => rw [hh] at hq; cases hq
        | some x =>
          rw [hh] at hf
          simp only [List.cons.injEq, and_true] at hf
          obtain ⟨x1, x2⟩ := x
          obtain ⟨h1, h2⟩ := hf
          simp only at h1 h2
          subst h1; subst h2
          exact ⟨rfl, rfl⟩
      rw [hq]
      have hpf : p ∈ r.f := by rw [hf]; simp
      have hbf : bw ∈ r.f := by rw [hf]; simp
      refine GrowU hs o.i fun w22 T ec bw' e22 hT hbw hcase => ⟨_, rfl, e22.wide (by simp [hpf]), ptr_in (when_dec ia ⟨_, read_nB (g2.blk.ext e22 (by simp; intro e; exact hgF (e ▸ hpf))) h4 hr, sel_false hn ⟨Ji w22 r T ec, ?_, ?_⟩⟩)⟩
      · have e22' : Ext r.f w9.drew.drew w22 := e22.wide (by simp [hpf])
        have dA := at2.doc.ext e22' sA
        have s22 := e22.size
        refine twoI (g2.blk.ext e22' hgF) h4 hr (b2.ext e22' hoF) (fun y hy => by have := h.lt a r hr y hy; omega) fun w1 R1 e1 kk => refGrow_c (dA.ext0 e1) o.i (fun w2 e e2 hc => ?_) fun M m d w2 e2 hM h1 h2 h3 hrf => ?_
        · have : T = r.S ∧ ec = e := by
            rcases hcase with ⟨h1, h2⟩ | h1
            · refine ⟨h1, ?_⟩
              rcases h2 with h2 | h2 <;> rcases hc with hc | hc <;> omega
            · rcases hc with hc | hc <;> omega
          obtain ⟨eT, ee⟩ := this
          have := kk r.A r.n r.c w2 e2 (by rw [eT]; exact (dA.ext0 e1).ext0 e2) fun y hy => ⟨.inl hy, by have := h.lt a r hr y hy; have := e1.size; have := e2.size; omega⟩
          rw [eT, ee] at this
          exact this
        · obtain ⟨_, _, _, ee, hTN, hTm⟩ : 0 ≤ o.i ∧ o.i ≤ 65536 ∧ (r.S.N : Int) ≤ o.i ∧ ec = 0 ∧ (T.N : Int) = o.i ∧ ∀ i, T.mem i = r.S.mem i := by
            rcases hcase with ⟨_, h5⟩ | h5
            · exfalso
              rcases h5 with h5 | h5 <;> omega
            · exact h5
          have := kk M m d w2 e2 (hrf T hT.ok hTm) fun y hy => ⟨.inr (hM y hy).1, (hM y hy).2⟩
          rw [hTN, ee] at this
          exact this
      · rintro r44 want j w47 ⟨rfl, pb, M, m, d, rfl, b47, e47, hrf, hM⟩
        have e99 : Ext r.f w9 w47.drew := ((d99.wide (F' := r.f) (by simp)).trans (e22.wide (by simp [hpf]))).trans ((e47.drew).wide (by simp))
        have s22 := e22.size
        have hbl := hT.wrd.lt
        refine ptr_in ⟨_, _, _, _, cadd0 b47, ptr_in (putD (r' := ⟨some (p, bw'), T, M, m, d⟩) g hr e99 (fun y hy => .inl hy) ⟨(hT.ext0 e47.drew).ref, hrf.ext0 (Ext.refl _ _).drew⟩ (by rw [hq]; rfl) (by rw [hn]; rfl) (fun y hy => ?_) (fun y hy => ?_) (fun y hy => (hM y hy).2) fun w' hg => ?_)⟩
        · have hy : y = p ∨ y = bw' := by simpa [Rg1.f] using hy
          rcases hy with rfl | rfl
          · exact .inl hpf
          · rcases hbw with h1 | h1
            · rw [h1]; exact .inl hbf
            · refine .inr ⟨by omega, fun hm => ?_⟩
              rcases (hM y hm).1 with h2 | h2
              · have := h.lt a r hr y h2; omega
              · omega
        · rcases (hM y hy).1 with h1 | h1
          · exact .inl h1
          · exact .inr (by omega)
        · refine num_c _ ⟨_, rfl, ?_⟩
          rw [beq_self_eq_true]
          exact k w' _ hg
  refine sel_false (by simp [k3]) ?_
  have atb := g2.at_ b rb hrb
  have hx : (rb.p = r.p ∧ rb.S = r.S) ∨ ∀ y ∈ r.f, y ∉ rb.f := by
    by_cases hab : b = a
    · subst hab
      rw [hr] at hrb; cases hrb
      exact .inl ⟨rfl, rfl⟩
    · exact .inr (h.s1 a b r rb (fun e => hab e.symm) hr hrb)
  by_cases k4 : o.kind = 14
  · refine sel_true (by simp [k4]) ?_
    exact withR_c (f := fun i => r.S.mem i && rb.S.mem i) g hr hrb (fun R kk => AndU at2.ref atb.ref hx kk)
      (fun w' R hA hB kk => refAndWith_c hA hB fun M m d w'' e hM hq => kk M m d w'' e hM fun C oC hm => hq C oC fun i => by rw [hm]; unfold pickP; cases r.S.mem i <;> cases rb.S.mem i <;> rfl) k
  refine sel_false (by simp [k4]) ?_
  by_cases k5 : o.kind = 15
  · refine sel_true (by simp [k5]) ?_
    exact withR_c (f := fun i => r.S.mem i || (decide (i < r.S.N) && rb.S.mem i)) g hr hrb (fun R kk => OrU at2.ref atb.ref hx kk)
      (fun w' R hA hB kk => refOrWith_c hA hB kk) k
  refine sel_false (by simp [k5]) ?_
  exact withR_c (f := fun i => r.S.mem i && !rb.S.mem i) g hr hrb (fun R kk => AndNotU at2.ref atb.ref hx kk)
    (fun w' R hA hB kk => refAndNotWith_c hA hB fun M m d w'' e hM hq => kk M m d w'' e hM fun C oC hm => hq C oC fun i => by rw [hm]; unfold pickP; cases r.S.mem i <;> cases rb.S.mem i <;> rfl) k
end Go.Proofs.YtbaglnffgbnekaaDoor
namespace Go.Proofs.YtbaglnffgbnekaaDoor
open Go Go.V Go.B

theorem prev_eq {S : SetV} (o : S.Ok) {i n : Int} (h : PrevV S i n) : n = prevI S i := by
  unfold prevI
  split
  · rename_i hh
    obtain ⟨m, hm, hmm⟩ : ∃ m : Nat, i = m ∧ S.mem m = true := by
      unfold SetV.has at hh
      simp only [Bool.and_eq_true, decide_eq_true_eq] at hh
      exact ⟨i.toNat, by omega, hh.2⟩
    subst hm
    exact prev_self h hmm
  · rename_i hh
    exact select_one o (prev_select o h (by simpa using hh)) (selI_sel _)
theorem sub_iffP {A B : SetV} : (∀ i, A.mem i = true → B.mem i = true) ↔ ∀ i, pickP A B true false false i = false := by
  refine forall_congr' fun i => ?_
  unfold pickP
  cases A.mem i <;> cases B.mem i <;> simp
theorem meet_iffP {A B : SetV} : (∃ i, A.mem i = true ∧ B.mem i = true) ↔ ¬ ∀ i, pickP A B false false true i = false := by
  rw [Classical.not_forall]
  refine exists_congr fun i => ?_
  unfold pickP
  cases A.mem i <;> cases B.mem i <;> simp
theorem eq_iffP {A B : SetV} : (∀ i, A.mem i = B.mem i) ↔ ∀ i, pickP A B true true false i = false := by
  refine forall_congr' fun i => ?_
  unfold pickP
  cases A.mem i <;> cases B.mem i <;> simp
theorem bool_iff {t u : Bool} {p : Prop} (h : t = true ↔ p) (h' : u = true ↔ p) : t = u := by
  cases t <;> cases u <;> simp at h h' ⊢
  · exact absurd h' h
  · exact absurd h h'
set_option maxRecDepth 8000 in
theorem asking_c {w0 w : World} {gb : Nat} {rs : List Rg1} (h : Gs w0 w gb rs) {o : BOp} (ho : o.In w) (ht : TzAt w) {R : Ending → World → Prop} (k : ∀ w', Gs w0 w' gb rs → R (.returned (.bool true)) w') :
    Calls Tryd.prog 56 #[.pointer (some ⟨gb, 0, none⟩), .agg ⟨o.cells⟩] w R := by
  unfold BOp.cells
  apply berthlaw01_Regs_asking_nf
  intro w9 h9
  obtain ⟨b9, x9, z9⟩ := box_new (cs := o.cells) h9
  obtain ⟨a, ha, ea⟩ := and3 o.a
  obtain ⟨b, hb, eb⟩ := and3 o.b
  obtain ⟨r, hr⟩ := h.at ha
  obtain ⟨rb, hrb⟩ := h.at hb
  have ia : (0 : Int) ≤ (a : Int) ∧ (a : Int) < 4 := by omega
  have ib : (0 : Int) ≤ (b : Int) ∧ (b : Int) < 4 := by omega
  have d9 : Ext [] w9 w9.drew := (Ext.refl _ _).drew
  have g := h.ext0 x9
  refine ⟨fun w' => Ext [] w9 w', d9, _, fun w' e => cadd (b9.ext0 e) (i := 1) rfl, ptr_in ?_⟩
  rw [ea]
  refine when_dec ia ⟨_, fun w' e => (g.ext0 e).read_p hr, _, fun w' e => cadd (b9.ext0 e) (i := 1) rfl, ptr_in ?_⟩
  rw [ea]
  refine when_dec ia ⟨_, _, _, _, cellsC_S (S := fun w' => Ext [] w9 w') (fun w' e => (g.ext0 e).read_d hr), ?_⟩
  intro w19 h19
  obtain ⟨b19, x19, z19⟩ := box_new (cs := [.int .i64 0, .slice none 0 0]) h19
  obtain ⟨w20, hr20, b20, x20⟩ := storeW (P := Tryd.prog) (t := 50) (n := 2) (vs := [.int .i64 (r.S.N : Int), .slice r.A r.n r.c]) i50s b19 rfl rfl (fun v hv => by simp at hv; rcases hv with rfl | rfl <;> rfl)
  have sd : w9.drew.heap.size = w9.heap.size := rfl
  have e20 : Ext [] w9 w20 := (d9.trans x19).trans' x20 (fun b hb => .inr (by simp at hb; omega))
  have f20 := x9.trans e20
  refine ⟨d9.trans x19, w20, hr20, _, cadd (b9.ext0 e20) (i := 0) rfl, ?_⟩
  have d20 : Ext [] w20 w20.drew := (Ext.refl _ _).drew
  have g20 := g.ext0 e20
  have gd := g20.ext0 d20
  have refd := (gd.at_ a r hr).ref
  have docd := (gd.at_ a r hr).doc
  have td := (ht.ext0 f20).ext0 d20
  have ok := refd.ok
  have hn := docd.len
  have r4 : ∀ w', Ext [] w20 w' → w'.cell? (Addr.add ⟨w.heap.size, 0, none⟩ 4) = some (.int .i64 o.i) := fun w' e => cadd (b9.ext0 (e20.trans e)) (i := 4) rfl
  have hcb := cnt_le ok
  by_cases k1 : o.kind = 17
  · refine sel_true (by simp [k1]) ⟨fun w' => Ext [] w20 w', d20, _, fun w' e => cadd (b20.ext0 e) (i := 0) rfl, Size_c refd ⟨_, rfl, d20, sel_true (by simp) ⟨_, _, _, fun w' e => cadd (b20.ext0 e) (i := 1) rfl, Count_c refd ⟨_, rfl, d20, ?_⟩⟩⟩⟩
    rw [hn, beq_self_eq_true]
    exact k _ gd
  refine sel_false (by simp [k1]) ?_
  by_cases k2 : o.kind = 18
  · refine sel_true (by simp [k2]) ⟨fun w' => Ext [] w20 w', d20, _, r4, _, _, _, _, cellsC_S (S := fun w' => Ext [] w20 w') (fun w' e => cadd0 (b20.ext0 e)), _, r4, Has_c refd o.i ⟨_, rfl, d20, ?_⟩⟩
    rw [hn]
    refine refHas_c docd.cells ok _ o.i fun w' e => ⟨_, rfl, d20.trans e, ?_⟩
    rw [beq_self_eq_true]
    exact k _ (gd.ext0 e)
  refine sel_false (by simp [k2]) ?_
  by_cases k3 : o.kind = 19
  · refine sel_true (by simp [k3]) ⟨fun w' => Ext [] w20 w', d20, _, r4, _, _, _, _, cellsC_S (S := fun w' => Ext [] w20 w') (fun w' e => cadd0 (b20.ext0 e)), _, r4, Next_c refd td o.i fun n hnx => ⟨_, rfl, d20, ?_⟩⟩
    rw [hn]
    refine refNext_c docd.cells ok _ o.i fun w' e => ⟨_, rfl, d20.trans e, ?_⟩
    rw [select_one ok (next_select ok hnx) (selI_sel _), beq_self_eq_true]
    exact k _ (gd.ext0 e)
  refine sel_false (by simp [k3]) ?_
  by_cases k4 : o.kind = 20
  · refine sel_true (by simp [k4]) ⟨fun w' => Ext [] w20 w', d20, _, r4, _, _, _, _, cellsC_S (S := fun w' => Ext [] w20 w') (fun w' e => cadd0 (b20.ext0 e)), _, r4, Prev_c refd o.i fun n hnx => ⟨_, rfl, d20, ?_⟩⟩
    rw [hn]
    refine refPrev_c docd.cells ok _ o.i fun w' e => ⟨_, rfl, d20.trans e, ?_⟩
    rw [prev_eq ok hnx, beq_self_eq_true]
    exact k _ (gd.ext0 e)
  refine sel_false (by simp [k4]) ?_
  by_cases k5 : o.kind = 21
  · refine sel_true (by simp [k5]) ⟨fun w' => Ext [] w20 w', d20, _, r4, _, _, _, _, cellsC_S (S := fun w' => Ext [] w20 w') (fun w' e => cadd0 (b20.ext0 e)), _, r4, Rank_c refd o.i ⟨_, rfl, d20, ?_⟩⟩
    rw [hn]
    refine refRank_c docd.cells ok _ o.i fun w' e => ⟨_, rfl, d20.trans e, ?_⟩
    rw [beq_self_eq_true]
    exact k _ (gd.ext0 e)
  refine sel_false (by simp [k5]) ?_
  by_cases k6 : o.kind = 22
  · refine sel_true (by simp [k6]) ⟨fun w' => Ext [] w20 w', d20, _, r4, _, _, _, _, cellsC_S (S := fun w' => Ext [] w20 w') (fun w' e => cadd0 (b20.ext0 e)), _, r4, Select_c refd td o.i ho.i1 fun n hnx => ⟨_, rfl, d20, ?_⟩⟩
    rw [hn]
    refine refSelect_c docd.cells ok _ o.i fun w' e => ⟨_, rfl, d20.trans e, ?_⟩
    rw [select_one ok hnx (selI_sel _), beq_self_eq_true]
    exact k _ (gd.ext0 e)
  refine sel_false (by simp [k6]) ?_
  by_cases k7 : o.kind = 23
  · refine sel_true (by simp [k7]) ⟨fun w' => Ext [] w20 w', d20, _, _, _, fun w' e => cadd (b20.ext0 e) (i := 1) rfl, Members_c refd fun A c w' e own => ⟨_, _, _, rfl, d20.trans e, SameInts_c (own_ints own) (docd.ints.ext0 e) (by omega) fun w2 e2 => ⟨_, rfl, (d20.trans e).trans e2, ?_⟩⟩⟩
    rw [decide_eq_true rfl]
    exact k _ ((gd.ext0 e).ext0 e2)
  refine sel_false (by simp [k7]) ?_
  by_cases k8 : o.kind = 24
  · refine sel_true (by simp [k8]) ⟨fun w' => Ext [] w20 w', d20, _, _, _, _, cellsC_S (S := fun w' => Ext [] w20 w') (fun w' e => cadd0 (b20.ext0 e)), Words_c refd fun p bw w' e hp hbw hs => ⟨_, _, _, rfl, d20.trans e, ?_⟩⟩
    have hwl := ok.len
    have hN := ok.N
    refine refWords_c (docd.ext0 e) fun bq w2 e2 hbq hx => ⟨_, _, _, rfl, (d20.trans e).trans e2, SameWords_c (hs.ext0 e2).wints hx (by omega) fun w3 e3 => ⟨_, rfl, ((d20.trans e).trans e2).trans e3, ?_⟩⟩
    rw [decide_eq_true rfl]
    exact k _ (((gd.ext0 e).ext0 e2).ext0 e3)
  refine sel_false (by simp [k8]) ?_
  by_cases k9 : o.kind = 25
  · refine sel_true (by simp [k9]) ⟨fun w' => Ext [] w20 w', d20, _, _, _, fun w' e => cadd (b20.ext0 e) (i := 1) rfl, _, _, _, fun w' e => cadd (b20.ext0 e) (i := 1) rfl, walk_c refd _ fun A l c w' e own => ⟨_, _, _, rfl, d20.trans e, ?_⟩⟩
    have ht : r.S.mi.take ((r.n : Int).toNat + 1) = r.S.mi := List.take_of_length_le (by rw [mi_length, Int.toNat_natCast, hn]; omega)
    rw [ht] at own
    have hl : l = r.S.count := by
      have := own.1
      simp [ints, mi_length] at this
      omega
    refine SameInts_c (own_ints own) (docd.ints.ext0 e) (by omega) fun w2 e2 => ⟨_, rfl, (d20.trans e).trans e2, ?_⟩
    rw [decide_eq_true rfl]
    exact k _ ((gd.ext0 e).ext0 e2)
  refine sel_false (by simp [k9]) ?_
  refine ⟨fun w' => Ext [] w20 w', d20, _, fun w' e => cadd (b9.ext0 (e20.trans e)) (i := 2) rfl, ptr_in ?_⟩
  rw [eb]
  refine when_dec ib ⟨_, fun w' e => (g20.ext0 e).read_p hrb, _, fun w' e => cadd (b9.ext0 (e20.trans e)) (i := 2) rfl, ptr_in ?_⟩
  rw [eb]
  refine when_dec ib ⟨_, _, _, _, cellsC_S (S := fun w' => Ext [] w20 w') (fun w' e => (g20.ext0 e).read_d hrb), ?_⟩
  intro w33 h33
  obtain ⟨b33, x33, z33⟩ := box_new (cs := [.int .i64 0, .slice none 0 0]) h33
  obtain ⟨w34, hr34, b34, x34⟩ := storeW (P := Tryd.prog) (t := 50) (n := 2) (vs := [.int .i64 (rb.S.N : Int), .slice rb.A rb.n rb.c]) i50s b33 rfl rfl (fun v hv => by simp at hv; rcases hv with rfl | rfl <;> rfl)
  have sd2 : w20.drew.heap.size = w20.heap.size := rfl
  have e34 : Ext [] w20 w34 := (d20.trans x33).trans' x34 (fun b hb => .inr (by simp at hb; omega))
  have d34 : Ext [] w34 w34.drew := (Ext.refl _ _).drew
  have g34 := (g20.ext0 e34).ext0 d34
  have A1 := g34.at_ a r hr
  have B1 := g34.at_ b rb hrb
  have bA := b20.ext0 e34
  refine ⟨d20.trans x33, w34, hr34, fun w' => Ext [] w34 w', d34, _, _, _, _, cellsC_S (S := fun w' => Ext [] w34 w') (fun w' e => cadd0 (bA.ext0 e)), _, _, _, _, cellsC_S (S := fun w' => Ext [] w34 w') (fun w' e => cadd0 (b34.ext0 e)), ?_⟩
  refine Subset_c A1.ref B1.ref fun t ht1 => ⟨_, rfl, d34, refSubset_c A1.doc B1.doc fun u w46 e46 hu => ⟨_, rfl, d34.trans e46, ?_⟩⟩
  rw [bool_iff ht1 (hu.trans sub_iffP.symm)]
  refine sel_false (by simp) ?_
  refine ⟨_, _, _, _, cellsC_S (S := fun w' => Ext [] w34 w') (fun w' e => cadd0 (bA.ext0 e)), _, _, _, _, cellsC_S (S := fun w' => Ext [] w34 w') (fun w' e => cadd0 (b34.ext0 e)), ?_⟩
  have f46 := d34.trans e46
  refine Meets_c (A1.ref.ext0 e46) (B1.ref.ext0 e46) fun t2 ht2 => ⟨_, rfl, f46, refMeets_c (A1.doc.ext0 e46) (B1.doc.ext0 e46) fun u2 w56 e56 hu2 => ⟨_, rfl, f46.trans e56, ?_⟩⟩
  have hu2' : u2 = true ↔ ¬ ∀ i, pickP r.S rb.S false false true i = false := by
    rw [← hu2]
    cases u2 <;> simp
  rw [bool_iff ht2 (hu2'.trans meet_iffP.symm)]
  refine sel_false (by simp) ?_
  have f56 := f46.trans e56
  have d56 : Ext [] w56 w56.drew := (Ext.refl _ _).drew
  have q56 := (e46.trans e56).trans d56
  refine ⟨fun w' => Ext [] w56 w', d56, _, _, _, _, cellsC_S (S := fun w' => Ext [] w56 w') (fun w' e => cadd0 (bA.ext0 (f56.trans e))), _, _, _, _, cellsC_S (S := fun w' => Ext [] w56 w') (fun w' e => cadd0 (b34.ext0 (f56.trans e))), ?_⟩
  refine Equal_c (A1.ref.ext0 q56) (B1.ref.ext0 q56) fun t3 ht3 => ⟨_, rfl, d56, refEqual_c (A1.doc.ext0 q56) (B1.doc.ext0 q56) fun u3 w68 e68 hu3 => ⟨_, rfl, d56.trans e68, ?_⟩⟩
  rw [bool_iff ht3 (hu3.trans eq_iffP.symm), beq_self_eq_true]
  exact k _ (((g34.ext0 q56)).ext0 e68)
end Go.Proofs.YtbaglnffgbnekaaDoor
namespace Go.Proofs.YtbaglnffgbnekaaDoor
open Go Go.V Go.B

set_option maxRecDepth 8000 in
theorem step_c {w0 w : World} {gb : Nat} {rs : List Rg1} (h : Gs w0 w gb rs) {o : BOp} (ho : o.In w) (ht : TzAt w) {R : Ending → World → Prop} (k : ∀ w' rs', Gs w0 w' gb rs' → R (.returned (.bool true)) w') :
    Calls Tryd.prog 37 #[.pointer (some ⟨gb, 0, none⟩), .agg ⟨o.cells⟩] w R := by
  unfold BOp.cells
  apply berthlaw01_Regs_step_nf
  intro w9 h9
  obtain ⟨b9, x9, z9⟩ := box_new (cs := o.cells) h9
  have g := h.ext0 x9
  have hAsk : (∃ n226, World.cell? w9 (Addr.add ⟨Array.size (World.heap w), 0, none⟩ 0) = some (Value.int .i64 n226) ∧
  V.sel (decide (n226 ≥ 17))
  (∃ n227, World.cell? w9 (Addr.add ⟨Array.size (World.heap w), 0, none⟩ 0) = some (Value.int .i64 n227) ∧
  V.sel (decide (n227 ≤ 26))
  (∃ n228, ∃ n229, ∃ n230, ∃ n231, ∃ n232, ∃ A233, ∃ A233l, ∃ A233c, ∃ A234, ∃ A234l, ∃ A234c, V.cellsC (fun a_ x_ => World.cell? w9 a_ = some x_) ⟨Array.size (World.heap w), 0, none⟩ [(Value.int .i64 n228), (Value.int .i64 n229), (Value.int .i64 n230), (Value.int .i64 n231), (Value.int .i64 n232), (Value.slice A233 A233l A233c), (Value.slice A234 A234l A234c)] ∧
  Calls Tryd.prog 56 #[(Value.pointer (some (⟨gb, 0, none⟩ : Addr))), (Value.agg #[(Value.int .i64 n228), (Value.int .i64 n229), (Value.int .i64 n230), (Value.int .i64 n231), (Value.int .i64 n232), (Value.slice A233 A233l A233c), (Value.slice A234 A234l A234c)])] w9 fun e236 w237 =>
  ∃ b235, e236 = Ending.returned (Value.bool b235) ∧
  R (Ending.returned (Value.bool b235)) w237)
  (R (Ending.returned (Value.bool true)) w9))
  (R (Ending.returned (Value.bool true)) w9)) :=
    ⟨_, cadd b9 (i := 0) rfl, sel_dec (fun h1 => ⟨_, cadd b9 (i := 0) rfl, sel_dec (fun h2 => ⟨_, _, _, _, _, _, _, _, _, _, _, cadd0 b9, asking_c g (ho.ext0 x9) (ht.ext0 x9) fun w' hg => ⟨_, rfl, k _ _ hg⟩⟩) (fun h2 => k _ rs g)⟩) (fun h1 => k _ rs g)⟩
  have hChg : (∃ n202, World.cell? w9 (Addr.add ⟨Array.size (World.heap w), 0, none⟩ 0) = some (Value.int .i64 n202) ∧
  V.sel (decide (n202 ≥ 11))
  (∃ n203, World.cell? w9 (Addr.add ⟨Array.size (World.heap w), 0, none⟩ 0) = some (Value.int .i64 n203) ∧
  V.sel (decide (n203 ≤ 16))
  (∃ n204, ∃ n205, ∃ n206, ∃ n207, ∃ n208, ∃ A209, ∃ A209l, ∃ A209c, ∃ A210, ∃ A210l, ∃ A210c, V.cellsC (fun a_ x_ => World.cell? w9 a_ = some x_) ⟨Array.size (World.heap w), 0, none⟩ [(Value.int .i64 n204), (Value.int .i64 n205), (Value.int .i64 n206), (Value.int .i64 n207), (Value.int .i64 n208), (Value.slice A209 A209l A209c), (Value.slice A210 A210l A210c)] ∧
  Calls Tryd.prog 55 #[(Value.pointer (some (⟨gb, 0, none⟩ : Addr))), (Value.agg #[(Value.int .i64 n204), (Value.int .i64 n205), (Value.int .i64 n206), (Value.int .i64 n207), (Value.int .i64 n208), (Value.slice A209 A209l A209c), (Value.slice A210 A210l A210c)])] w9 fun e212 w213 =>
  ∃ b211, e212 = Ending.returned (Value.bool b211) ∧
  R (Ending.returned (Value.bool b211)) w213)
  (∃ n214, World.cell? w9 (Addr.add ⟨Array.size (World.heap w), 0, none⟩ 0) = some (Value.int .i64 n214) ∧
  V.sel (decide (n214 ≥ 17))
  (∃ n215, World.cell? w9 (Addr.add ⟨Array.size (World.heap w), 0, none⟩ 0) = some (Value.int .i64 n215) ∧
  V.sel (decide (n215 ≤ 26))
  (∃ n216, ∃ n217, ∃ n218, ∃ n219, ∃ n220, ∃ A221, ∃ A221l, ∃ A221c, ∃ A222, ∃ A222l, ∃ A222c, V.cellsC (fun a_ x_ => World.cell? w9 a_ = some x_) ⟨Array.size (World.heap w), 0, none⟩ [(Value.int .i64 n216), (Value.int .i64 n217), (Value.int .i64 n218), (Value.int .i64 n219), (Value.int .i64 n220), (Value.slice A221 A221l A221c), (Value.slice A222 A222l A222c)] ∧
  Calls Tryd.prog 56 #[(Value.pointer (some (⟨gb, 0, none⟩ : Addr))), (Value.agg #[(Value.int .i64 n216), (Value.int .i64 n217), (Value.int .i64 n218), (Value.int .i64 n219), (Value.int .i64 n220), (Value.slice A221 A221l A221c), (Value.slice A222 A222l A222c)])] w9 fun e224 w225 =>
  ∃ b223, e224 = Ending.returned (Value.bool b223) ∧
  R (Ending.returned (Value.bool b223)) w225)
  (R (Ending.returned (Value.bool true)) w9))
  (R (Ending.returned (Value.bool true)) w9)))
  (∃ n226, World.cell? w9 (Addr.add ⟨Array.size (World.heap w), 0, none⟩ 0) = some (Value.int .i64 n226) ∧
  V.sel (decide (n226 ≥ 17))
  (∃ n227, World.cell? w9 (Addr.add ⟨Array.size (World.heap w), 0, none⟩ 0) = some (Value.int .i64 n227) ∧
  V.sel (decide (n227 ≤ 26))
  (∃ n228, ∃ n229, ∃ n230, ∃ n231, ∃ n232, ∃ A233, ∃ A233l, ∃ A233c, ∃ A234, ∃ A234l, ∃ A234c, V.cellsC (fun a_ x_ => World.cell? w9 a_ = some x_) ⟨Array.size (World.heap w), 0, none⟩ [(Value.int .i64 n228), (Value.int .i64 n229), (Value.int .i64 n230), (Value.int .i64 n231), (Value.int .i64 n232), (Value.slice A233 A233l A233c), (Value.slice A234 A234l A234c)] ∧
  Calls Tryd.prog 56 #[(Value.pointer (some (⟨gb, 0, none⟩ : Addr))), (Value.agg #[(Value.int .i64 n228), (Value.int .i64 n229), (Value.int .i64 n230), (Value.int .i64 n231), (Value.int .i64 n232), (Value.slice A233 A233l A233c), (Value.slice A234 A234l A234c)])] w9 fun e236 w237 =>
  ∃ b235, e236 = Ending.returned (Value.bool b235) ∧
  R (Ending.returned (Value.bool b235)) w237)
  (R (Ending.returned (Value.bool true)) w9))
  (R (Ending.returned (Value.bool true)) w9))) :=
    ⟨_, cadd b9 (i := 0) rfl, sel_dec (fun h1 => ⟨_, cadd b9 (i := 0) rfl, sel_dec (fun h2 => ⟨_, _, _, _, _, _, _, _, _, _, _, cadd0 b9, changing_c (o := o) g fun w' rs' hg => ⟨_, rfl, k _ _ hg⟩⟩) (fun h2 => hAsk)⟩) (fun h1 => hAsk)⟩
  have hNil : (∃ n190, World.cell? w9 (Addr.add ⟨Array.size (World.heap w), 0, none⟩ 0) = some (Value.int .i64 n190) ∧
  V.sel (n190 == 10)
  (∃ S191 : World → Prop, S191 (World.drew w9) ∧
  ∃ n193, (∀ w192, S191 w192 → World.cell? w192 (Addr.add ⟨Array.size (World.heap w), 0, none⟩ 1) = some (Value.int .i64 n193)) ∧
  ∃ n194, (∀ w192, S191 w192 → World.cell? w192 (Addr.add ⟨Array.size (World.heap w), 0, none⟩ 1) = some (Value.int .i64 n194)) ∧
  ∃ n195, (∀ w192, S191 w192 → World.cell? w192 (Addr.add ⟨Array.size (World.heap w), 0, none⟩ 1) = some (Value.int .i64 n195)) ∧
  V.ptr (some (⟨gb, 0, none⟩ : Addr)) fun a196 =>
  V.when (decide ((0 : Int) ≤ (IntKind.wrap .i64 ((BitVec.toNat (BitVec.ofInt 64 n193 &&& BitVec.ofInt 64 3) : Nat) : Int)) ∧ ((IntKind.wrap .i64 ((BitVec.toNat (BitVec.ofInt 64 n193 &&& BitVec.ofInt 64 3) : Nat) : Int)) : Int) < 4)) (V.ptr (some (⟨gb, 0, none⟩ : Addr)) fun a197 =>
  V.ptr (some (⟨gb, 0, none⟩ : Addr)) fun a198 =>
  ∃ w199, Sem.run Tryd.prog (Instr.storeAt 27 (Value.pointer (some (Addr.add (Addr.add a196 0) ((Int.toNat (IntKind.wrap .i64 ((BitVec.toNat (BitVec.ofInt 64 n193 &&& BitVec.ofInt 64 3) : Nat) : Int))) * 1)))) (Value.pointer none)) (World.drew w9) = .ok () w199 ∧
  S191 w199 ∧
  V.when (decide ((0 : Int) ≤ (IntKind.wrap .i64 ((BitVec.toNat (BitVec.ofInt 64 n194 &&& BitVec.ofInt 64 3) : Nat) : Int)) ∧ ((IntKind.wrap .i64 ((BitVec.toNat (BitVec.ofInt 64 n194 &&& BitVec.ofInt 64 3) : Nat) : Int)) : Int) < 4)) (∃ w200, Sem.run Tryd.prog (Instr.storeAt 50 (Value.pointer (some (Addr.add (Addr.add a197 4) ((Int.toNat (IntKind.wrap .i64 ((BitVec.toNat (BitVec.ofInt 64 n194 &&& BitVec.ofInt 64 3) : Nat) : Int))) * 2)))) (Value.agg #[(Value.int .i64 0), (Value.slice none 0 0)])) w199 = .ok () w200 ∧
  S191 w200 ∧
  V.when (decide ((0 : Int) ≤ (IntKind.wrap .i64 ((BitVec.toNat (BitVec.ofInt 64 n195 &&& BitVec.ofInt 64 3) : Nat) : Int)) ∧ ((IntKind.wrap .i64 ((BitVec.toNat (BitVec.ofInt 64 n195 &&& BitVec.ofInt 64 3) : Nat) : Int)) : Int) < 4)) (∃ w201, Sem.run Tryd.prog (Instr.storeAt 4 (Value.pointer (some (Addr.add (Addr.add a198 12) ((Int.toNat (IntKind.wrap .i64 ((BitVec.toNat (BitVec.ofInt 64 n195 &&& BitVec.ofInt 64 3) : Nat) : Int))) * 1)))) (Value.bool true)) w200 = .ok () w201 ∧
  S191 w201 ∧
  R (Ending.returned (Value.bool true)) w201))))
  (∃ n202, World.cell? w9 (Addr.add ⟨Array.size (World.heap w), 0, none⟩ 0) = some (Value.int .i64 n202) ∧
  V.sel (decide (n202 ≥ 11))
  (∃ n203, World.cell? w9 (Addr.add ⟨Array.size (World.heap w), 0, none⟩ 0) = some (Value.int .i64 n203) ∧
  V.sel (decide (n203 ≤ 16))
  (∃ n204, ∃ n205, ∃ n206, ∃ n207, ∃ n208, ∃ A209, ∃ A209l, ∃ A209c, ∃ A210, ∃ A210l, ∃ A210c, V.cellsC (fun a_ x_ => World.cell? w9 a_ = some x_) ⟨Array.size (World.heap w), 0, none⟩ [(Value.int .i64 n204), (Value.int .i64 n205), (Value.int .i64 n206), (Value.int .i64 n207), (Value.int .i64 n208), (Value.slice A209 A209l A209c), (Value.slice A210 A210l A210c)] ∧
  Calls Tryd.prog 55 #[(Value.pointer (some (⟨gb, 0, none⟩ : Addr))), (Value.agg #[(Value.int .i64 n204), (Value.int .i64 n205), (Value.int .i64 n206), (Value.int .i64 n207), (Value.int .i64 n208), (Value.slice A209 A209l A209c), (Value.slice A210 A210l A210c)])] w9 fun e212 w213 =>
  ∃ b211, e212 = Ending.returned (Value.bool b211) ∧
  R (Ending.returned (Value.bool b211)) w213)
  (∃ n214, World.cell? w9 (Addr.add ⟨Array.size (World.heap w), 0, none⟩ 0) = some (Value.int .i64 n214) ∧
  V.sel (decide (n214 ≥ 17))
  (∃ n215, World.cell? w9 (Addr.add ⟨Array.size (World.heap w), 0, none⟩ 0) = some (Value.int .i64 n215) ∧
  V.sel (decide (n215 ≤ 26))
  (∃ n216, ∃ n217, ∃ n218, ∃ n219, ∃ n220, ∃ A221, ∃ A221l, ∃ A221c, ∃ A222, ∃ A222l, ∃ A222c, V.cellsC (fun a_ x_ => World.cell? w9 a_ = some x_) ⟨Array.size (World.heap w), 0, none⟩ [(Value.int .i64 n216), (Value.int .i64 n217), (Value.int .i64 n218), (Value.int .i64 n219), (Value.int .i64 n220), (Value.slice A221 A221l A221c), (Value.slice A222 A222l A222c)] ∧
  Calls Tryd.prog 56 #[(Value.pointer (some (⟨gb, 0, none⟩ : Addr))), (Value.agg #[(Value.int .i64 n216), (Value.int .i64 n217), (Value.int .i64 n218), (Value.int .i64 n219), (Value.int .i64 n220), (Value.slice A221 A221l A221c), (Value.slice A222 A222l A222c)])] w9 fun e224 w225 =>
  ∃ b223, e224 = Ending.returned (Value.bool b223) ∧
  R (Ending.returned (Value.bool b223)) w225)
  (R (Ending.returned (Value.bool true)) w9))
  (R (Ending.returned (Value.bool true)) w9)))
  (∃ n226, World.cell? w9 (Addr.add ⟨Array.size (World.heap w), 0, none⟩ 0) = some (Value.int .i64 n226) ∧
  V.sel (decide (n226 ≥ 17))
  (∃ n227, World.cell? w9 (Addr.add ⟨Array.size (World.heap w), 0, none⟩ 0) = some (Value.int .i64 n227) ∧
  V.sel (decide (n227 ≤ 26))
  (∃ n228, ∃ n229, ∃ n230, ∃ n231, ∃ n232, ∃ A233, ∃ A233l, ∃ A233c, ∃ A234, ∃ A234l, ∃ A234c, V.cellsC (fun a_ x_ => World.cell? w9 a_ = some x_) ⟨Array.size (World.heap w), 0, none⟩ [(Value.int .i64 n228), (Value.int .i64 n229), (Value.int .i64 n230), (Value.int .i64 n231), (Value.int .i64 n232), (Value.slice A233 A233l A233c), (Value.slice A234 A234l A234c)] ∧
  Calls Tryd.prog 56 #[(Value.pointer (some (⟨gb, 0, none⟩ : Addr))), (Value.agg #[(Value.int .i64 n228), (Value.int .i64 n229), (Value.int .i64 n230), (Value.int .i64 n231), (Value.int .i64 n232), (Value.slice A233 A233l A233c), (Value.slice A234 A234l A234c)])] w9 fun e236 w237 =>
  ∃ b235, e236 = Ending.returned (Value.bool b235) ∧
  R (Ending.returned (Value.bool b235)) w237)
  (R (Ending.returned (Value.bool true)) w9))
  (R (Ending.returned (Value.bool true)) w9)))) := by
    refine ⟨_, cadd b9 (i := 0) rfl, ?_⟩
    by_cases kk : o.kind = 10
    · obtain ⟨a, ha, ea⟩ := and3 o.a
      obtain ⟨r, hr⟩ := h.at ha
      have hne : w.heap.size ∉ [gb] := by have := h.blk.lt; simp; omega
      refine sel_true (by simp [kk]) ⟨fun w' => Ext [gb] w9 w', (Ext.refl _ _).drew, _, fun w' e => cadd (b9.ext e hne) (i := 1) rfl, _, fun w' e => cadd (b9.ext e hne) (i := 1) rfl, _, fun w' e => cadd (b9.ext e hne) (i := 1) rfl, ?_⟩
      rw [ea]
      exact put3 (r' := Rg1.none) g hr (F := []) (Ext.refl _ _) (by simp) (Rg1At.none w9) (by simp [Rg1.f, Rg1.none]) (by simp [Rg1.none, ownF]) (by simp [Rg1.none, ownF]) (S := fun w' => Ext [gb] w9 w') (fun w' e => e) fun w' hg => k w' _ hg
    · exact sel_false (by simp [kk]) hChg
  have hJoin : (∃ n130, World.cell? w9 (Addr.add ⟨Array.size (World.heap w), 0, none⟩ 0) = some (Value.int .i64 n130) ∧
  V.sel (decide (n130 ≥ 4))
  (∃ n131, World.cell? w9 (Addr.add ⟨Array.size (World.heap w), 0, none⟩ 0) = some (Value.int .i64 n131) ∧
  V.sel (decide (n131 ≤ 9))
  (∃ n132, ∃ n133, ∃ n134, ∃ n135, ∃ n136, ∃ A137, ∃ A137l, ∃ A137c, ∃ A138, ∃ A138l, ∃ A138c, V.cellsC (fun a_ x_ => World.cell? w9 a_ = some x_) ⟨Array.size (World.heap w), 0, none⟩ [(Value.int .i64 n132), (Value.int .i64 n133), (Value.int .i64 n134), (Value.int .i64 n135), (Value.int .i64 n136), (Value.slice A137 A137l A137c), (Value.slice A138 A138l A138c)] ∧
  Calls Tryd.prog 54 #[(Value.pointer (some (⟨gb, 0, none⟩ : Addr))), (Value.agg #[(Value.int .i64 n132), (Value.int .i64 n133), (Value.int .i64 n134), (Value.int .i64 n135), (Value.int .i64 n136), (Value.slice A137 A137l A137c), (Value.slice A138 A138l A138c)])] w9 fun e140 w141 =>
  ∃ b139, e140 = Ending.returned (Value.bool b139) ∧
  R (Ending.returned (Value.bool b139)) w141)
  (∃ n142, World.cell? w9 (Addr.add ⟨Array.size (World.heap w), 0, none⟩ 0) = some (Value.int .i64 n142) ∧
  V.sel (n142 == 10)
  (∃ S143 : World → Prop, S143 (World.drew w9) ∧
  ∃ n145, (∀ w144, S143 w144 → World.cell? w144 (Addr.add ⟨Array.size (World.heap w), 0, none⟩ 1) = some (Value.int .i64 n145)) ∧
  ∃ n146, (∀ w144, S143 w144 → World.cell? w144 (Addr.add ⟨Array.size (World.heap w), 0, none⟩ 1) = some (Value.int .i64 n146)) ∧
  ∃ n147, (∀ w144, S143 w144 → World.cell? w144 (Addr.add ⟨Array.size (World.heap w), 0, none⟩ 1) = some (Value.int .i64 n147)) ∧
  V.ptr (some (⟨gb, 0, none⟩ : Addr)) fun a148 =>
  V.when (decide ((0 : Int) ≤ (IntKind.wrap .i64 ((BitVec.toNat (BitVec.ofInt 64 n145 &&& BitVec.ofInt 64 3) : Nat) : Int)) ∧ ((IntKind.wrap .i64 ((BitVec.toNat (BitVec.ofInt 64 n145 &&& BitVec.ofInt 64 3) : Nat) : Int)) : Int) < 4)) (V.ptr (some (⟨gb, 0, none⟩ : Addr)) fun a149 =>
  V.ptr (some (⟨gb, 0, none⟩ : Addr)) fun a150 =>
  ∃ w151, Sem.run Tryd.prog (Instr.storeAt 27 (Value.pointer (some (Addr.add (Addr.add a148 0) ((Int.toNat (IntKind.wrap .i64 ((BitVec.toNat (BitVec.ofInt 64 n145 &&& BitVec.ofInt 64 3) : Nat) : Int))) * 1)))) (Value.pointer none)) (World.drew w9) = .ok () w151 ∧
  S143 w151 ∧
  V.when (decide ((0 : Int) ≤ (IntKind.wrap .i64 ((BitVec.toNat (BitVec.ofInt 64 n146 &&& BitVec.ofInt 64 3) : Nat) : Int)) ∧ ((IntKind.wrap .i64 ((BitVec.toNat (BitVec.ofInt 64 n146 &&& BitVec.ofInt 64 3) : Nat) : Int)) : Int) < 4)) (∃ w152, Sem.run Tryd.prog (Instr.storeAt 50 (Value.pointer (some (Addr.add (Addr.add a149 4) ((Int.toNat (IntKind.wrap .i64 ((BitVec.toNat (BitVec.ofInt 64 n146 &&& BitVec.ofInt 64 3) : Nat) : Int))) * 2)))) (Value.agg #[(Value.int .i64 0), (Value.slice none 0 0)])) w151 = .ok () w152 ∧
  S143 w152 ∧
  V.when (decide ((0 : Int) ≤ (IntKind.wrap .i64 ((BitVec.toNat (BitVec.ofInt 64 n147 &&& BitVec.ofInt 64 3) : Nat) : Int)) ∧ ((IntKind.wrap .i64 ((BitVec.toNat (BitVec.ofInt 64 n147 &&& BitVec.ofInt 64 3) : Nat) : Int)) : Int) < 4)) (∃ w153, Sem.run Tryd.prog (Instr.storeAt 4 (Value.pointer (some (Addr.add (Addr.add a150 12) ((Int.toNat (IntKind.wrap .i64 ((BitVec.toNat (BitVec.ofInt 64 n147 &&& BitVec.ofInt 64 3) : Nat) : Int))) * 1)))) (Value.bool true)) w152 = .ok () w153 ∧
  S143 w153 ∧
  R (Ending.returned (Value.bool true)) w153))))
  (∃ n154, World.cell? w9 (Addr.add ⟨Array.size (World.heap w), 0, none⟩ 0) = some (Value.int .i64 n154) ∧
  V.sel (decide (n154 ≥ 11))
  (∃ n155, World.cell? w9 (Addr.add ⟨Array.size (World.heap w), 0, none⟩ 0) = some (Value.int .i64 n155) ∧
  V.sel (decide (n155 ≤ 16))
  (∃ n156, ∃ n157, ∃ n158, ∃ n159, ∃ n160, ∃ A161, ∃ A161l, ∃ A161c, ∃ A162, ∃ A162l, ∃ A162c, V.cellsC (fun a_ x_ => World.cell? w9 a_ = some x_) ⟨Array.size (World.heap w), 0, none⟩ [(Value.int .i64 n156), (Value.int .i64 n157), (Value.int .i64 n158), (Value.int .i64 n159), (Value.int .i64 n160), (Value.slice A161 A161l A161c), (Value.slice A162 A162l A162c)] ∧
  Calls Tryd.prog 55 #[(Value.pointer (some (⟨gb, 0, none⟩ : Addr))), (Value.agg #[(Value.int .i64 n156), (Value.int .i64 n157), (Value.int .i64 n158), (Value.int .i64 n159), (Value.int .i64 n160), (Value.slice A161 A161l A161c), (Value.slice A162 A162l A162c)])] w9 fun e164 w165 =>
  ∃ b163, e164 = Ending.returned (Value.bool b163) ∧
  R (Ending.returned (Value.bool b163)) w165)
  (∃ n166, World.cell? w9 (Addr.add ⟨Array.size (World.heap w), 0, none⟩ 0) = some (Value.int .i64 n166) ∧
  V.sel (decide (n166 ≥ 17))
  (∃ n167, World.cell? w9 (Addr.add ⟨Array.size (World.heap w), 0, none⟩ 0) = some (Value.int .i64 n167) ∧
  V.sel (decide (n167 ≤ 26))
  (∃ n168, ∃ n169, ∃ n170, ∃ n171, ∃ n172, ∃ A173, ∃ A173l, ∃ A173c, ∃ A174, ∃ A174l, ∃ A174c, V.cellsC (fun a_ x_ => World.cell? w9 a_ = some x_) ⟨Array.size (World.heap w), 0, none⟩ [(Value.int .i64 n168), (Value.int .i64 n169), (Value.int .i64 n170), (Value.int .i64 n171), (Value.int .i64 n172), (Value.slice A173 A173l A173c), (Value.slice A174 A174l A174c)] ∧
  Calls Tryd.prog 56 #[(Value.pointer (some (⟨gb, 0, none⟩ : Addr))), (Value.agg #[(Value.int .i64 n168), (Value.int .i64 n169), (Value.int .i64 n170), (Value.int .i64 n171), (Value.int .i64 n172), (Value.slice A173 A173l A173c), (Value.slice A174 A174l A174c)])] w9 fun e176 w177 =>
  ∃ b175, e176 = Ending.returned (Value.bool b175) ∧
  R (Ending.returned (Value.bool b175)) w177)
  (R (Ending.returned (Value.bool true)) w9))
  (R (Ending.returned (Value.bool true)) w9)))
  (∃ n178, World.cell? w9 (Addr.add ⟨Array.size (World.heap w), 0, none⟩ 0) = some (Value.int .i64 n178) ∧
  V.sel (decide (n178 ≥ 17))
  (∃ n179, World.cell? w9 (Addr.add ⟨Array.size (World.heap w), 0, none⟩ 0) = some (Value.int .i64 n179) ∧
  V.sel (decide (n179 ≤ 26))
  (∃ n180, ∃ n181, ∃ n182, ∃ n183, ∃ n184, ∃ A185, ∃ A185l, ∃ A185c, ∃ A186, ∃ A186l, ∃ A186c, V.cellsC (fun a_ x_ => World.cell? w9 a_ = some x_) ⟨Array.size (World.heap w), 0, none⟩ [(Value.int .i64 n180), (Value.int .i64 n181), (Value.int .i64 n182), (Value.int .i64 n183), (Value.int .i64 n184), (Value.slice A185 A185l A185c), (Value.slice A186 A186l A186c)] ∧
  Calls Tryd.prog 56 #[(Value.pointer (some (⟨gb, 0, none⟩ : Addr))), (Value.agg #[(Value.int .i64 n180), (Value.int .i64 n181), (Value.int .i64 n182), (Value.int .i64 n183), (Value.int .i64 n184), (Value.slice A185 A185l A185c), (Value.slice A186 A186l A186c)])] w9 fun e188 w189 =>
  ∃ b187, e188 = Ending.returned (Value.bool b187) ∧
  R (Ending.returned (Value.bool b187)) w189)
  (R (Ending.returned (Value.bool true)) w9))
  (R (Ending.returned (Value.bool true)) w9)))))
  (∃ n190, World.cell? w9 (Addr.add ⟨Array.size (World.heap w), 0, none⟩ 0) = some (Value.int .i64 n190) ∧
  V.sel (n190 == 10)
  (∃ S191 : World → Prop, S191 (World.drew w9) ∧
  ∃ n193, (∀ w192, S191 w192 → World.cell? w192 (Addr.add ⟨Array.size (World.heap w), 0, none⟩ 1) = some (Value.int .i64 n193)) ∧
  ∃ n194, (∀ w192, S191 w192 → World.cell? w192 (Addr.add ⟨Array.size (World.heap w), 0, none⟩ 1) = some (Value.int .i64 n194)) ∧
  ∃ n195, (∀ w192, S191 w192 → World.cell? w192 (Addr.add ⟨Array.size (World.heap w), 0, none⟩ 1) = some (Value.int .i64 n195)) ∧
  V.ptr (some (⟨gb, 0, none⟩ : Addr)) fun a196 =>
  V.when (decide ((0 : Int) ≤ (IntKind.wrap .i64 ((BitVec.toNat (BitVec.ofInt 64 n193 &&& BitVec.ofInt 64 3) : Nat) : Int)) ∧ ((IntKind.wrap .i64 ((BitVec.toNat (BitVec.ofInt 64 n193 &&& BitVec.ofInt 64 3) : Nat) : Int)) : Int) < 4)) (V.ptr (some (⟨gb, 0, none⟩ : Addr)) fun a197 =>
  V.ptr (some (⟨gb, 0, none⟩ : Addr)) fun a198 =>
  ∃ w199, Sem.run Tryd.prog (Instr.storeAt 27 (Value.pointer (some (Addr.add (Addr.add a196 0) ((Int.toNat (IntKind.wrap .i64 ((BitVec.toNat (BitVec.ofInt 64 n193 &&& BitVec.ofInt 64 3) : Nat) : Int))) * 1)))) (Value.pointer none)) (World.drew w9) = .ok () w199 ∧
  S191 w199 ∧
  V.when (decide ((0 : Int) ≤ (IntKind.wrap .i64 ((BitVec.toNat (BitVec.ofInt 64 n194 &&& BitVec.ofInt 64 3) : Nat) : Int)) ∧ ((IntKind.wrap .i64 ((BitVec.toNat (BitVec.ofInt 64 n194 &&& BitVec.ofInt 64 3) : Nat) : Int)) : Int) < 4)) (∃ w200, Sem.run Tryd.prog (Instr.storeAt 50 (Value.pointer (some (Addr.add (Addr.add a197 4) ((Int.toNat (IntKind.wrap .i64 ((BitVec.toNat (BitVec.ofInt 64 n194 &&& BitVec.ofInt 64 3) : Nat) : Int))) * 2)))) (Value.agg #[(Value.int .i64 0), (Value.slice none 0 0)])) w199 = .ok () w200 ∧
  S191 w200 ∧
  V.when (decide ((0 : Int) ≤ (IntKind.wrap .i64 ((BitVec.toNat (BitVec.ofInt 64 n195 &&& BitVec.ofInt 64 3) : Nat) : Int)) ∧ ((IntKind.wrap .i64 ((BitVec.toNat (BitVec.ofInt 64 n195 &&& BitVec.ofInt 64 3) : Nat) : Int)) : Int) < 4)) (∃ w201, Sem.run Tryd.prog (Instr.storeAt 4 (Value.pointer (some (Addr.add (Addr.add a198 12) ((Int.toNat (IntKind.wrap .i64 ((BitVec.toNat (BitVec.ofInt 64 n195 &&& BitVec.ofInt 64 3) : Nat) : Int))) * 1)))) (Value.bool true)) w200 = .ok () w201 ∧
  S191 w201 ∧
  R (Ending.returned (Value.bool true)) w201))))
  (∃ n202, World.cell? w9 (Addr.add ⟨Array.size (World.heap w), 0, none⟩ 0) = some (Value.int .i64 n202) ∧
  V.sel (decide (n202 ≥ 11))
  (∃ n203, World.cell? w9 (Addr.add ⟨Array.size (World.heap w), 0, none⟩ 0) = some (Value.int .i64 n203) ∧
  V.sel (decide (n203 ≤ 16))
  (∃ n204, ∃ n205, ∃ n206, ∃ n207, ∃ n208, ∃ A209, ∃ A209l, ∃ A209c, ∃ A210, ∃ A210l, ∃ A210c, V.cellsC (fun a_ x_ => World.cell? w9 a_ = some x_) ⟨Array.size (World.heap w), 0, none⟩ [(Value.int .i64 n204), (Value.int .i64 n205), (Value.int .i64 n206), (Value.int .i64 n207), (Value.int .i64 n208), (Value.slice A209 A209l A209c), (Value.slice A210 A210l A210c)] ∧
  Calls Tryd.prog 55 #[(Value.pointer (some (⟨gb, 0, none⟩ : Addr))), (Value.agg #[(Value.int .i64 n204), (Value.int .i64 n205), (Value.int .i64 n206), (Value.int .i64 n207), (Value.int .i64 n208), (Value.slice A209 A209l A209c), (Value.slice A210 A210l A210c)])] w9 fun e212 w213 =>
  ∃ b211, e212 = Ending.returned (Value.bool b211) ∧
  R (Ending.returned (Value.bool b211)) w213)
  (∃ n214, World.cell? w9 (Addr.add ⟨Array.size (World.heap w), 0, none⟩ 0) = some (Value.int .i64 n214) ∧
  V.sel (decide (n214 ≥ 17))
  (∃ n215, World.cell? w9 (Addr.add ⟨Array.size (World.heap w), 0, none⟩ 0) = some (Value.int .i64 n215) ∧
  V.sel (decide (n215 ≤ 26))
  (∃ n216, ∃ n217, ∃ n218, ∃ n219, ∃ n220, ∃ A221, ∃ A221l, ∃ A221c, ∃ A222, ∃ A222l, ∃ A222c, V.cellsC (fun a_ x_ => World.cell? w9 a_ = some x_) ⟨Array.size (World.heap w), 0, none⟩ [(Value.int .i64 n216), (Value.int .i64 n217), (Value.int .i64 n218), (Value.int .i64 n219), (Value.int .i64 n220), (Value.slice A221 A221l A221c), (Value.slice A222 A222l A222c)] ∧
  Calls Tryd.prog 56 #[(Value.pointer (some (⟨gb, 0, none⟩ : Addr))), (Value.agg #[(Value.int .i64 n216), (Value.int .i64 n217), (Value.int .i64 n218), (Value.int .i64 n219), (Value.int .i64 n220), (Value.slice A221 A221l A221c), (Value.slice A222 A222l A222c)])] w9 fun e224 w225 =>
  ∃ b223, e224 = Ending.returned (Value.bool b223) ∧
  R (Ending.returned (Value.bool b223)) w225)
  (R (Ending.returned (Value.bool true)) w9))
  (R (Ending.returned (Value.bool true)) w9)))
  (∃ n226, World.cell? w9 (Addr.add ⟨Array.size (World.heap w), 0, none⟩ 0) = some (Value.int .i64 n226) ∧
  V.sel (decide (n226 ≥ 17))
  (∃ n227, World.cell? w9 (Addr.add ⟨Array.size (World.heap w), 0, none⟩ 0) = some (Value.int .i64 n227) ∧
  V.sel (decide (n227 ≤ 26))
  (∃ n228, ∃ n229, ∃ n230, ∃ n231, ∃ n232, ∃ A233, ∃ A233l, ∃ A233c, ∃ A234, ∃ A234l, ∃ A234c, V.cellsC (fun a_ x_ => World.cell? w9 a_ = some x_) ⟨Array.size (World.heap w), 0, none⟩ [(Value.int .i64 n228), (Value.int .i64 n229), (Value.int .i64 n230), (Value.int .i64 n231), (Value.int .i64 n232), (Value.slice A233 A233l A233c), (Value.slice A234 A234l A234c)] ∧
  Calls Tryd.prog 56 #[(Value.pointer (some (⟨gb, 0, none⟩ : Addr))), (Value.agg #[(Value.int .i64 n228), (Value.int .i64 n229), (Value.int .i64 n230), (Value.int .i64 n231), (Value.int .i64 n232), (Value.slice A233 A233l A233c), (Value.slice A234 A234l A234c)])] w9 fun e236 w237 =>
  ∃ b235, e236 = Ending.returned (Value.bool b235) ∧
  R (Ending.returned (Value.bool b235)) w237)
  (R (Ending.returned (Value.bool true)) w9))
  (R (Ending.returned (Value.bool true)) w9))))) :=
    ⟨_, cadd b9 (i := 0) rfl, sel_dec (fun h1 => ⟨_, cadd b9 (i := 0) rfl, sel_dec (fun h2 => ⟨_, _, _, _, _, _, _, _, _, _, _, cadd0 b9, joining_c (o := o) g fun w' rs' hg => ⟨_, rfl, k _ _ hg⟩⟩) (fun h2 => hNil)⟩) (fun h1 => hNil)⟩
  exact ⟨_, cadd b9 (i := 0) rfl, sel_dec (fun h1 => ⟨_, cadd b9 (i := 0) rfl, sel_dec (fun h2 => ⟨_, _, _, _, _, _, _, _, _, _, _, cadd0 b9, making_c g (ho.ext0 x9) ⟨h1, h2⟩ fun w' rs' hg => ⟨_, rfl, k _ _ hg⟩⟩) (fun h2 => hJoin)⟩) (fun h1 => hJoin)⟩
end Go.Proofs.YtbaglnffgbnekaaDoor
