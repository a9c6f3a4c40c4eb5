/- Slots: a table of Things, one of texts and the document's, side by side. -/
import Derived.Test.YtcampkaenlohbaaDoorKS
import Derived.Test.YtcampkaenlohbaaDoorKT
import Derived.Test.YtcampkaenlohbaaDoorK20
set_option linter.unusedVariables false
set_option linter.unusedSimpArgs false
namespace Go.Proofs.YtcampkaenlohbaaDoor
open Go Go.V Go.B

theorem ItoaI_c {w : World} (hp : Pow w) (i : Int) (h0 : -9223372036854775808 ≤ i) (h1 : i ≤ 9223372036854775807) {R : Ending → World → Prop} (k : ∀ w', Ext [] w w' → R (.returned (.string (nt i))) w') : Calls Tryd.prog 9 #[.int .i64 i] w R := by
  refine (Any.strconv_Itoa Tryd.lays171 i h0 h1 w hp).mono fun e w' h => ?_
  obtain ⟨rfl, n, os, rfl⟩ := h
  refine k _ ⟨rfl, rfl, rfl, ?_, fun b hb _ => ?_⟩
  · rw [Go.Sort.size_grow]
    exact Nat.le_add_right _ _
  · show ((w.heap ++ os)[b]?) = _
    rw [Array.getElem?_append_left hb]
structure Tr (w0 w : World) (Z : List Nat) (pt pu : Nat) (ft fu : List Nat) (st su sd : TS) (A : Option Addr) (n : Nat) (ds : List DR) : Prop where
  e : Ext [] w0 w
  t : ∃ B, KT.At w B pt ft st
  u : ∃ B, KS.At w B pu fu su
  d : Dc w A n sd ds
  tn : ∀ b ∈ ft, w0.heap.size ≤ b
  un : ∀ b ∈ fu, w0.heap.size ≤ b
  z : ∀ b ∈ Z, w0.heap.size ≤ b ∧ b < w.heap.size ∧ b ∉ ft ∧ b ∉ fu
  tu : ∀ b ∈ ft, b ∉ fu
  dd : n ≠ 0 → ∀ b ∈ ownF A, b ∉ ft ∧ b ∉ fu ∧ b ∉ Z
section
variable {w0 w w' : World} {Z : List Nat} {pt pu : Nat} {ft fu ft' fu' : List Nat} {st su sd st' su' sd' : TS} {A A' : Option Addr} {n n' : Nat} {ds ds' : List DR}
theorem Tr.extZ (h : Tr w0 w Z pt pu ft fu st su sd A n ds) {F : List Nat} (e : Ext F w w') (hF : ∀ b ∈ F, b ∈ Z ∨ w.heap.size ≤ b) : Tr w0 w' Z pt pu ft fu st su sd A n ds := by
  obtain ⟨B, ht⟩ := h.t
  obtain ⟨B', hu⟩ := h.u
  have s0 := h.e.size
  have s1 := e.size
  refine ⟨h.e.trans' e fun b hb => .inr ?_, ⟨B, ht.ext e fun b hb hm => ?_⟩, ⟨B', hu.ext e fun b hb hm => ?_⟩, h.d.extT e fun hn b hb hm => ?_, h.tn, h.un, fun b hb => ?_, h.tu, h.dd⟩
  · rcases hF b hb with h1 | h1
    · exact (h.z b h1).1
    · omega
  · rcases hF b hm with h1 | h1
    · exact (h.z b h1).2.2.1 hb
    · have := ht.lt b hb; omega
  · rcases hF b hm with h1 | h1
    · exact (h.z b h1).2.2.2 hb
    · have := hu.lt b hb; omega
  · rcases hF b hm with h1 | h1
    · exact (h.dd hn b hb).2.2 h1
    · have := h.d.blk_lt hn b hb; omega
  · have := h.z b hb
    exact ⟨this.1, by omega, this.2.2⟩
theorem Tr.ext0 (h : Tr w0 w Z pt pu ft fu st su sd A n ds) (e : Ext [] w w') : Tr w0 w' Z pt pu ft fu st su sd A n ds := h.extZ e (by simp)
theorem Tr.new (h : Tr w0 w Z pt pu ft fu st su sd A n ds) (e : Ext [] w w') {b : Nat} (hb : w.heap.size ≤ b ∧ b < w'.heap.size) : Tr w0 w' (b :: Z) pt pu ft fu st su sd A n ds := by
  obtain ⟨B, ht⟩ := h.t
  obtain ⟨B', hu⟩ := h.u
  have s0 := h.e.size
  have h' := h.ext0 e
  refine ⟨h'.e, h'.t, h'.u, h'.d, h.tn, h.un, fun c hc => ?_, h.tu, fun hn c hc => ?_⟩
  · simp only [List.mem_cons] at hc
    rcases hc with rfl | hc
    · exact ⟨by omega, hb.2, fun hm => by have := ht.lt _ hm; omega, fun hm => by have := hu.lt _ hm; omega⟩
    · exact h'.z c hc
  · have h1 := h.dd hn c hc
    have h2 := h.d.blk_lt hn c hc
    refine ⟨h1.1, h1.2.1, ?_⟩
    simp only [List.mem_cons, not_or]
    exact ⟨by omega, h1.2.2⟩
theorem Tr.less (h : Tr w0 w Z pt pu ft fu st su sd A n ds) {Z' : List Nat} (hz : ∀ b ∈ Z', b ∈ Z) : Tr w0 w Z' pt pu ft fu st su sd A n ds :=
  ⟨h.e, h.t, h.u, h.d, h.tn, h.un, fun b hb => h.z b (hz b hb), h.tu, fun hn b hb => ⟨(h.dd hn b hb).1, (h.dd hn b hb).2.1, fun hm => (h.dd hn b hb).2.2 (hz b hm)⟩⟩
theorem Tr.stepT (h : Tr w0 w Z pt pu ft fu st su sd A n ds) (e : Ext ft w w') {B : Nat} (a : KT.At w' B pt ft' st') (g : Grow w ft ft') : Tr w0 w' Z pt pu ft' fu st' su sd A n ds := by
  obtain ⟨B', hu⟩ := h.u
  have s0 := h.e.size
  have s1 := e.size
  refine ⟨h.e.trans' e fun b hb => .inr (h.tn b hb), ⟨B, a⟩, ⟨B', hu.ext e fun b hb hm => h.tu b hm hb⟩, h.d.extT e fun hn b hb hm => (h.dd hn b hb).1 hm, fun b hb => ?_, h.un, fun b hb => ?_, fun b hb hm => ?_, fun hn b hb => ?_⟩
  · rcases g b hb with h1 | h1
    · exact h.tn b h1
    · omega
  · have hz := h.z b hb
    refine ⟨hz.1, by omega, fun hm => ?_, hz.2.2.2⟩
    rcases g b hm with h1 | h1
    · exact hz.2.2.1 h1
    · omega
  · rcases g b hb with h1 | h1
    · exact h.tu b h1 hm
    · have := hu.lt b hm; omega
  · have h1 := h.dd hn b hb
    have h2 := h.d.blk_lt hn b hb
    refine ⟨fun hm => ?_, h1.2⟩
    rcases g b hm with h3 | h3
    · exact h1.1 h3
    · omega
theorem Tr.stepU (h : Tr w0 w Z pt pu ft fu st su sd A n ds) (e : Ext fu w w') {B : Nat} (a : KS.At w' B pu fu' su') (g : Grow w fu fu') : Tr w0 w' Z pt pu ft fu' st su' sd A n ds := by
  obtain ⟨B', ht⟩ := h.t
  have s0 := h.e.size
  have s1 := e.size
  refine ⟨h.e.trans' e fun b hb => .inr (h.un b hb), ⟨B', ht.ext e fun b hb hm => h.tu b hb hm⟩, ⟨B, a⟩, h.d.extT e fun hn b hb hm => (h.dd hn b hb).2.1 hm, h.tn, fun b hb => ?_, fun b hb => ?_, fun b hb hm => ?_, fun hn b hb => ?_⟩
  · rcases g b hb with h1 | h1
    · exact h.un b h1
    · omega
  · have hz := h.z b hb
    refine ⟨hz.1, by omega, hz.2.2.1, fun hm => ?_⟩
    rcases g b hm with h1 | h1
    · exact hz.2.2.2 h1
    · omega
  · rcases g b hm with h1 | h1
    · exact h.tu b hb h1
    · have := ht.lt b hb; omega
  · have h1 := h.dd hn b hb
    have h2 := h.d.blk_lt hn b hb
    refine ⟨h1.1, fun hm => ?_, h1.2.2⟩
    rcases g b hm with h3 | h3
    · exact h1.2.1 h3
    · omega
theorem Tr.stepD (h : Tr w0 w Z pt pu ft fu st su sd A n ds) (e : Ext [] w w') (d' : Dc w' A' n' sd' ds') (hA : (A' = A ∧ n' = n) ∨ ∀ g ∈ ownF A', w.heap.size ≤ g) : Tr w0 w' Z pt pu ft fu st su sd' A' n' ds' := by
  obtain ⟨B, ht⟩ := h.t
  obtain ⟨B', hu⟩ := h.u
  have h' := h.ext0 e
  refine ⟨h'.e, h'.t, h'.u, d', h.tn, h.un, h'.z, h.tu, fun hn b hb => ?_⟩
  rcases hA with ⟨rfl, rfl⟩ | hA
  · exact h.dd hn b hb
  · have h1 := hA b hb
    refine ⟨fun hm => ?_, fun hm => ?_, fun hm => ?_⟩
    · have := ht.lt b hm; omega
    · have := hu.lt b hm; omega
    · have := (h.z b hm).2.1; omega
end
/-- The numbers are ints. -/
def VB (s : TS) : Prop := ∀ x ∈ s.rows, -9223372036854775808 ≤ x.v ∧ x.v ≤ 9223372036854775807
theorem VB.put {s : TS} (h : VB s) (name : ByteArray) {v : Int} (hv : -9223372036854775808 ≤ v ∧ v ≤ 9223372036854775807) : VB (putV s name v).1 := by
  unfold putV
  split
  · exact h
  · split
    · exact h
    · split
      · exact h
      · intro x hx
        have hx : x ∈ putRows s.rows (freeAt s.rows) ⟨true, name, v⟩ := hx
        unfold putRows at hx
        split at hx
        · simp only [List.mem_append, List.mem_singleton] at hx
          rcases hx with h1 | rfl
          · exact h x h1
          · exact hv
        · rcases List.mem_or_eq_of_mem_set hx with h1 | rfl
          · exact h x h1
          · exact hv
theorem VB.set {s : TS} (h : VB s) (name : ByteArray) {v : Int} (hv : -9223372036854775808 ≤ v ∧ v ≤ 9223372036854775807) : VB (setV s name v) := by
  unfold setV
  split
  · intro x hx
    rcases List.mem_or_eq_of_mem_set hx with h1 | rfl
    · exact h x h1
    · exact hv
  · exact h
theorem VB.drop {s : TS} (h : VB s) (name : ByteArray) : VB (dropV s name).1 := by
  unfold dropV
  split
  · exact h
  · intro x hx
    rcases List.mem_or_eq_of_mem_set (List.mem_of_mem_take hx) with h1 | rfl
    · exact h x h1
    · show -9223372036854775808 ≤ (0 : Int) ∧ (0 : Int) ≤ 9223372036854775807
      omega
theorem most_put (s : TS) (name : ByteArray) (v : Int) : (putV s name v).1.most = s.most := by
  unfold putV
  split
  · rfl
  · split
    · rfl
    · split <;> rfl
theorem most_set (s : TS) (name : ByteArray) (v : Int) : (setV s name v).most = s.most := by
  unfold setV
  split <;> rfl
theorem most_drop (s : TS) (name : ByteArray) : (dropV s name).1.most = s.most := by
  unfold dropV
  split <;> rfl
theorem i39s : (Tryd.prog.info? 39).map (·.size) = some 2 := by kernel_rfl
set_option maxRecDepth 8000 in
/-- The queries behind a step. -/
theorem tail_c {w24 wX : World} {pt pu bm bo B B' : Nat} {ft fu : List Nat} {s : TS} {A : Option Addr} {n c : Nat} {ds : List DR} {o : Op} {a : Nat} {I : Int → World → Prop} {μ : Int → World → Nat} {R : Ending → World → Prop}
    (ht : KT.At wX B pt ft s) (hu : KS.At wX B' pu fu s) (hd : Dc wX A n s ds) (bmx : BlkT wX bm (dt (s.most : Int) A n c) 45) (box : BlkT wX bo o.cells 49) (hp : Pow wX) (vb : VB s)
    (k : ∀ w', Ext [] wX w' → I (IntKind.wrap .i64 ((a : Int) + 1)) w' ∧ μ (IntKind.wrap .i64 ((a : Int) + 1)) w' < μ (a : Int) w24) :
    ∃ A67, ∃ A67l, ∃ A67c, World.cell? wX (Addr.add ⟨bm, 0, none⟩ 1) = some (Value.slice A67 A67l A67c) ∧
  ∃ I68 : Int → World → Prop, ∃ μ69 : Int → World → Nat, I68 0 wX ∧
  ∀ t204_70 (j71 : Nat → Value) (w72 : World), I68 t204_70 w72 →
  (V.sel (decide (t204_70 < ((A67l : Nat) : Int)))
  (V.when (decide ((0 : Int) ≤ t204_70 ∧ (t204_70 : Int) < ((A67l : Nat) : Int))) (V.ptr A67 fun a73 =>
  ∃ n74, ∃ s75, ∃ n76, V.cellsC (fun a_ x_ => World.cell? w72 a_ = some x_) (Addr.add a73 ((Int.toNat t204_70) * 3)) [(Value.int .i64 n74), (Value.string s75), (Value.int .i64 n76)] ∧
  ∀ w77, w77 = (World.alloc w72 (.cells #[(Value.int .i64 0), (Value.string ByteArray.empty), (Value.int .i64 0)] 59)) →
  ∃ w78, Sem.run Tryd.prog (Instr.storeAt 59 (Value.pointer (some ⟨Array.size (World.heap w72), 0, none⟩)) (Value.agg #[(Value.int .i64 n74), (Value.string s75), (Value.int .i64 n76)])) w77 = .ok () w78 ∧
  ∃ s79, World.cell? w78 (Addr.add ⟨Array.size (World.heap w72), 0, none⟩ 1) = some (Value.string s79) ∧
  Calls Tryd.prog 25 #[(Value.pointer (some (⟨pt, 0, none⟩ : Addr))), (Value.string s79)] w78 fun e84 w85 =>
  ∃ n80, ∃ n81, ∃ s82, ∃ b83, e84 = Ending.returned (Value.tuple #[(Value.int .i64 n80), (Value.agg #[(Value.int .i64 n81), (Value.string s82)]), (Value.bool b83)]) ∧
  ∀ w86, w86 = (World.alloc w85 (.cells #[(Value.int .i64 0), (Value.string ByteArray.empty)] 39)) →
  ∃ w87, Sem.run Tryd.prog (Instr.storeAt 39 (Value.pointer (some ⟨Array.size (World.heap w85), 0, none⟩)) (Value.agg #[(Value.int .i64 n81), (Value.string s82)])) w86 = .ok () w87 ∧
  ∃ n88, World.cell? w87 (Addr.add ⟨Array.size (World.heap w72), 0, none⟩ 0) = some (Value.int .i64 n88) ∧
  Calls Tryd.prog 26 #[(Value.pointer (some (⟨pu, 0, none⟩ : Addr))), (Value.int .i64 n88)] w87 fun e92 w93 =>
  ∃ s89, ∃ s90, ∃ b91, e92 = Ending.returned (Value.tuple #[(Value.string s89), (Value.string s90), (Value.bool b91)]) ∧
  ∃ n94, World.cell? w93 (Addr.add ⟨Array.size (World.heap w72), 0, none⟩ 2) = some (Value.int .i64 n94) ∧
  Calls Tryd.prog 9 #[(Value.int .i64 n94)] w93 fun e96 w97 =>
  ∃ s95, e96 = Ending.returned (Value.string s95) ∧
  V.sel (!b83)
  (R (Ending.returned (Value.bool false)) w97)
  (V.sel (!b91)
  (R (Ending.returned (Value.bool false)) w97)
  (∃ n98, ∃ s99, V.cellsC (fun a_ x_ => World.cell? w97 a_ = some x_) ⟨Array.size (World.heap w85), 0, none⟩ [(Value.int .i64 n98), (Value.string s99)] ∧
  ∃ n100, World.cell? w97 (Addr.add ⟨Array.size (World.heap w72), 0, none⟩ 2) = some (Value.int .i64 n100) ∧
  V.sel (!(((n98 : Int) == n100) && ((ByteArray.toList s99 == ByteArray.toList s95) && true)))
  (R (Ending.returned (Value.bool false)) w97)
  (V.sel (!(ByteArray.toList s90 == ByteArray.toList s95))
  (R (Ending.returned (Value.bool false)) w97)
  (I68 (IntKind.wrap .i64 (t204_70 + 1)) w97 ∧ μ69 (IntKind.wrap .i64 (t204_70 + 1)) w97 < μ69 t204_70 w72))))))
  (∃ n101, World.cell? w72 (Addr.add ⟨bo, 0, none⟩ 4) = some (Value.int .i64 n101) ∧
  Calls Tryd.prog 27 #[(Value.pointer (some (⟨pt, 0, none⟩ : Addr))), (Value.int .i64 n101)] w72 fun e106 w107 =>
  ∃ s102, ∃ n103, ∃ s104, ∃ b105, e106 = Ending.returned (Value.tuple #[(Value.string s102), (Value.agg #[(Value.int .i64 n103), (Value.string s104)]), (Value.bool b105)]) ∧
  ∀ w108, w108 = (World.alloc w107 (.cells #[(Value.int .i64 0), (Value.string ByteArray.empty)] 39)) →
  ∃ w109, Sem.run Tryd.prog (Instr.storeAt 39 (Value.pointer (some ⟨Array.size (World.heap w107), 0, none⟩)) (Value.agg #[(Value.int .i64 n103), (Value.string s104)])) w108 = .ok () w109 ∧
  ∃ n110, ∃ A111, ∃ A111l, ∃ A111c, V.cellsC (fun a_ x_ => World.cell? w109 a_ = some x_) ⟨bm, 0, none⟩ [(Value.int .i64 n110), (Value.slice A111 A111l A111c)] ∧
  ∃ n112, World.cell? w109 (Addr.add ⟨bo, 0, none⟩ 4) = some (Value.int .i64 n112) ∧
  Calls Tryd.prog 28 #[(Value.agg #[(Value.int .i64 n110), (Value.slice A111 A111l A111c)]), (Value.int .i64 n112)] w109 fun e114 w115 =>
  ∃ n113, e114 = Ending.returned (Value.int .i64 n113) ∧
  V.sel (decide (n113 < 0))
  (V.sel (!(ByteArray.toList s102 == ByteArray.toList ByteArray.empty))
  (R (Ending.returned (Value.bool false)) w115)
  (V.sel b105
  (R (Ending.returned (Value.bool false)) w115)
  (∃ n116, ∃ s117, V.cellsC (fun a_ x_ => World.cell? w115 a_ = some x_) ⟨Array.size (World.heap w107), 0, none⟩ [(Value.int .i64 n116), (Value.string s117)] ∧
  V.sel (!(((n116 : Int) == 0) && ((ByteArray.toList s117 == ByteArray.toList ByteArray.empty) && true)))
  (R (Ending.returned (Value.bool false)) w115)
  (I (IntKind.wrap .i64 (((a : Nat) : Int) + 1)) w115 ∧ μ (IntKind.wrap .i64 (((a : Nat) : Int) + 1)) w115 < μ ((a : Nat) : Int) w24))))
  (I (IntKind.wrap .i64 (((a : Nat) : Int) + 1)) w115 ∧ μ (IntKind.wrap .i64 (((a : Nat) : Int) + 1)) w115 < μ ((a : Nat) : Int) w24))) := by
  have hle := hd.le
  have hlen := hd.len
  refine ⟨_, _, _, cadd bmx (i := 1) rfl, fun t w' => ∃ b : Nat, t = b ∧ b ≤ n ∧ Ext [] wX w', fun t _ => n - t.toNat, ⟨0, rfl, by omega, Ext.refl _ _⟩, ?_⟩
  rintro _ _ w72 ⟨b, rfl, hb, e72⟩
  refine sel_dec (fun hlt => ?_) (fun hge => ?_)
  · obtain ⟨d, ad, hdd, rfl, rd⟩ := (hd.cells.ext0 e72).row hlen (a := b) (by omega)
    have hmem := List.mem_of_getElem? hdd
    obtain ⟨r1, r2⟩ := hd.dm.row hmem
    have hv : -9223372036854775808 ≤ d.v ∧ d.v ≤ 9223372036854775807 := by
      obtain ⟨i, x, hx, hh, rfl⟩ := hd.dm.mem.1 hmem
      exact vb x (List.mem_of_getElem? hx)
    refine when_dec ⟨by omega, by omega⟩ (ptr_in ⟨_, _, _, rd, fun w77 h77 => ?_⟩)
    obtain ⟨b77, x77, z77⟩ := box_new (cs := [.int .i64 0, .string ByteArray.empty, .int .i64 0]) h77
    obtain ⟨w78, hr78, b78, x78⟩ := storeW (P := Tryd.prog) (t := 59) (n := 3) (vs := [.int .i64 d.slot, .string d.name, .int .i64 d.v]) i66s b77 rfl rfl (fun v hv => by simp at hv; rcases hv with rfl | rfl | rfl <;> rfl)
    have e78 : Ext [] wX w78 := (e72.trans x77).trans' x78 (fun b hb => .inr (by have := e72.size; simp at hb; omega))
    refine ⟨w78, hr78, _, cadd b78 (i := 1) rfl, KT.Find_c (ht.ext0 e78) d.name fun w85 e85 => ⟨_, _, _, _, rfl, fun w86 h86 => ?_⟩⟩
    rw [r1]
    obtain ⟨b86, x86, z86⟩ := box_new (cs := [.int .i64 0, .string ByteArray.empty]) h86
    obtain ⟨w87, hr87, b87, x87⟩ := storeW (P := Tryd.prog) (t := 39) (n := 2) (vs := [.int .i64 d.v, .string (nt d.v)]) i39s b86 rfl rfl (fun v hv => by simp at hv; rcases hv with rfl | rfl <;> rfl)
    have e85' := e78.trans e85
    have f87 : Ext [] w78 w87 := (e85.trans x86).trans' x87 (fun b hb => .inr (by have := e85.size; simp at hb; omega))
    have e87 := e78.trans f87
    refine ⟨w87, hr87, _, cadd (b78.ext0 f87) (i := 0) rfl, KS.At_c (hu.ext0 e87) d.slot fun w93 e93 => ⟨_, _, _, rfl, _, cadd ((b78.ext0 f87).ext0 e93) (i := 2) rfl, ItoaI_c (hp.ext0 (e87.trans e93)) d.v hv.1 hv.2 fun w97 e97 => ⟨_, rfl, ?_⟩⟩⟩
    rw [r2]
    refine sel_false rfl (sel_false rfl ⟨_, _, cadd0 ((b87.ext0 e93).ext0 e97), _, cadd (((b78.ext0 f87).ext0 e93).ext0 e97) (i := 2) rfl, sel_false ?_ (sel_false ?_ ?_)⟩)
    · rw [beqBytes, decide_eq_true rfl, beq_self_eq_true]; rfl
    · rw [beqBytes]
      show (!decide (nt d.v = nt d.v)) = false
      rw [decide_eq_true rfl]; rfl
    · rw [up64 b (by omega)]
      exact ⟨⟨b + 1, rfl, by omega, (e87.trans e93).trans e97⟩, by simp only [Int.toNat_natCast]; omega⟩
  · refine ⟨_, cadd (box.ext0 e72) (i := 4) rfl, KT.At_c (ht.ext0 e72) o.v fun w107 e107 => ⟨_, _, _, _, rfl, fun w108 h108 => ?_⟩⟩
    obtain ⟨b108, x108, z108⟩ := box_new (cs := [.int .i64 0, .string ByteArray.empty]) h108
    obtain ⟨w109, hr109, b109, x109⟩ := storeW (P := Tryd.prog) (t := 39) (n := 2) (vs := [.int .i64 (atV s o.v).v, .string (tx (atV s o.v))]) i39s b108 rfl rfl (fun v hv => by simp at hv; rcases hv with rfl | rfl <;> rfl)
    have e109 : Ext [] wX w109 := ((e72.trans e107).trans x108).trans' x109 (fun b hb => .inr (by have := (e72.trans e107).size; simp at hb; omega))
    refine ⟨w109, hr109, _, _, _, _, cadd0 (bmx.ext0 e109), _, cadd (box.ext0 e109) (i := 4) rfl, refAtD (hd.ext0 e109) _ c o.v fun w115 e115 => ⟨_, rfl, ?_⟩⟩
    have e := e109.trans e115
    rcases at_tell hd.dm o.v with ⟨ev, hi⟩ | ⟨x1, a1, x, es, ev, hx, hh, ha, hi⟩
    · rw [hi]
      rw [ev] at b109 ⊢
      refine sel_true (by decide) (sel_false ?_ (sel_false rfl ⟨_, _, cadd0 (b109.ext0 e115), sel_false ?_ (k w115 e)⟩))
      · show (!(ByteArray.toList ByteArray.empty == ByteArray.toList ByteArray.empty)) = false
        rw [beq_self_eq_true]; rfl
      · show (!(((0 : Int) == 0) && ((ByteArray.toList ByteArray.empty == ByteArray.toList ByteArray.empty) && true))) = false
        rw [beq_self_eq_true, beq_self_eq_true]; rfl
    · rw [hi]
      exact sel_false (by simp) (k w115 e)
end Go.Proofs.YtcampkaenlohbaaDoor
