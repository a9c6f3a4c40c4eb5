/- Whatever lists and number come in, berthlaw03.LabelsWalk returns true and leaves what came in as it was. -/
import Derived.Test.YtcohengppaighaaDoorRd
import Derived.Test.YtcohengppaighaaDoorLr
import Derived.Test.YtcohengppaighaaDoorLl
import Derived.Test.YtcohengppaighaaDoorRows
import Derived.Test.YtcohengppaighaaDoorTie
import Derived.Test.YtcohengppaighaaDoorCards
import Derived.ProofKit
import Derived.LaidMore
import Derived.OpenShut
import Derived.Stop.Joined
import Derived.SevenTiedAt
import Derived.LaidHandle
import Derived.Lay
set_option linter.unusedVariables false
set_option linter.unusedSimpArgs false
namespace Go.B
theorem Mrk.ext0 {W W' : World} {D : Nat} (h : Mrk W D) (e : Ext [] W W') : Mrk W' D := h.ext e (by simp)
end Go.B
namespace Go.Proofs.YtcohengppaighaaDoor
open Go Go.V Go.B
open Go.ChangeShapes Go.WideShapes Go.ChangeAt Go.RowKit

theorem iI : (Tryd.prog.info? 3).map (·.size) = some 1 := by kernel_rfl
theorem iB : (Tryd.prog.info? 4).map (·.size) = some 1 := by kernel_rfl
theorem iF : (Tryd.prog.info? 31).map (·.size) = some 1 := by kernel_rfl
theorem close_more {W : World} {D : Nat} {ds : List Nat} {K : World → Prop} (h : Mrk W D) (k : ∀ w', Ext [D] W w' → closeR ds w' K) : closeR (D :: ds) W K := ⟨h, k _ (putObj_ext W D _)⟩
/-- A difference held against the wanted one. -/
theorem cmp_c {Y : World} {kb wb bb : Nat} {y : DL} {ds ps rest : List DL} {A : Option Addr} {q c : Nat} {T : TypeId} (hk : BlkT Y kb [.int .i64 (ps.length : Int)] T) (hw : BlkT Y wb [.slice A q c] 24) (hb : BlkT Y bb (dcells y) 35) (hc : Cells Y A (DLL.flat ds)) (hsp : ds = ps ++ y :: rest) (hq : ds.length = q) (h64 : q ≤ 64) {BAD BAD2 GOOD : Prop} (g : GOOD) :
    ∃ n75, World.cell? Y ⟨kb, 0, none⟩ = some (Value.int .i64 n75) ∧
    ∃ A76, ∃ A76l, ∃ A76c, World.cell? Y ⟨wb, 0, none⟩ = some (Value.slice A76 A76l A76c) ∧
    V.sel (decide (n75 ≥ ((A76l : Nat) : Int))) BAD
    (∃ s78, ∃ s79, ∃ s80, ∃ b81, ∃ b82, V.cellsC (fun a_ x_ => World.cell? Y a_ = some x_) ⟨bb, 0, none⟩ [(Value.string s78), (Value.string s79), (Value.string s80), (Value.bool b81), (Value.bool b82)] ∧
    ∃ A83, ∃ A83l, ∃ A83c, World.cell? Y ⟨wb, 0, none⟩ = some (Value.slice A83 A83l A83c) ∧
    ∃ n84, World.cell? Y ⟨kb, 0, none⟩ = some (Value.int .i64 n84) ∧
    V.when (decide ((0 : Int) ≤ n84 ∧ (n84 : Int) < ((A83l : Nat) : Int))) (V.ptr A83 fun a85 =>
    ∃ s86, ∃ s87, ∃ s88, ∃ b89, ∃ b90, V.cellsC (fun a_ x_ => World.cell? Y a_ = some x_) (Addr.add a85 ((Int.toNat n84) * 5)) [(Value.string s86), (Value.string s87), (Value.string s88), (Value.bool b89), (Value.bool b90)] ∧
    V.sel (!((ByteArray.toList s78 == ByteArray.toList s86) && ((ByteArray.toList s79 == ByteArray.toList s87) && ((ByteArray.toList s80 == ByteArray.toList s88) && ((b81 == b89) && ((b82 == b90) && true)))))) BAD2 GOOD)) := by
  have hx : ds[ps.length]? = some y := by rw [hsp]; simp
  have hlt : ps.length < ds.length := (List.getElem?_eq_some_iff.1 hx).1
  obtain ⟨ad, rfl, rd⟩ := dif_cells hc hx
  refine ⟨_, hk.cell (i := 0) rfl, _, _, _, hw.cell (i := 0) rfl, sel_dec (fun h => absurd h (by omega)) (fun _ => ⟨_, _, _, _, _, cadd0 hb, _, _, _, hw.cell (i := 0) rfl, _, hk.cell (i := 0) rfl, when_dec ⟨by omega, by omega⟩ ⟨_, _, _, _, _, (rd Y (Ext.refl _ _)).2, sel_false ?_ g⟩⟩)⟩
  rw [dl_eq y y, decide_eq_true rfl]; rfl
theorem inc_c {Y : World} {kb a : Nat} (hk : BlkT Y kb [.int .i64 (a : Int)] 3) (ha : a < 1000) {CONT : World → Prop} (g : ∀ w93, BlkT w93 kb [.int .i64 ((a + 1 : Nat) : Int)] 3 → Ext [kb] Y w93 → CONT w93) :
    ∃ n92, World.cell? (World.drew Y) ⟨kb, 0, none⟩ = some (Value.int .i64 n92) ∧
    ∃ w93, Sem.run Tryd.prog (Instr.storeAt 3 (Value.pointer (some ⟨kb, 0, none⟩)) (Value.int .i64 (IntKind.wrap .i64 (n92 + 1)))) (World.drew Y) = .ok () w93 ∧ CONT w93 := by
  have hd := hk.ext (Ext.refl [] Y).drew (by simp)
  obtain ⟨w93, hr, b93, x93⟩ := store1 (P := Tryd.prog) (v := .int .i64 (IntKind.wrap .i64 ((a : Int) + 1))) iI hd (i := 0) (by simp) rfl rfl
  refine ⟨_, hd.cell (i := 0) rfl, w93, hr, g w93 ?_ ?_⟩
  · rw [up64 a (by omega)] at b93; exact b93
  · exact ((Ext.refl [] Y).drew.up).trans x93
/-- What stands all along. -/
structure Ws (w : World) (r wb sb p : Nat) (stop : Int) (A : Option Addr) (n c : Nat) (D : Option Addr) (q d : Nat) (ds : List DL) (X : World) : Prop where
  e : Ext [] w X
  st : BlkT X w.heap.size [.int .i64 stop] 3
  res : BlkT X r [.bool false] 4
  want : BlkT X wb [.slice A n c] 24
  seq : BlkT X sb [.func (.func 34) #[] #[.pointer (some ⟨p, 0, none⟩)]] 31
  box : BlkT X p [.slice D q d] 24
  cells : Cells X D (DLL.flat ds)
  wc : Cells X A (DLL.flat ds)
structure Wb (w : World) (r wb sb p kb : Nat) (A D : Option Addr) : Prop where
  w : w.heap.size < kb
  r : r < kb
  wb : wb < kb
  sb : sb < kb
  p : p < kb
  A : ∀ g ∈ ownF A, g < kb
  D : ∀ g ∈ ownF D, g < kb
theorem Ws.ext {w : World} {r wb sb p kb : Nat} {stop : Int} {A : Option Addr} {n c : Nat} {D : Option Addr} {q d : Nat} {ds : List DL} {X X' : World} {F : List Nat} (h : Ws w r wb sb p stop A n c D q d ds X) (b : Wb w r wb sb p kb A D) (e : Ext F X X') (hF : ∀ x ∈ F, kb ≤ x) : Ws w r wb sb p stop A n c D q d ds X' := by
  have no : ∀ {g : Nat}, g < kb → g ∉ F := fun hg hm => by have := hF _ hm; omega
  exact ⟨h.e.trans' e fun x hx => .inr (by have := hF x hx; have := b.w; omega), h.st.ext e (no b.w), h.res.ext e (no b.r), h.want.ext e (no b.wb), h.seq.ext e (no b.sb), h.box.ext e (no b.p), h.cells.ext e fun g hg => no (b.D g hg), h.wc.ext e fun g hg => no (b.A g hg)⟩
theorem round_c {w : World} {r wb sb p kb : Nat} {stop : Int} {A : Option Addr} {n c : Nat} {D : Option Addr} {q d : Nat} {ds : List DL} {V W w73 : World} {l cb a : Nat} {Rc : Loop} (y : DL) (ws : Ws w r wb sb p stop A n c D q d ds V) (b : Wb w r wb sb p kb A D) (h1 : kb ≤ cb) (h2 : kb ≤ l) (h3 : cb ≠ l)
    (q1 : Ext [cb, l] V W) (q2 : BlkT W cb [.int .i64 (a : Int)] 3) (hW : LoopSt W l Rc .ready none) (h73 : w73 = W.alloc (.cells #[.string ByteArray.empty, .string ByteArray.empty, .string ByteArray.empty, .bool false, .bool false] 35)) :
    ∃ w74, Sem.run Tryd.prog (Instr.storeAt 35 (Value.pointer (some ⟨Array.size (World.heap W), 0, none⟩)) (Value.agg #[.string y.key, .string y.old, .string y.new, .bool y.had, .bool y.has])) w73 = .ok () w74 ∧ LoopSt w74 l Rc .ready none ∧
      Ext [cb, l] V (setLoop w74 l Rc .busy none) ∧ BlkT (setLoop w74 l Rc .busy none) cb [.int .i64 (a : Int)] 3 ∧ BlkT (setLoop w74 l Rc .busy none) W.heap.size (dcells y) 35 ∧ LoopSt (setLoop w74 l Rc .busy none) l Rc .busy none ∧
      Ws w r wb sb p stop A n c D q d ds (setLoop w74 l Rc .busy none) ∧ W.heap.size < (setLoop w74 l Rc .busy none).heap.size := by
  obtain ⟨b73, x73, z73⟩ := box_new h73
  obtain ⟨w74, hr, b74, x74⟩ := storeW (P := Tryd.prog) (t := 35) (n := 5) (by kernel_rfl) b73 (vs := dcells y) rfl rfl (DLL.one y)
  have e74 : Ext [] W w74 := x73.trans' x74 fun b hb => .inr (by simp at hb; omega)
  have hl74 : LoopSt w74 l Rc .ready none := LoopSt.ext hW e74 (by simp)
  have x75 := setLoop_ext w74 l Rc .busy none
  have hlW := LoopSt.lt hW
  have f1 : Ext [cb, l] V (setLoop w74 l Rc .busy none) := (q1.trans' e74 (by simp)).trans' x75 fun x hx => .inl (by simp at hx; simp [hx])
  have hs := b74.lt
  refine ⟨w74, hr, hl74, f1, (q2.ext0 e74).ext x75 (by simpa using h3), b74.ext x75 (by simp; omega), setLoop_st _ _ (LoopSt.lt hl74), ws.ext b f1 (by simp; omega), by rw [setLoop_size]; exact hs⟩
set_option maxHeartbeats 8000000 in
set_option maxRecDepth 20000 in
theorem labelsWalk_c {w : World} {A B : Option Addr} {n c m c' : Nat} {was now : List Lab} (h1 : LIn w A n was) (h2 : LIn w B m now) (stop : Int) {R : Ending → World → Prop}
    (k : ∀ w', Ext [] w w' → R (.returned (.bool true)) w') : Calls Tryd.prog 3 #[.slice A n c, .slice B m c', .int .i64 stop] w R := by
  apply berthlaw03_LabelsWalk_nf
  intro w4 h4 w5 h5
  obtain ⟨b4, x4, z4⟩ := box_new (cs := [.int .i64 stop]) h4
  obtain ⟨b5, x5, z5⟩ := box_new (cs := [.bool false]) h5
  refine wakes_c fun w8 e8 => ⟨_, rfl, sel_false rfl fun w11 h11 => ?_⟩
  obtain ⟨i11, x11⟩ := aOne_in h11
  refine walkI i11 (LIn.nil w11) fun w14 A12 q12 c12 e14 i14 _ => ⟨_, _, _, rfl, ?_⟩
  rw [one_diff] at i14
  have hq12 : q12 = 1 := i14.len.symm
  subst hq12
  have e5_14 := (e8.trans x11).trans e14
  have e14' := (x4.trans x5).trans e5_14
  refine sel_false rfl (rDiff_c (h1.ext0 e14') (h2.ext0 e14') fun w19 A17 q17 c17 e19 o17 hq17 => ⟨_, _, _, rfl, fun w20 h20 => ?_⟩)
  obtain ⟨b20, x20, z20⟩ := box_new (cs := [.slice none 0 0]) h20
  obtain ⟨w21, hr21, b21, x21⟩ := store1 (P := Tryd.prog) (v := .slice A17 q17 c17) iSl b20 (i := 0) (by simp) rfl rfl
  have e19_21 : Ext [] w19 w21 := x20.trans' x21 fun b hb => .inr (by simp at hb; omega)
  have e21' := (e14'.trans e19).trans e19_21
  refine ⟨w21, hr21, roomy_c (h1.ext0 e21') fun w25 A22 c22 e25 o22 => ⟨_, _, _, _, _, _, rfl, roomy_c (h2.ext0 (e21'.trans e25)) fun w29 A26 c26 e29 o26 => ⟨_, _, _, _, _, _, rfl, ?_⟩⟩⟩
  have e21_29 := e25.trans e29
  have o22' := o22.ext0 e29
  have i22 : LIn w29 A22 n was := ⟨Cells.pre o22'.cells h1.len, h1.len, h1.sz, h1.big⟩
  have i26 : LIn w29 A26 m now := ⟨Cells.pre o26.cells h2.len, h2.len, h2.sz, h2.big⟩
  refine Diff_c i22 i26 fun w32 p D q d e32 df => ⟨_, _, _, rfl, fun w33 h33 => ?_⟩
  obtain ⟨b33, x33, z33⟩ := box_new (cs := [.nilFunc]) h33
  obtain ⟨w34, hr34, b34, x34⟩ := store1 (P := Tryd.prog) (v := .func (.func 34) #[] #[.pointer (some ⟨p, 0, none⟩)]) iF b33 (i := 0) (by simp) rfl rfl
  have e32_34 : Ext [] w32 w34 := x33.trans' x34 fun b hb => .inr (by simp at hb; omega)
  have e29_34 := e32.trans e32_34
  have e34' := (e21'.trans e21_29).trans e29_34
  have hc22 := o22.cap
  have hc26 := o26.cap
  refine ⟨w34, hr34, _, _, _, b34.cell (i := 0) rfl, untouched_c (o22'.ext0 e29_34).cells (by omega) (h1.ext0 e34') fun w38 e38 => ⟨_, rfl, sel_false rfl (untouched_c (o26.ext0 (e29_34.trans e38)).cells (by omega) (h2.ext0 (e34'.trans e38)) fun w43 e43 => ⟨_, rfl, sel_false rfl ?_⟩)⟩⟩
  have e34_43 := e38.trans e43
  -- the blocks and their places
  have s5 := x5.size
  have s14 := e5_14.size
  have s19 := e19.size
  have s21 := e19_21.size
  have s25 := e25.size
  have s29 := e29.size
  have s32 := e32.size
  have s34 := e32_34.size
  have s43 := e34_43.size
  have l21 := b21.lt
  have l34 := b34.lt
  have hp1 := df.new
  have hp2 := df.box.lt
  have hDf : ∀ g ∈ ownF D, w29.heap.size ≤ g ∧ g < w32.heap.size := df.own.fresh
  have hAf : ∀ g ∈ ownF A17, w14.heap.size ≤ g ∧ g < w19.heap.size := o17.fresh
  have hql := df.own.len
  have hq64 := df.len
  have hq17l := o17.len
  obtain ⟨g22, bs22, rfl, hg22, hb22, hl22⟩ : ∃ g bs, A22 = some ⟨g, 0, none⟩ ∧ w21.heap.size ≤ g ∧ BlkT w25 g bs 27 ∧ (n + 80) * 2 ≤ bs.length := by
    rcases o22.blk with ⟨_, h0⟩ | ⟨g, bs, hA, hB, hb, hle, _⟩
    · omega
    · exact ⟨g, bs, hA, hB, hb, Nat.le_trans (Nat.mul_le_mul_right 2 hc22) hle⟩
  obtain ⟨g26, bs26, rfl, hg26, hb26, hl26⟩ : ∃ g bs, A26 = some ⟨g, 0, none⟩ ∧ w25.heap.size ≤ g ∧ BlkT w29 g bs 27 ∧ (m + 80) * 2 ≤ bs.length := by
    rcases o26.blk with ⟨_, h0⟩ | ⟨g, bs, hA, hB, hb, hle, _⟩
    · omega
    · exact ⟨g, bs, hA, hB, hb, Nat.le_trans (Nat.mul_le_mul_right 2 hc26) hle⟩
  have l22 := hb22.lt
  have l26 := hb26.lt
  have e29_43 := e29_34.trans e34_43
  have hb22' : BlkT w43 g22 bs22 27 := hb22.ext (e29.trans e29_43) (by simp)
  have hb26' : BlkT w43 g26 bs26 27 := hb26.ext e29_43 (by simp)
  have hbig1 := h1.big
  have hbig2 := h2.big
  have ws43 : Ws w w4.heap.size w19.heap.size w32.heap.size p stop A17 q17 c17 D q d (diffS was now) w43 :=
    ⟨e34'.trans e34_43, b4.ext ((((x5.trans e5_14).trans e19).trans e19_21).trans (e21_29.trans e29_43)) (by simp), b5.ext (((e5_14.trans e19).trans e19_21).trans (e21_29.trans e29_43)) (by simp), b21.ext (e21_29.trans e29_43) (by simp), b34.ext e34_43 (by simp), df.box.ext (e32_34.trans e34_43) (by simp), df.own.cells.ext0 (e32_34.trans e34_43), o17.cells.ext0 (e19_21.trans (e21_29.trans e29_43))⟩
  have pre : ∀ {X X' : World} {g : Nat}, g = g22 ∨ g = g26 → Ws w w4.heap.size w19.heap.size w32.heap.size p stop A17 q17 c17 D q d (diffS was now) X → Ext [g] X X' → Ws w w4.heap.size w19.heap.size w32.heap.size p stop A17 q17 c17 D q d (diffS was now) X' := fun {X X' g} hg h e => by
    refine ⟨h.e.trans' e fun x hx => .inr (by simp at hx; omega), h.st.ext e (by simp; omega), h.res.ext e (by simp; omega), h.want.ext e (by simp; omega), h.seq.ext e (by simp; omega), h.box.ext e (by simp; omega), h.cells.ext e fun x hx => by have := hDf x hx; simp; omega, h.wc.ext e fun x hx => by have := hAf x hx; simp; omega⟩
  clear b4 b5 b20 b21 b33 b34 i14 i22 i26 o26 o22' o22
  refine ⟨fun t w' => ∃ (a : Nat) (bs : List Value), t = a ∧ a ≤ n ∧ Ext [g22] w43 w' ∧ BlkT w' g22 bs 27 ∧ (n + 80) * 2 ≤ bs.length, fun t _ => n - t.toNat, ⟨0, bs22, rfl, by omega, Ext.refl _ _, hb22', hl22⟩, ?_⟩
  rintro _ _ w50 ⟨a, bs, rfl, ha, e50, hb50, hl50⟩
  refine sel_dec (fun hlt => ?_) (fun hge => ?_)
  · refine when_dec ⟨by omega, by omega⟩ ?_
    obtain ⟨w52, hr, b52, x52⟩ := storeN (P := Tryd.prog) (t := 27) (n := 2) (by kernel_rfl) hb50 (o := a * 2) (vs := [.string ⟨#[119, 114, 105, 116, 116, 101, 110]⟩, .string ⟨#[111, 118, 101, 114]⟩]) rfl (by omega) (by simp [Value.oneCell'])
    rw [Int.toNat_natCast]
    refine ptr_in ⟨w52, by rw [Addr.add0]; exact hr, ?_⟩
    rw [up64 a (by omega)]
    exact ⟨⟨a + 1, _, rfl, by omega, e50.trans x52, b52, by simp only [List.length_append, List.length_take, List.length_drop, List.length_cons, List.length_nil]; omega⟩, by simp only [Int.toNat_natCast]; omega⟩
  have ws50 := pre (.inl rfl) ws43 e50
  have hb26'' : BlkT w50 g26 bs26 27 := hb26'.ext e50 (by simp; omega)
  refine ⟨fun t w' => ∃ (a : Nat) (bs : List Value), t = a ∧ a ≤ m ∧ Ext [g26] w50 w' ∧ BlkT w' g26 bs 27 ∧ (m + 80) * 2 ≤ bs.length, fun t _ => m - t.toNat, ⟨0, bs26, rfl, by omega, Ext.refl _ _, hb26'', hl26⟩, ?_⟩
  rintro _ _ w57 ⟨a2, bs2, rfl, ha2, e57, hb57, hl57⟩
  refine sel_dec (fun hlt => ?_) (fun hge2 w60 h60 => ?_)
  · refine when_dec ⟨by omega, by omega⟩ ?_
    obtain ⟨w52, hr, b52, x52⟩ := storeN (P := Tryd.prog) (t := 27) (n := 2) (by kernel_rfl) hb57 (o := a2 * 2) (vs := [.string ⟨#[111, 118, 101, 114]⟩, .string ⟨#[119, 114, 105, 116, 116, 101, 110]⟩]) rfl (by omega) (by simp [Value.oneCell'])
    rw [Int.toNat_natCast]
    refine ptr_in ⟨w52, by rw [Addr.add0]; exact hr, ?_⟩
    rw [up64 a2 (by omega)]
    exact ⟨⟨a2 + 1, _, rfl, by omega, e57.trans x52, b52, by simp only [List.length_append, List.length_take, List.length_drop, List.length_cons, List.length_nil]; omega⟩, by simp only [Int.toNat_natCast]; omega⟩
  have ws57 := pre (.inr rfl) ws50 e57
  have s50 := e50.size
  have s57 := e57.size
  obtain ⟨kb, hkb⟩ : ∃ kb, kb = w57.heap.size := ⟨_, rfl⟩
  have wb : Wb w w4.heap.size w19.heap.size w32.heap.size p kb A17 D := ⟨by omega, by omega, by omega, by omega, by omega, fun g hg => by have := hAf g hg; omega, fun g hg => by have := hDf g hg; omega⟩
  obtain ⟨b60, x60, z60⟩ := box_new (cs := [.int .i64 0]) h60
  obtain ⟨w61, hr61, b61, x61⟩ := store1 (P := Tryd.prog) (v := .int .i64 0) iI b60 (i := 0) (by simp) rfl rfl
  rw [← hkb] at b61 x61 hr61 z60 ⊢
  have s61 := x61.size
  have l61 := b61.lt
  have ws61 := (ws57.ext wb x60 (by simp)).ext wb x61 (by simp)
  have bel : Ext [] w w61 := ws61.e
  generalize diffS was now = ds at *
  generalize w4.heap.size = r at *
  generalize w19.heap.size = wbk at *
  generalize w32.heap.size = sb at *
  clear e57 e50 hb57 hb50 hb26'' hb26' hb22' pre ws57 ws50 ws43
  refine ⟨w61, hr61, _, _, _, ws61.seq.cell (i := 0) rfl, V.when_intro (by kernel_rfl) fun Rc l w65 hl h65 hy => ?_⟩
  obtain ⟨l0, m1, x65, z65⟩ := enter_new hl h65
  have ws65 := ws61.ext wb x65 (by simp)
  have tail : ∀ X, Ws w r wbk sb p stop A17 q17 c17 D q d ds X → (∃ v, BlkT X kb [.int .i64 v] 3) → Mrk X w61.heap.size → w65.heap.size ≤ X.heap.size →
      (Calls Tryd.prog 14 #[(Value.slice B m c')] X fun e100 w101 =>
  ∃ A99, ∃ A99l, ∃ A99c, e100 = Ending.returned (Value.slice A99 A99l A99c) ∧
  Calls Tryd.prog 14 #[(Value.slice A n c)] w101 fun e103 w104 =>
  ∃ A102, ∃ A102l, ∃ A102c, e103 = Ending.returned (Value.slice A102 A102l A102c) ∧
  Calls Tryd.prog 9 #[(Value.slice A99 A99l A99c), (Value.slice A102 A102l A102c)] w104 fun e106 w107 =>
  ∃ A105, ∃ A105l, ∃ A105c, e106 = Ending.returned (Value.slice A105 A105l A105c) ∧
  ∃ w108, Sem.run Tryd.prog (Instr.storeAt 3 (Value.pointer (some ⟨kb, 0, none⟩)) (Value.int .i64 0)) w107 = .ok () w108 ∧
  ∃ f109, ∃ f109a, ∃ f109c, World.cell? w108 ⟨sb, 0, none⟩ = some (Value.func (.func f109) f109a f109c) ∧
  V.when (V.hasB Tryd.prog f109 && true) (∀ (Rc110 : Loop) (l111 : Nat) (w112 : World), l111 = Array.size (World.heap w108) + 1 → w112 = World.alloc (World.alloc w108 (.deferred (some []))) (.loop { Rc110 with state := .ready, pending := none }) →
  (∀ y106_115 y106_116 y106_117 y106_118 y106_119 (W113 : World) (R114 : Ending → World → Prop), V.LoopSt W113 l111 Rc110 .ready none →
  (∀ w120, w120 = (World.alloc W113 (.cells #[(Value.string ByteArray.empty), (Value.string ByteArray.empty), (Value.string ByteArray.empty), (Value.bool false), (Value.bool false)] 35)) →
  ∃ w121, Sem.run Tryd.prog (Instr.storeAt 35 (Value.pointer (some ⟨Array.size (World.heap W113), 0, none⟩)) (Value.agg #[(Value.string y106_115), (Value.string y106_116), (Value.string y106_117), (Value.bool y106_118), (Value.bool y106_119)])) w120 = .ok () w121 ∧
  V.LoopSt w121 l111 Rc110 .ready none ∧
  ∃ n122, World.cell? (V.setLoop w121 l111 Rc110 .busy none) ⟨kb, 0, none⟩ = some (Value.int .i64 n122) ∧
  ∃ A123, ∃ A123l, ∃ A123c, World.cell? (V.setLoop w121 l111 Rc110 .busy none) ⟨wbk, 0, none⟩ = some (Value.slice A123 A123l A123c) ∧
  V.sel (decide (n122 ≥ ((A123l : Nat) : Int)))
  (∃ w124, Sem.run Tryd.prog (Instr.storeAt 4 (Value.pointer (some ⟨r, 0, none⟩)) (Value.bool false)) (World.drew (V.setLoop w121 l111 Rc110 .busy none)) = .ok () w124 ∧
  V.LoopSt w124 l111 Rc110 .busy none ∧ R114 (Ending.returned (Value.bool false)) (V.setLoop w124 l111 Rc110 .done (some Code.ret)))
  (∃ s125, ∃ s126, ∃ s127, ∃ b128, ∃ b129, V.cellsC (fun a_ x_ => World.cell? (V.setLoop w121 l111 Rc110 .busy none) a_ = some x_) ⟨Array.size (World.heap W113), 0, none⟩ [(Value.string s125), (Value.string s126), (Value.string s127), (Value.bool b128), (Value.bool b129)] ∧
  ∃ A130, ∃ A130l, ∃ A130c, World.cell? (V.setLoop w121 l111 Rc110 .busy none) ⟨wbk, 0, none⟩ = some (Value.slice A130 A130l A130c) ∧
  ∃ n131, World.cell? (V.setLoop w121 l111 Rc110 .busy none) ⟨kb, 0, none⟩ = some (Value.int .i64 n131) ∧
  V.when (decide ((0 : Int) ≤ n131 ∧ (n131 : Int) < ((A130l : Nat) : Int))) (V.ptr A130 fun a132 =>
  ∃ s133, ∃ s134, ∃ s135, ∃ b136, ∃ b137, V.cellsC (fun a_ x_ => World.cell? (V.setLoop w121 l111 Rc110 .busy none) a_ = some x_) (Addr.add a132 ((Int.toNat n131) * 5)) [(Value.string s133), (Value.string s134), (Value.string s135), (Value.bool b136), (Value.bool b137)] ∧
  V.sel (!((ByteArray.toList s125 == ByteArray.toList s133) && ((ByteArray.toList s126 == ByteArray.toList s134) && ((ByteArray.toList s127 == ByteArray.toList s135) && ((b128 == b136) && ((b129 == b137) && true))))))
  (∃ w138, Sem.run Tryd.prog (Instr.storeAt 4 (Value.pointer (some ⟨r, 0, none⟩)) (Value.bool false)) (World.drew (V.setLoop w121 l111 Rc110 .busy none)) = .ok () w138 ∧
  V.LoopSt w138 l111 Rc110 .busy none ∧ R114 (Ending.returned (Value.bool false)) (V.setLoop w138 l111 Rc110 .done (some Code.ret)))
  (∃ n139, World.cell? (World.drew (V.setLoop w121 l111 Rc110 .busy none)) ⟨kb, 0, none⟩ = some (Value.int .i64 n139) ∧
  ∃ w140, Sem.run Tryd.prog (Instr.storeAt 3 (Value.pointer (some ⟨kb, 0, none⟩)) (Value.int .i64 (IntKind.wrap .i64 (n139 + 1)))) (World.drew (V.setLoop w121 l111 Rc110 .busy none)) = .ok () w140 ∧
  V.LoopSt w140 l111 Rc110 .busy none ∧ R114 (Ending.returned (Value.bool true)) (V.setLoop w140 l111 Rc110 .ready none))))) →
  V.Yield Tryd.prog l111 [(Value.agg #[(Value.string y106_115), (Value.string y106_116), (Value.string y106_117), (Value.bool y106_118), (Value.bool y106_119)])] W113 R114) →
  Calls Tryd.prog f109 ⟨Array.toList f109a ++ [(Value.func (.yield l111) #[] #[])] ++ Array.toList f109c⟩ w112 fun e141 w143 => (∃ v142, e141 = Ending.returned v142) ∧
  ((V.LoopSt w143 l111 Rc110 .ready none ∧
  ∃ w144, Sem.run Tryd.prog (Instr.storeAt 3 (Value.pointer (some ⟨kb, 0, none⟩)) (Value.int .i64 0)) (V.setLoop w143 l111 Rc110 .exhausted none) = .ok () w144 ∧
  ∃ f145, ∃ f145a, ∃ f145c, World.cell? w144 ⟨sb, 0, none⟩ = some (Value.func (.func f145) f145a f145c) ∧
  V.when (V.hasB Tryd.prog f145 && true) (∀ (Rc146 : Loop) (l147 : Nat) (w148 : World), l147 = Array.size (World.heap w144) + 1 → w148 = World.alloc (World.alloc w144 (.deferred (some []))) (.loop { Rc146 with state := .ready, pending := none }) →
  (∀ y122_151 y122_152 y122_153 y122_154 y122_155 (W149 : World) (R150 : Ending → World → Prop), V.LoopSt W149 l147 Rc146 .ready none →
  (∀ w156, w156 = (World.alloc W149 (.cells #[(Value.string ByteArray.empty), (Value.string ByteArray.empty), (Value.string ByteArray.empty), (Value.bool false), (Value.bool false)] 35)) →
  ∃ w157, Sem.run Tryd.prog (Instr.storeAt 35 (Value.pointer (some ⟨Array.size (World.heap W149), 0, none⟩)) (Value.agg #[(Value.string y122_151), (Value.string y122_152), (Value.string y122_153), (Value.bool y122_154), (Value.bool y122_155)])) w156 = .ok () w157 ∧
  V.LoopSt w157 l147 Rc146 .ready none ∧
  ∀ w158, w158 = (World.alloc (V.setLoop w157 l147 Rc146 .busy none) (.cells #[(Value.int .i64 0)] 3)) →
  ∃ w159, Sem.run Tryd.prog (Instr.storeAt 3 (Value.pointer (some ⟨Array.size (World.heap (V.setLoop w157 l147 Rc146 .busy none)), 0, none⟩)) (Value.int .i64 0)) w158 = .ok () w159 ∧
  ∃ f160, ∃ f160a, ∃ f160c, World.cell? w159 ⟨sb, 0, none⟩ = some (Value.func (.func f160) f160a f160c) ∧
  V.when (V.hasB Tryd.prog f160 && true) ((∃ r0, (World.heap w159)[l147]? = some (.loop r0)) ∧
  ∀ (Rc161 : Loop) (l162 : Nat) (w163 : World), l162 = Array.size (World.heap w159) → w163 = World.alloc w159 (.loop { Rc161 with state := .ready, pending := none }) →
  (∀ y124_166 y124_167 y124_168 y124_169 y124_170 (W164 : World) (R165 : Ending → World → Prop), V.LoopSt W164 l162 Rc161 .ready none →
  (∀ w171, w171 = (World.alloc W164 (.cells #[(Value.string ByteArray.empty), (Value.string ByteArray.empty), (Value.string ByteArray.empty), (Value.bool false), (Value.bool false)] 35)) →
  ∃ w172, Sem.run Tryd.prog (Instr.storeAt 35 (Value.pointer (some ⟨Array.size (World.heap W164), 0, none⟩)) (Value.agg #[(Value.string y124_166), (Value.string y124_167), (Value.string y124_168), (Value.bool y124_169), (Value.bool y124_170)])) w171 = .ok () w172 ∧
  V.LoopSt w172 l162 Rc161 .ready none ∧
  ∃ n173, World.cell? (V.setLoop w172 l162 Rc161 .busy none) ⟨Array.size (World.heap (V.setLoop w157 l147 Rc146 .busy none)), 0, none⟩ = some (Value.int .i64 n173) ∧
  ∃ A174, ∃ A174l, ∃ A174c, World.cell? (V.setLoop w172 l162 Rc161 .busy none) ⟨wbk, 0, none⟩ = some (Value.slice A174 A174l A174c) ∧
  V.sel (decide (n173 ≥ ((A174l : Nat) : Int)))
  (∃ w175, Sem.run Tryd.prog (Instr.storeAt 4 (Value.pointer (some ⟨r, 0, none⟩)) (Value.bool false)) (World.drew (V.setLoop w172 l162 Rc161 .busy none)) = .ok () w175 ∧
  V.LoopSt w175 l162 Rc161 .busy none ∧ R165 (Ending.returned (Value.bool false)) (V.setLoop w175 l162 Rc161 .done (some Code.ret)))
  (∃ s176, ∃ s177, ∃ s178, ∃ b179, ∃ b180, V.cellsC (fun a_ x_ => World.cell? (V.setLoop w172 l162 Rc161 .busy none) a_ = some x_) ⟨Array.size (World.heap W164), 0, none⟩ [(Value.string s176), (Value.string s177), (Value.string s178), (Value.bool b179), (Value.bool b180)] ∧
  ∃ A181, ∃ A181l, ∃ A181c, World.cell? (V.setLoop w172 l162 Rc161 .busy none) ⟨wbk, 0, none⟩ = some (Value.slice A181 A181l A181c) ∧
  ∃ n182, World.cell? (V.setLoop w172 l162 Rc161 .busy none) ⟨Array.size (World.heap (V.setLoop w157 l147 Rc146 .busy none)), 0, none⟩ = some (Value.int .i64 n182) ∧
  V.when (decide ((0 : Int) ≤ n182 ∧ (n182 : Int) < ((A181l : Nat) : Int))) (V.ptr A181 fun a183 =>
  ∃ s184, ∃ s185, ∃ s186, ∃ b187, ∃ b188, V.cellsC (fun a_ x_ => World.cell? (V.setLoop w172 l162 Rc161 .busy none) a_ = some x_) (Addr.add a183 ((Int.toNat n182) * 5)) [(Value.string s184), (Value.string s185), (Value.string s186), (Value.bool b187), (Value.bool b188)] ∧
  V.sel (!((ByteArray.toList s176 == ByteArray.toList s184) && ((ByteArray.toList s177 == ByteArray.toList s185) && ((ByteArray.toList s178 == ByteArray.toList s186) && ((b179 == b187) && ((b180 == b188) && true))))))
  (∃ w189, Sem.run Tryd.prog (Instr.storeAt 4 (Value.pointer (some ⟨r, 0, none⟩)) (Value.bool false)) (World.drew (V.setLoop w172 l162 Rc161 .busy none)) = .ok () w189 ∧
  V.LoopSt w189 l162 Rc161 .busy none ∧ R165 (Ending.returned (Value.bool false)) (V.setLoop w189 l162 Rc161 .done (some Code.ret)))
  (∃ n190, World.cell? (World.drew (V.setLoop w172 l162 Rc161 .busy none)) ⟨Array.size (World.heap (V.setLoop w157 l147 Rc146 .busy none)), 0, none⟩ = some (Value.int .i64 n190) ∧
  ∃ n191, World.cell? (World.drew (V.setLoop w172 l162 Rc161 .busy none)) ⟨kb, 0, none⟩ = some (Value.int .i64 n191) ∧
  V.sel (n190 == n191)
  (V.LoopSt (World.drew (V.setLoop w172 l162 Rc161 .busy none)) l162 Rc161 .busy none ∧ R165 (Ending.returned (Value.bool false)) (V.setLoop (World.drew (V.setLoop w172 l162 Rc161 .busy none)) l162 Rc161 .done (some (Code.exit 10))))
  (∃ n192, World.cell? (World.drew (V.setLoop w172 l162 Rc161 .busy none)) ⟨Array.size (World.heap (V.setLoop w157 l147 Rc146 .busy none)), 0, none⟩ = some (Value.int .i64 n192) ∧
  ∃ w193, Sem.run Tryd.prog (Instr.storeAt 3 (Value.pointer (some ⟨Array.size (World.heap (V.setLoop w157 l147 Rc146 .busy none)), 0, none⟩)) (Value.int .i64 (IntKind.wrap .i64 (n192 + 1)))) (World.drew (V.setLoop w172 l162 Rc161 .busy none)) = .ok () w193 ∧
  V.LoopSt w193 l162 Rc161 .busy none ∧ R165 (Ending.returned (Value.bool true)) (V.setLoop w193 l162 Rc161 .ready none)))))) →
  V.Yield Tryd.prog l162 [(Value.agg #[(Value.string y124_166), (Value.string y124_167), (Value.string y124_168), (Value.bool y124_169), (Value.bool y124_170)])] W164 R165) →
  Calls Tryd.prog f160 ⟨Array.toList f160a ++ [(Value.func (.yield l162) #[] #[])] ++ Array.toList f160c⟩ w163 fun e194 w196 => (∃ v195, e194 = Ending.returned v195) ∧
  ((V.LoopSt w196 l162 Rc161 .ready none ∧
  ∃ n197, World.cell? (V.setLoop w196 l162 Rc161 .exhausted none) ⟨kb, 0, none⟩ = some (Value.int .i64 n197) ∧
  ∃ A198, ∃ A198l, ∃ A198c, World.cell? (V.setLoop w196 l162 Rc161 .exhausted none) ⟨wbk, 0, none⟩ = some (Value.slice A198 A198l A198c) ∧
  V.sel (decide (n197 ≥ ((A198l : Nat) : Int)))
  (∃ w199, Sem.run Tryd.prog (Instr.storeAt 4 (Value.pointer (some ⟨r, 0, none⟩)) (Value.bool false)) (World.drew (V.setLoop w196 l162 Rc161 .exhausted none)) = .ok () w199 ∧
  V.LoopSt w199 l147 Rc146 .busy none ∧ R150 (Ending.returned (Value.bool false)) (V.setLoop w199 l147 Rc146 .done (some Code.ret)))
  (∃ s200, ∃ s201, ∃ s202, ∃ b203, ∃ b204, V.cellsC (fun a_ x_ => World.cell? (V.setLoop w196 l162 Rc161 .exhausted none) a_ = some x_) ⟨Array.size (World.heap W149), 0, none⟩ [(Value.string s200), (Value.string s201), (Value.string s202), (Value.bool b203), (Value.bool b204)] ∧
  ∃ A205, ∃ A205l, ∃ A205c, World.cell? (V.setLoop w196 l162 Rc161 .exhausted none) ⟨wbk, 0, none⟩ = some (Value.slice A205 A205l A205c) ∧
  ∃ n206, World.cell? (V.setLoop w196 l162 Rc161 .exhausted none) ⟨kb, 0, none⟩ = some (Value.int .i64 n206) ∧
  V.when (decide ((0 : Int) ≤ n206 ∧ (n206 : Int) < ((A205l : Nat) : Int))) (V.ptr A205 fun a207 =>
  ∃ s208, ∃ s209, ∃ s210, ∃ b211, ∃ b212, V.cellsC (fun a_ x_ => World.cell? (V.setLoop w196 l162 Rc161 .exhausted none) a_ = some x_) (Addr.add a207 ((Int.toNat n206) * 5)) [(Value.string s208), (Value.string s209), (Value.string s210), (Value.bool b211), (Value.bool b212)] ∧
  V.sel (!((ByteArray.toList s200 == ByteArray.toList s208) && ((ByteArray.toList s201 == ByteArray.toList s209) && ((ByteArray.toList s202 == ByteArray.toList s210) && ((b203 == b211) && ((b204 == b212) && true))))))
  (∃ w213, Sem.run Tryd.prog (Instr.storeAt 4 (Value.pointer (some ⟨r, 0, none⟩)) (Value.bool false)) (World.drew (V.setLoop w196 l162 Rc161 .exhausted none)) = .ok () w213 ∧
  V.LoopSt w213 l147 Rc146 .busy none ∧ R150 (Ending.returned (Value.bool false)) (V.setLoop w213 l147 Rc146 .done (some Code.ret)))
  (∃ n214, World.cell? (World.drew (V.setLoop w196 l162 Rc161 .exhausted none)) ⟨kb, 0, none⟩ = some (Value.int .i64 n214) ∧
  ∃ w215, Sem.run Tryd.prog (Instr.storeAt 3 (Value.pointer (some ⟨kb, 0, none⟩)) (Value.int .i64 (IntKind.wrap .i64 (n214 + 1)))) (World.drew (V.setLoop w196 l162 Rc161 .exhausted none)) = .ok () w215 ∧
  V.LoopSt w215 l147 Rc146 .busy none ∧ R150 (Ending.returned (Value.bool true)) (V.setLoop w215 l147 Rc146 .ready none))))) ∨
  (V.LoopSt w196 l162 Rc161 .done (some Code.ret) ∧
  V.LoopSt (V.setLoop w196 l162 Rc161 .exhausted (some Code.ret)) l147 Rc146 .busy none ∧ R150 (Ending.returned (Value.bool false)) (V.setLoop (V.setLoop w196 l162 Rc161 .exhausted (some Code.ret)) l147 Rc146 .done (some Code.ret))) ∨
  (V.LoopSt w196 l162 Rc161 .done (some (Code.exit 10)) ∧
  ∃ n216, World.cell? (V.setLoop w196 l162 Rc161 .exhausted (some (Code.exit 10))) ⟨kb, 0, none⟩ = some (Value.int .i64 n216) ∧
  ∃ A217, ∃ A217l, ∃ A217c, World.cell? (V.setLoop w196 l162 Rc161 .exhausted (some (Code.exit 10))) ⟨wbk, 0, none⟩ = some (Value.slice A217 A217l A217c) ∧
  V.sel (decide (n216 ≥ ((A217l : Nat) : Int)))
  (∃ w218, Sem.run Tryd.prog (Instr.storeAt 4 (Value.pointer (some ⟨r, 0, none⟩)) (Value.bool false)) (World.drew (V.setLoop w196 l162 Rc161 .exhausted (some (Code.exit 10)))) = .ok () w218 ∧
  V.LoopSt w218 l147 Rc146 .busy none ∧ R150 (Ending.returned (Value.bool false)) (V.setLoop w218 l147 Rc146 .done (some Code.ret)))
  (∃ s219, ∃ s220, ∃ s221, ∃ b222, ∃ b223, V.cellsC (fun a_ x_ => World.cell? (V.setLoop w196 l162 Rc161 .exhausted (some (Code.exit 10))) a_ = some x_) ⟨Array.size (World.heap W149), 0, none⟩ [(Value.string s219), (Value.string s220), (Value.string s221), (Value.bool b222), (Value.bool b223)] ∧
  ∃ A224, ∃ A224l, ∃ A224c, World.cell? (V.setLoop w196 l162 Rc161 .exhausted (some (Code.exit 10))) ⟨wbk, 0, none⟩ = some (Value.slice A224 A224l A224c) ∧
  ∃ n225, World.cell? (V.setLoop w196 l162 Rc161 .exhausted (some (Code.exit 10))) ⟨kb, 0, none⟩ = some (Value.int .i64 n225) ∧
  V.when (decide ((0 : Int) ≤ n225 ∧ (n225 : Int) < ((A224l : Nat) : Int))) (V.ptr A224 fun a226 =>
  ∃ s227, ∃ s228, ∃ s229, ∃ b230, ∃ b231, V.cellsC (fun a_ x_ => World.cell? (V.setLoop w196 l162 Rc161 .exhausted (some (Code.exit 10))) a_ = some x_) (Addr.add a226 ((Int.toNat n225) * 5)) [(Value.string s227), (Value.string s228), (Value.string s229), (Value.bool b230), (Value.bool b231)] ∧
  V.sel (!((ByteArray.toList s219 == ByteArray.toList s227) && ((ByteArray.toList s220 == ByteArray.toList s228) && ((ByteArray.toList s221 == ByteArray.toList s229) && ((b222 == b230) && ((b223 == b231) && true))))))
  (∃ w232, Sem.run Tryd.prog (Instr.storeAt 4 (Value.pointer (some ⟨r, 0, none⟩)) (Value.bool false)) (World.drew (V.setLoop w196 l162 Rc161 .exhausted (some (Code.exit 10)))) = .ok () w232 ∧
  V.LoopSt w232 l147 Rc146 .busy none ∧ R150 (Ending.returned (Value.bool false)) (V.setLoop w232 l147 Rc146 .done (some Code.ret)))
  (∃ n233, World.cell? (World.drew (V.setLoop w196 l162 Rc161 .exhausted (some (Code.exit 10)))) ⟨kb, 0, none⟩ = some (Value.int .i64 n233) ∧
  ∃ w234, Sem.run Tryd.prog (Instr.storeAt 3 (Value.pointer (some ⟨kb, 0, none⟩)) (Value.int .i64 (IntKind.wrap .i64 (n233 + 1)))) (World.drew (V.setLoop w196 l162 Rc161 .exhausted (some (Code.exit 10)))) = .ok () w234 ∧
  V.LoopSt w234 l147 Rc146 .busy none ∧ R150 (Ending.returned (Value.bool true)) (V.setLoop w234 l147 Rc146 .ready none))))) ∨
  False))) →
  V.Yield Tryd.prog l147 [(Value.agg #[(Value.string y122_151), (Value.string y122_152), (Value.string y122_153), (Value.bool y122_154), (Value.bool y122_155)])] W149 R150) →
  Calls Tryd.prog f145 ⟨Array.toList f145a ++ [(Value.func (.yield l147) #[] #[])] ++ Array.toList f145c⟩ w148 fun e235 w237 => (∃ v236, e235 = Ending.returned v236) ∧
  ((V.LoopSt w237 l147 Rc146 .ready none ∧
  ∃ n238, World.cell? (V.setLoop w237 l147 Rc146 .exhausted none) ⟨kb, 0, none⟩ = some (Value.int .i64 n238) ∧
  ∃ A239, ∃ A239l, ∃ A239c, World.cell? (V.setLoop w237 l147 Rc146 .exhausted none) ⟨wbk, 0, none⟩ = some (Value.slice A239 A239l A239c) ∧
  V.sel (n238 == ((A239l : Nat) : Int))
  (Calls Tryd.prog 10 #[(Value.slice B m c'), (Value.slice A n c)] (V.setLoop w237 l147 Rc146 .exhausted none) fun e241 w242 =>
  ∃ A240, ∃ A240l, ∃ A240c, e241 = Ending.returned (Value.slice A240 A240l A240c) ∧
  Calls Tryd.prog 15 #[(Value.slice A105 A105l A105c), (Value.slice A240 A240l A240c)] w242 fun e244 w245 =>
  ∃ b243, e244 = Ending.returned (Value.bool b243) ∧
  ∃ w246, Sem.run Tryd.prog (Instr.storeAt 4 (Value.pointer (some ⟨r, 0, none⟩)) (Value.bool b243)) w245 = .ok () w246 ∧
  V.closeR (Array.size (World.heap w144) :: (Array.size (World.heap w108) :: (Array.size (World.heap w61) :: []))) w246 fun w247 =>
  ∃ b248, World.cell? w247 ⟨r, 0, none⟩ = some (Value.bool b248) ∧
  R (Ending.returned (Value.bool b248)) w247)
  (∃ w249, Sem.run Tryd.prog (Instr.storeAt 4 (Value.pointer (some ⟨r, 0, none⟩)) (Value.bool false)) (V.setLoop w237 l147 Rc146 .exhausted none) = .ok () w249 ∧
  V.closeR (Array.size (World.heap w144) :: (Array.size (World.heap w108) :: (Array.size (World.heap w61) :: []))) w249 fun w250 =>
  ∃ b251, World.cell? w250 ⟨r, 0, none⟩ = some (Value.bool b251) ∧
  R (Ending.returned (Value.bool b251)) w250)) ∨
  (V.LoopSt w237 l147 Rc146 .done (some Code.ret) ∧
  V.closeR (Array.size (World.heap w144) :: (Array.size (World.heap w108) :: (Array.size (World.heap w61) :: []))) (V.setLoop w237 l147 Rc146 .exhausted (some Code.ret)) fun w252 =>
  ∃ b253, World.cell? w252 ⟨r, 0, none⟩ = some (Value.bool b253) ∧
  R (Ending.returned (Value.bool b253)) w252) ∨
  False))) ∨
  (V.LoopSt w143 l111 Rc110 .done (some Code.ret) ∧
  V.closeR (Array.size (World.heap w108) :: (Array.size (World.heap w61) :: [])) (V.setLoop w143 l111 Rc110 .exhausted (some Code.ret)) fun w254 =>
  ∃ b255, World.cell? w254 ⟨r, 0, none⟩ = some (Value.bool b255) ∧
  R (Ending.returned (Value.bool b255)) w254) ∨
  False))) := by
    intro X hX hkX mX sX
    obtain ⟨v, kX⟩ := hkX
    refine copiedI (h2.ext0 hX.e) fun w101 A99 c99 e101 i101 => ⟨_, _, _, rfl, copiedI (h1.ext0 (hX.e.trans e101)) fun w104 A102 c102 e104 i104 => ⟨_, _, _, rfl, walk_c (i101.ext0 e104) i104 fun w107 A105 q105 c105 e107 o107 hq105 => ⟨_, _, _, rfl, ?_⟩⟩⟩
    have eX := (e101.trans e104).trans e107
    have s104 := (e101.trans e104).size
    have s107 := e107.size
    have hOf : ∀ g ∈ ownF A105, w104.heap.size ≤ g ∧ g < w107.heap.size := fun g hg => o107.fresh g hg
    obtain ⟨w108, hr108, k108, x108⟩ := store1 (P := Tryd.prog) (v := .int .i64 0) iI (kX.ext eX (by simp)) (i := 0) (by simp) rfl rfl
    have s108 := x108.size
    have ws108 := (hX.ext wb eX (by simp)).ext wb x108 (by simp)
    have oc108 := o107.cells.ext x108 fun g hg => by have := hOf g hg; simp; omega
    have m1_108 := (mX.ext0 eX).ext x108 (by simp; omega)
    refine ⟨w108, hr108, _, _, _, ws108.seq.cell (i := 0) rfl, V.when_intro (by kernel_rfl) fun Rc2 l2 w112 hl2 h112 hy2 => ?_⟩
    obtain ⟨l20, m2, x112, z112⟩ := enter_new hl2 h112
    have ws112 := ws108.ext wb x112 (by simp)
    have m1_112 := m1_108.ext0 x112
    have oc112 := oc108.ext0 x112
    refine (Diff_iter (p := p) (c := d) (D := D) hql hq64).range2 (I := fun ps w' => Ext [kb, l2] w112 w' ∧ BlkT w' kb [.int .i64 (ps.length : Int)] 3) (Q := fun _ _ => False) (fun y W R' g1 g2 => hy2 y.key y.old y.new y.had y.has W R' g1 g2) l20 ⟨Ext.refl _ _, by simpa using k108.ext0 x112⟩ ?_ (fun _ _ _ _ h => h.elim) (fun ps w1 h => ?_) ?_ ?_ (fun _ _ _ h => h.elim)
    · rintro ps w1 w2 e ⟨q1, q2⟩
      exact ⟨q1.trans' e (fun x hx => .inl (by simp at hx; simp [hx])), q2.ext e (by simp; omega)⟩
    · have := ws112.ext wb h.1 (by simp; omega)
      exact ⟨this.box, this.cells⟩
    · rintro ps y rest W R' hsp hW ⟨q1, q2⟩ k1 k2 w120 h120
      obtain ⟨w121, hr121, l121, f1, f2, f3, f4, f5, f6⟩ := round_c y ws112 wb (Nat.le_refl _) (by omega) (by omega) q1 q2 hW h120
      have hps : ps.length < q17 := by rw [← hq17l, hsp]; simp
      refine ⟨w121, hr121, l121, cmp_c f2 f5.want f3 f5.wc hsp hq17l hq17 (inc_c f2 (by omega) fun w140 k140 e140 => ?_)⟩
      have l140 := LoopSt.ext f4 e140 (by simp; omega)
      exact ⟨l140, k1 w140 l140 ⟨f1.trans' e140 (fun x hx => .inl (by simp at hx; simp [hx])), by rw [List.length_append]; exact k140⟩⟩
    · rintro w143 hl143 ⟨q1, q2⟩
      refine .inl ⟨hl143, ?_⟩
      have x143 := setLoop_ext w143 l2 Rc2 .exhausted none
      obtain ⟨w144, hr144, k144, x144⟩ := store1 (P := Tryd.prog) (v := .int .i64 0) iI (q2.ext x143 (by simp; omega)) (i := 0) (by simp) rfl rfl
      have g2 : Ext [kb, l2] w112 w144 := (q1.trans' x143 fun x hx => .inl (by simp at hx; simp [hx])).trans' x144 fun x hx => .inl (by simp at hx; simp [hx])
      have s144 := g2.size
      have ws144 := ws112.ext wb g2 (by simp; omega)
      have m1_144 := m1_112.ext g2 (by simp; omega)
      have m2_144 := m2.ext g2 (by simp; omega)
      have oc144 := oc112.ext g2 fun g hg => by have := hOf g hg; simp; omega
      refine ⟨w144, hr144, _, _, _, ws144.seq.cell (i := 0) rfl, V.when_intro (by kernel_rfl) fun Rc3 l3 w148 hl3 h148 hy3 => ?_⟩
      obtain ⟨l30, m3, x148, z148⟩ := enter_new hl3 h148
      have ws148 := ws144.ext wb x148 (by simp)
      refine (Diff_iter (p := p) (c := d) (D := D) hql hq64).range2 (I := fun ps w' => Ext [kb, l3] w148 w' ∧ BlkT w' kb [.int .i64 (ps.length : Int)] 3) (Q := fun _ _ => False) (fun y W R' g1 g2 => hy3 y.key y.old y.new y.had y.has W R' g1 g2) l30 ⟨Ext.refl _ _, by simpa using k144.ext0 x148⟩ ?_ (fun _ _ _ _ h => h.elim) (fun ps w1 h => ?_) ?_ ?_ (fun _ _ _ h => h.elim)
      · rintro ps w1 w2 e ⟨q1, q2⟩
        exact ⟨q1.trans' e (fun x hx => .inl (by simp at hx; simp [hx])), q2.ext e (by simp; omega)⟩
      · have := ws148.ext wb h.1 (by simp; omega)
        exact ⟨this.box, this.cells⟩
      · rintro ps y rest W R' hsp hW ⟨q1, q2⟩ k1 k2 w156 h156
        have sW := q1.size
        obtain ⟨w157, hr157, l157, f1, f2, f3, f4, f5, f6⟩ := round_c y ws148 wb (Nat.le_refl _) (by omega) (by omega) q1 q2 hW h156
        have hps : ps.length < q17 := by rw [← hq17l, hsp]; simp
        refine ⟨w157, hr157, l157, fun w158 h158 => ?_⟩
        have sY := f1.size
        obtain ⟨b158, x158, z158⟩ := box_new (cs := [.int .i64 0]) h158
        obtain ⟨w159, hr159, b159, x159⟩ := store1 (P := Tryd.prog) (v := .int .i64 0) iI b158 (i := 0) (by simp) rfl rfl
        have y159 : Ext [] (setLoop w157 l3 Rc3 .busy none) w159 := x158.trans' x159 fun b hb => .inr (by simp at hb; omega)
        have hjb := b159.lt
        have l3Y := LoopSt.lt f4
        have l3159 := LoopSt.ext f4 y159 (by simp)
        have ws159 := f5.ext wb y159 (by simp)
        refine ⟨w159, hr159, _, _, _, ws159.seq.cell (i := 0) rfl, V.when_intro (by kernel_rfl) ⟨⟨_, l3159⟩, fun Rc4 l4 w163 hl4 h163 hy4 => ?_⟩⟩
        obtain ⟨l40, x163, z163⟩ := inner_new hl4 h163
        have y163 := y159.trans x163
        have ws163 := ws159.ext wb x163 (by simp)
        generalize hjj : (setLoop w157 l3 Rc3 .busy none).heap.size = jb at *
        have fact : ∀ Y5, Ext [jb, l4] w163 Y5 → Ws w r wbk sb p stop A17 q17 c17 D q d ds Y5 ∧ BlkT Y5 kb [.int .i64 (ps.length : Int)] 3 ∧ BlkT Y5 W.heap.size (dcells y) 35 ∧ LoopSt Y5 l3 Rc3 .busy none ∧ Ext [kb, l3] w148 Y5 := fun Y5 e5 =>
          ⟨ws163.ext wb e5 (by simp; omega), (f2.ext0 y163).ext e5 (by simp; omega), (f3.ext0 y163).ext e5 (by simp; omega), LoopSt.ext (LoopSt.ext f4 y163 (by simp)) e5 (by simp; omega), (f1.trans' y163 (by simp)).trans' e5 fun x hx => .inr (by simp at hx; omega)⟩
        have close : ∀ Y5 w215, Ext [kb, l3] w148 Y5 → LoopSt Y5 l3 Rc3 .busy none → BlkT w215 kb [.int .i64 ((ps.length + 1 : Nat) : Int)] 3 → Ext [kb] Y5 w215 → LoopSt w215 l3 Rc3 .busy none ∧ R' (.returned (.bool true)) (setLoop w215 l3 Rc3 .ready none) := fun Y5 w215 g1 g4 k215 e215 => by
          have l215 := LoopSt.ext g4 e215 (by simp; omega)
          exact ⟨l215, k1 w215 l215 ⟨g1.trans' e215 (fun x hx => .inl (by simp at hx; simp [hx])), by rw [List.length_append]; exact k215⟩⟩
        refine (Diff_iter (p := p) (c := d) (D := D) hql hq64).range2 (I := fun qs w' => Ext [jb, l4] w163 w' ∧ BlkT w' jb [.int .i64 (qs.length : Int)] 3) (Q := fun p' w' => p' = .exit 10 ∧ Ext [jb, l4] w163 w') (fun e W' R'' g1 g2 => hy4 e.key e.old e.new e.had e.has W' R'' g1 g2) l40 ⟨Ext.refl _ _, by simpa using b159.ext0 x163⟩ ?_ ?_ (fun qs w1 h => ?_) ?_ ?_ ?_
        · rintro qs w1 w2 e ⟨r1, r2⟩
          exact ⟨r1.trans' e (fun x hx => .inl (by simp at hx; simp [hx])), r2.ext e (by simp; omega)⟩
        · rintro p' w1 w2 e ⟨rfl, r1⟩
          exact ⟨rfl, r1.trans' e (fun x hx => .inl (by simp at hx; simp [hx]))⟩
        · have := ws163.ext wb h.1 (by simp; omega)
          exact ⟨this.box, this.cells⟩
        · rintro qs z rest' W' R'' hsp' hW' ⟨r1, r2⟩ k1' k2' w171 h171
          obtain ⟨w172, hr172, l172, t1, t2, t3, t4, t5, t6⟩ := round_c z ws163 wb (show kb ≤ jb by omega) (by omega) (by omega) r1 r2 hW' h171
          have hqs : qs.length < q17 := by rw [← hq17l, hsp']; simp
          have td := t4
          have tk := (fact _ t1).2.1
          refine ⟨w172, hr172, l172, cmp_c t2 t5.want t3 t5.wc hsp' hq17l hq17 ⟨_, (t2.ext (Ext.refl [] _).drew (by simp)).cell (i := 0) rfl, _, (tk.ext (Ext.refl [] _).drew (by simp)).cell (i := 0) rfl, sel_intro (fun _ => ?_) (fun _ => inc_c t2 (by omega) fun w193 k193 e193 => ?_)⟩⟩
          · have ld := LoopSt.ext t4 (Ext.refl [] _).drew (by simp)
            exact ⟨ld, k2' _ _ ld ⟨rfl, t1.trans' (Ext.refl [] _).drew (by simp)⟩⟩
          · have l193 := LoopSt.ext t4 e193 (by simp; omega)
            exact ⟨l193, k1' w193 l193 ⟨t1.trans' e193 (fun x hx => .inl (by simp at hx; simp [hx])), by rw [List.length_append]; exact k193⟩⟩
        · rintro w196 hl196 ⟨r1, r2⟩
          obtain ⟨g1, g2, g3, g4, g5⟩ := fact (setLoop w196 l4 Rc4 .exhausted none) (r1.trans' (setLoop_ext _ _ _ _ _) fun x hx => .inl (by simp at hx; simp [hx]))
          exact .inl ⟨hl196, cmp_c g2 g1.want g3 g1.wc hsp hq17l hq17 (inc_c g2 (by omega) fun w215 k215 e215 => close _ _ g5 g4 k215 e215)⟩
        · rintro w196 p' hl196 ⟨rfl, r1⟩
          obtain ⟨g1, g2, g3, g4, g5⟩ := fact (setLoop w196 l4 Rc4 .exhausted (some (.exit 10))) (r1.trans' (setLoop_ext _ _ _ _ _) fun x hx => .inl (by simp at hx; simp [hx]))
          exact .inr (.inr (.inl ⟨hl196, cmp_c g2 g1.want g3 g1.wc hsp hq17l hq17 (inc_c g2 (by omega) fun w215 k215 e215 => close _ _ g5 g4 k215 e215)⟩))
      · rintro w237 hl237 ⟨q1, q2⟩
        have g3 : Ext [kb, l3] w148 (setLoop w237 l3 Rc3 .exhausted none) := q1.trans' (setLoop_ext _ _ _ _ _) fun x hx => .inl (by simp at hx; simp [hx])
        have k3 := q2.ext (setLoop_ext w237 l3 Rc3 .exhausted none) (by simp; omega)
        have wsY := ws148.ext wb g3 (by simp; omega)
        have m1Y := (m1_144.ext0 x148).ext g3 (by simp; omega)
        have m2Y := (m2_144.ext0 x148).ext g3 (by simp; omega)
        have m3Y := m3.ext g3 (by simp; omega)
        have ocY := (oc144.ext0 x148).ext g3 fun g hg => by have := hOf g hg; simp; omega
        generalize setLoop w237 l3 Rc3 .exhausted none = Y at *
        refine .inl ⟨hl237, _, k3.cell (i := 0) rfl, _, _, _, wsY.want.cell (i := 0) rfl, sel_true (by rw [hq17l]; exact beq_self_eq_true _) ?_⟩
        refine rDiff_c (h2.ext0 wsY.e) (h1.ext0 wsY.e) fun w241 A240 q240 c240 e241 o241 hq240 => ⟨_, _, _, rfl, sameDiffs_c (ocY.ext0 e241) o107.len o241.cells o241.len (by omega) fun w244 e244 => ⟨_, rfl, ?_⟩⟩
        rw [decide_eq_true rfl]
        have ee := e241.trans e244
        have ws244 := wsY.ext wb ee (by simp)
        obtain ⟨w245, hr245, b245, x245⟩ := store1 (P := Tryd.prog) (v := .bool true) iB ws244.res (i := 0) (by simp) rfl rfl
        have e245 : Ext [] w w245 := ws244.e.trans' x245 fun x hx => .inr (by simp at hx; omega)
        refine ⟨w245, hr245, close_more ((m3Y.ext0 ee).ext x245 (by simp; omega)) fun u1 y1 => close_more (((m2Y.ext0 ee).ext x245 (by simp; omega)).ext y1 (by simp; omega)) fun u2 y2 => close_one ((((m1Y.ext0 ee).ext x245 (by simp; omega)).ext y1 (by simp; omega)).ext y2 (by simp; omega)) fun u3 y3 => ?_⟩
        refine ⟨_, (((b245.ext y1 (by simp; omega)).ext y2 (by simp; omega)).ext y3 (by simp; omega)).cell (i := 0) rfl, k _ ?_⟩
        exact ((e245.trans' y1 fun x hx => .inr (by simp at hx; omega)).trans' y2 fun x hx => .inr (by simp at hx; omega)).trans' y3 fun x hx => .inr (by simp at hx; omega)
  refine (Diff_iter (p := p) (c := d) (D := D) hql hq64).range2 (I := fun ps w' => Ext [kb, l] w65 w' ∧ BlkT w' kb [.int .i64 (ps.length : Int)] 3) (Q := fun p' w' => p' = .exit 4 ∧ Ext [kb, l] w65 w' ∧ ∃ v, BlkT w' kb [.int .i64 v] 3) (fun y W R' g1 g2 => hy y.key y.old y.new y.had y.has W R' g1 g2) l0 ⟨Ext.refl _ _, by simpa using b61.ext0 x65⟩ ?_ ?_ (fun ps w1 h => ?_) ?_ ?_ ?_
  · rintro ps w1 w2 e ⟨q1, q2⟩
    exact ⟨q1.trans' e (fun x hx => .inl (by simp at hx; simp [hx])), q2.ext e (by simp; omega)⟩
  · rintro p' w1 w2 e ⟨rfl, q1, v, q2⟩
    exact ⟨rfl, q1.trans' e (fun x hx => .inl (by simp at hx; simp [hx])), v, q2.ext e (by simp; omega)⟩
  · have := ws65.ext wb h.1 (by simp; omega)
    exact ⟨this.box, this.cells⟩
  · rintro ps y rest W R' hsp hW ⟨q1, q2⟩ k1 k2 w73 h73
    obtain ⟨w74, hr74, l74, f1, f2, f3, f4, f5, f6⟩ := round_c y ws65 wb (Nat.le_refl _) (by omega) (by omega) q1 q2 hW h73
    have hps : ps.length < q17 := by rw [← hq17l, hsp]; simp
    refine ⟨w74, hr74, l74, cmp_c f2 f5.want f3 f5.wc hsp hq17l hq17 (inc_c f2 (by omega) fun w93 k93 e93 => ?_)⟩
    have l93 := LoopSt.ext f4 e93 (by simp; omega)
    have g1 : Ext [kb, l] w65 w93 := f1.trans' e93 fun x hx => .inl (by simp at hx; simp [hx])
    exact ⟨_, k93.cell (i := 0) rfl, _, (f5.ext wb e93 (by simp)).st.cell (i := 0) rfl, sel_intro (fun _ => ⟨l93, k2 w93 _ l93 ⟨rfl, g1, _, k93⟩⟩) (fun _ => ⟨l93, k1 w93 l93 ⟨g1, by rw [List.length_append]; exact k93⟩⟩)⟩
  · rintro w98 hl98 ⟨q1, q2⟩
    have g1 : Ext [kb, l] w65 (setLoop w98 l Rc .exhausted none) := q1.trans' (setLoop_ext _ _ _ _ _) fun x hx => .inl (by simp at hx; simp [hx])
    exact .inl ⟨hl98, tail _ (ws65.ext wb g1 (by simp; omega)) ⟨_, q2.ext (setLoop_ext w98 l Rc .exhausted none) (by simp; omega)⟩ (m1.ext g1 (by simp; omega)) g1.size⟩
  · rintro w98 p' hl98 ⟨rfl, q1, v, q2⟩
    have g1 : Ext [kb, l] w65 (setLoop w98 l Rc .exhausted (some (.exit 4))) := q1.trans' (setLoop_ext _ _ _ _ _) fun x hx => .inl (by simp at hx; simp [hx])
    exact .inr (.inr (.inl ⟨hl98, tail _ (ws65.ext wb g1 (by simp; omega)) ⟨_, q2.ext (setLoop_ext w98 l Rc .exhausted (some (.exit 4))) (by simp; omega)⟩ (m1.ext g1 (by simp; omega)) g1.size⟩))
/-! ### the library's tables, and the tied card -/
set_option maxRecDepth 100000 in
theorem door_met (os : Os) (args : Array Value) : laidMetH Tryd.prog Rows.labelsWalkRow.laid ((World.laidAll Tryd.prog os Rows.labelsWalkRow.laid).forCall (fun _ _ => 0) ⟨#[], args, []⟩).memory := by
  rw [MakeChecks.laidMetH_plain _ _ _ (by kernel_rfl)]
  exact laidMet_laidAll _ (by kernel_rfl) (by kernel_rfl)
set_option maxRecDepth 8000 in
theorem labelsWalk_lifted (os : Os) (started : os.Started) (H : Type) (enc : TypeId × Value → H) (F : Stop.Interp) :
    ReturnsInHanded {} Tryd.checked os 3 .any ((OpenSpec.ofChange Rows.labelsWalkSpec).preRow enc Tryd.prog Tryd.f3 Rows.labelsWalkRow.domain false Rows.labelsWalkRow.laid) (((OpenSpec.ofChange Rows.labelsWalkSpec).at F).post enc Tryd.prog Tryd.f3 false true false false) :=
  lift3L (C := Tryd.checked) (T := 22) (U := 22) (X := 3) (tb := 4) own (by kernel_rfl) Tryd.func3 (by kernel_rfl) (by kernel_rfl) Tryd.underlying4 rfl (fun _ _ _ _ => rfl) laidOut (by kernel_rfl) (of_decide_eq_true (by kernel_rfl)) (by kernel_rfl) (of_decide_eq_true (by kernel_rfl)) (by kernel_rfl) (of_decide_eq_true (by kernel_rfl)) os started H enc F
    (fun W base v0 v1 v2 d0 d1 d2 p0 p1 p2 hok0 ht0 hw0 hok1 ht1 hw1 hok2 ht2 hw2 hL => by
      obtain ⟨A0, n0, c0, l0, rfl, h0⟩ := open_labs hok0 ht0 hw0
      obtain ⟨A1, n1, c1, l1, rfl, h1⟩ := open_labs hok1 ht1 hw1
      obtain ⟨i2, rfl, rfl, rfl, z2⟩ := open_int Tryd.underlying3 hok2 ht2
      exact labelsWalk_c h0 h1 i2 fun w' e => ⟨rfl, e.below⟩)
    (ChangeSpec.witness_shaped (enc := enc) (C := Tryd.checked) (os := os) (X := fun w _ => laidMetH Tryd.prog Rows.labelsWalkRow.laid w) false (World.laidAll Tryd.prog os Rows.labelsWalkRow.laid) #[.slice none 0 0, .slice none 0 0, .int .i64 0] 8 (World.laidAll_os _ _ _) (World.shaped_of_ZipB (by kernel_rfl) (by kernel_rfl)) (by kernel_rfl) (by kernel_rfl) (by kernel_rfl) (door_met os _))
theorem labelsWalk_holds : Rows.LabelsWalkSaid :=
  OpenClaim.holds_of_cond 3 Tryd.f3 rfl rfl rfl rfl rfl rfl rfl ⟨rfl, rfl, rfl, rfl, rfl⟩ rfl rfl rfl rfl rfl (by kernel_rfl) Tryd.func3 (by kernel_rfl)
    (of_decide_eq_true (by kernel_rfl)) (by unfold Func.isWrapper; first | (rw [if_pos (by decide +kernel)]; kernel_rfl) | (rw [if_neg (by decide +kernel)]; exact ⟨rfl, rfl⟩))
    (fun os started H enc _ F0 => by rw [OpenClaim.pre_eq_preRow]; exact labelsWalk_lifted os started H enc F0)
theorem labelsWalk_card_holds : Rows.LabelsWalkCardSaid :=
  Claim7.holds_tied_plain_at .later [] [.data, .pinned] true (true, Rows.labelsWalkCard.stood.harness.2) false
    labelsWalk_holds (fun _ h => by cases h) (by kernel_rfl) (fun _ h => by cases h) labelsWalk_row_tie rfl ⟨rfl, rfl⟩ (by kernel_rfl) rfl
    (fun f fn hf hfn => by
      obtain rfl : f = 3 := Option.some.inj ((show Tryd.prog.funcNamed "berth/berthlaw03.LabelsWalk" = some 3 by kernel_rfl).symm.trans hf) |>.symm
      obtain rfl : fn = Tryd.f3 := (Option.some.inj (Tryd.func3.symm.trans hfn)).symm
      exact ⟨by kernel_rfl, fun j t ht => by
        rw [Tryd.params3] at ht
        have hm : t ∈ [22, 22, 3] := by simpa using Array.mem_of_getElem? ht
        have hall : ([22, 22, 3].all fun u => !Tryd.prog.wantsStandIn u) = true := by kernel_rfl
        exact (show Tryd.prog.wantsStandIn t = false by simpa using List.all_eq_true.1 hall t hm)⟩)
    (by kernel_rfl)
end Go.Proofs.YtcohengppaighaaDoor
