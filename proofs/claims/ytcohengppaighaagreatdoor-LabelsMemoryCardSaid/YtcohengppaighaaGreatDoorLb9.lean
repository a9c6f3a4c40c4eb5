/- Labels: the walk over a Diff; lists of differences: the program's walks. -/
import Derived.Test.YtcohengppaighaaGreatDoorLb8
set_option linter.unusedVariables false
set_option linter.unusedSimpArgs false
namespace Go.Proofs.YtcohengppaighaaGreatDoor
open Go Go.V Go.B

def dout (x : DL) : List Value := [.agg ⟨dcells x⟩]
theorem Diff_iter {p q c : Nat} {D : Option Addr} {ds : List DL} (hn : ds.length = q) (hb : q ≤ 64) :
    Iter Tryz.prog dout 31 [.pointer (some ⟨p, 0, none⟩)] ds (fun w => BlkT w p [.slice D q c] 23 ∧ Cells w D (DLL.flat ds)) := by
  intro yl w J Q R j0 st hK hy k1 k2
  apply labels_Diff_l1_nf
  refine ptr_in ⟨_, _, _, (hK _ _ j0).1.cell (i := 0) rfl, fun t w' => ∃ a : Nat, t = a ∧ a ≤ q ∧ J (ds.take a) w', fun t _ => q - t.toNat, ⟨0, rfl, by omega, j0⟩, ?_⟩
  rintro _ _ w8 ⟨a, rfl, ha, j1⟩
  refine sel_dec (fun hlt => ?_) (fun hge => ?_)
  · obtain ⟨x, hx⟩ : ∃ x, ds[a]? = some x := ⟨_, List.getElem?_eq_getElem (by omega)⟩
    obtain ⟨ad, rfl, rd⟩ := dif_cells (hK _ _ j1).2 hx
    refine when_dec ⟨by omega, by omega⟩ (ptr_in ⟨_, _, _, _, _, (rd w8 (Ext.refl _ _)).2, fun w15 h15 => ?_⟩)
    obtain ⟨b15, x15, z15⟩ := box_new h15
    obtain ⟨w16, hr, b16, x16⟩ := storeW (P := Tryz.prog) (t := 59) (n := 5) (by kernel_rfl) b15 (vs := dcells x) rfl rfl (DLL.one x)
    have j16 := st _ _ _ (x15.trans' x16 fun b hb => .inr (by simp at hb; omega)) j1
    refine ⟨w16, hr, _, _, _, _, _, cadd0 b16, hy (ds.take a) x (ds.drop (a + 1)) w16 ?_ j16 _ (fun w2 j2 => ⟨_, rfl, sel_false rfl ?_⟩) (fun w2 q2 => ⟨_, rfl, sel_true rfl (k2 w2 q2)⟩)⟩
    · rw [← drop_at hx]
      exact (List.take_append_drop _ _).symm
    · rw [up64 a (by omega)]
      exact ⟨⟨a + 1, rfl, by omega, by rw [snoc_at hx]; exact j2⟩, by simp only [Int.toNat_natCast]; omega⟩
  · have : a = q := by omega
    subst this
    rw [List.take_of_length_le (by omega)] at j1
    exact k1 w8 j1
theorem iSl : (Tryz.prog.info? 23).map (·.size) = some 1 := by kernel_rfl
set_option maxHeartbeats 1000000 in
set_option maxRecDepth 8000 in
theorem walk_c {w : World} {A B : Option Addr} {n m c c' : Nat} {was now : List Lab} (h1 : LIn w A n was) (h2 : LIn w B m now) {R : Ending → World → Prop}
    (k : ∀ w' D q d, Ext [] w w' → DOwn w' w.heap.size D q d (diffS was now) → q ≤ 64 → R (.returned (.slice D q d)) w') : Calls Tryz.prog 73 #[.slice A n c, .slice B m c'] w R := by
  apply berthlaw03_walk_nf
  intro w3 h3
  obtain ⟨b3, x3, z3⟩ := box_new (cs := [.slice none 0 0]) h3
  refine Diff_c (h1.ext0 x3) (h2.ext0 x3) fun w6 p D q d e6 df => ⟨_, _, _, rfl, V.when_intro (by kernel_rfl) fun Rc l w9 hl h9 hy => ?_⟩
  obtain ⟨l0, m0, x9, z9⟩ := enter_new hl h9
  have e6' := x3.trans e6
  have hp1 := df.new
  have hp2 := df.box.lt
  have s6 := e6.size
  have hDf : ∀ g ∈ ownF D, w3.heap.size ≤ g ∧ g < w6.heap.size := df.own.fresh
  have hql := df.own.len
  have hq64 := df.len
  refine (Diff_iter (p := p) (c := d) hql hq64).range2 (I := fun ps w' => ∃ A' n' c', BlkT w' w.heap.size [.slice A' n' c'] 23 ∧ DOwn w' w9.heap.size A' n' c' ps ∧ Ext [] w w' ∧ w9.heap.size ≤ w'.heap.size ∧ Mrk w' w6.heap.size ∧ BlkT w' p [.slice D q d] 23 ∧ Cells w' D (DLL.flat (diffS was now)))
    (Q := fun _ _ => False) (fun y W R' h1 h2 => hy y.key y.old y.new y.had y.has W R' h1 h2) l0
    ⟨none, 0, 0, (b3.ext0 e6).ext0 x9, LstL.nil _ _ _, e6'.trans x9, Nat.le_refl _, m0, df.box.ext0 x9, df.own.cells.ext0 x9⟩ ?_ (fun _ _ _ _ h => h.elim) (fun ps w1 ⟨_, _, _, _, _, _, _, _, h1, h2⟩ => ⟨h1, h2⟩) ?_ ?_ (fun _ _ _ h => h.elim)
  · rintro ps w1 w2 e ⟨A', n', c', q1, q2, q3, q4, q5, q6, q7⟩
    refine ⟨A', n', c', q1.ext e (by simp; omega), q2.ext e (fun b hb => by have := (q2.fresh b hb).1; simp; omega), q3.trans' e (fun b hb => .inr (by simp at hb; omega)), Nat.le_trans q4 e.size, q5.ext e (by simp; omega), q6.ext e (by simp; omega), q7.ext e (fun g hg => by have := hDf g hg; simp; omega)⟩
  · rintro ps y rest W R' hsp hW ⟨A', n', c', q1, q2, q3, q4, q5, q6, q7⟩ k1 k2 w17 h17
    obtain ⟨b17, x17, z17⟩ := box_new h17
    obtain ⟨w18, hr18, b18, x18⟩ := storeW (P := Tryz.prog) (t := 59) (n := 5) (by kernel_rfl) b17 (vs := dcells y) rfl rfl (DLL.one y)
    have e18 : Ext [] W w18 := x17.trans' x18 fun b hb => .inr (by simp at hb; omega)
    have hl18 : LoopSt w18 l Rc .ready none := LoopSt.ext hW e18 (by simp)
    have x19 := setLoop_ext w18 l Rc .busy none
    have hb19 : LoopSt (setLoop w18 l Rc .busy none) l Rc .busy none := setLoop_st _ _ (LoopSt.lt hl18)
    have hWl := LoopSt.lt hW
    have z19 : (setLoop w18 l Rc .busy none).heap.size = w18.heap.size := setLoop_size _ _ _ _ _
    have s18 := e18.size
    have q1' := (q1.ext0 e18).ext x19 (by simp; omega)
    have q2' := (q2.ext0 e18).ext x19 (fun b hb => by have := (q2.fresh b hb).1; simp; omega)
    refine ⟨w18, hr18, hl18, _, _, _, q1'.cell (i := 0) rfl, _, _, _, _, _, cadd0 (b18.ext x19 (by simp; omega)), fun w25 h25 => ?_⟩
    obtain ⟨b25, x25, z25⟩ := box_new h25
    have hn' := q2.len
    have hpl : ps.length < q := by rw [← hql, hsp]; simp
    obtain ⟨A2, c2, w27, hr27, ho, he, hat⟩ := LstL.more (P := Tryz.prog) (t := 23) (ty := 23) (x := y) (by exact Tryz.underlying23) infoD rfl (by decide) (q2'.ext0 x25) b25 (by omega) (by omega)
    have hown : ∀ b ∈ ownF A', w9.heap.size ≤ b := fun b hb => (q2.fresh b hb).1
    have q1'' := (q1'.ext0 x25).ext he (fun hb => by have := hown _ hb; omega)
    obtain ⟨w28, hr28, b28, x28⟩ := store1 (P := Tryz.prog) (v := .slice A2 (n' + 1) c2) iSl q1'' (i := 0) (by simp) rfl rfl
    have hbig : w9.heap.size ≤ w.heap.size → False := fun h => by omega
    have l28 : LoopSt w28 l Rc .busy none := LoopSt.ext (LoopSt.ext (LoopSt.ext hb19 x25 (by simp)) he (fun hb => by have := hown _ hb; omega)) x28 (by simp; omega)
    have keep : ∀ {g : Nat}, g ≠ l → g ≠ w.heap.size → g < w9.heap.size → g ∉ [l] ∧ g ∉ ownF A' ∧ g ∉ [w.heap.size] := fun h1 h2 h3 => ⟨by simpa using h1, fun hb => by have := hown _ hb; omega, by simpa using h2⟩
    refine ⟨A2, _, c2, w27, hr27, w28, hr28, l28, k1 w28 l28 ⟨A2, n' + 1, c2, b28, ho.ext x28 (fun b hb => by have := (ho.fresh b hb).1; simp; omega), ?_, ?_, ?_, ?_, ?_⟩⟩
    · refine ((((q3.trans e18).trans' x19 fun b hb => .inr (by simp at hb; omega)).trans x25).trans' he fun b hb => .inr (by have := hown _ hb; omega)).trans' x28 fun b hb => .inr (by simp at hb; omega)
    · have a1 := x25.size
      have a2 := he.size
      have a3 := x28.size
      omega
    · obtain ⟨a1, a2, a3⟩ := keep (g := w6.heap.size) (by omega) (by omega) (by omega)
      exact ((((q5.ext e18 (by simp)).ext x19 a1).ext x25 (by simp)).ext he a2).ext x28 a3
    · obtain ⟨a1, a2, a3⟩ := keep (g := p) (by omega) (by omega) (by omega)
      exact ((((q6.ext e18 (by simp)).ext x19 a1).ext x25 (by simp)).ext he a2).ext x28 a3
    · have kk : ∀ g ∈ ownF D, g ∉ [l] ∧ g ∉ ownF A' ∧ g ∉ [w.heap.size] := fun g hg => by have := hDf g hg; exact keep (by omega) (by omega) (by omega)
      exact ((((q7.ext e18 (by simp)).ext x19 fun g hg => (kk g hg).1).ext x25 (by simp)).ext he fun g hg => (kk g hg).2.1).ext x28 fun g hg => (kk g hg).2.2
  · rintro w31 hl31 ⟨A', n', c', q1, q2, q3, q4, q5, q6, q7⟩
    have x32 := setLoop_ext w31 l Rc .exhausted none
    have q1' := q1.ext x32 (by simp; omega)
    have q2' := q2.ext x32 (fun b hb => by have := (q2.fresh b hb).1; simp; omega)
    refine .inl ⟨hl31, _, _, _, q1'.cell (i := 0) rfl, close_one (q5.ext x32 (by simp; omega)) fun w33 x33 => ?_⟩
    refine k w33 A' n' c' ((q3.trans' x32 fun b hb => .inr (by simp at hb; omega)).trans' x33 fun b hb => .inr (by simp at hb; omega)) ((q2'.ext x33 fun b hb => by have := (q2.fresh b hb).1; simp; omega).weaken (by omega)) ?_
    have := q2.len
    omega
end Go.Proofs.YtcohengppaighaaGreatDoor
