/- The world of four: the rows of a key. -/
import Derived.Test.YtjlkdadafddodaaE6
set_option linter.unusedVariables false
set_option linter.unusedSimpArgs false
namespace Go.Proofs.Ytjlkdadafddodaa
open Go Go.V Go.B

theorem i4s : (Try.prog.info? 4).map (·.size) = some 1 := by kernel_rfl
theorem i37s : (Try.prog.info? 37).map (·.size) = some 1 := by kernel_rfl
theorem mem_tell {a b : List Rw} (h : a.map Rw.tell = b.map Rw.tell) {r : Rw} (hr : r ∈ a) : ∃ s ∈ b, s.n = r.n ∧ s.S = r.S := by
  have : r.tell ∈ b.map Rw.tell := by rw [← h]; exact List.mem_map.2 ⟨r, hr, rfl⟩
  obtain ⟨s, hs, e⟩ := List.mem_map.1 this
  injection e with e1 e2
  exact ⟨s, hs, e1, e2⟩
theorem tell_n {a b : List Rw} (h : a.map Rw.tell = b.map Rw.tell) : a.map (·.n) = b.map (·.n) := by
  have := congrArg (List.map (·.1)) h
  rw [List.map_map, List.map_map] at this
  exact this
/-- The row's set, as the document has it. -/
theorem row_mi {x : Ix} {rows : List DR} (h : Rel x rows) (ok : IxOk x) {key : ByteArray} {rs : List Rw} (tl : rs.map Rw.tell = (x.colOf key).rows.map Rw.tell) {y : Rw} (hy : y ∈ rs) (hS : y.S.Ok) {ys : List Int} (hr : RiseL ys) (hys : ∀ z, z ∈ ys ↔ ∃ r ∈ rows, (r.key = key ∧ y.n ≤ r.n ∧ r.n ≤ y.n) ∧ r.slot = z) : y.S.mi = ys ∧ y.S.N = x.N := by
  obtain ⟨s, hs, e1, e2⟩ := mem_tell tl hy
  refine ⟨h.mi ok (key := key) (Q := fun a => y.n ≤ a ∧ a ≤ y.n) hS (φ := fun i => ∃ a, x.val key (i : Int) = some a ∧ (y.n ≤ a ∧ a ≤ y.n)) (fun i => ?_) (fun i => Iff.rfl) hr hys, ?_⟩
  · rw [← e2, row_mem ok hs, e1]
  · rw [← e2]; exact (ok.colOf key).1.size s hs
set_option maxRecDepth 8000 in
set_option maxHeartbeats 4000000 in
theorem rows_c {w : World} {base g cap : Nat} {es : Nat → En} (h : WAt w base g cap es) (hcap : cap ≤ 3500000000000) {i : Nat} (hi : i < 4) (key : ByteArray) (n : Int) {R : Ending → World → Prop} (k : ∀ w', Ext [] w w' → R (.returned (.bool true)) w') :
    Calls Try.prog 63 #[.pointer (some ⟨g, 0, none⟩), .int .i64 (i : Int), .string key, .int .i64 n] w R := by
  apply berthlaw08_World_rows_nf
  intro w5 h5 w6 h6 w7 h7 w8 h8 w9 h9
  obtain ⟨b5, x5, z5⟩ := box_new (cs := [.pointer (some ⟨g, 0, none⟩)]) h5
  obtain ⟨b6, x6, z6⟩ := box_new (cs := [.int .i64 (i : Int)]) h6
  obtain ⟨b7, x7, z7⟩ := box_new (cs := [.string key]) h7
  obtain ⟨b8, x8, z8⟩ := box_new (cs := [.int .i64 n]) h8
  obtain ⟨b9, x9, z9⟩ := box_new (cs := [.bool false]) h9
  have E9 : Ext [] w w9 := (((x5.trans x6).trans x7).trans x8).trans x9
  have bW := (((b5.ext0 x6).ext0 x7).ext0 x8).ext0 x9
  have bI := ((b6.ext0 x7).ext0 x8).ext0 x9
  have bK := (b7.ext0 x8).ext0 x9
  have bN := b8.ext0 x9
  have h9w := h.ext0 E9
  have hen := h.en i hi
  obtain ⟨x, hx⟩ : ∃ x, (es i).x = x := ⟨_, rfl⟩
  obtain ⟨d, hd⟩ : ∃ d, (es i).d = d := ⟨_, rfl⟩
  have rel : Rel x d.rows := by rw [← hx, ← hd]; exact hen.rel
  have ok : IxOk x := by rw [← hx]; exact hen.ok
  have G9 : IxG w9 (es i).q x := by rw [← hx]; exact ((hen.ext0 E9).b (by omega)).g
  have D9 : DocR w9 d := by rw [← hd]; exact hen.doc.ext0 E9
  have dl : d.l ≤ 4000000000000 := by rw [← hd]; have := hen.dl; omega
  have hN : d.N = (x.N : Int) := by rw [← hd, ← hx]; exact hen.N
  refine ⟨_, bN.cell (i := 0) rfl, sel_dec (fun hle => ?_) (fun hpos => ?_)⟩
  · obtain ⟨w11, hr11, b11, x11⟩ := store1 (P := Try.prog) (v := .bool true) i4s b9 (i := 0) (by simp) rfl rfl
    have b11 : BlkT w11 w8.heap.size [.bool true] 4 := by simpa using b11
    exact ⟨w11, hr11, _, b11.cell (i := 0) rfl, k w11 (E9.trans' x11 (fun b hb => .inr (by simp at hb; omega)))⟩
  have hpos : 0 < n := by omega
  refine ⟨fun want w' => ∃ (bx : Nat) (B : Option Addr) (m c : Nat) (ys : List Int), want = some ⟨bx, 0, none⟩ ∧ Ext [] w9 w' ∧ BlkT w' bx [.slice B m c] 37 ∧ Cells w' B (IL.flat ys) ∧ ys.length = m ∧ ys = (x.colOf key).rows.map (·.n) ∧ w9.heap.size ≤ bx ∧ (∀ b ∈ ownF B, b < w'.heap.size), ?_, ?_⟩
  · refine ⟨fun w' => Ext [] w9 w', (Ext.refl _ _).drew, _, fun w' e => (bW.ext0 e).cell (i := 0) rfl, _, fun w' e => (bI.ext0 e).cell (i := 0) rfl, ptr_in (when_dec ⟨by omega, by omega⟩ ⟨_, _, _, _, cellsC_S (fun w' e => w_doc (h9w.ext0 e).blk hi), _, fun w' e => (bK.ext0 e).cell (i := 0) rfl, ?_, ?_, trivial⟩)⟩
    · rw [hd]
      refine DocNumbers_c (w := w9.drew) (D9.ext0 (Ext.refl _ _).drew) dl key fun B m c ys w24 e24 own hr hm => ⟨_, _, _, rfl, e24.undrew, fun w25 h25 => ?_⟩
      obtain ⟨b25, x25, z25⟩ := box_new (cs := [.slice none 0 0]) h25
      obtain ⟨w26, hr26, b26, x26⟩ := store1 (P := Try.prog) (v := .slice B m c) i37s b25 (i := 0) (by simp) rfl rfl
      have gb := own.base
      have z24 : w9.heap.size ≤ w24.heap.size := e24.size
      refine ⟨e24.undrew.trans x25, w26, hr26, w24.heap.size, B, m, c, ys, rfl, (e24.undrew.trans x25).trans' x26 (fun b hb => .inr (by simp at hb; omega)), by simpa using b26, ((own.ext0 x25).ext x26 (fun b hb => by have := gb b hb; simp; omega)).cells, own.len, rel.nums ok hr hm, z24, fun b hb => by have := gb b hb; have := x26.size; omega⟩
    · intro w27 h27
      obtain ⟨b27, x27, z27⟩ := box_new (cs := [.slice none 0 0]) h27
      have z27 : w27.heap.size = w9.heap.size + 1 := z27
      rw [hd]
      refine ⟨x27.undrew, DocNumbers_c (w := w27) ((D9.ext0 (Ext.refl _ _).drew).ext0 x27) dl key fun B m c ys w30 e30 own hr hm => ⟨_, _, _, rfl, x27.undrew.trans e30, ?_⟩⟩
      obtain ⟨w31, hr31, b31, x31⟩ := store1 (P := Try.prog) (v := .slice B m c) i37s (b27.ext0 e30) (i := 0) (by simp) rfl rfl
      have gb := own.base
      have hs9 : (World.drew w9).heap.size = w9.heap.size := rfl
      refine ⟨w31, hr31, w9.heap.size, B, m, c, ys, rfl, (x27.undrew.trans e30).trans' x31 (fun b hb => .inr (by simp at hb; omega)), by simpa using b31, (own.ext x31 (fun b hb => by have := gb b hb; simp; omega)).cells, own.len, rel.nums ok hr hm, Nat.le_refl _, fun b hb => by have := gb b hb; have := x31.size; omega⟩
  rintro _ _ w34 ⟨bx, B, m, c, nums, rfl, e34, bb34, cl34, hml, hnums, hbx, hBlt⟩ w35 h35
  obtain ⟨b35, x35, z35⟩ := box_new (cs := [.int .i64 0]) h35
  obtain ⟨w36, hr36, b36, x36⟩ := store1 (P := Try.prog) (v := .int .i64 0) i3s' b35 (i := 0) (by simp) rfl rfl
  have z34 := e34.size
  have z36 := x36.size
  have e36 : Ext [] w34 w36 := x35.trans' x36 (fun b hb => .inr (by simp at hb; omega))
  have E36 := e34.trans e36
  have b36 : BlkT w36 w34.heap.size [.int .i64 0] 3 := by simpa using b36
  refine ⟨w36, hr36, fun w' => Ext [] w36 w', (Ext.refl _ _).drew, _, fun w' e => (bW.ext0 (E36.trans e)).cell (i := 0) rfl, _, fun w' e => (bI.ext0 (E36.trans e)).cell (i := 0) rfl, ptr_in (when_dec ⟨by omega, by omega⟩ ⟨_, fun w' e => w_ptr (h9w.ext0 (E36.trans e)).blk hi, _, fun w' e => (bK.ext0 (E36.trans e)).cell (i := 0) rfl, ?_⟩)⟩
  refine Rows_c (w := w36.drew) ((G9.ext0 E36).ext0 (Ext.refl _ _).drew) key fun b0 RA rc rs w46 e46 K46 f46 tl => ⟨_, _, _, rfl, e46.undrew, V.when_intro (by kernel_rfl) fun Rc l w49 hl h49 hy => ?_⟩
  have e46 : Ext [] w36 w46 := e46.undrew
  have f46 : ∀ b ∈ rowsF b0 RA rs, w36.heap.size ≤ b ∧ b < w46.heap.size := f46
  obtain ⟨l0, m0, x49, z49⟩ := enter_new hl h49
  have z46 := e46.size
  have e3649 := e46.trans x49
  have E49 := E36.trans e3649
  have K49 := K46.ext0 x49
  have c49 := b36.ext0 e3649
  have lx := bb34.lt
  have l9 := b9.lt
  have htn : rs.map (·.n) = nums := by rw [hnums]; exact tell_n tl
  have hrl : rs.length = m := by rw [← hml, ← htn, List.length_map]
  have few := G9.r.rows G9.few key
  have hml2 : m ≤ 8000000000000 := by
    rw [← hml, hnums, List.length_map]; exact few
  have nF : ∀ {b : Nat}, b ≠ w34.heap.size → b ≠ l → b ∉ [w34.heap.size, l] := fun h1 h2 => by simp; exact ⟨h1, h2⟩
  have inF : ∀ b ∈ [w34.heap.size, l], w9.heap.size ≤ b := fun b hb => by simp at hb; rcases hb with rfl | rfl <;> omega
  have toE : ∀ w', Ext [w34.heap.size, l] w49 w' → Ext [] w9 w' := fun w' e => E49.trans' e (fun b hb => .inr (inF b hb))
  have e3449 := e36.trans e3649
  have bb49 := bb34.ext0 e3449
  have cl49 := cl34.ext0 e3449
  -- the list of numbers stays
  have lst : ∀ w', Ext [w34.heap.size, l] w49 w' → BlkT w' bx [.slice B m c] 37 := fun w' e => bb49.ext e (nF (by omega) (by omega))
  have atN : ∀ (a : Nat) (y : Rw), rs[a]? = some y → nums[a]? = some y.n := fun a y hy => by rw [← htn, List.getElem?_map, hy]; rfl
  have rd : ∀ w', Ext [w34.heap.size, l] w49 w' → ∀ (a : Nat) (z : Int), nums[a]? = some z → ∃ ad, B = some ad ∧ w'.cell? (Addr.add ad (Int.toNat (a : Int) * 1)) = some (.int .i64 z) := fun w' e a z hz => by
    exact il_cell (cl49.ext e (fun b hb => by have := hBlt b hb; exact nF (by omega) (by omega))) hz
  refine (Rows_iter (b0 := b0) (A := RA) (c := rc) (rs := rs) (by omega)).range (I := fun ps w' => Ext [w34.heap.size, l] w49 w' ∧ BlkT w' w34.heap.size [.int .i64 (ps.length : Int)] 3 ∧ (ps.length : Int) < n) (Q := fun p w' => p = .exit 0 ∧ Ext [w34.heap.size, l] w49 w' ∧ BlkT w' w34.heap.size [.int .i64 n] 3 ∧ n ≤ m)
    (fun nn p W' R' g1 g2 => hy nn p W' R' g1 g2) l0 ⟨Ext.refl _ _, c49, by simpa using hpos⟩ ?_ ?_ ?_ ?_ ?_ ?_
  · rintro ps w1 w2 e ⟨g1, g2, g3⟩
    exact ⟨g1.trans' e (fun b hb => .inl (by simp at hb; simp [hb])), g2.ext e (by simp; omega), g3⟩
  · rintro p w1 w2 e ⟨g0, g1, g2, g3⟩
    exact ⟨g0, g1.trans' e (fun b hb => .inl (by simp at hb; simp [hb])), g2.ext e (by simp; omega), g3⟩
  · rintro ps w1 ⟨g1, _, _⟩
    refine K49.ext g1 fun b hb => ?_
    have := f46 b hb
    exact nF (by omega) (by omega)
  · -- a row
    rintro ps y rest w1 Wy p bw R' hsp ⟨g1, g2, g3⟩ hl1 hWy hp hbw sy hS k1 k2
    have hyr : y ∈ rs := by rw [hsp]; simp
    have hya : rs[ps.length]? = some y := by rw [hsp]; simp
    have hps : ps.length < m := by rw [← hrl, hsp]; simp
    have exb := setLoop_ext Wy l Rc .busy none
    have hbusy : LoopSt (setLoop Wy l Rc .busy none) l Rc .busy none := setLoop_st _ _ (LoopSt.lt hS)
    have gW : Ext [w34.heap.size, l] w49 (setLoop Wy l Rc .busy none) := (g1.then hWy).trans' exb (fun b hb => .inl (by simp at hb; simp [hb]))
    have cW := (g2.ext0 hWy).ext exb (by simp; omega)
    have sW := sy.ext exb (by simp; omega) (by simp; omega)
    have zW : (setLoop Wy l Rc .busy none).heap.size = Wy.heap.size := setLoop_size _ _ _ _ _
    have l34 := g2.lt
    generalize setLoop Wy l Rc .busy none = Wb at hbusy gW cW sW zW exb ⊢
    have EW := toE Wb gW
    have cont : ∀ w', Ext [] Wb w' → Ext [w34.heap.size, l] w49 w' := fun w' e => gW.then e
    have W9 := h9w.ext0 EW
    obtain ⟨ad, hB, _⟩ := rd Wb gW ps.length y.n (atN _ _ hya)
    refine ⟨hS, fun w' => Ext [] Wb w', (Ext.refl _ _).drew, _, fun w' e => (cW.ext0 e).cell (i := 0) rfl, ptr_in ⟨_, _, _, fun w' e => (lst w' (cont w' e)).cell (i := 0) rfl, sel_dec (fun hge => by omega) (fun _ => ptr_in ⟨_, _, _, fun w' e => (lst w' (cont w' e)).cell (i := 0) rfl, _, fun w' e => (cW.ext0 e).cell (i := 0) rfl, when_dec ⟨by omega, by omega⟩ ?_⟩)⟩⟩
    rw [hB]
    refine ptr_in ⟨y.n, fun w' e => ?_, sel_false (by simp) ?_⟩
    · obtain ⟨ad', hB', hc'⟩ := rd w' (cont w' e) ps.length y.n (atN _ _ hya)
      rw [hB] at hB'; cases hB'
      exact hc'
    refine ⟨_, fun w' e => (bW.ext0 (EW.trans e)).cell (i := 0) rfl, _, fun w' e => (bI.ext0 (EW.trans e)).cell (i := 0) rfl, ptr_in (when_dec ⟨by omega, by omega⟩ ⟨_, fun w' e => w_size (W9.ext0 e).blk hi, _, fun w' e => (bW.ext0 (EW.trans e)).cell (i := 0) rfl, _, fun w' e => (bI.ext0 (EW.trans e)).cell (i := 0) rfl, ptr_in (when_dec ⟨by omega, by omega⟩ ⟨_, _, _, _, cellsC_S (fun w' e => w_doc (W9.ext0 e).blk hi), _, fun w' e => (bK.ext0 (EW.trans e)).cell (i := 0) rfl, ?_⟩)⟩)⟩
    rw [hd]
    refine DocBetween_c (w := Wb.drew) ((D9.ext0 EW).ext0 (Ext.refl _ _).drew) dl key y.n y.n fun B2 n2 c2 ys w78 e78 own78 hr78 hm78 => ⟨_, _, _, rfl, e78.undrew, ?_⟩
    have e78 : Ext [] Wb w78 := e78.undrew
    have hmi := row_mi rel ok tl hyr sW.ok hr78 hm78
    rw [hN]
    refine isSet_c (sW.ext0 e78) hmi.2 hmi.1 (il_ints own78.cells own78.len) fun w81 e81 => ⟨_, rfl, e78.trans e81, sel_false rfl ?_⟩
    have e8 := e78.trans e81
    have c81 := cW.ext0 e8
    have z81 := e8.size
    obtain ⟨w84, hr84, b84, x84⟩ := store1 (P := Try.prog) (v := .int .i64 (IntKind.wrap .i64 ((ps.length : Int) + 1))) i3s' c81 (i := 0) (by simp) rfl rfl
    have b84 : BlkT w84 w34.heap.size [.int .i64 (IntKind.wrap .i64 ((ps.length : Int) + 1))] 3 := by simpa using b84
    rw [up64 ps.length (by omega)] at b84 hr84
    have x8 : Ext [w34.heap.size] Wb w84 := e8.up.trans' x84 (fun b hb => .inl hb)
    have l84 : LoopSt w84 l Rc .busy none := LoopSt.ext hbusy x8 (by simp; omega)
    have g84 : Ext [w34.heap.size, l] w49 w84 := gW.trans' x8 (fun b hb => .inl (by simp at hb; simp [hb]))
    have n84 := (bN.ext0 (EW.trans e8)).ext x84 (by simp; omega)
    have xall : Ext [w34.heap.size, l] Wy w84 := (exb.weaken (G := [w34.heap.size, l]) (fun b hb => .inl (by simp at hb; simp [hb]))).trans' x8 (fun b hb => .inl (by simp at hb; simp [hb]))
    have hG : ∀ b ∈ [w34.heap.size, l], b < w1.heap.size ∨ b = p ∨ b = bw := fun b hb => by
      simp at hb
      rcases hb with rfl | rfl
      · exact .inl l34
      · exact .inl hl1
    refine ⟨_, c81.cell (i := 0) rfl, w84, by rw [up64 ps.length (by omega)]; exact hr84, _, b84.cell (i := 0) rfl, _, n84.cell (i := 0) rfl, sel_dec (fun hge => ⟨l84, k2 _ w84 _ l84 hG xall ⟨rfl, g84, ?_, by omega⟩⟩) (fun hlt => ⟨l84, k1 _ w84 l84 hG xall ⟨g84, by rw [List.length_append]; exact b84, by rw [List.length_append]; simp; omega⟩⟩)⟩
    have : ((ps.length + 1 : Nat) : Int) = n := by omega
    rw [← this]; exact b84
  · rintro w89 hl89 ⟨g1, g2, g3⟩
    have xe := setLoop_ext w89 l Rc .exhausted none
    have gE : Ext [w34.heap.size, l] w49 (setLoop w89 l Rc .exhausted none) := g1.trans' xe (fun b hb => .inl (by simp at hb; simp [hb]))
    have cE := g2.ext xe (by simp; omega)
    refine .inl ⟨hl89, ?_⟩
    generalize setLoop w89 l Rc .exhausted none = We at gE cE ⊢
    have EE := toE We gE
    have zE := gE.size
    refine ⟨_, cE.cell (i := 0) rfl, _, (bN.ext0 EE).cell (i := 0) rfl, ptr_in ⟨_, _, _, (lst We gE).cell (i := 0) rfl, ?_⟩⟩
    obtain ⟨w94, hr94, b94, x94⟩ := store1 (P := Try.prog) (v := .bool true) i4s (b9.ext0 EE) (i := 0) (by simp) rfl rfl
    have b94 : BlkT w94 w8.heap.size [.bool true] 4 := by simpa using b94
    have mk := (m0.ext gE (nF (by omega) (by omega))).ext x94 (by simp; omega)
    have ht : ((rs.length : Int) == (if ((m : Nat) : Int) < n then ((m : Nat) : Int) else n)) = true := by
      rw [hrl]; rw [if_pos (by omega)]; simp
    rw [ht]
    refine ⟨w94, hr94, close_one mk fun w95 x95 => ⟨_, (b94.ext x95 (by simp; omega)).cell (i := 0) rfl, k w95 ?_⟩⟩
    exact ((E9.trans EE).trans' x94 (fun b hb => .inr (by simp at hb; omega))).trans' x95 (fun b hb => .inr (by have := E9.size; simp at hb; omega))
  · rintro w89 p hl89 ⟨rfl, g1, g2, g3⟩
    have xe := setLoop_ext w89 l Rc .exhausted (some (Code.exit 0))
    have gE : Ext [w34.heap.size, l] w49 (setLoop w89 l Rc .exhausted (some (Code.exit 0))) := g1.trans' xe (fun b hb => .inl (by simp at hb; simp [hb]))
    have cE := g2.ext xe (by simp; omega)
    refine .inr (.inr (.inl ⟨hl89, ?_⟩))
    generalize setLoop w89 l Rc .exhausted (some (Code.exit 0)) = We at gE cE ⊢
    have EE := toE We gE
    have zE := gE.size
    refine ⟨_, cE.cell (i := 0) rfl, _, (bN.ext0 EE).cell (i := 0) rfl, ptr_in ⟨_, _, _, (lst We gE).cell (i := 0) rfl, ?_⟩⟩
    obtain ⟨w94, hr94, b94, x94⟩ := store1 (P := Try.prog) (v := .bool true) i4s (b9.ext0 EE) (i := 0) (by simp) rfl rfl
    have b94 : BlkT w94 w8.heap.size [.bool true] 4 := by simpa using b94
    have mk := (m0.ext gE (nF (by omega) (by omega))).ext x94 (by simp; omega)
    have ht : (n == (if ((m : Nat) : Int) < n then ((m : Nat) : Int) else n)) = true := by
      rw [if_neg (by omega)]; simp
    rw [ht]
    refine ⟨w94, hr94, close_one mk fun w95 x95 => ⟨_, (b94.ext x95 (by simp; omega)).cell (i := 0) rfl, k w95 ?_⟩⟩
    exact ((E9.trans EE).trans' x94 (fun b hb => .inr (by simp at hb; omega))).trans' x95 (fun b hb => .inr (by have := E9.size; simp at hb; omega))
end Go.Proofs.Ytjlkdadafddodaa
