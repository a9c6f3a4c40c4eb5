/- The world of four: all its entries, its beginning, a step. -/
import Derived.Test.YtjlkdadafddodaaE8
set_option linter.unusedVariables false
set_option linter.unusedSimpArgs false
namespace Go.Proofs.Ytjlkdadafddodaa
open Go Go.V Go.B

theorem and3 (x : Int) : ∃ i : Nat, i < 4 ∧ IntKind.wrap .i64 ((BitVec.toNat (BitVec.ofInt 64 x &&& BitVec.ofInt 64 3) : Nat) : Int) = (i : Int) := by
  have h : BitVec.toNat (BitVec.ofInt 64 x &&& BitVec.ofInt 64 3) ≤ 3 := by
    rw [BitVec.toNat_and]
    exact Nat.and_le_right
  exact ⟨_, by omega, w64 (by omega) (by omega)⟩
theorem i106s : (Try.prog.info? 106).map (·.size) = some 3 := by kernel_rfl
set_option maxRecDepth 8000 in
set_option maxHeartbeats 4000000 in
theorem seen_c {w : World} {base g cap : Nat} {es : Nat → En} (h : WAt w base g cap es) (hcap : cap ≤ 3500000000000) {i : Nat} (hi : i < 4) {R : Ending → World → Prop} (k : ∀ w', Ext [] w w' → R (.returned (.bool true)) w') :
    Calls Try.prog 33 #[.pointer (some ⟨g, 0, none⟩), .int .i64 (i : Int)] w R := by
  apply berthlaw08_World_seen_nf
  have hen := h.en i hi
  obtain ⟨x, hx⟩ : ∃ x, (es i).x = x := ⟨_, rfl⟩
  obtain ⟨d, hd⟩ : ∃ d, (es i).d = d := ⟨_, rfl⟩
  obtain ⟨q, hq⟩ : ∃ q, (es i).q = q := ⟨_, rfl⟩
  have rel : Rel x d.rows := by rw [← hx, ← hd]; exact hen.rel
  have ok : IxOk x := by rw [← hx]; exact hen.ok
  have Bw : IxB w q x := by rw [← hx, ← hq]; exact hen.b (by omega)
  have Dw : DocR w d := by rw [← hd]; exact hen.doc
  have dl : d.l ≤ 3500000000000 := by rw [← hd]; have := hen.dl; omega
  have hN : d.N = (x.N : Int) := by rw [← hd, ← hx]; exact hen.N
  refine ⟨fun w' => Ext [] w w', (Ext.refl _ _).drew, ptr_in (when_dec ⟨by omega, by omega⟩ ⟨_, fun w' e => w_ptr (h.ext0 e).blk hi, ptr_in (when_dec ⟨by omega, by omega⟩ ⟨_, _, _, _, cellsC_S (fun w' e => w_doc (h.ext0 e).blk hi), fun w10 h10 => ?_⟩)⟩)⟩
  obtain ⟨b10, x10, z10⟩ := doc_box (d := ⟨0, none, 0, 0, []⟩) h10
  obtain ⟨w11, hr11, b11, x11⟩ := doc_store b10 rfl (es i).d
  rw [hd] at b11
  rw [hq]
  have E11 : Ext [] w w11 := x10.undrew.trans' x11 (fun b hb => .inr (by simp at hb; have : (World.drew w).heap.size = w.heap.size := rfl; omega))
  have d11 : Ext [] w11 w11.drew := (Ext.refl _ _).drew
  have D11 := Dw.ext0 E11
  have B11 := Bw.ext0 E11
  have W11 := h.ext0 E11
  have db : ∀ w', Ext [] w11 w' → BlkT w' (World.drew w).heap.size d.cells 58 := fun w' e => b11.ext0 e
  refine ⟨x10.undrew, w11, hr11, fun w' => Ext [] w11 w', d11, _, _, _, _, cellsC_S (fun w' e => cadd0 (db w' e)), ?_⟩
  refine KeysB_c (B11.ext0 d11) fun A n c xs w18 e18 own hk hn => ⟨_, _, _, rfl, d11.trans e18, DocKeys_c (D11.ext0 (d11.trans e18)) (by omega) fun B m c' ys w21 e21 own' hs hm => ⟨_, _, _, rfl, d11.trans (e18.trans e21), ?_⟩⟩
  refine textsAre_c (own.cells.ext0 e21) own.len own'.cells own'.len (by omega) (rel.keys ok hk hs hm) fun w24 e24 => ⟨_, rfl, d11.trans ((e18.trans e21).trans e24), sel_false rfl ?_⟩
  have E24 := d11.trans ((e18.trans e21).trans e24)
  refine ⟨_, _, _, cadd (db w24 E24) rfl, fun t w' => ∃ a : Nat, t = a ∧ a ≤ d.l ∧ Ext [] w11 w', fun t _ => d.l - t.toNat, ⟨0, rfl, by omega, E24⟩, ?_⟩
  rintro _ _ w30 ⟨a, rfl, ha, E30⟩
  refine sel_dec (fun hlt => ?_) (fun hge => ?_)
  · have hlt : a < d.l := by omega
    obtain ⟨r, ad, hr, hA, rd⟩ := doc_row (D11.ext0 E30) hlt
    refine when_dec ⟨by omega, by omega⟩ ?_
    rw [hA]
    refine ptr_in ⟨_, _, _, rd, fun w35 h35 => ?_⟩
    obtain ⟨b35, x35, z35⟩ := box_new (cs := [.string ByteArray.empty, .int .i64 0, .int .i64 0]) h35
    obtain ⟨w36, hr36, b36, x36⟩ := storeW (P := Try.prog) (t := 106) (n := 3) (vs := r.cells) i106s b35 rfl rfl (DL.one r)
    have E36 := E30.trans (x35.trans' x36 (fun b hb => .inr (by simp at hb; omega)))
    refine ⟨w36, hr36, _, cadd b36 rfl, _, cadd b36 rfl, Get_c (B11.ext0 E36).g.r r.key r.slot fun w42 e42 => ⟨_, _, rfl, ?_⟩⟩
    rw [(rel.tell r.key r.slot r.n).2 ⟨r, List.mem_of_getElem? hr, rfl, rfl, rfl⟩]
    refine sel_false rfl ⟨_, cadd (b36.ext0 e42) rfl, sel_false (by simp) ?_⟩
    rw [up64 a (by omega)]
    exact ⟨⟨a + 1, rfl, by omega, E36.trans e42⟩, by simp only [Int.toNat_natCast]; omega⟩
  refine ⟨_, _, _, _, cadd0 (db w30 E30), DocKeys_c (D11.ext0 E30) (by omega) fun B2 m2 c2 ys2 w48 e48 own2 hs2 hm2 => ⟨_, _, _, rfl, ?_⟩⟩
  have hl2 := own2.len
  refine ⟨fun t w' => ∃ a : Nat, t = a ∧ a ≤ m2 ∧ Ext [] w48 w', fun t _ => m2 - t.toNat, ⟨0, rfl, by omega, Ext.refl _ _⟩, ?_⟩
  rintro _ _ w53 ⟨a, rfl, ha, e53⟩
  have E53 := E30.trans (e48.trans e53)
  refine sel_dec (fun hlt => ?_) (fun hge => k w53 (E11.trans E53))
  have hlt : a < m2 := by omega
  obtain ⟨key, hkey⟩ : ∃ key, ys2[a]? = some key := ⟨ys2[a]'(by omega), List.getElem?_eq_getElem (by omega)⟩
  obtain ⟨ad, hA, hc⟩ := sl_cell (own2.cells.ext0 e53) hkey
  rw [hA]
  have d53 : Ext [] w53 w53.drew := (Ext.refl _ _).drew
  have hm2b : m2 ≤ 8000000000000 ∨ True := .inr trivial
  refine when_dec ⟨by omega, by omega⟩ (ptr_in ⟨_, hc, fun w' => Ext [] w53 w', d53, _, _, _, _, cellsC_S (fun w' e => cadd0 (db w' (E53.trans e))), ?_⟩)
  refine Has_c' (B11.ext0 (E53.trans d53)).g key fun p bw w62 S e62 hp hb hS => ⟨_, rfl, d53.trans e62, DocHas_c (D11.ext0 (E53.trans (d53.trans e62))) (by omega) key fun B3 m3 c3 ys3 w65 e65 own3 hr3 hm3 => ⟨_, _, _, rfl, d53.trans (e62.trans e65), ?_⟩⟩
  have E65 := E53.trans (d53.trans (e62.trans e65))
  refine set_c (W11.ext0 E65) hi (hS.set.ext0 e65) (by rw [hS.size, hx]) (rel.mi ok (Q := fun _ => True) hS.set.ok hS.mem (fun i => by unfold hasP; simp) hr3 hm3) (il_ints own3.cells own3.len) fun w68 e68 => ⟨_, rfl, d53.trans ((e62.trans e65).trans e68), sel_false rfl ⟨_, _, _, fun w' e => cadd (db w' (E53.trans e)) rfl, ?_⟩⟩
  refine rows_c (W11.ext0 (E65.trans e68)) hcap hi key _ fun w72 e72 => ⟨_, rfl, d53.trans (((e62.trans e65).trans e68).trans e72), sel_false rfl ?_⟩
  have hm2s : m2 < 4611686018427387904 := by
    -- the keys are no more than the rows
    have hsub := sub_len (l := ys2) (m := d.rows.map (·.key)) (hs2.imp (fun h e => by subst e; exact lt_irr _ h)) fun z hz => by
      obtain ⟨r, hr, e⟩ := (hm2 z).1 hz
      exact List.mem_map.2 ⟨r, hr, e⟩
    have := Dw.len
    simp at hsub; omega
  rw [up64 a (by omega)]
  exact ⟨⟨a + 1, rfl, by omega, e53.trans (d53.trans (((e62.trans e65).trans e68).trans e72))⟩, by simp only [Int.toNat_natCast]; omega⟩
def nilE : En := ⟨none, nilX, [], ⟨0, none, 0, 0, []⟩⟩
theorem nilE_at (w : World) (cap : Nat) : EnAt w cap nilE := ⟨fun _ => ⟨rfl, rfl, fun _ => rfl, rfl⟩, fun h => absurd rfl h, nilX_ok, fun k i n h => (by cases h), ⟨Cells.nil _ _, rfl⟩, rfl, Rel.nil (fun k i => rfl), Nat.zero_le _, fun b hb => (by cases hb)⟩
def szOf (a : Nat) : Nat := if a = 0 then 8 else if a = 1 then 70 else 200
set_option maxRecDepth 8000 in
theorem Begin_c {w : World} {R : Ending → World → Prop}
    (k : ∀ g es w', Ext [] w w' → WAt w' w.heap.size g 0 es → (∀ j, j < 3 → (es j).q ≠ none ∧ (es j).x.N = szOf j) → (∀ j, j < 4 → (es j).d.A = none) → R (.returned (.tuple #[.pointer (some ⟨g, 0, none⟩), .bool true])) w') :
    Calls Try.prog 25 #[] w R := by
  apply berthlaw08_Begin_nf
  intro w1 h1 w2 h2
  obtain ⟨b1, x1, z1⟩ := box_new (cs := wsCells fun _ => nilE) h1
  obtain ⟨b2, x2, z2⟩ := box_new (cs := [.int .i64 8, .int .i64 70, .int .i64 200]) h2
  have W1 : WAt w2 w.heap.size w.heap.size 0 fun _ => nilE := ⟨b1.ext0 x2, fun i hi => nilE_at _ _, fun i j _ _ _ b hb => (by cases hb), fun i j _ _ b hb => (by cases hb), fun i _ => (by simp [nilE]), fun i _ => (by simp [nilE, ownF]), fun i _ b hb => (by cases hb), Nat.le_refl _⟩
  refine ⟨fun t w' => ∃ (a : Nat) (es : Nat → En), t = a ∧ a ≤ 3 ∧ Ext [] w w' ∧ WAt w' w.heap.size w.heap.size 0 es ∧ BlkT w' w1.heap.size [.int .i64 8, .int .i64 70, .int .i64 200] 3 ∧ (∀ j, j < a → (es j).q ≠ none ∧ (es j).x.N = szOf j) ∧ (∀ j, j < 4 → (es j).d.A = none) ∧ (∀ j, j < 4 → w1.heap.size ∉ (es j).F), fun t _ => 3 - t.toNat, ⟨0, _, rfl, by omega, x1.trans x2, W1, b2, by simp, fun _ _ => rfl, fun _ _ => (by simp [nilE])⟩, ?_⟩
  rintro _ _ w7 ⟨a, es, rfl, ha, E7, W7, b7, hes, hF, hsz⟩
  refine sel_dec (fun hlt => ?_) (fun hge => ?_)
  · have hlt : a < 3 := by omega
    have hc : ([.int .i64 8, .int .i64 70, .int .i64 200] : List Value)[a]? = some (.int .i64 (szOf a : Int)) := by
      rcases (by omega : a = 0 ∨ a = 1 ∨ a = 2) with rfl | rfl | rfl <;> rfl
    have hs : szOf a ≤ 65536 := by
      unfold szOf
      split
      · omega
      · split <;> omega
    refine when_dec ⟨by omega, by omega⟩ ⟨(szOf a : Int), by rw [Int.toNat_natCast, Nat.mul_one]; exact cadd b7 hc, ?_⟩
    refine NewIx_c hs fun w12 F x e12 a12 k12 N12 v12 f12 => ⟨_, _, rfl, sel_false rfl (sel_false rfl (when_dec ⟨by omega, by omega⟩ ?_))⟩
    obtain ⟨w13, hr13, b13, x13⟩ := w_storeQ (W7.blk.ext0 e12) (i := a) (by omega) (some ⟨x.q, 0, none⟩)
    refine ⟨w13, hr13, fun _ => True, trivial, NewDoc_ok (w := w13.drew) hs fun w20 e20 => ⟨_, _, _, _, _, rfl, trivial, when_dec ⟨by omega, by omega⟩ ?_⟩⟩
    have e20 : Ext [] w13 w20 := e20.undrew
    obtain ⟨w21, hr21, b21, x21⟩ := w_storeD (b13.ext0 e20) (i := a) (by omega) ⟨(szOf a : Int), none, 0, 0, []⟩
    have x3 : Ext [w.heap.size] w12 w21 := (x13.then e20).trans' x21 (fun b hb => .inl hb)
    have E21 : Ext [] w w21 := (E7.trans e12).trans' x3 (fun b hb => .inr (by simp at hb; omega))
    have hg := W7.blk.lt
    have z7 := E7.size
    refine ⟨w21, hr21, trivial, ?_⟩
    rw [up64 a (by omega)]
    refine ⟨⟨a + 1, upd es a ⟨some ⟨x.q, 0, none⟩, x, F, ⟨(szOf a : Int), none, 0, 0, []⟩⟩, rfl, by omega, E21, ?_, ?_, fun j hj => ?_, fun j hj => ?_, fun j hj => ?_⟩, by simp only [Int.toNat_natCast]; omega⟩
    · refine WAt.upd W7 (i := a) (by omega) (e' := ⟨some ⟨x.q, 0, none⟩, x, F, ⟨(szOf a : Int), none, 0, 0, []⟩⟩) e12.up (fun b hb => .inr (f12 b hb)) a12.lt (Ext.refl _ _) ⟨fun hn => (by cases hn), fun _ => ⟨rfl, a12.cnt (by omega)⟩, k12, fun k' j m hv => (by rw [v12] at hv; cases hv), ⟨Cells.nil _ _, rfl⟩, ?_, Rel.nil v12, Nat.zero_le _, fun b hb => (by cases hb)⟩ (fun b hb => (by cases hb)) (by omega) x3 ?_ (fun j hj => rfl) (by omega)
      · show (szOf a : Int) = (x.N : Int)
        rw [N12]
      · refine (congrArg (fun cs => BlkT w21 w.heap.size cs 62) (wsCells_congr fun j hj => ?_)).mp b21
        unfold upd
        by_cases e : j = a
        · subst e; simp
        · simp [e]
    · exact (b7.ext0 e12).ext x3 (by simp; omega)
    · by_cases e : j = a
      · subst e; rw [upd_same]; exact ⟨by simp, N12⟩
      · rw [upd_other es _ e]; exact hes j (by omega)
    · by_cases e : j = a
      · subst e; rw [upd_same]
      · rw [upd_other es _ e]; exact hF j hj
    · by_cases e : j = a
      · subst e; rw [upd_same]
        intro hm
        have := f12 _ hm
        have := b7.lt
        omega
      · rw [upd_other es _ e]; exact hsz j hj
  · have : a = 3 := by omega
    subst this
    exact k w.heap.size es w7 E7 W7 hes hF
/-- A step. -/
theorem Step_c {W0 w : World} {g cap : Nat} {es : Nat → En} (e0 : Ext [] W0 w) (h : WAt w W0.heap.size g cap es) (hcap : cap ≤ 1100000) {o : Op} (hin : o.In w) (hol : o.l ≤ 1048576) {R : Ending → World → Prop}
    (k : ∀ es' w', Ext [] W0 w' → WAt w' W0.heap.size g (cap + 1) es' → R (.returned (.bool true)) w') :
    Calls Try.prog 38 #[.pointer (some ⟨g, 0, none⟩), .agg #[.int .i64 o.kind, .int .i64 o.at_, .int .i64 o.to, .string o.key, .int .i64 o.slot, .int .i64 o.n, .int .i64 o.cmp, .slice o.A o.l o.c]] w R := by
  apply berthlaw08_World_Step_nf
  intro w10 h10
  obtain ⟨b10, x10, z10⟩ := box_new (cs := o.cells) h10
  have W10 := h.ext0 x10
  have E10 := e0.trans x10
  obtain ⟨i, hi, ei⟩ := and3 o.at_
  obtain ⟨j, hj, ej⟩ := and3 o.to
  refine ⟨_, cadd b10 rfl, sel_dec (fun hle => ⟨_, _, _, _, _, _, _, _, _, _, cadd0 b10, _, cadd b10 rfl, ?_⟩) (fun hgt => ⟨_, _, _, _, _, _, _, _, _, _, cadd0 b10, _, cadd b10 rfl, _, cadd b10 rfl, ?_⟩)⟩
  · rw [ei]
    refine changes_c W10 (by omega) (by have := E10.size; exact this) hi (hin.ext0 x10) fun es' w' ch _ => ⟨_, rfl, k es' w' ?_ ch.at_⟩
    refine E10.trans' ch.ext (fun b hb => .inr ?_)
    rcases List.mem_cons.1 hb with rfl | hb
    · exact h.gb
    · exact h.low i hi b hb
  · rw [ei, ej]
    exact asks_c W10 hcap hi hj (hin.ext0 x10) hol fun w' e => ⟨_, rfl, k es w' (E10.trans e) ((W10.ext0 e).more (by omega))⟩
end Go.Proofs.Ytjlkdadafddodaa
