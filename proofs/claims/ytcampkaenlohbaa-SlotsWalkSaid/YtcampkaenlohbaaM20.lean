/- Slots: one step of a script; all queries of one table. -/
import Derived.Test.YtcampkaenlohbaaM19
set_option linter.unusedVariables false
set_option linter.unusedSimpArgs false
namespace Go.Proofs.Ytcampkaenlohbaa
open Go Go.V Go.B

theorem and3 (x : Int) : ∃ i : Nat, i < 4 ∧ IntKind.wrap .i64 ((BitVec.toNat (BitVec.ofInt 64 x &&& BitVec.ofInt 64 3) : Nat) : Int) = (i : Int) := by
  have h : BitVec.toNat (BitVec.ofInt 64 x &&& BitVec.ofInt 64 3) ≤ 3 := by
    rw [BitVec.toNat_and]
    exact Nat.and_le_right
  exact ⟨_, by omega, w64 (by omega) (by omega)⟩
theorem Dm.row {s : TS} {ds : List DR} (h : Dm s ds) {d : DR} (hd : d ∈ ds) : findV s d.name = (d.slot, d.v, true) ∧ atV s d.slot = ⟨true, d.name, d.v⟩ := by
  obtain ⟨i, x, hx, hh, rfl⟩ := h.mem.1 hd
  refine ⟨?_, ?_⟩
  · rcases find_tell h x.name with ⟨_, hi⟩ | ⟨j, a, y, e, hy, hyh, hn, _, _⟩
    · obtain ⟨a, _, e⟩ := h.find_held hx hh rfl
      rw [e] at hi
      omega
    · have := h.ok.uniq hy hx hyh hh hn
      subst this
      rw [hx] at hy
      cases hy
      exact e
  · rcases at_tell h (i : Int) with ⟨_, hi⟩ | ⟨j, a, y, e, e2, hy, hyh, _, _⟩
    · obtain ⟨a, _, e⟩ := h.at_held hx hh
      rw [e] at hi
      omega
    · have : i = j := by omega
      subst this
      rw [hx] at hy
      cases hy
      rw [e2]
      cases x
      simp at hh
      subst hh
      rfl
theorem prs_of {s : TS} {ds : List DR} (m : Int) : (prs s.rows).take m.toNat = ((drs s.rows).map DR.pr).take m.toNat := by rw [drs_pr]
set_option maxRecDepth 4000 in
theorem step_c {w0 w : World} {X Y : List Nat} {wb : Nat} {tag : Nat → Nat} {rs : List Reg} (h : St w0 X Y w wb tag rs 4) (o : Op) {R : Ending → World → Prop} (k : ∀ w' tag' rs', St w0 X Y w' wb tag' rs' 4 → R (.returned (.bool true)) w') :
    Calls Try.prog 20 #[.pointer (some ⟨wb, 0, none⟩), .agg ⟨o.cells⟩] w R := by
  apply berthlaw05_World_step_nf
  intro w7 h7
  obtain ⟨b7, x7, z7⟩ := box_new (cs := o.cells) h7
  obtain ⟨i, hi, ei⟩ := and3 o.at_
  obtain ⟨j, hj, ej⟩ := and3 o.to
  refine ⟨_, cadd b7 rfl, _, cadd b7 rfl, lt_eq ei (lt_eq ej ?_)⟩
  have st7 := h.ext0 7 x7
  obtain ⟨r, hr⟩ := st7.at hi
  have ii : (0 : Int) ≤ (i : Int) ∧ (i : Int) < 4 := by omega
  refine ⟨fun w' => Ext [] w7 w', ((Ext.refl _ _).drew).drew, ptr_in (when_dec ii ⟨_, fun w' e => (st7.ext0 7 e).read_p hr, ptr_in (when_dec ii ⟨_, _, _, _, cellsC_S (S := fun w' => Ext [] w7 w') (fun w' e => (st7.ext0 7 e).read_d hr), fun w19 h19 => ?_⟩)⟩)⟩
  obtain ⟨b19, x19', z19⟩ := box_new (cs := [.int .i64 0, .slice none 0 0]) h19
  have x19 : Ext [] w7 w19 := (x19'.undrew).undrew
  have b19 : BlkT w19 w7.heap.size [.int .i64 0, .slice none 0 0] 54 := b19
  obtain ⟨w20, hr20, b20, x20⟩ := dt_box (w0 := w) b19 rfl (r.s.most : Int) r.A r.n r.c
  have e20 : Ext [] w7 w20 := x19.trans' x20 (fun b hb => .inr (by simp at hb; omega))
  have bo := b7.ext0 e20
  have st20 := st7.ext0 7 e20
  have hri := st20.regs i r (by omega) hr
  have stay : ∀ w', Ext [] w20 w' → R (.returned (.bool true)) w' := fun w' e => k w' _ _ (st20.ext0 7 e)
  have hd := hri.d
  have ht := hri.t
  refine ⟨x19, w20, hr20, _, cadd bo rfl, ?_⟩
  have ch : ∀ {R' : Ending → World → Prop}, (∀ w', R (.returned (.bool true)) w' → R' (.returned (.bool true)) w') → Calls Try.prog 33 #[.pointer (some ⟨wb, 0, none⟩), .agg ⟨o.cells⟩, .int .i64 (i : Int)] w20 R' := fun kk =>
    changes_c st20 o hi fun w' ⟨tag', r', hst, _⟩ => kk w' (k w' _ _ hst)
  refine sel_intro (fun h1 => sel_true h1 ⟨_, _, _, _, _, cadd0 bo, ch fun w' q => ⟨_, rfl, q⟩⟩) (fun h1 => sel_intro (fun h2 => sel_true h2 ⟨_, _, _, _, _, cadd0 bo, ch fun w' q => ⟨_, rfl, q⟩⟩) (fun h2 => sel_intro (fun h3 => sel_true h3 ⟨_, _, _, _, _, cadd0 bo, ch fun w' q => ⟨_, rfl, q⟩⟩) (fun h3 => sel_intro (fun h4 => ⟨_, _, _, _, _, cadd0 bo, ch fun w' q => ⟨_, rfl, q⟩⟩) (fun h4 => ?_))))
  refine sel_intro (fun h5 => ?_) (fun h5 => sel_intro (fun h6 => ?_) (fun h6 => sel_intro (fun h7 => ?_) (fun h7 => sel_intro (fun h8 => ?_) (fun h8 => sel_intro (fun h9 => ?_) (fun h9 => sel_intro (fun h10 => ?_) (fun h10 => stay w20 (Ext.refl _ _)))))))
  · -- Find
    refine ⟨_, cadd bo rfl, Tb_Find ht o.name fun w35 e35 => ⟨_, _, _, rfl, _, _, _, _, cadd0 (b20.ext0 e35), _, cadd (bo.ext0 e35) rfl, refFindD (hd.ext0 e35) _ r.c o.name fun w41 e41 => ⟨_, rfl, ?_⟩⟩⟩
    have e := e35.trans e41
    rcases find_tell hd.dm o.name with ⟨ev, hi⟩ | ⟨x1, a, x, ev, hx, hh, hn, ha, hi⟩
    · rw [ev, hi]
      exact sel_true (by decide) (sel_true rfl (sel_true rfl (stay w41 e)))
    · rw [ev, hi]
      have hl := hd.len
      have hal := (List.getElem?_eq_some_iff.1 ha).1
      obtain ⟨y, ad, hyy, hA, ry⟩ := (hd.cells.ext0 e).row hd.len (a := a) (by omega)
      rw [ha] at hyy
      cases hyy
      rw [hA] at b20
      refine sel_false (by simp) (sel_true rfl ⟨_, _, _, cadd (b20.ext0 e) rfl, when_dec ⟨by omega, by omega⟩ (ptr_in ⟨_, ry 0 _ rfl, sel_true (by simp) ⟨_, _, _, cadd (b20.ext0 e) rfl, when_dec ⟨by omega, by omega⟩ (ptr_in ⟨_, ry 2 _ rfl, ?_⟩)⟩⟩)⟩)
      show R (.returned (.bool (x.v == x.v))) w41
      rw [show (x.v == x.v) = true by simp]
      exact stay w41 e
  · -- At
    refine ⟨_, cadd bo rfl, Tb_At ht o.v fun w53 e53 => ⟨_, _, _, rfl, _, _, _, _, cadd0 (b20.ext0 e53), _, cadd (bo.ext0 e53) rfl, refAtD (hd.ext0 e53) _ r.c o.v fun w59 e59 => ⟨_, rfl, ?_⟩⟩⟩
    have e := e53.trans e59
    rcases at_tell hd.dm o.v with ⟨ev, hi⟩ | ⟨x1, a, x, es, ev, hx, hh, ha, hi⟩
    · rw [ev, hi]
      exact sel_true (by decide) (sel_true (by simp [Rw.zero]) (sel_true rfl (stay w59 e)))
    · rw [ev, hi, hh]
      have hl := hd.len
      have hal := (List.getElem?_eq_some_iff.1 ha).1
      obtain ⟨y, ad, hyy, hA, ry⟩ := (hd.cells.ext0 e).row hd.len (a := a) (by omega)
      rw [ha] at hyy
      cases hyy
      rw [hA] at b20
      refine sel_false (by simp) (sel_true rfl ⟨_, _, _, cadd (b20.ext0 e) rfl, when_dec ⟨by omega, by omega⟩ (ptr_in ⟨_, ry 1 _ rfl, sel_true (by simp) ⟨_, _, _, cadd (b20.ext0 e) rfl, when_dec ⟨by omega, by omega⟩ (ptr_in ⟨_, ry 2 _ rfl, ?_⟩)⟩⟩)⟩)
      show R (.returned (.bool (x.v == x.v))) w59
      rw [show (x.v == x.v) = true by simp]
      exact stay w59 e
  · -- Len, Span
    refine ⟨fun w' => Ext [] w20 w', (Ext.refl _ _).drew, _, _, _, fun w' e => cadd (b20.ext0 e) rfl, Tb_Len (ht.ext0 (Ext.refl [] w20).drew) ⟨_, rfl, (Ext.refl _ _).drew, sel_true (by rw [← hd.len, hd.dm.len]; simp) ⟨_, _, _, _, cellsC_S (S := fun w' => Ext [] w20 w') (fun w' e => cadd0 (b20.ext0 e)), Tb_Span (ht.ext0 (Ext.refl [] w20).drew) ⟨_, rfl, (Ext.refl _ _).drew, refSpan_c (hd.ext0 (Ext.refl [] w20).drew) _ r.c fun w79 e79 => ⟨_, rfl, e79.undrew, ?_⟩⟩⟩⟩⟩
    rw [show ((r.s.rows.length : Int) == (r.s.rows.length : Int)) = true by simp]
    exact stay w79 e79.undrew
  · -- Names
    refine ⟨fun w' => Ext [] w20 w', (Ext.refl _ _).drew, _, _, _, _, cellsC_S (S := fun w' => Ext [] w20 w') (fun w' e => cadd0 (b20.ext0 e)), Names_c (ht.ext0 (Ext.refl [] w20).drew) fun A1 n1 c1 w86 e86 own86 => ⟨_, _, _, rfl, e86.undrew, refNames_c (hd.ext0 e86.undrew) _ r.c fun A2 n2 c2 w89 e89 own89 => ⟨_, _, _, rfl, e86.undrew.trans e89, ?_⟩⟩⟩
    refine textsAre_c (own86.ext0 e89).cells own86.len own89.cells own89.len ?_ (fun _ w92 e92 => ⟨_, rfl, (e86.undrew.trans e89).trans e92, stay w92 ((e86.undrew.trans e89).trans e92)⟩) (fun hne => absurd rfl hne)
    have h1 := own86.len
    have h2 := prs_len r.s.rows
    have h3 := ht.len
    simp only [srt, names, List.length_map, List.length_mergeSort] at h1
    omega
  · -- All
    refine ⟨_, cadd bo rfl, fun w' => Ext [] w20 w', (Ext.refl _ _).drew, _, _, _, _, cellsC_S (S := fun w' => Ext [] w20 w') (fun w' e => cadd0 (b20.ext0 e)), taken_c (ht.ext0 (Ext.refl [] w20).drew) _ fun A1 n1 c1 w86 e86 own86 => ⟨_, _, _, rfl, e86.undrew, refBySlot_c (hd.ext0 e86.undrew) _ r.c fun A2 n2 c2 w89 e89 own89 => ⟨_, _, _, rfl, e86.undrew.trans e89, ?_⟩⟩⟩
    refine rowsAre_c _ (own86.ext0 e89).cells own86.len own89.cells own89.len ?_ (prs_of (ds := r.ds) _) (fun w92 e92 => ⟨_, rfl, (e86.undrew.trans e89).trans e92, stay w92 ((e86.undrew.trans e89).trans e92)⟩)
    have h1 := own89.len
    have h2 := ht.len
    have h3 : r.s.rows.countP (·.held) ≤ r.s.rows.length := List.countP_le_length
    rw [drs_len] at h1
    omega
  · -- Copy
    exact copied_c st20 hi hj fun w' tag' rs' q => ⟨_, rfl, k w' _ _ q⟩
set_option maxRecDepth 4000 in
theorem seen_c {w : World} {p : Option Nat} {f : List Nat} {s : TS} {A : Option Addr} {n c : Nat} {ds : List DR} (ht : Tb w p f s) (hd : Dc w A n s ds) (most : Int) {R : Ending → World → Prop} (k : ∀ w', Ext [] w w' → R (.returned (.bool true)) w') :
    Calls Try.prog 21 #[pv p, .agg ⟨dt most A n c⟩] w R := by
  have hle := hd.le
  have hlen := hd.len
  have hrl := ht.len
  unfold dt
  apply berthlaw05_seen_nf
  intro w4 h4
  obtain ⟨b4, x4, z4⟩ := box_new (cs := dt most A n c) h4
  have ht4 := (ht.ext0 x4).ext0 (Ext.refl [] w4).drew
  have rd : V.cellsC (fun a_ x_ => ∀ w6, Ext [] w4 w6 → World.cell? w6 a_ = some x_) ⟨w.heap.size, 0, none⟩ (dt most A n c) := cellsC_S (S := fun w' => Ext [] w4 w') (fun w' e => cadd0 (b4.ext0 e))
  have rd1 : ∀ w6, Ext [] w4 w6 → World.cell? w6 (Addr.add ⟨w.heap.size, 0, none⟩ 1) = some (.slice A n c) := fun w' e => cadd (b4.ext0 e) rfl
  refine ⟨fun w' => Ext [] w4 w', (Ext.refl _ _).drew, _, _, _, rd1, Tb_Len ht4 ⟨_, rfl, (Ext.refl _ _).drew, sel_false (by rw [← hd.len, hd.dm.len]; simp) ⟨_, _, _, _, rd, Tb_Span ht4 ⟨_, rfl, (Ext.refl _ _).drew, refSpan_c ((hd.ext0 x4).ext0 (Ext.refl [] w4).drew) _ c fun w18 e18 => ⟨_, rfl, e18.undrew, sel_false (by simp) ⟨_, _, _, _, rd, ?_⟩⟩⟩⟩⟩⟩
  have e18 := e18.undrew
  refine Names_c ((ht.ext0 x4).ext0 e18) fun A1 n1 c1 w23 e23 own23 => ⟨_, _, _, rfl, e18.trans e23, refNames_c ((hd.ext0 x4).ext0 (e18.trans e23)) _ c fun A2 n2 c2 w26 e26 own26 => ⟨_, _, _, rfl, (e18.trans e23).trans e26, ?_⟩⟩
  have e26' := (e18.trans e23).trans e26
  have hnames : n1 < 4611686018427387904 := by
    have h1 := own23.len
    have h2 := prs_len s.rows
    simp only [srt, names, List.length_map, List.length_mergeSort] at h1
    omega
  refine textsAre_c (own23.ext0 e26).cells own23.len own26.cells own26.len hnames (fun _ w29 e29 => ⟨_, rfl, e26'.trans e29, sel_false rfl ⟨_, _, _, rd1, _, _, _, _, rd, _, _, _, rd1, ?_⟩⟩) (fun hne => absurd rfl hne)
  have e29' := e26'.trans e29
  refine taken_c ((ht.ext0 x4).ext0 e29') _ fun A3 n3 c3 w36 e36 own36 => ⟨_, _, _, rfl, e29'.trans e36, refBySlot_c ((hd.ext0 x4).ext0 (e29'.trans e36)) _ c fun A4 n4 c4 w39 e39 own39 => ⟨_, _, _, rfl, (e29'.trans e36).trans e39, ?_⟩⟩
  have e39' := (e29'.trans e36).trans e39
  have hb4 : n4 ≤ 65536 := by
    have h1 := own39.len
    have h3 : s.rows.countP (·.held) ≤ s.rows.length := List.countP_le_length
    rw [drs_len] at h1
    omega
  refine rowsAre_c _ (own36.ext0 e39).cells own36.len own39.cells own39.len hb4 (prs_of (ds := ds) _) (fun w42 e42 => ⟨_, rfl, e39'.trans e42, sel_false rfl ⟨_, _, _, rd1 w42 (e39'.trans e42), ?_⟩⟩)
  have e42' := e39'.trans e42
  refine ⟨fun t w' => ∃ a : Nat, t = a ∧ a ≤ n ∧ Ext [] w4 w', fun t _ => n - t.toNat, ⟨0, rfl, by omega, e42'⟩, ?_⟩
  rintro _ _ w48 ⟨a, rfl, ha, e48⟩
  refine sel_dec (fun hlt => ?_) (fun hge => ?_)
  · obtain ⟨d, ad, hdd, rfl, rr⟩ := ((hd.ext0 x4).ext0 e48).cells.row hlen (a := a) (by omega)
    obtain ⟨hf, hat⟩ := hd.dm.row (List.mem_of_getElem? hdd)
    refine when_dec ⟨by omega, by omega⟩ (ptr_in ⟨_, _, _, rr, fun w53 h53 => ?_⟩)
    obtain ⟨b53, x53, z53⟩ := box_new (cs := [.int .i64 0, .string ByteArray.empty, .int .i64 0]) h53
    obtain ⟨w54, hr54, b54, x54⟩ := storeW (P := Try.prog) (t := 66) (n := 3) (vs := DL.enc d) i66s b53 rfl rfl (DL.one d)
    have e54 : Ext [] w48 w54 := x53.trans' x54 (fun b hb => .inr (by simp at hb; omega))
    refine ⟨w54, hr54, _, cadd b54 rfl, Tb_Find ((ht.ext0 x4).ext0 (e48.trans e54)) d.name fun w60 e60 => ⟨_, _, _, rfl, _, cadd (b54.ext0 e60) rfl, Tb_At ((ht.ext0 x4).ext0 ((e48.trans e54).trans e60)) d.slot fun w66 e66 => ⟨_, _, _, rfl, ?_⟩⟩⟩
    have b66 := (b54.ext0 e60).ext0 e66
    rw [hf, hat]
    refine sel_false rfl (sel_false rfl ⟨_, cadd b66 rfl, sel_false (by simp) ⟨_, cadd b66 rfl, sel_false (by simp) ⟨_, cadd b66 rfl, sel_false (by simp) ⟨_, cadd b66 rfl, sel_false (by simp) ?_⟩⟩⟩⟩)
    rw [up64 a (by omega)]
    exact ⟨⟨a + 1, rfl, by omega, ((e48.trans e54).trans e60).trans e66⟩, by simp only [Int.toNat_natCast]; omega⟩
  · refine ⟨fun t w' => ∃ a : Nat, t = (a : Int) - 1 ∧ a ≤ s.rows.length + 2 ∧ Ext [] w4 w', fun t _ => s.rows.length + 3 - (t + 1).toNat, ⟨0, by omega, by omega, e48⟩, ?_⟩
    rintro _ _ w75 ⟨a, rfl, ha, e75⟩
    refine ⟨_, _, _, _, cadd0 (b4.ext0 e75), refSpan_c ((hd.ext0 x4).ext0 e75) _ c fun w80 e80 => ⟨_, rfl, sel_dec (fun hlt => ?_) (fun hge => k w80 ((x4.trans e75).trans e80))⟩⟩
    have fin : ∀ w', Ext [] w4 w' → (∃ a' : Nat, IntKind.wrap .i64 ((a : Int) - 1 + 1) = (a' : Int) - 1 ∧ a' ≤ s.rows.length + 2 ∧ Ext [] w4 w') ∧ s.rows.length + 3 - (IntKind.wrap .i64 ((a : Int) - 1 + 1) + 1).toNat < s.rows.length + 3 - ((a : Int) - 1 + 1).toNat := fun w' e => by
      rw [w64 (by omega) (by omega)]
      exact ⟨⟨a + 1, by omega, by omega, e⟩, by omega⟩
    refine ⟨_, _, _, _, cadd0 (b4.ext0 (e75.trans e80)), refAtD ((hd.ext0 x4).ext0 (e75.trans e80)) _ c _ fun w85 e85 => ⟨_, rfl, sel_dec (fun hneg => ?_) (fun hpos => fin w85 ((e75.trans e80).trans e85))⟩⟩
    refine Tb_At ((ht.ext0 x4).ext0 ((e75.trans e80).trans e85)) _ fun w90 e90 => ⟨_, _, _, rfl, ?_⟩
    rcases at_tell hd.dm ((a : Int) - 1) with ⟨ev, _⟩ | ⟨i, b, x, _, _, _, _, _, hi⟩
    · rw [ev]
      exact sel_false (by simp [Rw.zero]) (sel_false rfl (sel_false rfl (fin w90 (((e75.trans e80).trans e85).trans e90))))
    · omega
end Go.Proofs.Ytcampkaenlohbaa
