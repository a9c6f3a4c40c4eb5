/- The document's table of names and slots: Put, Drop. -/
import Derived.Test.YtcampkaenlohbaaK14
set_option linter.unusedVariables false
set_option linter.unusedSimpArgs false
namespace Go.Proofs.Ytcampkaenlohbaa
open Go Go.V Go.B

theorem span_free : ∀ (rows : List Rw) (i : Nat) (x : Rw), spanOf rows ≤ i → rows[i]? = some x → x.held = false
  | [], i, x, _, h => by simp at h
  | y :: ys, i, x, hi, h => by
    unfold spanOf at hi
    cases i with
    | zero =>
      simp at h
      subst h
      split at hi
      · split at hi
        · omega
        · rename_i h0; simpa using h0
      · omega
    | succ i =>
      simp only [List.getElem?_cons_succ] at h
      refine span_free ys i x ?_ h
      split at hi <;> omega
theorem drs_trim (rows : List Rw) : drs (trimT rows) = drs rows := by
  unfold trimT
  have e : rows = rows.take (spanOf rows) ++ rows.drop (spanOf rows) := (List.take_append_drop _ _).symm
  conv => rhs; rw [e]
  unfold drs
  rw [drsF_app, drsF_none (xs := rows.drop (spanOf rows)), List.append_nil]
  intro x hx
  obtain ⟨i, hi⟩ := List.mem_iff_getElem?.1 hx
  rw [List.getElem?_drop] at hi
  exact span_free rows _ x (by omega) hi
theorem Dm.drop {s : TS} {ds : List DR} {i a : Nat} {x : Rw} {name : ByteArray} (h : Dm s ds) (hok : (dropV s name).1.ok) (hl : lookV s name = ((i : Int), 0)) (hx : s.rows[i]? = some x) (hh : x.held = true) (ha : ds[a]? = some ⟨(i : Int), x.name, x.v⟩) : Dm (dropV s name).1 (ds.eraseIdx a) := by
  refine ⟨hok, ?_⟩
  unfold dropV
  rw [hl, if_neg (by simp)]
  simp only [Int.toNat_natCast]
  rw [drs_trim, drs_set hx, if_neg (by simp [Rw.zero]), List.append_nil, List.eraseIdx_eq_take_drop_succ]
  exact h.rest hx hh ha
theorem Dm.put {s : TS} {ds : List DR} {name : ByteArray} {v : Int} (h : Dm s ds) (hok : (putV s name v).1.ok) (e : (putV s name v).1.rows = putRows s.rows (freeAt s.rows) ⟨true, name, v⟩) : Dm (putV s name v).1 (ds ++ [⟨(freeAt s.rows : Int), name, v⟩]) := by
  refine ⟨hok, ?_⟩
  rw [e]
  exact (List.Perm.append_right _ h.perm).trans (drs_put (x := ⟨true, name, v⟩) (free_at s.rows) rfl).symm
theorem refPut_c {w : World} {A : Option Addr} {n : Nat} {s : TS} {ds : List DR} (h : Dc w A n s ds) (c : Nat) (name : ByteArray) (v : Int) (hok : (putV s name v).1.ok) {R : Ending → World → Prop}
    (k : ∀ A' n' c' ds' w', Ext [] w w' → Dc w' A' n' (putV s name v).1 ds' → ((A' = A ∧ n' = n) ∨ ∀ g ∈ ownF A', w.heap.size ≤ g) → R (.returned (.tuple #[.agg ⟨dt (s.most : Int) A' n' c'⟩, .int .i64 (putV s name v).2.1, .int .i64 (putV s name v).2.2])) w') :
    Calls Try.prog 44 #[.agg ⟨dt (s.most : Int) A n c⟩, .string name, .int .i64 v] w R := by
  have hle := h.le
  have hlen := h.len
  have hrl := h.dm.ok.len
  have hrt := h.dm.ok.top
  unfold dt
  apply berthref05_Put_nf
  intro w1 h1 w2 h2
  obtain ⟨b1, x1, z1⟩ := box_new (cs := dt (s.most : Int) A n c) h1
  obtain ⟨b2, x2, z2⟩ := box_new (cs := [.int .i64 0, .slice none 0 0]) h2
  have e2 : Ext [] w w2 := x1.trans x2
  have b12 := b1.ext0 x2
  have same : ∀ {er : Int}, putV s name v = (s, 0, er) → ∀ {w3 : World}, Ext [] w w3 → BlkT w3 w1.heap.size [.int .i64 0, .slice none 0 0] 54 →
      ∃ w4, Sem.run Try.prog (Instr.storeAt 54 (.pointer (some ⟨w1.heap.size, 0, none⟩)) (.agg ⟨dt (s.most : Int) A n c⟩)) w3 = .ok () w4 ∧ ∃ n13, ∃ A14, ∃ A14l, ∃ A14c, V.cellsC (fun a_ x_ => World.cell? w4 a_ = some x_) ⟨w1.heap.size, 0, none⟩ [.int .i64 n13, .slice A14 A14l A14c] ∧ R (.returned (.tuple #[.agg #[.int .i64 n13, .slice A14 A14l A14c], .int .i64 0, .int .i64 er])) w4 := fun e w3 e3 b3 => by
    obtain ⟨w4, hr, b4, x4⟩ := dt_box (w0 := w) b3 rfl (s.most : Int) A n c
    refine ⟨w4, hr, _, _, _, _, cadd0 b4, ?_⟩
    have e4 : Ext [] w w4 := e3.trans' x4 (fun b hb => .inr (by simp at hb; omega))
    have := k A n c ds w4 e4 (by rw [e]; exact h.ext0 e4) (.inl ⟨rfl, rfl⟩)
    rw [e] at this
    exact this
  refine badName_c ⟨_, rfl, sel_dec (fun hb => ?_) (fun hb => ?_)⟩
  · have hl : lookV s name = (0, 51) := by unfold lookV; rw [if_pos hb]
    exact ⟨_, _, _, _, cadd0 b12, same (by unfold putV; rw [hl]; rfl) e2 b2⟩
  · refine ⟨_, _, _, _, cadd0 b12, refFindD (h.ext0 e2) _ c name fun w3 e3 => ⟨_, rfl, ?_⟩⟩
    have e23 := e2.trans e3
    have b13 := b12.ext0 e3
    rcases h.dm.find name with ⟨hg, hi⟩ | ⟨i, a, x, hg, hx, hh, hn, ha, hi⟩
    rotate_left
    · have hl : lookV s name = ((i : Int), 0) := by unfold lookV; rw [if_neg hb, hg]
      rw [hi]
      exact sel_true (by simp) ⟨_, _, _, _, cadd0 b13, same (by unfold putV; rw [hl]; rfl) e23 (b2.ext0 e3)⟩
    have hl : lookV s name = (0, 54) := by unfold lookV; rw [if_neg hb, hg]
    rw [hi]
    refine sel_false (by decide) ⟨_, _, _, cadd b13 rfl, _, cadd b13 rfl, sel_dec (fun hf => ?_) (fun hf => ?_)⟩
    · have hf' : s.most ≤ s.m.length := by rw [← h.dm.len]; omega
      exact ⟨_, _, _, _, cadd0 b13, same (by unfold putV; rw [hl, if_neg (by decide), if_neg (by decide), if_pos hf']) e23 (b2.ext0 e3)⟩
    · have hf' : ¬ s.most ≤ s.m.length := by rw [← h.dm.len]; omega
      have hput : putV s name v = (⟨s.most, putRows s.rows (freeAt s.rows) ⟨true, name, v⟩, mput s.m name (freeAt s.rows : Int), freeAt s.rows + 1⟩, (freeAt s.rows : Int), 0) := by
        unfold putV; rw [hl, if_neg (by decide), if_neg (by decide), if_neg hf']
      have hfl := free_le s.rows
      refine ⟨fun t w' => ∃ a : Nat, t = a ∧ a ≤ freeAt s.rows ∧ Ext [] w3 w', fun t _ => freeAt s.rows - t.toNat, ⟨0, rfl, by omega, Ext.refl _ _⟩, ?_⟩
      rintro _ _ w4 ⟨a, rfl, ha, e4⟩
      have b14 := b13.ext0 e4
      refine ⟨_, _, _, _, cadd0 b14, refAtD (h.ext0 (e23.trans e4)) _ c (a : Int) fun w5 e5 => ⟨_, rfl, ?_⟩⟩
      rcases Nat.lt_or_ge a (freeAt s.rows) with hlt | hge
      · obtain ⟨x, hx, hh⟩ := free_lo hlt
        obtain ⟨i, _, ei⟩ := h.dm.at_held hx hh
        rw [ei, up64 a (by omega)]
        exact sel_true (by simp) ⟨⟨a + 1, rfl, by omega, e4.trans e5⟩, by simp only [Int.toNat_natCast]; omega⟩
      · have hae : a = freeAt s.rows := by omega
        subst hae
        rw [h.dm.at_free (a := (freeAt s.rows : Int)) fun j y hy hyh e => by
          have : j = freeAt s.rows := by omega
          subst this
          rcases free_at s.rows with h0 | ⟨z, hz, hzf⟩
          · rw [h0] at hy; simp at hy
          · rw [hz] at hy; cases hy; rw [hzf] at hyh; cases hyh]
        refine sel_false (by decide) fun w6 h6 => ?_
        have e35 := e4.trans e5
        have x6 : Ext [] w5 w6 := (box_new (cs := []) h6).2.1
        have b15 := b13.ext0 e35
        have b16 := b15.ext0 x6
        obtain ⟨A', c', w7, hr7, own7, e7⟩ := copyL (P := Try.prog) (t := 52) (ty := 52) u52 i66 rfl (by omega) (h.cells.ext0 (e23.trans e35)) hlen h6 (by omega) c
        refine ⟨_, _, _, cadd b16 rfl, A', n, c', w7, hr7, fun w8 h8 => ?_⟩
        obtain ⟨b8, x8, z8⟩ := box_new (cs := DL.enc ⟨(freeAt s.rows : Int), name, v⟩) h8
        have hs5 := (e23.trans e35).size
        have hs7 := e7.size
        obtain ⟨A2, c2, w9, hr9, own9, x9, hat⟩ := (own7.ext0 x8).more (P := Try.prog) (t := 52) (ty := 52) (x := ⟨(freeAt s.rows : Int), name, v⟩) u52 i66 rfl (by omega) b8 (by have := x8.size; omega) (by omega)
        have hbase := own7.base
        have e17 : Ext [] w w7 := (e23.trans e35).trans e7
        have e9 : Ext [] w w9 := (e17.trans x8).trans' x9 (fun b hb => .inr (by have := (hbase b hb).1; omega))
        have h15 := b15.lt
        have b25 := (b2.ext0 e3).ext0 e35
        have h25 := b25.lt
        have b19 := ((b15.ext0 e7).ext0 x8).ext x9 (fun hm => by have := (hbase _ hm).1; omega)
        have b29 := ((b25.ext0 e7).ext0 x8).ext x9 (fun hm => by have := (hbase _ hm).1; omega)
        obtain ⟨w10, hr10, b10, x10⟩ := dt_box (w0 := w) b29 rfl (s.most : Int) A2 (n + 1) c2
        have hA2 : ∀ g ∈ ownF A2, w5.heap.size ≤ g := fun g hg => by
          rcases hat with h | h
          · rw [h] at hg; exact (hbase g hg).1
          · rw [h] at hg; simp at hg; omega
        refine ⟨A2, n + 1, c2, w9, hr9, _, cadd b19 rfl, w10, hr10, _, _, _, _, cadd0 b10, ?_⟩
        have := k A2 (n + 1) c2 (ds ++ [⟨(freeAt s.rows : Int), name, v⟩]) w10 (e9.trans' x10 (fun b hb => .inr (by simp at hb; omega))) ⟨own9.cells.ext x10 (fun g hg => by have := hA2 g hg; simp; omega), by simp [hlen], h.dm.put hok (by rw [hput])⟩ (.inr fun g hg => by have := hA2 g hg; omega)
        rw [hput] at this
        exact this
theorem refDrop_c {w : World} {A : Option Addr} {n : Nat} {s : TS} {ds : List DR} (h : Dc w A n s ds) (most : Int) (c : Nat) (name : ByteArray) (hok : (dropV s name).1.ok) {R : Ending → World → Prop}
    (k : ∀ A' n' c' ds' w', Ext [] w w' → Dc w' A' n' (dropV s name).1 ds' → ((A' = A ∧ n' = n) ∨ ∀ g ∈ ownF A', w.heap.size ≤ g) → R (.returned (.tuple #[.agg ⟨dt most A' n' c'⟩, .int .i64 (dropV s name).2.1, .int .i64 (dropV s name).2.2])) w') :
    Calls Try.prog 46 #[.agg ⟨dt most A n c⟩, .string name] w R := by
  have hle := h.le
  have hlen := h.len
  unfold dt
  apply berthref05_Drop_nf
  intro w1 h1 w2 h2
  obtain ⟨b1, x1, z1⟩ := box_new (cs := dt most A n c) h1
  obtain ⟨b2, x2, z2⟩ := box_new (cs := [.int .i64 0, .slice none 0 0]) h2
  have e2 : Ext [] w w2 := x1.trans x2
  have b12 := b1.ext0 x2
  have same : ∀ {er : Int}, dropV s name = (s, 0, er) → ∀ {w3 : World}, Ext [] w w3 → BlkT w3 w1.heap.size [.int .i64 0, .slice none 0 0] 54 →
      ∃ w4, Sem.run Try.prog (Instr.storeAt 54 (.pointer (some ⟨w1.heap.size, 0, none⟩)) (.agg ⟨dt most A n c⟩)) w3 = .ok () w4 ∧ ∃ n13, ∃ A14, ∃ A14l, ∃ A14c, V.cellsC (fun a_ x_ => World.cell? w4 a_ = some x_) ⟨w1.heap.size, 0, none⟩ [.int .i64 n13, .slice A14 A14l A14c] ∧ R (.returned (.tuple #[.agg #[.int .i64 n13, .slice A14 A14l A14c], .int .i64 0, .int .i64 er])) w4 := fun e w3 e3 b3 => by
    obtain ⟨w4, hr, b4, x4⟩ := dt_box (w0 := w) b3 rfl most A n c
    refine ⟨w4, hr, _, _, _, _, cadd0 b4, ?_⟩
    have e4 : Ext [] w w4 := e3.trans' x4 (fun b hb => .inr (by simp at hb; omega))
    have := k A n c ds w4 e4 (by rw [e]; exact h.ext0 e4) (.inl ⟨rfl, rfl⟩)
    rw [e] at this
    exact this
  refine badName_c ⟨_, rfl, sel_dec (fun hb => ?_) (fun hb => ?_)⟩
  · have hl : lookV s name = (0, 51) := by unfold lookV; rw [if_pos hb]
    exact ⟨_, _, _, _, cadd0 b12, same (by unfold dropV; rw [hl]; rfl) e2 b2⟩
  · refine ⟨_, _, _, _, cadd0 b12, refFindD (h.ext0 e2) _ c name fun w3 e3 => ⟨_, rfl, ?_⟩⟩
    have e23 := e2.trans e3
    have b13 := b12.ext0 e3
    have b23 := b2.ext0 e3
    rcases h.dm.find name with ⟨hg, hi⟩ | ⟨i, a, x, hg, hx, hh, hn, ha, hi⟩
    · have hl : lookV s name = (0, 54) := by unfold lookV; rw [if_neg hb, hg]
      rw [hi]
      exact sel_true (by decide) ⟨_, _, _, _, cadd0 b13, same (by unfold dropV; rw [hl]; rfl) e23 b23⟩
    have hl : lookV s name = ((i : Int), 0) := by unfold lookV; rw [if_neg hb, hg]
    have hal := (List.getElem?_eq_some_iff.1 ha).1
    rw [hi]
    refine sel_false (by simp) fun w4 h4 => ?_
    obtain ⟨b4, x4, z4⟩ := box_new (cs := []) h4
    have hs3 := e23.size
    have h13 := b13.lt
    have h23 := b23.lt
    have own4 : OwnL DL w4 w3.heap.size 66 (some ⟨w3.heap.size, 0, none⟩) 0 0 [] := by
      refine own_of b4 (by omega) (Nat.zero_le _) (by simp only [maxLen]; omega) ?_ (by simp [Lay.flat])
      simp
    refine ⟨fun B m c' t w' => ∃ j : Nat, t = j ∧ j ≤ n ∧ Ext [] w3 w' ∧ OwnL DL w' w3.heap.size 66 B m c' ((ds.take j).eraseIdx a), fun _ _ _ t _ => n - t.toNat, ⟨0, rfl, by omega, x4, by simpa using own4⟩, ?_⟩
    rintro B m c' _ _ w5 ⟨j, rfl, hj, e5, own5⟩
    have b15 := b13.ext0 e5
    have b25 := b23.ext0 e5
    have fin : ∀ {B' m' c'' w6}, Ext [] w3 w6 → OwnL DL w6 w3.heap.size 66 B' m' c'' ((ds.take (j + 1)).eraseIdx a) → j < n →
        (∃ j' : Nat, IntKind.wrap .i64 ((j : Int) + 1) = j' ∧ j' ≤ n ∧ Ext [] w3 w6 ∧ OwnL DL w6 w3.heap.size 66 B' m' c'' ((ds.take j').eraseIdx a)) ∧ n - (IntKind.wrap .i64 ((j : Int) + 1)).toNat < n - (j : Int).toNat := fun p1 p2 hjn => by
      rw [up64 j (by omega)]
      exact ⟨⟨j + 1, rfl, by omega, p1, p2⟩, by simp only [Int.toNat_natCast]; omega⟩
    refine ⟨_, _, _, cadd b15 rfl, sel_dec (fun hlt => ?_) (fun hge => ?_)⟩
    · have hjn : j < n := by omega
      obtain ⟨y, ad, hyy, rfl, ry⟩ := (h.cells.ext0 (e23.trans e5)).row hlen (a := j) hjn
      refine sel_intro (fun hne => ⟨_, _, _, cadd b15 rfl, when_dec ⟨by omega, by omega⟩ (ptr_in ⟨_, _, _, ry, fun w6 h6 => ?_⟩)⟩) (fun heq => fin e5 ?_ hjn)
      · have hne : j ≠ a := by
          intro e; subst e; simp at hne
        obtain ⟨b6, x6, z6⟩ := box_new (cs := DL.enc y) h6
        have hm : m ≤ 65536 := by
          rw [← own5.len]
          have : ((ds.take j).eraseIdx a).length ≤ (ds.take j).length := by rw [List.length_eraseIdx]; split <;> omega
          have : (ds.take j).length ≤ j := by simp; omega
          omega
        obtain ⟨B', c'', w7, hr7, own7, x7, hat⟩ := (own5.ext0 x6).more (P := Try.prog) (t := 52) (ty := 52) (x := y) u52 i66 rfl (by omega) b6 (by have := x6.size; have := e5.size; omega) (by omega)
        have hbase := own5.base
        refine ⟨B', m + 1, c'', w7, hr7, fin ((e5.trans x6).trans' x7 (fun b hb => .inr (hbase b hb).1)) ?_ hjn⟩
        have : (ds.take (j + 1)).eraseIdx a = (ds.take j).eraseIdx a ++ [y] := by
          rw [snoc_at hyy]
          rcases Nat.lt_or_ge a j with h0 | h0
          · rw [List.eraseIdx_append_of_lt_length (by simp; omega)]
          · rw [List.eraseIdx_of_length_le (by simp; omega), List.eraseIdx_of_length_le (by simp; omega)]
        rw [this]; exact own7
      · have heq : j = a := by
          have : (j : Int) = a := by simpa using heq
          omega
        subst heq
        have : (ds.take (j + 1)).eraseIdx j = (ds.take j).eraseIdx j := by
          have e1 : (ds.take j).length = j := by simp; omega
          have e2 : (ds.take j).eraseIdx j = ds.take j := List.eraseIdx_of_length_le (by omega)
          rw [snoc_at hyy, List.eraseIdx_append_of_length_le (by omega), e1, Nat.sub_self, e2]
          simp
        rw [this]; exact own5
    · have : j = n := by omega
      subst this
      rw [List.take_of_length_le (by omega)] at own5
      have hbase := own5.base
      have hs5 := e5.size
      obtain ⟨y, ad, hyy, rfl, ry⟩ := (h.cells.ext0 (e23.trans e5)).row hlen (a := a) (by omega)
      rw [ha] at hyy
      cases hyy
      have x2n : w1.heap.size ∉ ownF B := fun hm => by have := (hbase _ hm).1; omega
      obtain ⟨w6, hr6, b6, x6⟩ := dt_box (w0 := w) (show BlkT w5.drew w1.heap.size _ _ from b25) rfl most B m c'
      have hag : ∀ x, ad.block = x → x < w.heap.size := fun x hx => by
        have hc := ((h.cells.row hlen (a := a) (by omega)))
        obtain ⟨_, ad', _, e, rd⟩ := hc
        cases e
        have := World.block_lt_of_cell? w _ (rd 0 _ rfl)
        rw [add_block, add_block] at this
        omega
      have ry0 := ry 0 _ rfl
      refine ⟨fun w' => World.cell? w' (Addr.add ⟨w.heap.size, 0, none⟩ 0) = some (.int .i64 most) ∧ World.cell? w' (Addr.add ⟨w.heap.size, 0, none⟩ 1) = some (.slice (some ad) j c) ∧ World.cell? w' (Addr.add (Addr.add ad ((Int.toNat (a : Int)) * 3)) 0) = some (.int .i64 (i : Int)), ⟨cadd b15 rfl, cadd b15 rfl, ry0⟩, most, fun w' hw => hw.1, some ad, j, c, fun w' hw => hw.2.1, when_dec ⟨by omega, by omega⟩ (ptr_in ⟨_, fun w' hw => hw.2.2, w6, hr6, ⟨?_, ?_, ?_⟩, _, _, _, _, cadd0 b6, ?_⟩)⟩
      · exact cell_ext x6 (cadd b15 rfl) (by rw [add_block]; simp; omega)
      · exact cell_ext x6 (cadd b15 rfl) (by rw [add_block]; simp; omega)
      · exact cell_ext x6 ry0 (by rw [add_block, add_block]; have := hag _ rfl; simp; omega)
      · have e36 : Ext [] w w6 := ((e23.trans e5).drew).trans' x6 (fun b hb => .inr (by simp at hb; omega))
        have hd : dropV s name = ((dropV s name).1, (i : Int), 0) := by
          unfold dropV; rw [hl]; simp
        have := k B m c' (ds.eraseIdx a) w6 e36 ⟨(own5.cells).ext (show Ext [w1.heap.size] w5 w6 from ⟨x6.os, x6.tape, x6.output, x6.size, x6.same⟩) (fun g hg => by simp; intro e; subst e; exact x2n hg), own5.len, h.dm.drop hok hl hx hh ha⟩ (.inr fun g hg => by have := (hbase g hg).1; omega)
        rw [hd] at this
        exact this
end Go.Proofs.Ytcampkaenlohbaa
