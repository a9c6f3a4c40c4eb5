/- The document's table of names and slots: its calls. -/
import Derived.Test.YtcampkaenlohbaaK11
set_option linter.unusedVariables false
set_option linter.unusedSimpArgs false
namespace Go.Proofs.Ytcampkaenlohbaa
open Go Go.V Go.B

structure Dc (w : World) (A : Option Addr) (n : Nat) (s : TS) (ds : List DR) : Prop where
  cells : Cells w A (DL.flat ds)
  len : ds.length = n
  dm : Dm s ds
theorem Dc.ext0 {w w' : World} {A : Option Addr} {n : Nat} {s : TS} {ds : List DR} (h : Dc w A n s ds) (e : Ext [] w w') : Dc w' A n s ds := ⟨h.cells.ext0 e, h.len, h.dm⟩
theorem Dc.ext {F : List Nat} {w w' : World} {A : Option Addr} {n : Nat} {s : TS} {ds : List DR} (h : Dc w A n s ds) (e : Ext F w w') (hF : ∀ b ∈ ownF A, b ∉ F) : Dc w' A n s ds := ⟨h.cells.ext e hF, h.len, h.dm⟩
theorem Dc.le {w : World} {A : Option Addr} {n : Nat} {s : TS} {ds : List DR} (h : Dc w A n s ds) : n ≤ 65536 := by rw [← h.len]; exact h.dm.len_le
theorem i54s : (Try.prog.info? 54).map (·.size) = some 2 := by kernel_rfl
theorem i66s : (Try.prog.info? 66).map (·.size) = some 3 := by kernel_rfl
theorem i66 : (Try.prog.info? 66).map (fun i => (i.zero, i.size, i.bytes)) = some (some (.agg #[.int .i64 0, .string ByteArray.empty, .int .i64 0]), 3, 32) := by kernel_rfl
theorem u52 : Try.prog.underlying 52 = some (.slice 66) := by kernel_rfl
theorem dt_one (most : Int) (A : Option Addr) (n c : Nat) : ∀ v ∈ dt most A n c, v.oneCell' = true := by
  intro v hv
  simp only [dt, List.mem_cons, List.not_mem_nil, or_false] at hv
  rcases hv with rfl | rfl <;> rfl
def spanD (ds : List DR) : Int := ds.foldl (fun n d => if d.slot + 1 > n then d.slot + 1 else n) 0
theorem spanD_snoc (ds : List DR) (d : DR) : spanD (ds ++ [d]) = if d.slot + 1 > spanD ds then d.slot + 1 else spanD ds := by simp [spanD]
theorem spanD_le' : ∀ (ds : List DR) (z k : Int), z ≤ k → (∀ d ∈ ds, d.slot + 1 ≤ k) → ds.foldl (fun n d => if d.slot + 1 > n then d.slot + 1 else n) z ≤ k
  | [], z, k, h0, _ => h0
  | d :: ds, z, k, h0, hk => by
    rw [List.foldl_cons]
    refine spanD_le' ds _ k ?_ (fun x hx => hk x (List.mem_cons_of_mem _ hx))
    have := hk d (by simp)
    split <;> omega
theorem spanD_le (ds : List DR) (k : Int) (h0 : 0 ≤ k) (hk : ∀ d ∈ ds, d.slot + 1 ≤ k) : spanD ds ≤ k := spanD_le' ds 0 k h0 hk
theorem spanD_ge' : ∀ (ds : List DR) (z : Int), z ≤ ds.foldl (fun n d => if d.slot + 1 > n then d.slot + 1 else n) z ∧ ∀ d ∈ ds, d.slot + 1 ≤ ds.foldl (fun n d => if d.slot + 1 > n then d.slot + 1 else n) z
  | [], z => ⟨Int.le_refl _, fun d hd => by cases hd⟩
  | d :: ds, z => by
    rw [List.foldl_cons]
    have ih := spanD_ge' ds (if d.slot + 1 > z then d.slot + 1 else z)
    have h0 : z ≤ (if d.slot + 1 > z then d.slot + 1 else z) ∧ d.slot + 1 ≤ (if d.slot + 1 > z then d.slot + 1 else z) := by split <;> omega
    refine ⟨by omega, fun x hx => ?_⟩
    rcases List.mem_cons.1 hx with rfl | hx
    · omega
    · exact ih.2 x hx
theorem spanD_ge (ds : List DR) : 0 ≤ spanD ds ∧ ∀ d ∈ ds, d.slot + 1 ≤ spanD ds := spanD_ge' ds 0
theorem Dm.span {s : TS} {ds : List DR} (h : Dm s ds) : spanD ds = (s.rows.length : Int) := by
  have h1 := spanD_le ds (s.rows.length : Int) (by omega) (fun d hd => by have := (h.slot_lt hd).2; omega)
  have h2 := spanD_ge ds
  rcases Nat.eq_zero_or_pos s.rows.length with h0 | h0
  · have := h2.1
    omega
  · have hl : s.rows[s.rows.length - 1]? = some (s.rows[s.rows.length - 1]'(by omega)) := List.getElem?_eq_getElem (by omega)
    have hh := h.ok.last _ (by rw [List.getLast?_eq_getElem?]; exact hl)
    have := h2.2 _ (h.mem.2 ⟨_, _, hl, hh, rfl⟩)
    simp only at this
    omega
theorem refSpan_c {w : World} {A : Option Addr} {n : Nat} {s : TS} {ds : List DR} (h : Dc w A n s ds) (most : Int) (c : Nat) {R : Ending → World → Prop} (k : ∀ w', Ext [] w w' → R (.returned (.int .i64 (s.rows.length : Int))) w') :
    Calls Try.prog 36 #[.agg ⟨dt most A n c⟩] w R := by
  have hle := h.le
  have hlen := h.len
  have hrl := h.dm.ok.len
  have hrt := h.dm.ok.top
  unfold dt
  apply berthref05_Table_Span_nf
  intro w1 h1
  obtain ⟨b1, x1, z1⟩ := box_new (cs := dt most A n c) h1
  refine ⟨fun m t w' => ∃ a : Nat, t = a ∧ a ≤ n ∧ w' = w1 ∧ m = spanD (ds.take a), fun _ t _ => n - t.toNat, ⟨0, rfl, by omega, rfl, rfl⟩, ?_⟩
  rintro _ _ _ w2 ⟨a, rfl, ha, rfl, rfl⟩
  refine ⟨_, _, _, cadd b1 rfl, sel_dec (fun hlt => ⟨_, _, _, cadd b1 rfl, ?_⟩) (fun hge => ?_)⟩
  · obtain ⟨x, ad, hxx, rfl, rx⟩ := (h.cells.ext0 x1).row hlen (a := a) (by omega)
    have hs := h.dm.slot_lt (List.mem_of_getElem? hxx)
    refine when_dec ⟨by omega, by omega⟩ (ptr_in ⟨_, rx 0 _ rfl, ?_⟩)
    rw [w64 (x := x.slot + 1) (by omega) (by omega), up64 a (by omega)]
    exact ⟨⟨a + 1, rfl, by omega, rfl, by rw [snoc_at hxx, spanD_snoc]⟩, by simp only [Int.toNat_natCast]; omega⟩
  · have : a = n := by omega
    subst this
    rw [List.take_of_length_le (by omega), h.dm.span]
    exact k w2 x1
theorem refAtD {w : World} {A : Option Addr} {n : Nat} {s : TS} {ds : List DR} (h : Dc w A n s ds) (most : Int) (c : Nat) (slot : Int) {R : Ending → World → Prop} (k : ∀ w', Ext [] w w' → R (.returned (.int .i64 (idxI ds fun x => x.slot == slot))) w') :
    Calls Try.prog 35 #[.agg ⟨dt most A n c⟩, .int .i64 slot] w R := refAt_c h.cells h.len (by have := h.le; omega) most slot k
theorem refFindD {w : World} {A : Option Addr} {n : Nat} {s : TS} {ds : List DR} (h : Dc w A n s ds) (most : Int) (c : Nat) (name : ByteArray) {R : Ending → World → Prop} (k : ∀ w', Ext [] w w' → R (.returned (.int .i64 (idxI ds fun x => decide (x.name = name)))) w') :
    Calls Try.prog 34 #[.agg ⟨dt most A n c⟩, .string name] w R := refFind_c h.cells h.len (by have := h.le; omega) most name k
theorem drs_take_len (xs : List Rw) (a : Nat) : (drs (xs.take a)).length ≤ xs.length := by
  rw [drs_len]
  exact Nat.le_trans List.countP_le_length (by simp; omega)
theorem refBySlot_c {w : World} {A : Option Addr} {n : Nat} {s : TS} {ds : List DR} (h : Dc w A n s ds) (most : Int) (c : Nat) {R : Ending → World → Prop} (k : ∀ A' n' c' w', Ext [] w w' → OwnL DL w' w.heap.size 66 A' n' c' (drs s.rows) → R (.returned (.slice A' n' c')) w') :
    Calls Try.prog 23 #[.agg ⟨dt most A n c⟩] w R := by
  have hle := h.le
  have hrl := h.dm.ok.len
  have hrt := h.dm.ok.top
  unfold dt
  apply berthref05_Table_BySlot_nf
  intro w1 h1 w2 h2
  obtain ⟨b1, x1, z1⟩ := box_new (cs := dt most A n c) h1
  obtain ⟨b2, x2, z2⟩ := box_new (cs := []) h2
  have own2 : OwnL DL w2 w.heap.size 66 (some ⟨w1.heap.size, 0, none⟩) 0 0 [] := by
    refine own_of b2 (by omega) (Nat.zero_le _) (by simp only [maxLen]; omega) ?_ (by simp [Lay.flat])
    simp
  refine ⟨fun B m c' t w' => ∃ a : Nat, t = a ∧ a ≤ s.rows.length ∧ Ext [] w w' ∧ BlkT w' w.heap.size (dt most A n c) 54 ∧ OwnL DL w' w.heap.size 66 B m c' (drs (s.rows.take a)) ∧ w.heap.size ∉ ownF B, fun _ _ _ t _ => s.rows.length - t.toNat, ⟨0, rfl, by omega, x1.trans x2, b1.ext0 x2, by simpa [drs, drsF] using own2, by simp [ownF]; omega⟩, ?_⟩
  rintro B m c' _ _ w3 ⟨a, rfl, ha, e3, b3, own3, hB⟩
  refine ⟨_, _, _, _, cadd0 b3, refSpan_c (h.ext0 e3) most c fun w4 e4 => ⟨_, rfl, sel_dec (fun hlt => ⟨_, _, _, _, cadd0 (b3.ext0 e4), refAtD (h.ext0 (e3.trans e4)) most c (a : Int) fun w5 e5 => ⟨_, rfl, ?_⟩⟩) (fun hge => ?_)⟩⟩
  · have hal : a < s.rows.length := by omega
    obtain ⟨x, hx⟩ : ∃ x, s.rows[a]? = some x := ⟨_, List.getElem?_eq_getElem hal⟩
    have e15 := (e3.trans e4).trans e5
    have b5 := (b3.ext0 e4).ext0 e5
    have own5 := (own3.ext0 e4).ext0 e5
    have fin : ∀ {B' m' c'' w6}, Ext [] w w6 → BlkT w6 w.heap.size (dt most A n c) 54 → OwnL DL w6 w.heap.size 66 B' m' c'' (drs (s.rows.take (a + 1))) → w.heap.size ∉ ownF B' →
        (∃ a' : Nat, IntKind.wrap .i64 ((a : Int) + 1) = a' ∧ a' ≤ s.rows.length ∧ Ext [] w w6 ∧ BlkT w6 w.heap.size (dt most A n c) 54 ∧ OwnL DL w6 w.heap.size 66 B' m' c'' (drs (s.rows.take a')) ∧ w.heap.size ∉ ownF B') ∧ s.rows.length - (IntKind.wrap .i64 ((a : Int) + 1)).toNat < s.rows.length - (a : Int).toNat := fun p1 p2 p3 p4 => by
      rw [up64 a (by omega)]
      exact ⟨⟨a + 1, rfl, by omega, p1, p2, p3, p4⟩, by simp only [Int.toNat_natCast]; omega⟩
    cases hh : x.held with
    | true =>
      obtain ⟨i, hi, ei⟩ := h.dm.at_held hx hh
      rw [ei]
      obtain ⟨y, ad, hyy, rfl, ry⟩ := (h.cells.ext0 e15).row h.len (a := i) (by have := (List.getElem?_eq_some_iff.1 hi).1; have := h.len; omega)
      rw [hi] at hyy
      cases hyy
      refine sel_true (by simp) ⟨_, _, _, cadd b5 rfl, when_dec ⟨by omega, by have := (List.getElem?_eq_some_iff.1 hi).1; have := h.len; omega⟩ (ptr_in ⟨_, _, _, ry, fun w6 h6 => ?_⟩)⟩
      obtain ⟨b6, x6, z6⟩ := box_new (cs := DL.enc ⟨(a : Int), x.name, x.v⟩) h6
      have hm : m ≤ 65536 := by
        rw [← own3.len]
        have := drs_take_len s.rows a
        omega
      obtain ⟨B', c'', w7, hr, own7, xx, hat⟩ := (own5.ext0 x6).more (P := Try.prog) (t := 52) (ty := 52) (x := ⟨(a : Int), x.name, x.v⟩) u52 i66 rfl (by omega) b6 (by have := e15.size; have := x6.size; omega) (by omega)
      have hbase := own3.base
      refine ⟨B', m + 1, c'', w7, hr, fin ?_ ((b5.ext0 x6).ext xx hB) (by rw [drs_step hx, if_pos hh]; exact own7) ?_⟩
      · exact (e15.trans x6).trans' xx (fun b hb => .inr (hbase b hb).1)
      · rcases hat with h1 | h1
        · rw [h1]; exact hB
        · rw [h1]
          have := e15.size
          simp; omega
    | false =>
      rw [h.dm.at_free (a := (a : Int)) fun j y hy hyh e => by
        have : j = a := by omega
        subst this
        rw [hx] at hy; cases hy
        rw [hh] at hyh; cases hyh]
      refine sel_false (by decide) (fin e15 b5 ?_ hB)
      rw [drs_step hx, if_neg (by simp [hh]), List.append_nil]
      exact own5
  · have : a = s.rows.length := by omega
    subst this
    rw [List.take_of_length_le (Nat.le_refl _)] at own3
    exact k B m c' w4 (e3.trans e4) (own3.ext0 e4)
end Go.Proofs.Ytcampkaenlohbaa
