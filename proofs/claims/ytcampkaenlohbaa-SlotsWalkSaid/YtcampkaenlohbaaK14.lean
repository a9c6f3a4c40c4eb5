/- The document's table of names and slots: New, Put, Set, Drop. -/
import Derived.Test.YtcampkaenlohbaaK13
set_option linter.unusedVariables false
set_option linter.unusedSimpArgs false
namespace Go.Proofs.Ytcampkaenlohbaa
open Go Go.V Go.B

theorem badName_c {w : World} {name : ByteArray} {R : Ending → World → Prop} (k : R (.returned (.bool (decide (badN name)))) w) : Calls Try.prog 58 #[.string name] w R := by
  apply berthref05_badName_nf
  refine sel_dec (fun h => ?_) (fun h => ?_)
  · rw [show decide (badN name) = true from decide_eq_true (.inl (by omega))] at k; exact k
  · have : decide (((name.size : Nat) : Int) > 63) = decide (badN name) := by
      apply decide_eq_decide.2
      unfold badN
      omega
    rw [this]; exact k
/-- The box of a table that is answered is written and read. -/
theorem dt_box {w0 w : World} {q : Nat} {vs : List Value} (b : BlkT w q vs 54) (hv : vs.length = 2) (most : Int) (A : Option Addr) (n c : Nat) :
    ∃ w', Sem.run Try.prog (Instr.storeAt 54 (.pointer (some ⟨q, 0, none⟩)) (.agg ⟨dt most A n c⟩)) w = .ok () w' ∧ BlkT w' q (dt most A n c) 54 ∧ Ext [q] w w' :=
  storeW (P := Try.prog) i54s b rfl hv (dt_one most A n c)
def newV (most : Int) : Int × Int := if most < 0 ∨ 65536 < most then (0, 50) else (most, 0)
theorem refNew_c {w : World} (most : Int) {R : Ending → World → Prop} (k : ∀ w', Ext [] w w' → R (.returned (.tuple #[.agg ⟨dt (newV most).1 none 0 0⟩, .int .i64 (newV most).2])) w') : Calls Try.prog 25 #[.int .i64 most] w R := by
  apply berthref05_New_nf
  intro w1 h1
  obtain ⟨b1, x1, z1⟩ := box_new (cs := [.int .i64 0, .slice none 0 0]) h1
  have go : ∀ m : Int, ∃ w2, Sem.run Try.prog (Instr.storeAt 54 (.pointer (some ⟨w.heap.size, 0, none⟩)) (.agg ⟨dt m none 0 0⟩)) w1 = .ok () w2 ∧ BlkT w2 w.heap.size (dt m none 0 0) 54 ∧ Ext [] w w2 := fun m => by
    obtain ⟨w2, hr, b2, x2⟩ := dt_box (w0 := w) b1 rfl m none 0 0
    exact ⟨w2, hr, b2, x1.trans' x2 (fun b hb => .inr (by simp at hb; omega))⟩
  have bad : (most < 0 ∨ 65536 < most) → ∀ w2, Ext [] w w2 → R (.returned (.tuple #[.agg ⟨dt 0 none 0 0⟩, .int .i64 50])) w2 := fun hb w2 e => by
    have := k w2 e
    unfold newV at this
    rw [if_pos hb] at this; exact this
  refine sel_dec (fun h => ?_) (fun h0 => sel_dec (fun h => ?_) (fun h1' => ?_))
  · obtain ⟨w2, hr, b2, e2⟩ := go 0
    exact ⟨w2, hr, _, _, _, _, cadd0 b2, bad (.inl h) w2 e2⟩
  · obtain ⟨w2, hr, b2, e2⟩ := go 0
    exact ⟨w2, hr, _, _, _, _, cadd0 b2, bad (.inr h) w2 e2⟩
  · obtain ⟨w2, hr, b2, e2⟩ := go most
    have := k w2 e2
    unfold newV at this
    rw [if_neg (by omega)] at this
    exact ⟨w2, hr, _, _, _, _, cadd0 b2, this⟩
theorem mid_out {α : Type} {a b a' b' : List α} {d : α} (h : (a ++ d :: b).Perm (a' ++ [d] ++ b')) : (a ++ b).Perm (a' ++ b') := by
  have t1 : (a ++ d :: b).Perm (d :: (a ++ b)) := List.perm_middle
  have t2 : (a' ++ [d] ++ b').Perm (d :: (a' ++ b')) := by rw [List.append_assoc]; exact List.perm_middle
  exact (List.perm_cons d).1 (t1.symm.trans (h.trans t2))
theorem mid_in {α : Type} {a b a' b' : List α} (d : α) (h : (a ++ b).Perm (a' ++ b')) : (a ++ d :: b).Perm (a' ++ [d] ++ b') := by
  have t1 : (a ++ d :: b).Perm (d :: (a ++ b)) := List.perm_middle
  have t2 : (a' ++ [d] ++ b').Perm (d :: (a' ++ b')) := by rw [List.append_assoc]; exact List.perm_middle
  exact t1.trans (((List.perm_cons d).2 h).trans t2.symm)
theorem at_split {α : Type} {xs : List α} {a : Nat} {x : α} (h : xs[a]? = some x) : xs = xs.take a ++ x :: xs.drop (a + 1) := by
  obtain ⟨hl, e⟩ := List.getElem?_eq_some_iff.1 h
  have := (List.take_append_drop a xs).symm
  rw [List.drop_eq_getElem_cons hl, e] at this
  exact this
theorem Dm.rest {s : TS} {ds : List DR} {i a : Nat} {x : Rw} (h : Dm s ds) (hx : s.rows[i]? = some x) (hh : x.held = true) (ha : ds[a]? = some ⟨(i : Int), x.name, x.v⟩) : (ds.take a ++ ds.drop (a + 1)).Perm (drs (s.rows.take i) ++ drsF (i + 1) (s.rows.drop (i + 1))) := by
  have p := h.perm
  rw [drs_get hx, if_pos hh] at p
  refine mid_out (d := (⟨(i : Int), x.name, x.v⟩ : DR)) ?_
  rw [← at_split ha]
  exact p
theorem Dm.set {s : TS} {ds : List DR} {i a : Nat} {x : Rw} (h : Dm s ds) (hx : s.rows[i]? = some x) (hh : x.held = true) (ha : ds[a]? = some ⟨(i : Int), x.name, x.v⟩) (v : Int) : Dm { s with rows := s.rows.set i { x with v := v } } (ds.set a ⟨(i : Int), x.name, v⟩) := by
  refine ⟨h.ok.turn hx hh v, ?_⟩
  have hl := (List.getElem?_eq_some_iff.1 ha).1
  rw [List.set_eq_take_append_cons_drop, if_pos hl]
  show List.Perm _ (drs (s.rows.set i { x with v := v }))
  rw [drs_set hx, if_pos (show ({ x with v := v } : Rw).held = true from hh)]
  exact mid_in _ (h.rest hx hh ha)
/-- What the document's table tells of a name. -/
theorem Dm.find {s : TS} {ds : List DR} (h : Dm s ds) (name : ByteArray) : (mget s.m name = none ∧ idxI ds (fun x => decide (x.name = name)) = -1) ∨ ∃ (i a : Nat) (x : Rw), mget s.m name = some (i : Int) ∧ s.rows[i]? = some x ∧ x.held = true ∧ x.name = name ∧ ds[a]? = some ⟨(i : Int), x.name, x.v⟩ ∧ idxI ds (fun x => decide (x.name = name)) = (a : Int) := by
  cases hg : mget s.m name with
  | none => exact .inl ⟨rfl, h.find_none hg⟩
  | some v =>
    obtain ⟨i, x, hx, hh, hn, rfl⟩ := (h.ok.mp name v).1 hg
    obtain ⟨a, ha, e⟩ := h.find_held hx hh hn
    exact .inr ⟨i, a, x, rfl, hx, hh, hn, ha, e⟩
theorem Dm.bad {s : TS} {ds : List DR} (h : Dm s ds) {name : ByteArray} (hb : badN name) : mget s.m name = none := by
  cases hg : mget s.m name with
  | none => rfl
  | some v =>
    obtain ⟨i, x, hx, hh, hn, rfl⟩ := (h.ok.mp name v).1 hg
    have := h.ok.good x (List.mem_of_getElem? hx) hh
    rw [hn] at this
    unfold badN at hb
    omega
theorem refSet_c {w : World} {A : Option Addr} {n : Nat} {s : TS} {ds : List DR} (h : Dc w A n s ds) (most : Int) (c : Nat) (name : ByteArray) (v : Int) {R : Ending → World → Prop}
    (k : ∀ A' n' c' ds' w', Ext [] w w' → Dc w' A' n' (setV s name v) ds' → ((A' = A ∧ n' = n) ∨ ∀ g ∈ ownF A', w.heap.size ≤ g) → R (.returned (.tuple #[.agg ⟨dt most A' n' c'⟩, .int .i64 (lookV s name).2])) w') :
    Calls Try.prog 45 #[.agg ⟨dt most A n c⟩, .string name, .int .i64 v] w R := by
  have hle := h.le
  have hlen := h.len
  unfold dt
  apply berthref05_Set_nf
  intro w1 h1 w2 h2
  obtain ⟨b1, x1, z1⟩ := box_new (cs := dt most A n c) h1
  obtain ⟨b2, x2, z2⟩ := box_new (cs := [.int .i64 0, .slice none 0 0]) h2
  have e2 : Ext [] w w2 := x1.trans x2
  have b12 := b1.ext0 x2
  have fin : ∀ {w3 : World} {A' : Option Addr} {n' c' : Nat} {ds' : List DR} {er : Int}, Ext [] w w3 → BlkT w3 w1.heap.size [.int .i64 0, .slice none 0 0] 54 → Dc w3 A' n' (setV s name v) ds' → ((A' = A ∧ n' = n) ∨ ∀ g ∈ ownF A', w.heap.size ≤ g) → (∀ g ∈ ownF A', g ≠ w1.heap.size) → (lookV s name).2 = er →
      ∃ w4, Sem.run Try.prog (Instr.storeAt 54 (.pointer (some ⟨w1.heap.size, 0, none⟩)) (.agg ⟨dt most A' n' c'⟩)) w3 = .ok () w4 ∧ BlkT w4 w1.heap.size (dt most A' n' c') 54 ∧ R (.returned (.tuple #[.agg ⟨dt most A' n' c'⟩, .int .i64 er])) w4 := fun e3 b3 hd hg hne her => by
    obtain ⟨w4, hr, b4, x4⟩ := dt_box (w0 := w) b3 rfl most _ _ _
    refine ⟨w4, hr, b4, ?_⟩
    rw [← her]
    exact k _ _ _ _ w4 (e3.trans' x4 (fun b hb => .inr (by simp at hb; omega))) (hd.ext x4 (fun g hg' => by have := hne g hg'; simpa using this)) hg
  have hAlt : ∀ g ∈ ownF A, n ≠ 0 → g < w.heap.size := fun g hg hn => by
    obtain ⟨x, ad, _, hA, rd⟩ := h.cells.row hlen (a := 0) (by omega)
    subst hA
    simp [ownF] at hg
    subst hg
    have h0 := rd 0 _ rfl
    have := World.block_lt_of_cell? w _ h0
    rw [add_block, add_block] at this
    exact this
  have keep : setV s name v = s → Dc w2 A n (setV s name v) ds := fun e => by rw [e]; exact h.ext0 e2
  -- a row that stays: what is answered for it
  have same : setV s name v = s → ∀ {w3 : World} {er : Int}, Ext [] w w3 → BlkT w3 w1.heap.size [.int .i64 0, .slice none 0 0] 54 → (lookV s name).2 = er →
      ∃ w4, Sem.run Try.prog (Instr.storeAt 54 (.pointer (some ⟨w1.heap.size, 0, none⟩)) (.agg ⟨dt most A n c⟩)) w3 = .ok () w4 ∧ ∃ n13, ∃ A14, ∃ A14l, ∃ A14c, V.cellsC (fun a_ x_ => World.cell? w4 a_ = some x_) ⟨w1.heap.size, 0, none⟩ [.int .i64 n13, .slice A14 A14l A14c] ∧ R (.returned (.tuple #[.agg #[.int .i64 n13, .slice A14 A14l A14c], .int .i64 er])) w4 := fun e w3 er e3 b3 her => by
    obtain ⟨w4, hr, b4, x4⟩ := dt_box (w0 := w) b3 rfl most A n c
    refine ⟨w4, hr, _, _, _, _, cadd0 b4, ?_⟩
    rw [← her]
    have e4 : Ext [] w w4 := e3.trans' x4 (fun b hb => .inr (by simp at hb; omega))
    exact k A n c ds w4 e4 (by rw [e]; exact h.ext0 e4) (.inl ⟨rfl, rfl⟩)
  refine badName_c ⟨_, rfl, sel_dec (fun hb => ?_) (fun hb => ?_)⟩
  · have hl : (lookV s name).2 = 51 := by unfold lookV; rw [if_pos hb]
    have hs : setV s name v = s := by unfold setV; rw [if_neg (by rw [hl]; decide)]
    exact ⟨_, _, _, _, cadd0 b12, same hs e2 b2 hl⟩
  · refine ⟨_, _, _, _, cadd0 b12, refFindD (h.ext0 e2) most c name fun w3 e3 => ⟨_, rfl, ?_⟩⟩
    have e23 := e2.trans e3
    rcases h.dm.find name with ⟨hg, hi⟩ | ⟨i, a, x, hg, hx, hh, hn, ha, hi⟩
    · have hl : (lookV s name).2 = 54 := by unfold lookV; rw [if_neg hb, hg]
      have hs : setV s name v = s := by unfold setV; rw [if_neg (by rw [hl]; decide)]
      rw [hi]
      exact sel_true (by decide) ⟨_, _, _, _, cadd0 (b12.ext0 e3), same hs e23 (b2.ext0 e3) hl⟩
    · have hl : lookV s name = ((i : Int), 0) := by unfold lookV; rw [if_neg hb, hg]
      rw [hi]
      refine sel_false (by simp) fun w4 h4 => ?_
      have x4 : Ext [] w3 w4 := (box_new (cs := []) h4).2.1
      have b14 := (b12.ext0 e3).ext0 x4
      refine ⟨_, _, _, cadd b14 rfl, ?_⟩
      obtain ⟨A', c', w5, hr5, own5, e5⟩ := copyL (P := Try.prog) (t := 52) (ty := 52) u52 i66 rfl (by omega) (h.cells.ext0 e23) hlen h4 (by omega) c
      have hal := (List.getElem?_eq_some_iff.1 ha).1
      obtain ⟨g, w6, rfl, hr6, own6, x6⟩ := own5.setCell (P := Try.prog) (i := a) (k := 2) (y := ⟨(i : Int), x.name, v⟩) (v := .int .i64 v) ha (by decide) rfl i3s rfl rfl
      have hbase := own5.base
      have e15 : Ext [] w w5 := e23.trans e5
      have hsz := e23.size
      have e6 : Ext [] w w6 := e15.trans' x6 (fun b hb => .inr (by have := (hbase b hb).1; omega))
      have hgw : w3.heap.size ≤ g := (hbase g (by simp [ownF])).1
      have := e3.size
      have b16 := ((b12.ext0 e3).ext0 e5).ext x6 (by simp [ownF]; omega)
      have b26 := ((b2.ext0 e3).ext0 e5).ext x6 (by simp [ownF]; omega)
      have hsv : setV s name v = { s with rows := s.rows.set i { x with v := v } } := by
        unfold setV
        rw [hl, if_pos rfl, Int.toNat_natCast, show s.rows.getD i Rw.zero = x by simp [List.getD_eq_getElem?_getD, hx]]
      refine ⟨_, _, _, w5, hr5, when_dec ⟨by omega, by omega⟩ (ptr_in ⟨w6, by rw [Int.toNat_natCast]; exact hr6, _, cadd b16 rfl, ?_⟩)⟩
      obtain ⟨w7, hr7, b7, hR⟩ := fin (c' := c') (er := 0) e6 b26 (A' := some ⟨g, 0, none⟩) (n' := n) (ds' := ds.set a ⟨(i : Int), x.name, v⟩) ⟨own6.cells, by simp [hlen], by rw [hsv]; exact h.dm.set hx hh ha v⟩ (.inr fun q hq => by simp [ownF] at hq; omega) (fun q hq => by simp [ownF] at hq; omega) (by rw [hl])
      exact ⟨w7, hr7, _, _, _, _, cadd0 b7, hR⟩
end Go.Proofs.Ytcampkaenlohbaa
