/- Slots: what is told of a table and of the document's; a copy in another's place; the beginning. -/
import Derived.Test.YtcampkaenlohbaaM18
set_option linter.unusedVariables false
set_option linter.unusedSimpArgs false
namespace Go.Proofs.Ytcampkaenlohbaa
open Go Go.V Go.B

theorem findV_nil (name : ByteArray) : findV TS.nil name = (0, 0, false) := by
  unfold findV
  rw [if_neg]
  unfold lookV
  split
  · decide
  · simp [TS.nil, mget]
theorem atV_nil (slot : Int) : atV TS.nil slot = Rw.zero := by
  unfold atV
  split
  · rfl
  · simp [TS.nil]
theorem Tb_Find {w : World} {p : Option Nat} {f : List Nat} {s : TS} (h : Tb w p f s) (name : ByteArray) {R : Ending → World → Prop}
    (k : ∀ w', Ext [] w w' → R (.returned (.tuple #[.int .i64 (findV s name).1, .int .i64 (findV s name).2.1, .bool (findV s name).2.2])) w') : Calls Try.prog 15 #[pv p, .string name] w R := by
  cases p with
  | none =>
    rw [h.2] at k
    have := k w (Ext.refl _ _)
    rw [findV_nil] at this
    exact nil_Find this
  | some p => exact Find_c h name k
theorem Tb_At {w : World} {p : Option Nat} {f : List Nat} {s : TS} (h : Tb w p f s) (slot : Int) {R : Ending → World → Prop}
    (k : ∀ w', Ext [] w w' → R (.returned (.tuple #[.string (atV s slot).name, .int .i64 (atV s slot).v, .bool (atV s slot).held])) w') : Calls Try.prog 18 #[pv p, .int .i64 slot] w R := by
  cases p with
  | none =>
    rw [h.2] at k
    have := k w (Ext.refl _ _)
    rw [atV_nil] at this
    exact nil_At this
  | some p => exact At_c h slot k
theorem find_tell {s : TS} {ds : List DR} (h : Dm s ds) (name : ByteArray) : (findV s name = (0, 0, false) ∧ idxI ds (fun x => decide (x.name = name)) = -1) ∨ ∃ (i a : Nat) (x : Rw), findV s name = ((i : Int), x.v, true) ∧ s.rows[i]? = some x ∧ x.held = true ∧ x.name = name ∧ ds[a]? = some ⟨(i : Int), x.name, x.v⟩ ∧ idxI ds (fun x => decide (x.name = name)) = (a : Int) := by
  rcases h.find name with ⟨hg, hi⟩ | ⟨i, a, x, hg, hx, hh, hn, ha, hi⟩
  · refine .inl ⟨?_, hi⟩
    unfold findV
    rw [if_neg]
    unfold lookV
    split
    · decide
    · rw [hg]; simp
  · refine .inr ⟨i, a, x, ?_, hx, hh, hn, ha, hi⟩
    have hb : ¬ badN name := fun hb => by have := h.bad hb; rw [hg] at this; cases this
    have hl : lookV s name = ((i : Int), 0) := by unfold lookV; rw [if_neg hb, hg]
    unfold findV
    rw [hl, if_pos rfl, Int.toNat_natCast, show s.rows.getD i Rw.zero = x by simp [List.getD_eq_getElem?_getD, hx]]
theorem at_tell {s : TS} {ds : List DR} (h : Dm s ds) (slot : Int) : (atV s slot = Rw.zero ∧ idxI ds (fun x => x.slot == slot) = -1) ∨ ∃ (i a : Nat) (x : Rw), slot = (i : Int) ∧ atV s slot = x ∧ s.rows[i]? = some x ∧ x.held = true ∧ ds[a]? = some ⟨(i : Int), x.name, x.v⟩ ∧ idxI ds (fun x => x.slot == slot) = (a : Int) := by
  by_cases h0 : slot < 0
  · refine .inl ⟨by unfold atV; rw [if_pos h0], h.at_free fun j x _ _ => by omega⟩
  · obtain ⟨i, rfl⟩ : ∃ i : Nat, slot = i := ⟨slot.toNat, by omega⟩
    have e : atV s (i : Int) = s.rows.getD i Rw.zero := by unfold atV; rw [if_neg h0, Int.toNat_natCast]
    cases hx : s.rows[i]? with
    | none =>
      refine .inl ⟨by rw [e, List.getD_eq_getElem?_getD, hx]; rfl, h.at_free fun j x hj _ he => ?_⟩
      have : j = i := by omega
      subst this
      rw [hx] at hj; cases hj
    | some x =>
      have e2 : atV s (i : Int) = x := by rw [e, List.getD_eq_getElem?_getD, hx]; rfl
      cases hh : x.held with
      | true =>
        obtain ⟨a, ha, ei⟩ := h.at_held hx hh
        exact .inr ⟨i, a, x, rfl, e2, hx, hh, ha, ei⟩
      | false =>
        refine .inl ⟨by rw [e2]; exact h.ok.zero x (List.mem_of_getElem? hx) hh, h.at_free fun j y hj hy he => ?_⟩
        have : j = i := by omega
        subst this
        rw [hx] at hj; cases hj; rw [hh] at hy; cases hy
theorem copied_c {w0 w : World} {X Y : List Nat} {wb i j : Nat} {tag : Nat → Nat} {rs : List Reg} (h : St w0 X Y w wb tag rs 4) (hi : i < 4) (hj : j < 4) {R : Ending → World → Prop} (k : ∀ w' tag' rs', St w0 X Y w' wb tag' rs' 4 → R (.returned (.bool true)) w') :
    Calls Try.prog 39 #[.pointer (some ⟨wb, 0, none⟩), .int .i64 (i : Int), .int .i64 (j : Int)] w R := by
  obtain ⟨r, hr⟩ := h.at hi
  have hri := h.regs i r (by omega) hr
  have ii : (0 : Int) ≤ (i : Int) ∧ (i : Int) < 4 := by omega
  have jj : (0 : Int) ≤ (j : Int) ∧ (j : Int) < 4 := by omega
  apply berthlaw05_World_copied_nf
  refine ptr_in (when_dec ii ⟨_, h.read_p hr, ?_⟩)
  -- what both ways end in
  have fin : ∀ (p' : Option Nat) (f' : List Nat) (s' : TS) (w8 : World), Ext [] w w8 → Tb w8 p' f' s' → (∀ b ∈ f', w.heap.size ≤ b) → Dm s' r.ds → s'.most = r.s.most →
      ∃ S11 : World → Prop, S11 (World.drew w8) ∧ V.ptr (some (⟨wb, 0, none⟩ : Addr)) fun a13 => V.when (decide ((0 : Int) ≤ (i : Int) ∧ (i : Int) < 4)) (∃ n14, ∃ A15, ∃ A15l, ∃ A15c, V.cellsC (fun a_ x_ => ∀ w12, S11 w12 → World.cell? w12 a_ = some x_) (Addr.add (Addr.add a13 4) ((Int.toNat (i : Int)) * 2)) [(Value.int .i64 n14), (Value.slice A15 A15l A15c)] ∧
        V.ptr (some (⟨wb, 0, none⟩ : Addr)) fun a16 => V.when (decide ((0 : Int) ≤ (j : Int) ∧ (j : Int) < 4)) (V.ptr (some (⟨wb, 0, none⟩ : Addr)) fun a17 =>
        ∃ w18, Sem.run Try.prog (Instr.storeAt 24 (Value.pointer (some (Addr.add (Addr.add a16 0) ((Int.toNat (j : Int)) * 1)))) (pv p')) (World.drew w8) = .ok () w18 ∧ S11 w18 ∧
        V.when (decide ((0 : Int) ≤ (j : Int) ∧ (j : Int) < 4)) (∃ w19, Sem.run Try.prog (Instr.storeAt 54 (Value.pointer (some (Addr.add (Addr.add a17 4) ((Int.toNat (j : Int)) * 2)))) (Value.agg #[(Value.int .i64 n14), (Value.slice A15 A15l A15c)])) w18 = .ok () w19 ∧ S11 w19 ∧ R (.returned (.bool true)) w19))) := by
    intro p' f' s' w8 e8 ht hf hdm hmost
    have st8 := (h.but j).ext0 j e8
    obtain ⟨w18, hr18, b18, x18⟩ := put_p (show BlkT w8.drew wb (wcells rs) 57 from st8.blk) (wc_len h.len) hj p'
    obtain ⟨w19, hr19, b19, x19⟩ := put_d b18 (by rw [List.length_set]; exact wc_len h.len) hj (r.s.most : Int) r.A r.n r.c
    have st19 := st8.put hj ⟨p', f', s', r.A, r.n, r.c, r.ds⟩ (by
        rw [← wc_set h.len hj]
        show BlkT w19 wb (_ ++ dt (s'.most : Int) r.A r.n r.c ++ _) _
        rw [hmost]; exact b19) (x18.undrew.trans x19) ⟨ht, fun b hb => newtag_new (hf b hb), ⟨hri.d.cells.ext0 e8, hri.d.len, hdm⟩, fun hn b hb => by rw [newtag_old (hri.d.blk_lt hn b hb)]; exact hri.dd hn b hb⟩
    refine ⟨fun w' => cellsC (fun a v => w'.cell? a = some v) (Addr.add (Addr.add ⟨wb, 0, none⟩ 4) (Int.toNat (i : Int) * 2)) (dt (r.s.most : Int) r.A r.n r.c), st8.read_d hr, ptr_in (when_dec ii ⟨_, _, _, _, cellsC_S (S := fun w' => cellsC (fun a v => w'.cell? a = some v) (Addr.add (Addr.add ⟨wb, 0, none⟩ 4) (Int.toNat (i : Int) * 2)) (dt (r.s.most : Int) r.A r.n r.c)) (fun w' e => e), ptr_in (when_dec jj (ptr_in ⟨w18, hr18, ?_, when_dec jj ⟨w19, hr19, ?_, k w19 _ _ st19⟩⟩))⟩)⟩
    · intro q v hv
      rw [Int.toNat_natCast, Addr.add_add, Addr.add_add]
      refine cadd b18 ?_
      rw [List.getElem?_set_ne (by omega), ← Nat.add_assoc]
      exact wc_d h.len hr q v hv
    · by_cases hij : i = j
      · subst hij
        have := st19.read_d (i := i) (r := ⟨p', f', s', r.A, r.n, r.c, r.ds⟩) (by rw [List.getElem?_set, if_pos rfl, if_pos (by have := h.len; omega)])
        rw [← hmost]; exact this
      · exact st19.read_d (by rw [List.getElem?_set_ne (fun e => hij e.symm)]; exact hr)
  cases hp : r.p with
  | none =>
    have ht := hri.t
    rw [hp] at ht
    refine slots_Table_int__Copy_nil_nf none w _ (sel_true rfl ⟨none, rfl, ptr_in (when_dec ii ⟨_, by have := h.read_p hr; rw [hp] at this; exact this, sel_false rfl ?_⟩)⟩)
    have := fin none r.f r.s w (Ext.refl _ _) ht (by rw [ht.1]; simp) hri.d.dm rfl
    exact this
  | some p =>
    have ht := hri.t
    rw [hp] at ht
    refine Copy_nil_c ht fun p' f' w8 e8 q8 hf => ⟨_, rfl, ptr_in (when_dec ii ⟨some ⟨p, 0, none⟩, by have := (h.ext0 7 e8).read_p hr; rw [hp] at this; exact this, sel_false rfl ?_⟩)⟩
    have hq := At.weaken (B' := 0) q8 (Nat.zero_le _)
    exact fin (some p') f' (copyV r.s) w8 e8 hq hf ⟨At.inv hq, hri.d.dm.perm⟩ rfl
theorem begin_c {w : World} {R : Ending → World → Prop} (k : ∀ w' wb tag rs, St w [] [] w' wb tag rs 4 → w.heap.size ≤ wb → R (.returned (.tuple #[.pointer (some ⟨wb, 0, none⟩), .bool true])) w') : Calls Try.prog 19 #[] w R := by
  apply berthlaw05_begin_nf
  intro w1 h1 w2 h2
  obtain ⟨b1, x1, z1⟩ := box_new (cs := wcells [Reg.none, Reg.none, Reg.none, Reg.none]) h1
  obtain ⟨b2, x2, z2⟩ := box_new (cs := [.int .i64 2, .int .i64 5, .int .i64 70]) h2
  have st1 : St w [] [] w1 w.heap.size (fun b => if b < w.heap.size then 9 else 5) [Reg.none, Reg.none, Reg.none, Reg.none] 4 := by
    refine ⟨x1, rfl, b1, by simp, fun b hb _ => .inl (by simp [hb]), fun i r hi hr => ?_⟩
    have : r = Reg.none := by
      match i, hr with
      | 0, hr => cases hr; rfl
      | 1, hr => cases hr; rfl
      | 2, hr => cases hr; rfl
      | 3, hr => cases hr; rfl
      | n + 4, hr => simp at hr
    subst this
    exact ⟨⟨rfl, rfl⟩, by simp [Reg.none], ⟨Cells.nil _ _, rfl, Dm.nil⟩, fun hn => absurd rfl hn⟩
  have st2 := st1.ext0 7 x2
  refine ⟨fun t w' => ∃ a : Nat, t = a ∧ a ≤ 3 ∧ BlkT w' w1.heap.size [.int .i64 2, .int .i64 5, .int .i64 70] 3 ∧ ∃ tag rs, St w [] [] w' w.heap.size tag rs 4 ∧ tag w1.heap.size = 7, fun t _ => 3 - t.toNat, ⟨0, rfl, by omega, b2, _, _, st2, newtag_new (Nat.le_refl _)⟩, ?_⟩
  rintro _ _ w3 ⟨a, rfl, ha, b3, tag, rs, st3, htag⟩
  refine sel_dec (fun hlt => ?_) (fun hge => k w3 _ _ _ st3 (Nat.le_refl _))
  have hlt : a < 3 := by omega
  obtain ⟨m, hm, hm0, hm1⟩ : ∃ m : Int, ([.int .i64 2, .int .i64 5, .int .i64 70] : List Value)[a]? = some (.int .i64 m) ∧ 0 ≤ m ∧ m ≤ 65536 := by
    match a, hlt with
    | 0, _ => exact ⟨2, rfl, by omega, by omega⟩
    | 1, _ => exact ⟨5, rfl, by omega, by omega⟩
    | 2, _ => exact ⟨70, rfl, by omega, by omega⟩
  refine when_dec ⟨by omega, by omega⟩ ⟨m, by rw [Int.toNat_natCast, Nat.mul_one]; exact cadd b3 hm, New_c m (fun h => by omega) fun p f w12 _ _ e12 q12 hf => ⟨_, _, rfl, sel_false rfl (sel_false rfl (when_dec ⟨by omega, by omega⟩ ?_))⟩⟩
  have st12 := (st3.but a).ext0 a e12
  obtain ⟨w13, hr13, b13, x13⟩ := put_p st12.blk (wc_len st3.len) (i := a) (by omega) (some p)
  have hw13 := x13.size
  refine ⟨w13, hr13, fun w' => Ext [w.heap.size] w13 w', (Ext.refl _ _).drew, refNew_c m fun w20 e20 => ?_⟩
  have hv : newV m = (m, 0) := by unfold newV; rw [if_neg (by omega)]
  rw [hv]
  have e20 := e20.undrew
  obtain ⟨w21, hr21, b21, x21⟩ := put_d (b13.ext0 e20) (by rw [List.length_set]; exact wc_len st3.len) (i := a) (by omega) m none 0 0
  have hmost : ((m.toNat : Nat) : Int) = m := by omega
  have hq := At.weaken (B' := 0) q12 (Nat.zero_le _)
  have hb1 : w1.heap.size ∉ [w.heap.size] := by simp; omega
  have e21 : Ext [w.heap.size] w12 w21 := (x13.trans e20.up).trans x21
  have st21 := st12.put (by omega : a < 4) ⟨some p, f, ⟨m.toNat, [], [], 0⟩, none, 0, 0, []⟩ (by
      rw [← wc_set st3.len (by omega : a < 4)]
      show BlkT w21 w.heap.size (_ ++ dt ((m.toNat : Nat) : Int) none 0 0 ++ _) _
      rw [hmost]; exact b21) e21 ⟨hq, fun b hb => newtag_new (hf b hb), ⟨Cells.nil _ _, rfl, ⟨At.inv hq, by simp [drs, drsF]⟩⟩, fun hn => absurd rfl hn⟩
  refine ⟨_, _, _, _, _, rfl, e20.up, when_dec ⟨by omega, by omega⟩ ⟨w21, hr21, e20.up.trans x21, ?_⟩⟩
  rw [up64 a (by omega)]
  refine ⟨⟨a + 1, rfl, by omega, (b3.ext0 e12).ext e21 hb1, _, _, st21, ?_⟩, by simp only [Int.toNat_natCast]; omega⟩
  have hlt3 := b3.lt
  rw [newtag_old (by have := e12.size; omega), newtag_old hlt3]
  exact htag
end Go.Proofs.Ytcampkaenlohbaa
