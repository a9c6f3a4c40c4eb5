/- The document's queue: Take, Park, Wake, Restore. -/
import Derived.Test.YtfjgiaimlmnepaaR1
set_option linter.unusedVariables false
set_option linter.unusedSimpArgs false
namespace Go.Proofs.Ytfjgiaimlmnepaa
open Go Go.V Go.B

theorem find_some {xs : List Wt} {name : ByteArray} (h : ¬ findV xs name < 0) : ∃ (j : Nat) (x : Wt), xs[j]? = some x ∧ findV xs name = (j : Int) ∧ xs.findIdx? (named name) = some j := by
  unfold findV at h ⊢
  cases hq : xs.findIdx? (named name) with
  | none => rw [hq] at h; simp at h
  | some j =>
    obtain ⟨hl, _⟩ := List.findIdx?_eq_some_iff_getElem.1 hq
    exact ⟨j, _, List.getElem?_eq_getElem hl, rfl, rfl⟩
theorem find_neg {xs : List Wt} {name : ByteArray} (h : findV xs name < 0) : xs.findIdx? (named name) = none := by
  unfold findV at h
  cases hq : xs.findIdx? (named name) with
  | none => rfl
  | some j => rw [hq] at h; simp only [] at h; omega
/-- append([]Waiting{}, rows[:a]...). -/
theorem copyW {w w1 : World} {A : Option Addr} {n : Nat} {xs : List Wt} (hx : Cells w A (flatW xs)) (hn : xs.length = n) (h1 : w1 = w.alloc (.cells #[] 34)) (hb : n ≤ 1000000) (cy : Nat) :
    ∃ A' c' w2, Sem.run Try.prog (Builtin.append_ #[29, 29] 29 #[.slice (some ⟨w.heap.size, 0, none⟩) 0 0, .slice A n cy]) w1 = .ok (.slice A' n c') w2 ∧ OwnW w2 w.heap.size A' n c' xs ∧ Ext [] w w2 := by
  obtain ⟨b1, x1, z1⟩ := box_new (cs := []) h1
  have o1 : w1.ownsRow w.heap.size 34 6 (.slice (some ⟨w.heap.size, 0, none⟩) 0 0) 0 [] := own_of b1 (Nat.le_refl _) (Nat.le_refl _) (by simp only [maxLen]; omega) rfl rfl
  obtain ⟨A', c', w2, hr, ho, he, hat⟩ := appR (P := Try.prog) (ty := 29) (m := n) (cy := cy) (Y := A) u29 i34 z34s (by omega) (by omega) o1 (ys := flatW xs) (by rw [flatW_len, hn]) (hx.ext0 x1) (WL.flat_one _) (by omega) (by omega)
  rw [Nat.zero_add] at hr ho
  exact ⟨A', c', w2, hr, by unfold OwnW; simpa using ho, x1.trans' he (fun b hb => .inr (by simp [ownF] at hb; omega))⟩
theorem refTake_c {w : World} {B n c : Nat} {A : Option Addr} {s : QS} (own : OwnW w B A n c s.xs) (hB : B ≤ w.heap.size) (hn : n ≤ 100000) (name : ByteArray) {R : Ending → World → Prop}
    (k : ∀ A' n' c' w', Ext [] w w' → OwnW w' B A' n' c' (takeV s name).1.xs → (∀ b ∈ ownF A', b ∈ ownF A ∨ w.heap.size ≤ b) → R (.returned (.tuple #[.agg ⟨rq A' n' c' (takeV s name).1.next⟩, (takeV s name).2.1.val, .int .i64 (takeV s name).2.2])) w') :
    Calls Try.prog 45 #[.agg ⟨rq A n c s.next⟩, .string name] w R := by
  unfold rq
  apply berthref25_Take_nf
  simp only [Nat.sub_zero, cut0]
  intro w1 h1 w2 h2 w3 h3
  obtain ⟨b1, x1, z1⟩ := box_new (cs := rq A n c s.next) h1
  obtain ⟨b2, x2, z2⟩ := box_new (cs := rq none 0 0 0) h2
  obtain ⟨b3, x3, z3⟩ := box_new (cs := Wt.zero.cells) h3
  have b13 := (b1.ext x2 (by simp)).ext x3 (by simp)
  have b23 := b2.ext x3 (by simp)
  have x13 := (x1.trans x2).trans x3
  have own3 := OwnW.ext0 own x13
  have hxl := own.len
  refine ⟨_, _, _, cadd b13 rfl, find_c own3.cells hxl (by omega) name ⟨_, rfl, sel_dec (fun h => ?_) (fun h => ?_)⟩⟩
  · have hv : takeV s name = (s, Wt.zero, 252) := by unfold takeV; rw [find_neg h]
    rw [hv] at k
    obtain ⟨w4, hr4, b4, e4⟩ := rq_store b23 rfl A n c s.next
    obtain ⟨w5, hr5, b5, e5⟩ := storeW (P := Try.prog) (t := 34) (n := 6) (vs := Wt.zero.cells) i34s (b3.ext e4 (by simp; omega)) rfl rfl (WL.one _)
    have x5 : Ext [] w w5 := (x13.trans' e4 (fun b hb => .inr (by simp at hb; omega))).trans' e5 (fun b hb => .inr (by simp at hb; omega))
    exact ⟨_, _, _, _, cadd0 b13, w4, hr4, w5, hr5, _, _, _, _, cadd0 (b4.ext e5 (by simp; omega)), _, _, _, _, _, _, cadd0 b5, k A n c w5 x5 (OwnW.ext0 own x5) (fun b hb => .inl hb)⟩
  · obtain ⟨j, x, hj, hf, hi⟩ := find_some h
    have hv : takeV s name = (⟨s.xs.eraseIdx j, s.next⟩, x, 0) := by unfold takeV; rw [hi]; simp only [getD_of hj]
    rw [hv] at k
    have hjl := (List.getElem?_eq_some_iff.1 hj).1
    rw [hf, up64 j (by omega)]
    simp only [Int.toNat_natCast]
    have hnc := own_cap own
    intro w4 h4
    obtain ⟨bz, ez, zz⟩ := box_new (cs := []) h4
    have ct : Cells w3 A (flatW (s.xs.take j)) := by
      have := own3.cells.take (j * 6)
      rwa [show (flatW s.xs).take (j * 6) = flatW (s.xs.take j) from WL.flat_take s.xs j] at this
    obtain ⟨A5, c5, w5, hr5, own5, e5⟩ := copyW (w := w3) (n := j) ct (by rw [List.length_take]; omega) h4 (by omega) c
    obtain ⟨A6, c6, w6, hr6, own6, e6⟩ := appCut own5 (own3.ext0 e5) (a := j + 1) (by omega) e5.size (by omega) (c - (j + 1))
    have e36 : Ext [] w3 w6 := e5.trans' e6 (fun b hb => .inr (own5.base b hb).1)
    have hcut : n - (j + 1) = n - (j + 1) := rfl
    refine ⟨_, _, _, cadd (b13.ext ez (by simp)) rfl, when_dec ⟨by omega, by omega⟩ ⟨_, _, _, _, hr5, _, _, _, cadd (b13.ext e5 (by simp)) rfl, when_dec ⟨by omega, by omega⟩ ⟨_, _, _, _, hr6, ?_⟩⟩⟩
    have b16 := b13.ext e36 (by simp)
    have b26 := b23.ext e36 (by simp)
    have b36 := b3.ext e36 (by simp)
    have d6 : Ext [] w6 w6.drew := (Ext.refl [] w6).drew
    have own6r := (own3.ext0 e36).ext0 d6
    have hAlt := own3.base
    obtain ⟨w7, hr7, b7, e7⟩ := rq_store (b26.ext d6 (by simp)) rfl A6 (j + (n - (j + 1))) c6 s.next
    obtain ⟨w8, hr8, b8, e8⟩ := storeW (P := Try.prog) (t := 34) (n := 6) (vs := x.cells) i34s ((b36.ext d6 (by simp)).ext e7 (by simp; omega)) rfl rfl (WL.one x)
    have hA1 : ∀ b ∈ ownF A, b < w.heap.size := fun b hb => (own.base b hb).2
    have own7r := own6r.ext e7 (fun b hb => by simp; have := hA1 b hb; omega)
    have own8r := own7r.ext e8 (fun b hb => by simp; have := hA1 b hb; omega)
    have b17 := (b16.ext d6 (by simp)).ext e7 (by simp; omega)
    have b18 := b17.ext e8 (by simp; omega)
    have rX : ∀ w', (BlkT w' w.heap.size (rq A n c s.next) 56 ∧ OwnW w' B A n c s.xs) → ∃ ad, A = some ad ∧ cellsC (fun a v => w'.cell? a = some v) (ad.add (j * 6)) x.cells := fun w' h => by
      obtain ⟨y, ad, hy, hA, rd⟩ := rowW h.2.cells hxl (a := j) (by omega)
      rw [hj] at hy
      cases hy
      rw [Int.toNat_natCast] at rd
      exact ⟨ad, hA, rd⟩
    obtain ⟨ad, hA, -⟩ := rX w8 ⟨b18, own8r⟩
    subst hA
    have rXS : ∀ w', (BlkT w' w.heap.size (rq (some ad) n c s.next) 56 ∧ OwnW w' B (some ad) n c s.xs) → cellsC (fun a v => w'.cell? a = some v) (ad.add (j * 6)) x.cells := fun w' h => by
      obtain ⟨ad', hA, rd⟩ := rX w' h
      cases hA
      exact rd
    refine ⟨fun w' => BlkT w' w.heap.size (rq (some ad) n c s.next) 56 ∧ OwnW w' B (some ad) n c s.xs, ⟨b16.ext d6 (by simp), own6r⟩, _, fun w' h => cadd h.1 rfl, _, _, _, fun w' h => cadd h.1 rfl, when_dec ⟨by omega, by omega⟩ (ptr_in ⟨_, _, _, _, _, _, cellsC_S rXS, w7, hr7, ⟨b17, own7r⟩, w8, hr8, ⟨b18, own8r⟩, _, _, _, _, cadd0 (b7.ext e8 (by simp; omega)), _, _, _, _, _, _, cadd0 b8, k A6 _ c6 w8 ?_ ?_ (fun b hb => .inr (by have := (own6.base b hb).1; have := x13.size; omega))⟩)⟩
    · exact (((x13.trans e36).trans d6).trans' e7 (fun b hb => .inr (by simp at hb; omega))).trans' e8 (fun b hb => .inr (by simp at hb; omega))
    · have h5b := own6.base
      have h6 : OwnW w8 B A6 (j + (n - (j + 1))) c6 (s.xs.take j ++ s.xs.drop (j + 1)) := own_weaken (((own6.ext0 d6).ext e7 (fun b hb => by simp; have := (h5b b hb).1; omega)).ext e8 (fun b hb => by simp; have := (h5b b hb).1; omega)) (Nat.le_trans hB x13.size)
      rw [← List.eraseIdx_eq_take_drop_succ] at h6
      exact h6
theorem refPark_c {w : World} {B n c : Nat} {A : Option Addr} {s : QS} (own : OwnW w B A n c s.xs) (hB : B ≤ w.heap.size) (hn : n ≤ 100000) (htr : ∀ x ∈ s.xs, 0 ≤ x.tries ∧ x.tries ≤ 1099511627776) (name : ByteArray) (now : Int) {R : Ending → World → Prop}
    (k : ∀ A' n' c' w', Ext [] w w' → OwnW w' B A' n' c' (parkV s name now).1.xs → (∀ b ∈ ownF A', b ∈ ownF A ∨ w.heap.size ≤ b) → R (.returned (.tuple #[.agg ⟨rq A' n' c' (parkV s name now).1.next⟩, .int .i64 (parkV s name now).2])) w') :
    Calls Try.prog 46 #[.agg ⟨rq A n c s.next⟩, .string name, .int .i64 now] w R := by
  unfold rq
  apply berthref25_Park_nf
  intro w1 h1 w2 h2
  obtain ⟨b1, x1, z1⟩ := box_new (cs := rq A n c s.next) h1
  obtain ⟨b2, x2, z2⟩ := box_new (cs := rq none 0 0 0) h2
  have b12 := b1.ext x2 (by simp)
  have x12 := x1.trans x2
  have own2 := OwnW.ext0 own x12
  have hxl := own.len
  refine ⟨_, _, _, cadd b12 rfl, find_c own2.cells hxl (by omega) name ⟨_, rfl, ?_⟩⟩
  obtain ⟨w3, hr3, b3, e3⟩ := rq_store b2 rfl A n c s.next
  have x3 : Ext [] w w3 := x12.trans' e3 (fun b hb => .inr (by simp at hb; omega))
  have back : ∀ code, parkV s name now = (s, code) → ∃ A11, ∃ A11l, ∃ A11c, ∃ n12, V.cellsC (fun a_ x_ => World.cell? w2 a_ = some x_) ⟨w.heap.size, 0, none⟩ [(Value.slice A11 A11l A11c), (Value.int .i64 n12)] ∧
      ∃ w13, Sem.run Try.prog (Instr.storeAt 56 (Value.pointer (some ⟨w1.heap.size, 0, none⟩)) (Value.agg #[(Value.slice A11 A11l A11c), (Value.int .i64 n12)])) w2 = .ok () w13 ∧
      ∃ A14, ∃ A14l, ∃ A14c, ∃ n15, V.cellsC (fun a_ x_ => World.cell? w13 a_ = some x_) ⟨w1.heap.size, 0, none⟩ [(Value.slice A14 A14l A14c), (Value.int .i64 n15)] ∧
      R (Ending.returned (Value.tuple #[(Value.agg #[(Value.slice A14 A14l A14c), (Value.int .i64 n15)]), (Value.int .i64 code)])) w13 := fun code hv => by
    have := k A n c w3 x3 (by rw [hv]; exact OwnW.ext0 own x3) (fun b hb => .inl hb)
    rw [hv] at this
    exact ⟨_, _, _, _, cadd0 b12, w3, hr3, _, _, _, _, cadd0 b3, this⟩
  refine sel_dec (fun h => back 252 (by unfold parkV; rw [find_neg h])) (fun h => ?_)
  obtain ⟨j, x, hj, hf, hi⟩ := find_some h
  have hjl := (List.getElem?_eq_some_iff.1 hj).1
  refine sel_dec (fun h0 => back 254 (by unfold parkV; rw [hi]; simp only [if_pos (show now < 0 ∨ 1099511627776 < now from .inl h0)])) (fun h0 => sel_dec (fun h1 => back 254 (by unfold parkV; rw [hi]; simp only [if_pos (show now < 0 ∨ 1099511627776 < now from .inr h1)])) (fun h1 => ?_))
  have hv : parkV s name now = (⟨s.xs.set j (x.parked now), s.next⟩, 0) := by unfold parkV; rw [hi]; simp only [if_neg (show ¬ (now < 0 ∨ 1099511627776 < now) by omega), getD_of hj]
  rw [hv] at k
  rw [hf]
  simp only [Int.toNat_natCast]
  intro w4 h4
  obtain ⟨bz, ez, zz⟩ := box_new (cs := []) h4
  obtain ⟨A5, c5, w5, hr5, own5, e5⟩ := copyW (w := w2) own2.cells hxl h4 (by omega) c
  obtain ⟨g, bs, hg, -⟩ := own_blk own5 (by omega)
  subst hg
  have x5 := x12.trans e5
  have b15 := b12.ext e5 (by simp)
  have b25 := b2.ext e5 (by simp)
  have h5b : ∀ b ∈ ownF (some ⟨g, 0, none⟩), w2.heap.size ≤ b := fun b hb => (own5.base b hb).1
  have htx := htr x (List.mem_of_getElem? hj)
  obtain ⟨T, hT⟩ : ∃ T, T = (if x.tries < 1099511627776 then x.tries + 1 else x.tries) := ⟨_, rfl⟩
  have hT0 : 0 ≤ T ∧ T ≤ 1099511627776 := by rw [hT]; split <;> omega
  have hwv := waitV_le T
  have hpk : x.parked now = ⟨x.name, x.pr, x.seq, T, now + waitV T, true⟩ := by unfold Wt.parked; rw [← hT]
  refine ⟨_, _, _, cadd (b12.ext ez (by simp)) rfl, _, _, _, _, hr5, ?_⟩
  -- behind the count
  have fin : ∀ (w6 : World), Ext (ownF (some ⟨g, 0, none⟩)) w5 w6 → OwnW w6 w2.heap.size (some ⟨g, 0, none⟩) n c5 (s.xs.set j { x with tries := T }) →
      V.when (decide ((0 : Int) ≤ (j : Int) ∧ ((j : Int) : Int) < ((n : Nat) : Int))) (V.ptr (some ⟨g, 0, none⟩) fun a36 =>
      ∃ w37, Sem.run Try.prog (Instr.storeAt 4 (Value.pointer (some (Addr.add (Addr.add a36 (j * 6)) 5))) (Value.bool true)) w6 = .ok () w37 ∧
      V.when (decide ((0 : Int) ≤ (j : Int) ∧ ((j : Int) : Int) < ((n : Nat) : Int))) (V.ptr (some ⟨g, 0, none⟩) fun a38 =>
      ∃ n39, World.cell? w37 (Addr.add (Addr.add a38 (j * 6)) 3) = some (Value.int .i64 n39) ∧
      Calls Try.prog 54 #[(Value.int .i64 n39)] w37 fun e41 w42 =>
      ∃ n40, e41 = Ending.returned (Value.int .i64 n40) ∧
      V.when (decide ((0 : Int) ≤ (j : Int) ∧ ((j : Int) : Int) < ((n : Nat) : Int))) (V.ptr (some ⟨g, 0, none⟩) fun a43 =>
      ∃ w44, Sem.run Try.prog (Instr.storeAt 3 (Value.pointer (some (Addr.add (Addr.add a43 (j * 6)) 4))) (Value.int .i64 (IntKind.wrap .i64 (now + n40)))) w42 = .ok () w44 ∧
      ∃ n45, World.cell? w44 (Addr.add ⟨w.heap.size, 0, none⟩ 1) = some (Value.int .i64 n45) ∧
      ∃ w46, Sem.run Try.prog (Instr.storeAt 56 (Value.pointer (some ⟨w1.heap.size, 0, none⟩)) (Value.agg #[(Value.slice (some ⟨g, 0, none⟩) n c5), (Value.int .i64 n45)])) w44 = .ok () w46 ∧
      ∃ A47, ∃ A47l, ∃ A47c, ∃ n48, V.cellsC (fun a_ x_ => World.cell? w46 a_ = some x_) ⟨w1.heap.size, 0, none⟩ [(Value.slice A47 A47l A47c), (Value.int .i64 n48)] ∧
      R (Ending.returned (Value.tuple #[(Value.agg #[(Value.slice A47 A47l A47c), (Value.int .i64 n48)]), (Value.int .i64 0)])) w46))) := fun w6 e6 own6 => by
    have hsj : ∀ (ys : List Wt), ys.length = n → ∀ y, (ys.set j y)[j]? = some y := fun ys hl y => List.getElem?_set_self (by omega)
    obtain ⟨g1, w7, hg1, hr7, own7, e7⟩ := own_setW own6 (i := j) (k := 5) (x := { x with tries := T }) (y := { x with tries := T, asleep := true }) (v := .bool true) (hsj _ hxl _) (by omega) rfl i4s rfl rfl
    cases hg1
    rw [List.set_set] at own7
    obtain ⟨g2, w8, hg2, hr8, own8, e8⟩ := own_setW own7 (i := j) (k := 4) (x := { x with tries := T, asleep := true }) (y := x.parked now) (v := .int .i64 (now + waitV T)) (hsj _ hxl _) (by omega) (by rw [hpk]; rfl) i3s rfl rfl
    cases hg2
    rw [List.set_set] at own8
    obtain ⟨y7, ad7, hy7, hA7, rd7⟩ := rowW (own_cells own7) (own_len_xs own7) (a := j) (by omega)
    rw [hsj _ hxl] at hy7
    cases hy7
    cases hA7
    rw [Int.toNat_natCast] at rd7
    have e58 : Ext (ownF (some ⟨g, 0, none⟩)) w5 w8 := (e6.trans e7).trans e8
    have nb : ∀ x, x < w2.heap.size → x ∉ ownF (some ⟨g, 0, none⟩) := fun x hx hm => by have := h5b x hm; omega
    have b18 := b15.ext e58 (nb _ (by omega))
    have b28 := b25.ext e58 (nb _ (by omega))
    obtain ⟨w9, hr9, b9, e9⟩ := rq_store b28 rfl (some ⟨g, 0, none⟩) n c5 s.next
    refine when_dec ⟨by omega, by omega⟩ (ptr_in ⟨w7, hr7, when_dec ⟨by omega, by omega⟩ (ptr_in ⟨_, rd7 3 _ rfl, refWait_c T hT0.1 hT0.2 ⟨_, rfl, when_dec ⟨by omega, by omega⟩ (ptr_in ?_)⟩⟩)⟩)
    rw [w64 (x := now + waitV T) (by omega) (by omega)]
    have x9 : Ext [] w w9 := (x5.trans' e58 (fun b hb => .inr (by have := h5b b hb; omega))).trans' e9 (fun b hb => .inr (by simp at hb; omega))
    refine ⟨w8, hr8, _, cadd b18 rfl, w9, hr9, _, _, _, _, cadd0 b9, ?_⟩
    exact k (some ⟨g, 0, none⟩) n c5 w9 x9 (own_weaken (OwnW.ext own8 e9 (fun b hb => by simp; have := h5b b hb; omega)) (Nat.le_trans hB x12.size)) (fun b hb => .inr (by have := h5b b hb; have := x12.size; omega))
  obtain ⟨y5, ad5, hy5, hA5, rd5⟩ := rowW own5.cells own5.len (a := j) (by omega)
  rw [hj] at hy5
  cases hy5
  rw [Int.toNat_natCast] at rd5
  cases hA5
  refine when_dec ⟨by omega, by omega⟩ (ptr_in ⟨_, rd5 3 _ rfl, sel_dec (fun hlt => ?_) (fun hge => ?_)⟩)
  · obtain ⟨g6, w6, hg6, hr6, own6, e6⟩ := own_setW own5 (i := j) (k := 3) (x := x) (y := { x with tries := T }) (v := .int .i64 T) hj (by omega) rfl i3s rfl rfl
    cases hg6
    rw [if_pos hlt] at hT
    refine when_dec ⟨by omega, by omega⟩ (ptr_in ⟨_, rd5 3 _ rfl, when_dec ⟨by omega, by omega⟩ (ptr_in ?_)⟩)
    rw [w64 (x := x.tries + 1) (by omega) (by omega), ← hT]
    exact ⟨w6, hr6, fin w6 e6 own6⟩
  · rw [if_neg hge] at hT
    have hxT : ({ x with tries := T } : Wt) = x := by rw [hT]
    refine fin w5 (Ext.refl _ _) ?_
    rw [hxT]
    have : s.xs.set j x = s.xs := by
      refine List.ext_getElem? fun i => ?_
      rw [List.getElem?_set]
      split
      · rename_i e; subst e; first | rw [hj] | rw [if_pos hjl, hj]
      · rfl
    rw [this]
    exact own5
theorem refWake_c {w : World} {B n c : Nat} {A : Option Addr} {s : QS} (own : OwnW w B A n c s.xs) (hB : B ≤ w.heap.size) (hn : n ≤ 100000) {R : Ending → World → Prop}
    (k : ∀ A' n' c' w', Ext [] w w' → OwnW w' B A' n' c' (wakeV s).xs → (∀ b ∈ ownF A', b ∈ ownF A ∨ w.heap.size ≤ b) → R (.returned (.agg ⟨rq A' n' c' (wakeV s).next⟩)) w') :
    Calls Try.prog 47 #[.agg ⟨rq A n c s.next⟩] w R := by
  unfold rq
  apply berthref25_Wake_nf
  intro w1 h1 w2 h2 w3 h3
  obtain ⟨b1, x1, z1⟩ := box_new (cs := rq A n c s.next) h1
  obtain ⟨b2, x2, z2⟩ := box_new (cs := rq none 0 0 0) h2
  have b12 := b1.ext x2 (by simp)
  have x12 := x1.trans x2
  have own2 := OwnW.ext0 own x12
  have hxl := own.len
  obtain ⟨bz, ez, zz⟩ := box_new (cs := []) h3
  obtain ⟨A5, c5, w5, hr5, own5, e5⟩ := copyW (w := w2) own2.cells hxl h3 (by omega) c
  have x5 := x12.trans e5
  have h5b : ∀ b ∈ ownF A5, w2.heap.size ≤ b := fun b hb => (own5.base b hb).1
  refine ⟨_, _, _, cadd (b12.ext ez (by simp)) rfl, _, _, _, _, hr5, ?_⟩
  refine ⟨fun t w' => ∃ a : Nat, t = a ∧ a ≤ n ∧ Ext (ownF A5) w5 w' ∧ OwnW w' w2.heap.size A5 n c5 ((s.xs.take a).map Wt.woken ++ s.xs.drop a), fun t _ => n - t.toNat, ⟨0, rfl, by omega, Ext.refl _ _, by simpa using own5⟩, ?_⟩
  rintro _ _ w6 ⟨a, rfl, ha, e6, own6⟩
  refine sel_dec (fun hlt => ?_) (fun hge => ?_)
  · obtain ⟨x, hx, hxa, hset⟩ := woken_step (xs := s.xs) (a := a) (by omega)
    obtain ⟨g, w7, rfl, hr7, own7, e7⟩ := own_setW own6 (i := a) (k := 5) (x := x) (y := x.woken) (v := .bool false) hxa (by omega) rfl i4s rfl rfl
    rw [hset] at own7
    rw [up64 a (by omega), Int.toNat_natCast]
    exact when_dec ⟨by omega, by omega⟩ (ptr_in ⟨w7, hr7, ⟨a + 1, rfl, by omega, e6.trans e7, own7⟩, by simp only [Int.toNat_natCast]; omega⟩)
  · have : a = n := by omega
    subst this
    rw [List.take_of_length_le (by omega), List.drop_eq_nil_of_le (by omega), List.append_nil] at own6
    have nb : ∀ x, x < w2.heap.size → x ∉ ownF A5 := fun x hx hm => by have := h5b x hm; omega
    have b16 := (b12.ext e5 (by simp)).ext e6 (nb _ (by omega))
    have b26 := (b2.ext e5 (by simp)).ext e6 (nb _ (by omega))
    obtain ⟨w9, hr9, b9, e9⟩ := rq_store b26 rfl A5 a c5 s.next
    have x9 : Ext [] w w9 := (x5.trans' e6 (fun b hb => .inr (by have := h5b b hb; omega))).trans' e9 (fun b hb => .inr (by simp at hb; omega))
    exact ⟨_, cadd b16 rfl, w9, hr9, _, _, _, _, cadd0 b9, k A5 a c5 w9 x9 (own_weaken (OwnW.ext own6 e9 (fun b hb => by simp; have := h5b b hb; omega)) (Nat.le_trans hB x12.size)) (fun b hb => .inr (by have := h5b b hb; have := x12.size; omega))⟩

/-! ### Restore -/
def failV (R : Ending → World → Prop) (q : Nat) (w : World) : Prop :=
  ∃ w4, Sem.run Try.prog (Instr.storeAt 56 (Value.pointer (some ⟨q, 0, none⟩)) (Value.agg #[(Value.slice none 0 0), (Value.int .i64 0)])) w = .ok () w4 ∧
  ∃ A5, ∃ A5l, ∃ A5c, ∃ n6, V.cellsC (fun a_ x_ => World.cell? w4 a_ = some x_) ⟨q, 0, none⟩ [(Value.slice A5 A5l A5c), (Value.int .i64 n6)] ∧
  R (Ending.returned (Value.tuple #[(Value.agg #[(Value.slice A5 A5l A5c), (Value.int .i64 n6)]), (Value.int .i64 255)])) w4
/-- The names and numbers ahead of a place are others. -/
theorem dist_c {w : World} {A : Option Addr} {l : Nat} {xs : List Wt} (hc : Cells w A (flatW xs)) (hl : xs.length = l) (hb : l < 4611686018427387904) {i : Nat} (hi : i < l) {x : Wt} (hx : xs[i]? = some x) {R : Ending → World → Prop} {q : Nat} {K : World → Prop}
    (bad : (∃ y ∈ xs.take i, y.name = x.name ∨ y.seq = x.seq) → ∀ w', Ext [] w w' → failV R q w') (k : (∀ y ∈ xs.take i, y.name ≠ x.name) → (∀ y ∈ xs.take i, y.seq ≠ x.seq) → ∀ w', Ext [] w w' → K w') :
  ∃ I53 : Int → World → Prop, ∃ μ54 : Int → World → Nat, I53 0 w ∧
  ∀ j_55 (j56 : Nat → Value) (w57 : World), I53 j_55 w57 →
  (V.sel (decide (j_55 < (i : Int)))
  (V.when (decide ((0 : Int) ≤ j_55 ∧ (j_55 : Int) < ((l : Nat) : Int))) (V.ptr A fun a58 =>
  ∃ s59, World.cell? w57 (Addr.add (Addr.add a58 ((Int.toNat j_55) * 6)) 0) = some (Value.string s59) ∧
  V.when (decide ((0 : Int) ≤ (i : Int) ∧ ((i : Int) : Int) < ((l : Nat) : Int))) (V.ptr A fun a60 =>
  ∃ s61, World.cell? w57 (Addr.add (Addr.add a60 ((Int.toNat (i : Int)) * 6)) 0) = some (Value.string s61) ∧
  V.sel (ByteArray.toList s59 == ByteArray.toList s61)
  (failV R q (World.drew w57))
  (V.when (decide ((0 : Int) ≤ j_55 ∧ (j_55 : Int) < ((l : Nat) : Int))) (V.ptr A fun a62 =>
  ∃ n63, World.cell? w57 (Addr.add (Addr.add a62 ((Int.toNat j_55) * 6)) 2) = some (Value.int .i64 n63) ∧
  V.when (decide ((0 : Int) ≤ (i : Int) ∧ ((i : Int) : Int) < ((l : Nat) : Int))) (V.ptr A fun a64 =>
  ∃ n65, World.cell? w57 (Addr.add (Addr.add a64 ((Int.toNat (i : Int)) * 6)) 2) = some (Value.int .i64 n65) ∧
  V.sel (n63 == n65)
  (failV R q (World.drew w57))
  (I53 (IntKind.wrap .i64 (j_55 + 1)) (World.drew w57) ∧ μ54 (IntKind.wrap .i64 (j_55 + 1)) (World.drew w57) < μ54 j_55 w57)))))))
  (K w57)) := by
  refine ⟨fun t w' => ∃ a : Nat, t = a ∧ a ≤ i ∧ Ext [] w w' ∧ ∀ (k : Nat) (y : Wt), xs[k]? = some y → k < a → y.name ≠ x.name ∧ y.seq ≠ x.seq, fun t _ => i - t.toNat, ⟨0, rfl, by omega, Ext.refl _ _, fun _ _ _ h => by omega⟩, ?_⟩
  rintro _ _ w1 ⟨a, rfl, ha, e1, hlo⟩
  refine sel_dec (fun hlt => ?_) (fun hge => ?_)
  · obtain ⟨y, ad, hy, rfl, ry⟩ := rowW (hc.ext0 e1) hl (a := a) (by omega)
    obtain ⟨x', ad', hx', he, rx⟩ := rowW (hc.ext0 e1) hl (a := i) (by omega)
    cases he
    rw [hx] at hx'
    cases hx'
    have hym : y ∈ xs.take i := by
      obtain ⟨hyl, ey⟩ := List.getElem?_eq_some_iff.1 hy
      exact List.mem_of_getElem? (i := a) (by rw [List.getElem?_take, if_pos (by omega), hy])
    refine when_dec ⟨by omega, by omega⟩ (ptr_in ⟨_, ry 0 _ rfl, when_dec ⟨by omega, by omega⟩ (ptr_in ⟨_, rx 0 _ rfl, ?_⟩)⟩)
    rw [beqBytes]
    refine sel_dec (fun h => bad ⟨y, hym, .inl h⟩ _ e1.drew) (fun hn => ?_)
    refine when_dec ⟨by omega, by omega⟩ (ptr_in ⟨_, ry 2 _ rfl, when_dec ⟨by omega, by omega⟩ (ptr_in ⟨_, rx 2 _ rfl, sel_intro (fun h => bad ⟨y, hym, .inr (eq_of_beq h)⟩ _ e1.drew) (fun hs => ?_)⟩)⟩)
    have hs : y.seq ≠ x.seq := fun e => by rw [e] at hs; simp at hs
    rw [up64 a (by omega)]
    refine ⟨⟨a + 1, rfl, by omega, e1.drew, fun kk z hz hk => ?_⟩, by simp only [Int.toNat_natCast]; omega⟩
    by_cases e : kk = a
    · subst e; rw [hy] at hz; cases hz; exact ⟨hn, hs⟩
    · exact hlo kk z hz (by omega)
  · have all : ∀ y ∈ xs.take i, y.name ≠ x.name ∧ y.seq ≠ x.seq := fun y hy => by
      obtain ⟨kk, hk⟩ := List.mem_iff_getElem?.1 hy
      rw [List.getElem?_take] at hk
      split at hk
      · exact hlo kk y hk (by omega)
      · cases hk
    exact k (fun y hy => (all y hy).1) (fun y hy => (all y hy).2) w1 e1
theorem refRestore_c {w : World} {A : Option Addr} {n c : Nat} {xs : List Wt} (hx : Cells w A (flatW xs)) (hxl : xs.length = n) (next : Int) {R : Ending → World → Prop}
    (k1 : ¬ ValidQ xs next → ∀ w', Ext [] w w' → R (.returned (.tuple #[.agg ⟨rq none 0 0 0⟩, .int .i64 255])) w')
    (k2 : ValidQ xs next → ∀ A' c' w', Ext [] w w' → OwnW w' w.heap.size A' n c' xs → R (.returned (.tuple #[.agg ⟨rq A' n c' next⟩, .int .i64 0])) w') :
    Calls Try.prog 43 #[.slice A n c, .int .i64 next] w R := by
  apply berthref25_Restore_nf
  intro w1 h1
  obtain ⟨b1, x1, z1⟩ := box_new (cs := rq none 0 0 0) h1
  have bad : ¬ ValidQ xs next → ∀ w', Ext [] w1 w' → failV R w.heap.size w' := fun hv w' e => by
    obtain ⟨w2, hr2, b2, e2⟩ := rq_store (b1.ext e (by simp)) rfl none 0 0 0
    exact ⟨w2, hr2, _, _, _, _, cadd0 b2, k1 hv w2 ((x1.trans e).trans' e2 (fun b hb => .inr (by simp at hb; omega)))⟩
  refine sel_dec (fun h => bad (fun v => by have := v.1; omega) w1 (Ext.refl _ _)) (fun h0 => sel_dec (fun h => bad (fun v => by have := v.2.1; omega) w1 (Ext.refl _ _)) (fun h1 => sel_dec (fun h => bad (fun v => by have := v.2.2.1; omega) w1 (Ext.refl _ _)) (fun h2 => ?_)))
  refine ⟨fun t w' => ∃ a : Nat, t = a ∧ a ≤ n ∧ Ext [] w1 w' ∧ OkL (xs.take a) next, fun t _ => n - t.toNat, ⟨0, rfl, by omega, Ext.refl _ _, by simp; exact ⟨List.Pairwise.nil, by simp, by simp, by simp⟩⟩, ?_⟩
  rintro _ _ w2 ⟨a, rfl, ha, e2, hok⟩
  have hx2 := (hx.ext0 x1).ext0 e2
  refine sel_dec (fun hlt => ?_) (fun hge => ?_)
  · obtain ⟨x, ad, hxx, hA, rx⟩ := rowW hx2 hxl (a := a) (by omega)
    have snoc : ValidQ xs next → _ := fun v => (OkL.snoc hxx).1 (v.2.2.2.take (a + 1))
    refine when_dec ⟨by omega, by omega⟩ ?_
    subst hA
    refine ptr_in ⟨_, _, _, _, _, _, rx, may_c x next fun w3 b hb e3 => ⟨_, rfl, ?_⟩⟩
    have e23 := e2.trans e3
    refine sel_intro (fun hbf => bad (fun v => ?_) w3 e23) (fun hbt => ?_)
    · have := hb.2 (snoc v).2.1
      rw [this] at hbf; cases hbf
    have hsd : soundV x next := hb.1 (by simpa using hbt)
    have e3d := e23.drew
    have fin : (∀ y, 0 < a → xs[a - 1]? = some y → ahead y x = true) → ∀ w', Ext [] w1 w' → (∀ y ∈ xs.take a, y.name ≠ x.name) → (∀ y ∈ xs.take a, y.seq ≠ x.seq) →
        (∃ a' : Nat, IntKind.wrap .i64 ((a : Int) + 1) = a' ∧ a' ≤ n ∧ Ext [] w1 w' ∧ OkL (xs.take a') next) ∧ n - (IntKind.wrap .i64 ((a : Int) + 1)).toNat < n - (a : Int).toNat := fun hah w' e hnm hsq => by
      rw [up64 a (by omega)]
      exact ⟨⟨a + 1, rfl, by omega, e, (OkL.snoc hxx).2 ⟨hok, hsd, hnm, hsq, hah⟩⟩, by simp only [Int.toNat_natCast]; omega⟩
    have twice : (∃ y ∈ xs.take a, y.name = x.name ∨ y.seq = x.seq) → ¬ ValidQ xs next := fun ⟨y, hy, h⟩ v => by
      have := snoc v
      rcases h with h | h
      · exact this.2.2.1 y hy h
      · exact this.2.2.2.1 y hy h
    have cS : ∀ w', Ext [] w1 w' → Cells w' (some ad) (flatW xs) := fun w' e => (hx.ext0 x1).ext0 e
    refine ⟨fun w' => Ext [] w1 w', e3d, sel_dec (fun hpos => ?_) (fun hz => ?_)⟩
    · have hpos : 0 < a := by omega
      have ei : IntKind.wrap .i64 ((a : Int) - 1) = ((a - 1 : Nat) : Int) := by rw [w64 (by omega) (by omega)]; omega
      rw [ei]
      obtain ⟨y, hy⟩ : ∃ y, xs[a - 1]? = some y := ⟨xs[a - 1]'(by omega), List.getElem?_eq_getElem (by omega)⟩
      have rd : ∀ (i : Nat) (z : Wt), i < n → xs[i]? = some z → ∀ w', Ext [] w1 w' → cellsC (fun a v => w'.cell? a = some v) (ad.add (Int.toNat (i : Int) * 6)) z.cells := fun i z hi hz w' e => by
        obtain ⟨z', ad', hz', he, r⟩ := rowW (cS w' e) hxl (a := i) hi
        cases he
        rw [hz] at hz'
        cases hz'
        exact r
      refine when_dec ⟨by omega, by omega⟩ (ptr_in ⟨_, _, _, _, _, _, cellsC_S (rd (a - 1) y (by omega) hy), when_dec ⟨by omega, by omega⟩ (ptr_in ⟨_, _, _, _, _, _, cellsC_S (rd a x (by omega) hxx), refAhead_c y x fun w4 e4 => ⟨_, rfl, e3d.trans e4, ?_⟩⟩)⟩)
      have e34 := e3d.trans e4
      refine sel_intro (fun hna => bad (fun v => ?_) w4 e34) (fun hya => ?_)
      · have := (snoc v).2.2.2.2 y hpos hy
        rw [this] at hna; cases hna
      have hah : ∀ y', 0 < a → xs[a - 1]? = some y' → ahead y' x = true := fun y' _ hy' => by rw [hy] at hy'; cases hy'; simpa using hya
      exact dist_c (cS w4 e34) hxl (by omega) (by omega) hxx (fun h w' e => bad (twice h) w' (e34.trans e)) (fun h1 h2 w' e => fin hah w' (e34.trans e) h1 h2)
    · exact dist_c (cS _ e3d) hxl (by omega) (by omega) hxx (fun h w' e => bad (twice h) w' (e3d.trans e)) (fun h1 h2 w' e => fin (fun y h _ => by omega) w' (e3d.trans e) h1 h2)
  · have : a = n := by omega
    subst this
    rw [List.take_of_length_le (by omega)] at hok
    have hv : ValidQ xs next := ⟨by omega, by omega, by omega, hok⟩
    intro w3 h3
    obtain ⟨A4, c4, w4, hr4, own4, e4⟩ := copyW (w := w2) hx2 hxl h3 (by omega) c
    obtain ⟨w5, hr5, b5, e5⟩ := rq_store ((b1.ext e2 (by simp)).ext e4 (by simp)) rfl A4 a c4 next
    have hb4 := own4.base
    have h2s := e2.size
    refine ⟨_, _, _, _, hr4, w5, hr5, _, _, _, _, cadd0 b5, k2 hv A4 c4 w5 (((x1.trans e2).trans e4).trans' e5 (fun b hb => .inr (by simp at hb; omega))) ?_⟩
    exact own_weaken (own4.ext e5 (fun b hb => by simp; have := (hb4 b hb).1; omega)) (by omega)
end Go.Proofs.Ytfjgiaimlmnepaa
