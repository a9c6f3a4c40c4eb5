/- The queue in memory: comparing, the binary search, put, drop. -/
import Derived.Test.YtfjgiaimlmnepaaQ2
set_option linter.unusedVariables false
set_option linter.unusedSimpArgs false
namespace Go.Proofs.Ytfjgiaimlmnepaa
open Go Go.V Go.B

theorem cadd {w : World} {g : Nat} {cs : List Value} {T : TypeId} (h : BlkT w g cs T) {i : Nat} {v : Value} (hv : cs[i]? = some v) : w.cell? (Addr.add ⟨g, 0, none⟩ i) = some v := by
  rw [Addr.add0]; exact h.cell hv
theorem cadd0 {w : World} {g : Nat} {cs : List Value} {T : TypeId} (h : BlkT w g cs T) : cellsC (fun a v => w.cell? a = some v) ⟨g, 0, none⟩ cs := blk_cellsC0 h.blk
theorem cellsC_S {S : World → Prop} {a : Addr} {vs : List Value} (h : ∀ w, S w → cellsC (fun a v => w.cell? a = some v) a vs) : cellsC (fun a v => ∀ w, S w → w.cell? a = some v) a vs := fun j v hj w hS => h w hS j v hj
/-- A new box. -/
theorem box_new {w w' : World} {cs : List Value} {T : TypeId} (h : w' = w.alloc (.cells ⟨cs⟩ T)) : BlkT w' w.heap.size cs T ∧ Ext [] w w' ∧ w'.heap.size = w.heap.size + 1 := by
  subst h
  exact ⟨BlkT.new _ _ _, (Ext.refl _ _).alloc _, World.size_alloc _ _⟩
/-- What was laid since leaves what lay before as it was. -/
theorem Ext.fresh {F : List Nat} {a b : World} (h : Ext F a b) {n : Nat} (hn : a.heap.size ≤ n) (hF : ∀ x ∈ F, n ≤ x) : Ext [] a b := h.weaken fun x hx => .inr (Nat.le_trans hn (hF x hx))

theorem isNaN_c (x : Int) {w : World} {R : Ending → World → Prop} (k : R (.returned (.bool false)) w) : Calls Try.prog 50 #[.int .i64 x] w R := by
  apply cmp_isNaN_int__nf
  rw [show (x != x) = false by simp]; exact k
theorem Compare_c (x y : Int) {w : World} {R : Ending → World → Prop} (k : R (.returned (.int .i64 (if x < y then -1 else if x > y then 1 else 0))) w) : Calls Try.prog 42 #[.int .i64 x, .int .i64 y] w R := by
  apply cmp_Compare_int__nf
  refine isNaN_c x ⟨_, rfl, isNaN_c y ⟨_, rfl, sel_false rfl (sel_false rfl ?_)⟩⟩
  refine sel_dec (fun h => ?_) (fun h => sel_dec (fun h2 => ?_) (fun h2 => ?_))
  · rw [if_pos h] at k; exact k
  · rw [if_neg h, if_pos h2] at k; exact k
  · rw [if_neg h, if_neg h2] at k; exact k
theorem compare_c (q : Option Addr) (a b : Wt) {w : World} {R : Ending → World → Prop} (k : ∀ w', Ext [] w w' → R (.returned (.int .i64 (cmpV a b))) w') :
    Calls Try.prog 35 #[.pointer q, a.val, b.val] w R := by
  unfold Wt.val
  apply queue_Queue_compare_nf
  intro w1 h1 w2 h2
  obtain ⟨b1, x1, z1⟩ := box_new (cs := a.cells) h1
  obtain ⟨b2, x2, z2⟩ := box_new (cs := b.cells) h2
  replace b1 := b1.ext x2 (by simp)
  have x := x1.trans x2
  refine ⟨_, cadd b2 rfl, _, cadd b1 rfl, Compare_c _ _ ⟨_, rfl, ?_⟩⟩
  have hk := k w2 x
  unfold cmpV at hk
  by_cases h1 : b.pr < a.pr
  · rw [if_pos h1] at hk ⊢
    exact sel_true rfl hk
  · rw [if_neg h1] at hk ⊢
    by_cases h2 : b.pr > a.pr
    · rw [if_pos h2] at hk ⊢
      exact sel_true rfl hk
    · rw [if_neg h2] at hk ⊢
      refine sel_false rfl ⟨_, cadd b1 rfl, _, cadd b2 rfl, Compare_c _ _ ⟨_, rfl, hk⟩⟩
theorem half {a b : Nat} (h : a + b < 4611686018427387904) : IntKind.wrap .i64 (Int.fdiv (IntKind.wrap .u64 (IntKind.wrap .i64 ((a : Int) + (b : Int)))) (2 ^ 1)) = (((a + b) / 2 : Nat) : Int) := by
  rw [w64 (x := (a : Int) + b) (by omega) (by omega), u64 (by omega) (by omega)]
  have e : Int.fdiv ((a : Int) + b) (2 ^ 1) = (((a + b) / 2 : Nat) : Int) := by
    rw [Int.fdiv_eq_ediv_of_nonneg _ (by omega)]; omega
  rw [e, w64 (by omega) (by omega)]
theorem Search_c {B : Nat} {A : Option Addr} {n c : Nat} {xs : List Wt} {w : World} (own : w.ownsRow B 34 6 (.slice A n c) n (flatW xs)) (hs : Sorted xs) (hn : n ≤ 100000) (t : Wt) (q : Option Addr) {R : Ending → World → Prop}
    (k : ∀ w' b, Ext [] w w' → R (.returned (.tuple #[.int .i64 (place xs t : Int), .bool b])) w') :
    Calls Try.prog 39 #[.slice A n c, t.val, .func (.func 35) #[.pointer q] #[]] w R := by
  unfold Wt.val
  apply slices_BinarySearchFunc___api_Waiting_api_Waiting_api_Waiting__nf
  intro w0 h0
  have hxl := own_len_xs own
  obtain ⟨bt, x0, _⟩ := box_new (cs := t.cells) h0
  clear h0
  have cl := own_cells own
  have rd : ∀ {w' : World}, Ext [] w0 w' → ∀ {i : Nat} {x : Wt}, xs[i]? = some x → ∃ ad, A = some ad ∧ cellsC (fun a v => w'.cell? a = some v) (ad.add (i * 6)) x.cells := fun e i x hx => WL.read (cl.ext0 (x0.trans e)) hx
  have tg : ∀ {w' : World}, Ext [] w0 w' → cellsC (fun a v => w'.cell? a = some v) ⟨w.heap.size, 0, none⟩ t.cells := fun e => cadd0 (bt.ext e (by simp))
  refine ⟨fun i j w' => ∃ a b : Nat, i = a ∧ j = b ∧ a ≤ b ∧ b ≤ n ∧ Ext [] w0 w' ∧ (∀ k y, xs[k]? = some y → k < a → ahead y t = true) ∧ (∀ k y, xs[k]? = some y → b ≤ k → ahead y t = false), fun i j _ => j.toNat - i.toNat,
    ⟨0, n, rfl, rfl, by omega, Nat.le_refl _, Ext.refl _ _, fun _ _ _ h => by omega, fun k y hk hge => by have := (List.getElem?_eq_some_iff.1 hk).1; omega⟩, ?_⟩
  rintro _ _ _ w1 ⟨a, b, rfl, rfl, hab, hbn, e1, lo, hi⟩
  refine sel_dec (fun hlt => ?_) (fun hge => ?_)
  · have hlt : a < b := by omega
    refine lt_eq (half (by omega)) ?_
    obtain ⟨m, hm⟩ : ∃ m, m = (a + b) / 2 := ⟨_, rfl⟩
    rw [← hm]
    obtain ⟨y, hy⟩ : ∃ y, xs[m]? = some y := ⟨xs[m]'(by omega), List.getElem?_eq_getElem (by omega)⟩
    obtain ⟨ad, rfl, _⟩ := rd (Ext.refl _ _) hy
    have rdS : ∀ w', Ext [] w0 w' → cellsC (fun a v => w'.cell? a = some v) (ad.add (Int.toNat (m : Int) * 6)) y.cells := fun w' hS => by
      obtain ⟨ad', e, h⟩ := rd hS hy
      cases e
      rw [Int.toNat_natCast]; exact h
    refine ⟨fun w' => Ext [] w0 w', e1.drew, when_dec ⟨by omega, by omega⟩ (ptr_in ⟨_, _, _, _, _, _, cellsC_S rdS, _, _, _, _, _, _, cellsC_S fun w' hS => tg hS, when_intro (by kernel_rfl) ?_⟩)⟩
    · refine compare_c q y t fun w2 e2 => ⟨_, rfl, e1.drew.trans e2, ?_⟩
      have e12 := e1.drew.trans e2
      refine sel_dec (fun hc => ?_) (fun hc => ?_)
      · have hya := (cmpV_neg y t).1 hc
        rw [up64 m (by omega)]
        exact ⟨⟨m + 1, b, rfl, rfl, by omega, hbn, e12, fun k z hk hk2 => hs.down hk hy (by omega) hya, hi⟩, by simp only [Int.toNat_natCast]; omega⟩
      · have hya : ahead y t = false := by
          cases hh : ahead y t with
          | false => rfl
          | true => exact absurd ((cmpV_neg y t).2 hh) hc
        refine ⟨⟨a, m, rfl, rfl, by omega, by omega, e12, lo, fun k z hk hk2 => ?_⟩, by simp only [Int.toNat_natCast]; omega⟩
        cases hh : ahead z t with
        | false => rfl
        | true => rw [hs.down hy hk hk2 hh] at hya; cases hya
  · have hab : a = b := by omega
    subst hab
    have hp : place xs t = a := place_of lo (fun y hy => hi a y hy (Nat.le_refl _)) (by omega)
    rw [hp] at k
    refine ⟨fun w' => Ext [] w0 w', e1.drew, sel_dec (fun hlt => ?_) (fun hge => k _ _ (x0.trans e1.drew))⟩
    obtain ⟨y, hy⟩ : ∃ y, xs[a]? = some y := ⟨xs[a]'(by omega), List.getElem?_eq_getElem (by omega)⟩
    obtain ⟨ad, rfl, _⟩ := rd (Ext.refl _ _) hy
    have rdS : ∀ w', Ext [] w0 w' → cellsC (fun a v => w'.cell? a = some v) (ad.add (Int.toNat (a : Int) * 6)) y.cells := fun w' hS => by
      obtain ⟨ad', e, h⟩ := rd hS hy
      cases e
      rw [Int.toNat_natCast]; exact h
    refine when_dec ⟨by omega, by omega⟩ (ptr_in ⟨_, _, _, _, _, _, cellsC_S rdS, _, _, _, _, _, _, cellsC_S fun w' hS => tg hS, when_intro (by kernel_rfl) ?_⟩)
    · exact compare_c q y t fun w2 e2 => ⟨_, rfl, e1.drew.trans e2, k _ _ (x0.trans (e1.drew.trans e2))⟩

/-! ### the queue in memory -/
theorem u60 : Try.prog.underlying 60 = some (.map 9 34) := by kernel_rfl
theorem kS : KeyT Try.prog 9 Value.string := keyString (by kernel_rfl)
theorem zW : ∀ w, (zeroValue 34).run Try.prog w = .ok z34 w := fun w => by
  have h := i34
  cases hq : Try.prog.info? 34 with
  | none => rw [hq] at h; cases h
  | some i =>
    rw [hq] at h
    simp only [Option.map_some, Option.some.injEq, Prod.mk.injEq] at h
    simp [zeroValue, typeInfo, hq, h.1]
theorem i29s : (Try.prog.info? 29).map (·.size) = some 1 := by kernel_rfl
theorem i3s : (Try.prog.info? 3).map (·.size) = some 1 := by kernel_rfl
theorem i4s : (Try.prog.info? 4).map (·.size) = some 1 := by kernel_rfl
structure QM (w : World) (B p r : Nat) (A : Option Addr) (n c : Nat) (m : List (ByteArray × Wt)) (xs : List Wt) (next : Nat) : Prop where
  hdr : BlkT w p [.slice A n c, .map (some r), .int .i64 (next : Int)] 62
  own : w.ownsRow B 34 6 (.slice A n c) n (flatW xs)
  mp : MapAt w r Value.string Wt.val m
  hp : p ∉ ownF A
  hr : r ∉ p :: ownF A
  hB : B ≤ w.heap.size
theorem QM.ext {F : List Nat} {w w' : World} {B p r : Nat} {A : Option Addr} {n c : Nat} {m : List (ByteArray × Wt)} {xs : List Wt} {next : Nat} (h : QM w B p r A n c m xs next) (e : Ext F w w') (hF : ∀ b ∈ p :: r :: ownF A, b ∉ F) : QM w' B p r A n c m xs next :=
  ⟨h.hdr.ext e (hF p (by simp)), own_ext h.own e (fun b hb => hF b (by simp [hb])), h.mp.ext e (hF r (by simp)), h.hp, h.hr, Nat.le_trans h.hB e.size⟩
theorem QM.ext0 {w w' : World} {B p r : Nat} {A : Option Addr} {n c : Nat} {m : List (ByteArray × Wt)} {xs : List Wt} {next : Nat} (h : QM w B p r A n c m xs next) (e : Ext [] w w') : QM w' B p r A n c m xs next := h.ext e (by simp)
theorem QM.lt {w : World} {B p r : Nat} {A : Option Addr} {n c : Nat} {m : List (ByteArray × Wt)} {xs : List Wt} {next : Nat} (h : QM w B p r A n c m xs next) : ∀ b ∈ p :: r :: ownF A, b < w.heap.size := by
  intro b hb
  rcases List.mem_cons.1 hb with rfl | hb
  · exact h.hdr.lt
  · rcases List.mem_cons.1 hb with rfl | hb
    · exact h.mp.lt
    · rcases h.own.2 with ⟨hv, _⟩ | ⟨g, cap, cur, hv, _, hh, _⟩
      · injection hv with hA _ _; subst hA; cases hb
      · injection hv with hA _ _; subst hA
        simp [ownF] at hb; subst hb
        exact (Array.getElem?_eq_some_iff.1 hh).1
theorem put_c {w : World} {B p r : Nat} {A : Option Addr} {n c : Nat} {m : List (ByteArray × Wt)} {xs : List Wt} {next : Nat} (h : QM w B p r A n c m xs next) (hs : Sorted xs) (hn : n ≤ 50000) (x : Wt) {R : Ending → World → Prop}
    (k : ∀ A' c' w', QM w' B p r A' (n + 1) c' (mput m x.name x) (ins xs x) next → Ext (p :: r :: ownF A) w w' → (ownF A' = ownF A ∨ ∃ g, ownF A' = [g] ∧ w.heap.size ≤ g) → R (.returned undef) w') :
    Calls Try.prog 31 #[.pointer (some ⟨p, 0, none⟩), x.val] w R := by
  unfold Wt.val
  apply queue_Queue_put_nf
  intro w1 h1
  obtain ⟨bx, x1, z1⟩ := box_new (cs := x.cells) h1
  clear h1
  have hxl := own_len_xs h.own
  have hlt := h.lt
  have q1 := h.ext0 x1
  refine ⟨fun w' => Ext [] w1 w', (Ext.refl _ _).drew, ptr_in ⟨_, _, _, fun w' hS => cadd (q1.ext0 hS).hdr rfl, _, _, _, _, _, _, cellsC_S fun w' hS => cadd0 (bx.ext hS (by simp)), ?_⟩⟩
  refine Search_c (w := w1.drew) (q1.ext0 (Ext.refl _ _).drew).own hs (by omega) x _ fun w2 b e2 => ⟨_, _, rfl, (Ext.refl _ _).drew.trans e2, ?_⟩
  have e12 : Ext [] w1 w2 := (Ext.refl _ _).drew.trans e2
  have q2 := q1.ext0 e12
  have bx2 := bx.ext e12 (by simp)
  have hpl : p < w.heap.size := hlt p (by simp)
  have hA : ∀ b ∈ ownF A, b < w.heap.size := fun b hb => hlt b (by simp [hb])
  have hxA : w.heap.size ∉ ownF A := fun hm => by have := hA _ hm; omega
  have q2d := q2.ext0 (Ext.refl _ _).drew
  refine ⟨fun w' => Ext (ownF A) w2.drew w', Ext.refl _ _, ptr_in ⟨_, _, _, fun w' hS => cadd (q2d.hdr.ext hS h.hp) rfl, _, _, _, _, _, _, cellsC_S fun w' hS => cadd0 (T := 34) (cs := x.cells) (BlkT.ext (w := w2.drew) bx2 hS hxA), ?_⟩⟩
  intro w3 h3
  obtain ⟨b3, x3, z3⟩ := box_new (cs := x.cells) h3
  clear h3
  refine ⟨x3.weaken (fun _ h => by cases h), ?_⟩
  have q3 := q2d.ext0 x3
  have hsz2 : w.heap.size ≤ w2.heap.size := Nat.le_trans x1.size e12.size
  refine Insert_c (w := w3) q3.own q3.hB (i := place xs x) (by rw [← hxl]; exact place_le _ _) (by omega) b3 (fun hm => by have := hA _ hm; have : w2.drew.heap.size = w2.heap.size := rfl; omega) fun A' c' w4 own4 e4 hF4 => ⟨_, _, _, rfl, (x3.weaken (fun _ h => by cases h)).trans e4, ptr_in ?_⟩
  have hdr4 := q3.hdr.ext e4 h.hp
  obtain ⟨w5, hr5, hdr5, e5⟩ := store1a (P := Try.prog) (v := .slice A' (n + 1) c') i29s hdr4 (i := 0) (by simp) rfl rfl
  refine ⟨_, hr5, ptr_in ?_⟩
  have sz3 : w2.heap.size + 1 = w3.heap.size := z3.symm
  have hpF : p ∉ ownF A' := by
    rcases hF4 with e | ⟨g, e, hg⟩
    · rw [e]; exact h.hp
    · rw [e]; simp; omega
  have hrF : r ∉ p :: ownF A' := by
    have hrl := hlt r (by simp)
    have hr0 := h.hr
    simp only [List.mem_cons, not_or] at hr0 ⊢
    refine ⟨hr0.1, ?_⟩
    rcases hF4 with e | ⟨g, e, hg⟩
    · rw [e]; exact hr0.2
    · rw [e]; simp; omega
  have own5 := own_ext own4 e5 (fun b hb => by simp; exact fun e => hpF (e ▸ hb))
  have mp5 := (q3.mp.ext e4 (fun hm => h.hr (by simp [hm]))).ext e5 (by have := h.hr; simp only [List.mem_cons, not_or] at this; simp; exact this.1)
  have hxp : w.heap.size ≠ p := by omega
  have bx5 := (((bx2.ext (Ext.refl [] w2).drew (by simp)).ext x3 (by simp)).ext e4 hxA).ext e5 (by simp; exact hxp)
  obtain ⟨w6, hr6, mp6, e6⟩ := store_map (P := Try.prog) (w := w5.drew) kS u60 mp5.drew x.name x
  refine ⟨_, cadd hdr5 rfl, _, cadd bx5 rfl, _, _, _, _, _, _, cadd0 bx5, _, hr6, k A' c' w6 ⟨?_, ?_, mp6, hpF, hrF, ?_⟩ ?_ ?_⟩
  · exact (hdr5.ext (Ext.refl [] w5).drew (by simp)).ext e6 (by have := h.hr; simp only [List.mem_cons, not_or] at this; simp; exact fun e => this.1 e.symm)
  · exact own_ext (own_ext own5 (Ext.refl [] w5).drew (by simp)) e6 (fun b hb => by simp; exact fun e => by subst e; exact hrF (by simp [hb]))
  · exact Nat.le_trans h.hB (Nat.le_trans x1.size (Nat.le_trans e12.size (Nat.le_trans x3.size (Nat.le_trans e4.size (Nat.le_trans e5.size e6.size)))))
  · have t1 : Ext (p :: r :: ownF A) w w3 := ((x1.trans e12).drew.trans x3).weaken (fun _ h => by cases h)
    refine ((t1.trans' e4 (fun b hb => .inl (by simp [hb]))).trans' e5 (fun b hb => .inl (by simp at hb; simp [hb]))).drew.trans' e6 (fun b hb => .inl (by simp at hb; simp [hb]))
  · rcases hF4 with e | ⟨g, e, hg⟩
    · exact .inl e
    · exact .inr ⟨g, e, by omega⟩
theorem drop_c {w : World} {B p r : Nat} {A : Option Addr} {n c : Nat} {m : List (ByteArray × Wt)} {xs : List Wt} {next : Nat} (h : QM w B p r A n c m xs next) (hs : Sorted xs) (hn : n ≤ 50000) {i : Nat} {x : Wt} (hi : xs[i]? = some x) {R : Ending → World → Prop}
    (k : ∀ w', QM w' B p r A (n - 1) c (mdel m x.name) (xs.eraseIdx i) next → Ext (p :: r :: ownF A) w w' → R (.returned undef) w') :
    Calls Try.prog 32 #[.pointer (some ⟨p, 0, none⟩), x.val] w R := by
  unfold Wt.val
  apply queue_Queue_drop_nf
  intro w1 h1
  obtain ⟨bx, x1, z1⟩ := box_new (cs := x.cells) h1
  clear h1
  have hxl := own_len_xs h.own
  have hil := (List.getElem?_eq_some_iff.1 hi).1
  have hlt := h.lt
  have q1 := h.ext0 x1
  have hpl : p < w.heap.size := hlt p (by simp)
  have hA : ∀ b ∈ ownF A, b < w.heap.size := fun b hb => hlt b (by simp [hb])
  have hxA : w.heap.size ∉ ownF A := fun hm => by have := hA _ hm; omega
  refine ⟨fun w' => Ext [] w1 w', (Ext.refl _ _).drew, ptr_in ⟨_, _, _, fun w' hS => cadd (q1.ext0 hS).hdr rfl, _, _, _, _, _, _, cellsC_S fun w' hS => cadd0 (bx.ext hS (by simp)), ?_⟩⟩
  refine Search_c (w := w1.drew) (q1.ext0 (Ext.refl _ _).drew).own hs (by omega) x _ fun w2 b e2 => ⟨_, _, rfl, (Ext.refl _ _).drew.trans e2, ?_⟩
  have e12 : Ext [] w1 w2 := (Ext.refl _ _).drew.trans e2
  have q2 := q1.ext0 e12
  have bx2 := bx.ext e12 (by simp)
  rw [place_at hs hi rfl rfl]
  have ei : IntKind.wrap .i64 ((i : Int) + 1) = ((i + 1 : Nat) : Int) := up64 i (by omega)
  rw [ei]
  refine ptr_in ⟨_, _, _, cadd q2.hdr rfl, Delete_c q2.own (by omega) (by omega) fun w4 own4 e4 => ⟨_, _, _, rfl, ptr_in ?_⟩⟩
  have hdr4 := q2.hdr.ext e4 h.hp
  obtain ⟨w5, hr5, hdr5, e5⟩ := store1a (P := Try.prog) (v := .slice A (n - 1) c) i29s hdr4 (i := 0) (by simp) rfl rfl
  have hr0 := h.hr
  simp only [List.mem_cons, not_or] at hr0
  have own5 := own_ext own4 e5 (fun b hb => by simp; exact fun e => h.hp (e ▸ hb))
  have mp5 := (q2.mp.ext e4 hr0.2).ext e5 (by simp; exact hr0.1)
  have hxp : w.heap.size ≠ p := by omega
  have bx5 := (bx2.ext e4 hxA).ext e5 (by simp; exact hxp)
  have hdr5d := hdr5.ext (Ext.refl [] w5).drew (by simp)
  have bx5d := bx5.ext (Ext.refl [] w5).drew (by simp)
  have hrx : w.heap.size ≠ r := by have := hlt r (by simp); omega
  obtain ⟨w6, hr6, mp6, e6⟩ := drop_map (P := Try.prog) (w := w5.drew) (ty := 0) (tk := 9) kS u60 mp5.drew x.name
  refine ⟨_, hr5, fun w' => Ext [r] w5.drew w', Ext.refl _ _, ptr_in ⟨_, fun w' hS => cadd (hdr5d.ext hS (by simp; exact fun e => hr0.1 e.symm)) rfl, _, fun w' hS => cadd (bx5d.ext hS (by simp; exact hrx)) rfl, _, hr6, e6, k w6 ⟨?_, ?_, mp6, h.hp, h.hr, ?_⟩ ?_⟩⟩
  · exact hdr5d.ext e6 (by simp; exact fun e => hr0.1 e.symm)
  · exact own_ext (own_ext own5 (Ext.refl [] w5).drew (by simp)) e6 (fun b hb => by simp; exact fun e => by subst e; exact hr0.2 hb)
  · exact Nat.le_trans h.hB (Nat.le_trans x1.size (Nat.le_trans e12.size (Nat.le_trans e4.size (Nat.le_trans e5.size e6.size))))
  · have t1 : Ext (p :: r :: ownF A) w w2 := (x1.trans e12).weaken (fun _ h => by cases h)
    exact ((t1.trans' e4 (fun b hb => .inl (by simp [hb]))).trans' e5 (fun b hb => .inl (by simp at hb; simp [hb]))).drew.trans' e6 (fun b hb => .inl (by simp at hb; simp [hb]))
end Go.Proofs.Ytfjgiaimlmnepaa
