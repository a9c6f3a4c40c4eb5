/- Ordered: Same; lists of texts held against one another. -/
import Derived.Test.YtjlkdadafddodaaGreatDoorO14
set_option linter.unusedVariables false
set_option linter.unusedSimpArgs false
namespace Go.Proofs.YtjlkdadafddodaaGreatDoor
open Go Go.V Go.B

/-! ### lists that rise and hold the same are one -/
theorem eq_of_rise {α : Type} {lt : α → α → Prop} (irr : ∀ a, ¬ lt a a) (asym : ∀ a b, lt a b → ¬ lt b a) {l m : List α} (hl : l.Pairwise lt) (hm : m.Pairwise lt) (h : ∀ a, a ∈ l ↔ a ∈ m) : l = m := by
  have n1 : l.Nodup := hl.imp fun {a b} hab e => by subst e; exact irr a hab
  have n2 : m.Nodup := hm.imp fun {a b} hab e => by subst e; exact irr a hab
  exact List.Perm.eq_of_pairwise (le := lt) (fun a b _ _ h1 h2 => absurd h2 (asym a b h1)) hl hm ((List.perm_ext_iff_of_nodup n1 n2).2 h)
theorem lt_irr (a : List UInt8) : ¬ a < a := List.lt_irrefl a
theorem lt_asym (a b : List UInt8) (h : a < b) : ¬ b < a := fun h2 => List.lt_irrefl a (List.lt_trans h h2)
theorem strict_eq {l m : List ByteArray} (hl : Strict l) (hm : Strict m) (h : ∀ a, a ∈ l ↔ a ∈ m) : l = m :=
  eq_of_rise (lt := fun a b => bs a < bs b) (fun a => lt_irr _) (fun a b => lt_asym _ _) hl hm h

/-! ### texts held against one another -/
theorem sl_cell {w : World} {A : Option Addr} {xs : List ByteArray} (h : Cells w A (SL.flat xs)) {a : Nat} {s : ByteArray} (hs : xs[a]? = some s) : ∃ ad, A = some ad ∧ w.cell? (Addr.add ad (Int.toNat (a : Int) * 1)) = some (.string s) := by
  obtain ⟨ad, hA, hc⟩ := SL.read h hs
  refine ⟨ad, hA, ?_⟩
  have := hc 0 (.string s) rfl
  rw [Int.toNat_natCast]
  rwa [Addr.add_zero'] at this
theorem take_eq_all {α : Type} {l m : List α} (hl : l.length = m.length) : l = m ↔ ∀ i, i < l.length → l[i]? = m[i]? := by
  constructor
  · rintro rfl i _; rfl
  · intro h
    apply List.ext_getElem?
    intro i
    rcases Nat.lt_or_ge i l.length with hi | hi
    · exact h i hi
    · rw [List.getElem?_eq_none hi, List.getElem?_eq_none (by omega)]
theorem Equal_str {w : World} {A B : Option Addr} {n c m d : Nat} {xs ys : List ByteArray} (hx : Cells w A (SL.flat xs)) (hn : xs.length = n) (hy : Cells w B (SL.flat ys)) (hm : ys.length = m) (hb : n < 4611686018427387904) {R : Ending → World → Prop}
    (k : ∀ t w', (t = true ↔ xs = ys) → Ext [] w w' → R (.returned (.bool t)) w') : Calls Tryz.prog 74 #[.slice A n c, .slice B m d] w R := by
  apply slices_Equal___string_string__nf
  refine sel_intro (fun hne => k false w ⟨fun h => (by cases h), fun h => ?_⟩ (Ext.refl _ _)) (fun heq => ?_)
  · subst h
    have : n = m := by omega
    subst this
    simp at hne
  have heq : n = m := by have := bne_eq_false_iff_eq.1 heq; omega
  subst heq
  refine ⟨fun t w' => ∃ a : Nat, t = a ∧ a ≤ n ∧ Ext [] w w' ∧ ∀ i, i < a → xs[i]? = ys[i]?, fun t _ => n - t.toNat, ⟨0, rfl, by omega, Ext.refl _ _, fun i hi => by omega⟩, ?_⟩
  rintro _ _ w7 ⟨a, rfl, ha, e7, hall⟩
  refine sel_dec (fun hlt => ?_) (fun hge => k true w7 ⟨fun _ => (take_eq_all (by omega)).2 fun i hi => hall i (by omega), fun _ => rfl⟩ e7)
  have hlt : a < n := by omega
  obtain ⟨s, hs⟩ : ∃ s, xs[a]? = some s := ⟨xs[a]'(by omega), List.getElem?_eq_getElem (by omega)⟩
  obtain ⟨u, hu⟩ : ∃ u, ys[a]? = some u := ⟨ys[a]'(by omega), List.getElem?_eq_getElem (by omega)⟩
  obtain ⟨ad, rfl, hc1⟩ := sl_cell (hx.ext0 e7) hs
  obtain ⟨bd, rfl, hc2⟩ := sl_cell (hy.ext0 e7) hu
  refine when_dec ⟨by omega, by omega⟩ (ptr_in ⟨_, hc1, when_dec ⟨by omega, by omega⟩ (ptr_in ⟨_, hc2, ?_⟩)⟩)
  rw [beqBytes]
  refine sel_intro (fun hne => ?_) (fun he => ?_)
  · have hne : s ≠ u := by simpa using hne
    exact k false _ ⟨fun h => (by cases h), fun h => by subst h; rw [hs] at hu; exact absurd (Option.some.inj hu) hne⟩ e7.drew
  · have he : s = u := by simpa using he
    rw [up64 a (by omega)]
    refine ⟨⟨a + 1, rfl, by omega, e7.drew, fun i hi => ?_⟩, by simp only [Int.toNat_natCast]; omega⟩
    by_cases hia : i = a
    · subst hia; rw [hs, hu, he]
    · exact hall i (by omega)
theorem textsAre_c {w : World} {A B : Option Addr} {n c m d : Nat} {xs ys : List ByteArray} (hx : Cells w A (SL.flat xs)) (hn : xs.length = n) (hy : Cells w B (SL.flat ys)) (hm : ys.length = m) (hb : n < 4611686018427387904) (e : xs = ys) {R : Ending → World → Prop}
    (k : ∀ w', Ext [] w w' → R (.returned (.bool true)) w') : Calls Tryz.prog 33 #[.slice A n c, .slice B m d] w R := by
  apply berthlaw08_textsAre_nf
  subst e
  have heq : n = m := by omega
  subst heq
  refine sel_false (by simp) ⟨fun t w' => ∃ a : Nat, t = a ∧ a ≤ n ∧ Ext [] w w', fun t _ => n - t.toNat, ⟨0, rfl, by omega, Ext.refl _ _⟩, ?_⟩
  rintro _ _ w7 ⟨a, rfl, ha, e7⟩
  refine sel_dec (fun hlt => ?_) (fun hge => k w7 e7)
  have hlt : a < n := by omega
  obtain ⟨s, hs⟩ : ∃ s, xs[a]? = some s := ⟨xs[a]'(by omega), List.getElem?_eq_getElem (by omega)⟩
  obtain ⟨ad, rfl, hc1⟩ := sl_cell (hx.ext0 e7) hs
  obtain ⟨bd, rfl, hc2⟩ := sl_cell (hy.ext0 e7) hs
  refine when_dec ⟨by omega, by omega⟩ (ptr_in ⟨_, hc1, when_dec ⟨by omega, by omega⟩ (ptr_in ⟨_, hc2, sel_false (by simp) ?_⟩)⟩)
  rw [up64 a (by omega)]
  exact ⟨⟨a + 1, rfl, by omega, e7.drew⟩, by simp only [Int.toNat_natCast]; omega⟩

/-! ### two columns -/
def rowEq (r s : Rw) : Prop := r.n = s.n ∧ ∀ i, r.S.mem i = s.S.mem i
def RowsEq (a b : List Rw) : Prop := a.length = b.length ∧ ∀ (i : Nat) (r s : Rw), a[i]? = some r → b[i]? = some s → rowEq r s
theorem rows_eq_iff {N N' : Nat} {C D : Cl} (hC : ClOk N C) (fC : C.full) (hD : ClOk N' D) (fD : D.full) : RowsEq C.rows D.rows ↔ ∀ i, mget C.of i = mget D.of i := by
  constructor
  · rintro ⟨hl, he⟩
    have half : ∀ (j : Nat) (n : Int), mget C.of (j : Int) = some n ↔ mget D.of (j : Int) = some n := fun j n => by
      rw [hC.tell, hD.tell]
      constructor
      · rintro ⟨r, hr, h1, h2⟩
        obtain ⟨i, hi⟩ := List.mem_iff_getElem?.1 hr
        have hil := (List.getElem?_eq_some_iff.1 hi).1
        have hs : D.rows[i]? = some (D.rows[i]'(by omega)) := List.getElem?_eq_getElem (by omega)
        have := he i r _ hi hs
        exact ⟨_, List.mem_of_getElem? hs, by rw [← this.1]; exact h1, by rw [← this.2]; exact h2⟩
      · rintro ⟨s, hs, h1, h2⟩
        obtain ⟨i, hi⟩ := List.mem_iff_getElem?.1 hs
        have hil := (List.getElem?_eq_some_iff.1 hi).1
        have hr : C.rows[i]? = some (C.rows[i]'(by omega)) := List.getElem?_eq_getElem (by omega)
        have := he i _ s hr hi
        exact ⟨_, List.mem_of_getElem? hr, by rw [this.1]; exact h1, by rw [this.2]; exact h2⟩
    intro i
    cases h1 : mget C.of i with
    | some n =>
      obtain ⟨j, rfl, _⟩ := hC.keys i n h1
      exact ((half j n).1 h1).symm
    | none =>
      cases h2 : mget D.of i with
      | none => rfl
      | some n =>
        obtain ⟨j, rfl, _⟩ := hD.keys i n h2
        rw [(half j n).2 h2] at h1; cases h1
  · intro h
    have mem : ∀ n, n ∈ C.rows.map (·.n) ↔ n ∈ D.rows.map (·.n) := by
      have half : ∀ {N N' : Nat} {C D : Cl}, ClOk N C → C.full → ClOk N' D → (∀ i, mget C.of i = mget D.of i) → ∀ n, n ∈ C.rows.map (·.n) → n ∈ D.rows.map (·.n) := by
        intro N N' C D hC fC hD h n hn
        obtain ⟨r, hr, rfl⟩ := List.mem_map.1 hn
        obtain ⟨i, hi⟩ := fC r hr
        have := (hC.tell i r.n).2 ⟨r, hr, rfl, hi⟩
        rw [h] at this
        obtain ⟨s, hs, h1, _⟩ := (hD.tell i r.n).1 this
        exact List.mem_map.2 ⟨s, hs, h1⟩
      exact fun n => ⟨half hC fC hD h n, half hD fD hC (fun i => (h i).symm) n⟩
    have hn : C.rows.map (·.n) = D.rows.map (·.n) := eq_of_rise (lt := fun a b : Int => a < b) (fun a => by omega) (fun a b => by omega) (by rw [List.pairwise_map]; exact hC.rise) (by rw [List.pairwise_map]; exact hD.rise) mem
    refine ⟨by have := congrArg List.length hn; simpa using this, fun i r s hr hs => ?_⟩
    have e : r.n = s.n := by
      have := congrArg (·[i]?) hn
      simp only [List.getElem?_map, hr, hs, Option.map_some] at this
      exact Option.some.inj this
    refine ⟨e, fun j => ?_⟩
    rw [Bool.eq_iff_iff]
    constructor
    · intro hj
      have := (hC.tell j r.n).2 ⟨r, List.mem_of_getElem? hr, rfl, hj⟩
      rw [h] at this
      obtain ⟨s', hs', h1, h2⟩ := (hD.tell j r.n).1 this
      have := hD.rise.uniq hs' (List.mem_of_getElem? hs) (by rw [h1, e])
      subst this; exact h2
    · intro hj
      have := (hD.tell j s.n).2 ⟨s, List.mem_of_getElem? hs, rfl, hj⟩
      rw [← h] at this
      obtain ⟨r', hr', h1, h2⟩ := (hC.tell j s.n).1 this
      have := hC.rise.uniq hr' (List.mem_of_getElem? hr) (by rw [h1, e])
      subst this; exact h2
theorem same1_c {w : World} {r s : Rw} (hr : SetAt w r.p r.b r.S) (hs : SetAt w s.p s.b s.S) {R : Ending → World → Prop} (k : ∀ t w', (t = true ↔ rowEq r s) → Ext [] w w' → R (.returned (.bool t)) w') :
    Calls Tryz.prog 86 #[.agg #[.int .i64 r.n, .pointer (some ⟨r.p, 0, none⟩)], .agg #[.int .i64 s.n, .pointer (some ⟨s.p, 0, none⟩)]] w R := by
  apply ordered_same_l1_nf
  intro w5 h5 w6 h6
  obtain ⟨b5, x5, z5⟩ := box_new (cs := rowCells r) h5
  obtain ⟨b6, x6, z6⟩ := box_new (cs := rowCells s) h6
  have b5' := b5.ext0 x6
  have e6 := x5.trans x6
  refine ⟨_, cadd b5' rfl, _, cadd b6 rfl, sel_intro (fun hn => ?_) (fun hn => ?_)⟩
  · have hn : r.n = s.n := eq_of_beq hn
    refine ⟨_, cadd b5' rfl, _, cadd b6 rfl, Equal_c (hr.ext0 e6).ref (hs.ext0 e6).ref fun t ht => ⟨_, rfl, k t w6 (ht.trans ⟨fun h => ⟨hn, h⟩, fun h => h.2⟩) e6⟩⟩
  · have hn : r.n ≠ s.n := fun e => by rw [e] at hn; simp at hn
    exact k false w6 ⟨fun h => (by cases h), fun h => absurd h.1 hn⟩ e6
set_option maxRecDepth 4000 in
theorem EqualFunc_c {w : World} {A B : Option Addr} {n c m d : Nat} {xs ys : List Rw} (hx : Cells w A (RL.flat xs)) (hn : xs.length = n) (sx : ∀ r ∈ xs, SetAt w r.p r.b r.S) (hy : Cells w B (RL.flat ys)) (hm : ys.length = m) (sy : ∀ r ∈ ys, SetAt w r.p r.b r.S) (hb : n < 4611686018427387904) {R : Ending → World → Prop}
    (k : ∀ t w', (t = true ↔ RowsEq xs ys) → Ext [] w w' → R (.returned (.bool t)) w') : Calls Tryz.prog 85 #[.slice A n c, .slice B m d, .func (.func 86) #[] #[]] w R := by
  apply slices_EqualFunc___ordered_row___ordered_row_ordered_row_ordered_row__nf
  refine sel_intro (fun hne => k false w ⟨fun h => (by cases h), fun h => ?_⟩ (Ext.refl _ _)) (fun heq => ?_)
  · have h1 : xs.length = ys.length := h.1
    have : n = m := by omega
    subst this
    simp at hne
  have heq : n = m := by have := bne_eq_false_iff_eq.1 heq; omega
  subst heq
  refine ⟨fun t w' => ∃ a : Nat, t = a ∧ a ≤ n ∧ Ext [] w w' ∧ ∀ (i : Nat) (r s : Rw), i < a → xs[i]? = some r → ys[i]? = some s → rowEq r s, fun t _ => n - t.toNat, ⟨0, rfl, by omega, Ext.refl _ _, fun i r s hi => by omega⟩, ?_⟩
  rintro _ _ w10 ⟨a, rfl, ha, e10, hall⟩
  refine sel_dec (fun hlt => ?_) (fun hge => k true w10 ⟨fun _ => ⟨by omega, fun i r s hr hs => hall i r s (by have := (List.getElem?_eq_some_iff.1 hr).1; omega) hr hs⟩, fun _ => rfl⟩ e10)
  have hlt : a < n := by omega
  obtain ⟨r, hr⟩ : ∃ r, xs[a]? = some r := ⟨xs[a]'(by omega), List.getElem?_eq_getElem (by omega)⟩
  obtain ⟨s, hs⟩ : ∃ s, ys[a]? = some s := ⟨ys[a]'(by omega), List.getElem?_eq_getElem (by omega)⟩
  obtain ⟨ad, rfl, rd⟩ := RL.read (hx.ext0 e10) hr
  refine when_dec ⟨by omega, by omega⟩ (ptr_in ⟨_, _, by rw [Int.toNat_natCast]; exact rd, fun w14 h14 => ?_⟩)
  obtain ⟨b14, x14, z14⟩ := box_new (cs := [.int .i64 0, .pointer none]) h14
  obtain ⟨w15, hr15, b15, x15⟩ := storeW (P := Tryz.prog) (t := 90) (n := 2) (vs := rowCells r) i99s b14 rfl rfl (RL.one r)
  have e15 : Ext [] w10 w15 := x14.trans' x15 (fun b hb => .inr (by simp at hb; omega))
  refine ⟨w15, hr15, ?_⟩
  obtain ⟨bd, rfl, rd2⟩ := RL.read ((hy.ext0 e10).ext0 e15) hs
  refine when_dec ⟨by omega, by omega⟩ (ptr_in ⟨_, _, by rw [Int.toNat_natCast]; exact rd2, fun w19 h19 => ?_⟩)
  obtain ⟨b19, x19, z19⟩ := box_new (cs := [.int .i64 0, .pointer none]) h19
  obtain ⟨w20, hr20, b20, x20⟩ := storeW (P := Tryz.prog) (t := 90) (n := 2) (vs := rowCells s) i99s b19 rfl rfl (RL.one s)
  have e20 : Ext [] w15 w20 := x19.trans' x20 (fun b hb => .inr (by simp at hb; omega))
  have E20 := (e10.trans e15).trans e20
  have b15' := b15.ext0 e20
  refine ⟨w20, hr20, _, _, cadd0 b15', _, _, cadd0 b20, when_intro (by kernel_rfl) (same1_c ((sx r (List.mem_of_getElem? hr)).ext0 E20) ((sy s (List.mem_of_getElem? hs)).ext0 E20) fun t w27 ht e27 => ⟨_, rfl, ?_⟩)⟩
  cases t with
  | false => exact sel_true rfl (k false w27 ⟨fun h => (by cases h), fun h => (by have := ht.2 (h.2 a r s hr hs); cases this)⟩ (E20.trans e27))
  | true =>
    refine sel_false rfl ?_
    rw [up64 a (by omega)]
    refine ⟨⟨a + 1, rfl, by omega, E20.trans e27, fun i r' s' hi hr' hs' => ?_⟩, by simp only [Int.toNat_natCast]; omega⟩
    by_cases hia : i = a
    · subst hia
      rw [hr] at hr'; rw [hs] at hs'
      cases hr'; cases hs'
      exact ht.1 rfl
    · exact hall i r' s' (by omega) hr' hs'
theorem samecol_c {w : World} {a b : Nat} {f g : List Nat} {C D : Cl} (hC : ColV w a f C) (hD : ColV w b g D) (hl : C.rows.length < 4611686018427387904) {R : Ending → World → Prop}
    (k : ∀ t w', (t = true ↔ RowsEq C.rows D.rows) → Ext [] w w' → R (.returned (.bool t)) w') : Calls Tryz.prog 75 #[.pointer (some ⟨a, 0, none⟩), .pointer (some ⟨b, 0, none⟩)] w R := by
  apply ordered_same_nf
  have d : Ext [] w w.drew := (Ext.refl _ _).drew
  have rd : ∀ {a : Nat} {f : List Nat} {C : Cl}, ColV w a f C → ∀ w', Ext [] w w' → w'.cell? (Addr.add ⟨a, 0, none⟩ 0) = some (.slice C.A C.rows.length C.cp) := fun h w' e => by
    obtain ⟨mo, hb, _⟩ := (h.ext0 e).hdr
    exact cadd hb rfl
  refine ⟨fun w' => Ext [] w w', d, ptr_in ⟨_, _, _, fun w' e => rd hC w' e, ptr_in ⟨_, _, _, fun w' e => rd hD w' e, EqualFunc_c (w := w.drew) (hC.ext0 d).arr rfl (hC.ext0 d).set (hD.ext0 d).arr rfl (hD.ext0 d).set hl fun t w11 ht e11 => ⟨_, rfl, d.trans e11, k t w11 ht (d.trans e11)⟩⟩⟩⟩
/-- Two indexes. -/
theorem Same_c {w : World} {F G : List Nat} {cnt cnt' : Nat} {x y : Ix} (hx : IxAt w F cnt x) (kx : IxOk x) (cx : cnt ≤ 8000000000000) (hy : IxAt w G cnt' y) (ky : IxOk y) (cy : cnt' ≤ 8000000000000) {R : Ending → World → Prop}
    (k : ∀ t w', (t = true ↔ ∀ k i, x.val k i = y.val k i) → Ext [] w w' → R (.returned (.bool t)) w') : Calls Tryz.prog 51 #[.pointer (some ⟨x.q, 0, none⟩), .pointer (some ⟨y.q, 0, none⟩)] w R := by
  apply ordered_Same_nf
  refine Keys_c hx cx fun A n c xs w5 e5 own5 hk5 hn5 => ⟨_, _, _, rfl, Keys_c (hy.ext0 e5) cy fun B m d ys w8 e8 own8 hk8 hm8 => ⟨_, _, _, rfl, ?_⟩⟩
  have hxl := own5.len
  have hyl := own8.len
  have e58 := e5.trans e8
  -- a key stands where some slot has a number
  have some_of : ∀ {x : Ix}, IxOk x → ∀ k, x.cols k ≠ none ↔ ∃ i, x.val k i ≠ none := fun {x} kx k => by
    unfold Ix.val
    cases hc : x.cols k with
    | none => simp
    | some C =>
      simp only [ne_eq, reduceCtorEq, not_false_eq_true, Option.bind_some, true_iff]
      obtain ⟨⟨kk, vv⟩, tl', hof⟩ : ∃ p tl', C.of = p :: tl' := by
        cases hq : C.of with
        | nil => exact absurd hq (kx.ok k C hc).2.2
        | cons p tl' => exact ⟨p, tl', rfl⟩
      exact ⟨kk, by rw [hof]; simp [mget]⟩
  refine Equal_str (own5.cells.ext0 e8) hxl own8.cells hyl (by omega) fun t w11 ht e11 => ⟨_, rfl, ?_⟩
  have e11' := e58.trans e11
  cases t with
  | false =>
    refine sel_true rfl (k false w11 ⟨fun h => (by cases h), fun h => ?_⟩ e11')
    have : xs = ys := strict_eq hk5.strict hk8.strict fun a => by
      rw [hk5.mem, hk8.mem, some_of kx, some_of ky]
      simp only [h]
    have := ht.2 this
    cases this
  | true =>
    have hxy := ht.1 rfl
    subst hxy
    refine sel_false rfl ⟨fun t w' => ∃ a : Nat, t = a ∧ a ≤ n ∧ Ext [] w11 w' ∧ ∀ kk ∈ xs.take a, ∀ i, x.val kk i = y.val kk i, fun t _ => n - t.toNat, ⟨0, rfl, by omega, Ext.refl _ _, by simp⟩, ?_⟩
    rintro _ _ w16 ⟨a, rfl, ha, f16, hall⟩
    have e16 := e11'.trans f16
    refine sel_dec (fun hlt => ?_) (fun hge => k true w16 ⟨fun _ kk i => ?_, fun _ => rfl⟩ e16)
    · have hlt : a < n := by omega
      obtain ⟨key, hkey⟩ : ∃ key, xs[a]? = some key := ⟨xs[a]'(by omega), List.getElem?_eq_getElem (by omega)⟩
      obtain ⟨ad, rfl, hc⟩ := sl_cell (((own5.cells.ext0 e8).ext0 e11).ext0 f16) hkey
      refine when_dec ⟨by omega, by omega⟩ (ptr_in ⟨_, hc, column_c (w0 := w) (.inr ⟨F, cnt, rfl, hx⟩) e16 key fun c1 f1 w21 e21 v1 _ _ => ⟨_, rfl, column_c (w0 := w) (.inr ⟨G, cnt', rfl, hy⟩) (e16.trans e21) key fun c2 f2 w24 e24 v2 _ _ => ⟨_, rfl, ?_⟩⟩⟩)
      have okx := kx.colOf key
      have oky := ky.colOf key
      have hlx := IxR.rows (w := w) (q := some ⟨x.q, 0, none⟩) (x := x) (.inr ⟨F, cnt, rfl, hx⟩) hx.rows key
      refine samecol_c (v1.ext0 e24) v2 (by omega) fun t w27 ht27 e27 => ⟨_, rfl, ?_⟩
      have hiff := ht27.trans (rows_eq_iff okx.1 okx.2 oky.1 oky.2)
      have E27 := ((e16.trans e21).trans e24).trans e27
      cases t with
      | false =>
        refine sel_true rfl (k false w27 ⟨fun h => (by cases h), fun h => ?_⟩ E27)
        have := hiff.2 fun i => by rw [← Ix.val_col, ← Ix.val_col]; exact h key i
        cases this
      | true =>
        refine sel_false rfl ?_
        rw [up64 a (by omega)]
        refine ⟨⟨a + 1, rfl, by omega, ((f16.trans e21).trans e24).trans e27, fun kk hkk i => ?_⟩, by simp only [Int.toNat_natCast]; omega⟩
        rw [snoc_at hkey] at hkk
        rcases List.mem_append.1 hkk with hkk | hkk
        · exact hall kk hkk i
        · simp at hkk; subst hkk
          rw [Ix.val_col, Ix.val_col]; exact hiff.1 rfl i
    · have : a = n := by omega
      subst this
      rw [List.take_of_length_le (by omega)] at hall
      by_cases hin : kk ∈ xs
      · exact hall kk hin i
      · have h1 : x.cols kk = none := by
          cases hq : x.cols kk with
          | none => rfl
          | some C => exact absurd ((hk5.mem kk).2 (by rw [hq]; simp)) hin
        have h2 : y.cols kk = none := by
          cases hq : y.cols kk with
          | none => rfl
          | some C => exact absurd ((hk8.mem kk).2 (by rw [hq]; simp)) hin
        unfold Ix.val
        rw [h1, h2]
end Go.Proofs.YtjlkdadafddodaaGreatDoor
