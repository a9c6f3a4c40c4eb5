/- The document's index: Among, Keys, Same. -/
import Derived.Test.YtjlkdadafddodaaGreatDoorE2
set_option linter.unusedVariables false
set_option linter.unusedSimpArgs false
namespace Go.Proofs.YtjlkdadafddodaaGreatDoor
open Go Go.V Go.B Go.Sort

theorem _root_.Go.B.BlkT.drew {w : World} {b : Nat} {cs : List Value} {T : TypeId} (h : BlkT w b cs T) : BlkT w.drew b cs T := h
theorem less_eq (a b : ByteArray) : Op.bytesLess (ByteArray.toList a) (ByteArray.toList b) = decide (bs a < bs b) := by
  rw [ByteArray.toList_eq, ByteArray.toList_eq, bytesLess_eq]; rfl
theorem snoc_mem {α : Type} {xs : List α} {a : Nat} {x z : α} (h : xs[a]? = some x) : z ∈ xs.take (a + 1) ↔ z ∈ xs.take a ∨ z = x := by
  rw [snoc_at h, List.mem_append]; simp
set_option maxRecDepth 4000 in
theorem DocAmong_c {w : World} {d : Doc} (h : DocR w d) {A0 : Option Addr} {l c0 : Nat} {ns : List Int} (hn : Ints w .i64 A0 l ns) (hb : d.l * l ≤ 4000000000000) (hb1 : d.l ≤ 4000000000000) (hb2 : l ≤ 4000000000000) (key : ByteArray) {R : Ending → World → Prop}
    (k : ∀ B n c ys w', Ext [] w w' → OwnL IL w' w.heap.size 3 B n c ys → RiseL ys → (∀ z, z ∈ ys ↔ ∃ r ∈ d.rows, (r.key = key ∧ r.n ∈ ns) ∧ r.slot = z) → R (.returned (.slice B n c)) w') :
    Calls Tryz.prog 11 #[.agg #[.int .i64 d.N, .slice d.A d.l d.c], .string key, .slice A0 l c0] w R := by
  apply berthref08_Index_Among_nf
  intro w5 h5 w6 h6
  obtain ⟨b5, x5, z5⟩ := doc_box (d := d) h5
  obtain ⟨b6, x6, z6⟩ := box_new (cs := []) h6
  have hl := h.len
  have hnl := hn.len
  have own6 : OwnL IL w6 w.heap.size 3 (some ⟨w5.heap.size, 0, none⟩) 0 0 [] := own_of b6 (by omega) (Nat.le_refl _) (by simp only [maxLen]; omega) (by simp) (by simp [Lay.flat])
  refine ⟨fun A n c t w' => ∃ (a : Nat) (all : List Int), t = a ∧ a ≤ d.l ∧ Ext [] w5 w' ∧ OwnL IL w' w.heap.size 3 A n c all ∧ (∀ z, z ∈ all ↔ ∃ r ∈ d.rows.take a, (r.key = key ∧ r.n ∈ ns) ∧ r.slot = z) ∧ n ≤ a * l ∧ (∀ b ∈ ownF A, w5.heap.size ≤ b), fun _ _ _ t _ => d.l - t.toNat, ⟨0, [], rfl, by omega, x6, own6, by simp, by omega, by simp [ownF]⟩, ?_⟩
  rintro A n c _ _ w12 ⟨a, all, rfl, ha, e12, own12, hm, hna, hfr⟩
  have p12 := b5.ext0 e12
  refine ⟨_, _, _, cadd p12 rfl, sel_dec (fun hlt => ?_) (fun hge => ?_)⟩
  · have hlt : a < d.l := by omega
    have hal : a * l + l ≤ 4000000000000 := by
      have := Nat.mul_le_mul_right l (show a + 1 ≤ d.l by omega)
      rw [Nat.succ_mul] at this; omega
    obtain ⟨r, ad, hr, hA, rd0⟩ := doc_row (h.ext0 x5) hlt
    refine ⟨fun A n c t w' => ∃ (j : Nat) (all' : List Int), t = j ∧ j ≤ l ∧ Ext [] w5 w' ∧ OwnL IL w' w.heap.size 3 A n c all' ∧ (∀ z, z ∈ all' ↔ z ∈ all ∨ (r.key = key ∧ r.n ∈ ns.take j ∧ r.slot = z)) ∧ n ≤ a * l + j ∧ (∀ b ∈ ownF A, w5.heap.size ≤ b), fun _ _ _ t _ => l - t.toNat, ⟨0, all, rfl, by omega, e12, own12, by simp, by omega, hfr⟩, ?_⟩
    rintro B m e _ _ w19 ⟨j, all', rfl, hj, e19, own19, hm', hmj, hfr'⟩
    have p19 := b5.ext0 e19
    obtain ⟨r', ad', hr', hA', rd⟩ := doc_row ((h.ext0 x5).ext0 e19) hlt
    have er : r' = r := by rw [hr] at hr'; exact (Option.some.inj hr').symm
    subst er
    refine sel_dec (fun hjl => ?_) (fun hjl => ?_)
    · have hjl : j < l := by omega
      obtain ⟨x, hx⟩ : ∃ x, ns[j]? = some x := ⟨ns[j]'(by omega), List.getElem?_eq_getElem (by omega)⟩
      have skip : ∀ w', Ext [] w19 w' → ¬ (r'.key = key ∧ r'.n = x) → (∃ (j' : Nat) (all' : List Int), IntKind.wrap .i64 ((j : Int) + 1) = j' ∧ j' ≤ l ∧ Ext [] w5 w' ∧ OwnL IL w' w.heap.size 3 B m e all' ∧ (∀ z, z ∈ all' ↔ z ∈ all ∨ (r'.key = key ∧ r'.n ∈ ns.take j' ∧ r'.slot = z)) ∧ m ≤ a * l + j' ∧ (∀ b ∈ ownF B, w5.heap.size ≤ b)) ∧ l - (IntKind.wrap .i64 ((j : Int) + 1)).toNat < l - (j : Int).toNat := fun w' ew hP => by
        rw [up64 j (by omega)]
        refine ⟨⟨j + 1, all', rfl, by omega, e19.trans ew, own19.ext0 ew, fun z => ?_, by omega, hfr'⟩, by simp only [Int.toNat_natCast]; omega⟩
        rw [hm' z, snoc_mem hx]
        constructor
        · rintro (h | ⟨h1, h2, h3⟩)
          · exact .inl h
          · exact .inr ⟨h1, .inl h2, h3⟩
        · rintro (h | ⟨h1, h2 | h2, h3⟩)
          · exact .inl h
          · exact .inr ⟨h1, h2, h3⟩
          · exact absurd ⟨h1, h2⟩ hP
      refine ⟨_, _, _, cadd p19 rfl, when_dec ⟨by omega, by omega⟩ ?_⟩
      rw [hA]
      rw [hA] at hA'; cases hA'
      refine ptr_in ⟨_, rd 0 _ rfl, ?_⟩
      rw [beqBytes]
      refine sel_dec (fun hk => ⟨_, _, _, cadd p19 rfl, when_dec ⟨by omega, by omega⟩ ?_⟩) (fun hk => skip _ (Ext.refl _ _).drew fun q => hk q.1)
      rw [hA]
      obtain ⟨nd, hnA, hnc⟩ := (hn.ext0 (x5.trans e19)).cells j hjl
      have hxj : ns.getD j 0 = x := by rw [List.getD_eq_getElem?_getD, hx]; rfl
      rw [hxj] at hnc
      refine ptr_in ⟨_, rd 2 _ rfl, when_dec ⟨by omega, by omega⟩ ?_⟩
      rw [hnA]
      refine ptr_in ⟨_, by rw [Int.toNat_natCast, Nat.mul_one]; exact hnc, sel_intro (fun heq => ?_) (fun hne => skip _ (Ext.refl _ _).drew fun q => by rw [q.2] at hne; simp at hne)⟩
      have heq : r'.n = x := eq_of_beq heq
      refine ⟨_, _, _, cadd p19.drew rfl, when_dec ⟨by omega, by omega⟩ ?_⟩
      rw [hA]
      refine ptr_in ⟨_, rd 1 _ rfl, fun w31 h31 => ?_⟩
      obtain ⟨b31, x31, z31⟩ := box_new (cs := [.int .i64 r'.slot]) h31
      have x31' : Ext [] w19 w31 := x31.undrew
      have z19 := e19.size
      have hz31 : w31.heap.size = w19.heap.size + 1 := z31
      obtain ⟨A', c', w33, hr33, own33, e33, hF⟩ := (own19.ext0 x31').more (P := Tryz.prog) (ty := 23) (x := r'.slot) u37 i3 rfl (by omega) b31 (by omega) (by omega)
      refine ⟨A', m + 1, c', w33, hr33, ?_⟩
      rw [up64 j (by omega)]
      refine ⟨⟨j + 1, _, rfl, by omega, (e19.trans x31').trans' e33 (fun b hb => .inr (hfr' b hb)), own33, fun z => ?_, by omega, fun b hb => ?_⟩, by simp only [Int.toNat_natCast]; omega⟩
      · rw [List.mem_append, hm' z, snoc_mem hx]
        constructor
        · rintro ((h | ⟨h1, h2, h3⟩) | hz)
          · exact .inl h
          · exact .inr ⟨h1, .inl h2, h3⟩
          · exact .inr ⟨hk, .inr heq, by simp at hz; exact hz.symm⟩
        · rintro (h | ⟨h1, h2 | h2, h3⟩)
          · exact .inl (.inl h)
          · exact .inl (.inr ⟨h1, h2, h3⟩)
          · exact .inr (by simp [h3])
      · rcases hF with e | e
        · rw [e] at hb; exact hfr' b hb
        · rw [e] at hb; simp at hb; omega
    · have : j = l := by omega
      subst this
      rw [List.take_of_length_le (by omega)] at hm'
      rw [up64 a (by omega)]
      refine ⟨⟨a + 1, all', rfl, by omega, e19, own19, fun z => ?_, by rw [Nat.succ_mul]; omega, hfr'⟩, by simp only [Int.toNat_natCast]; omega⟩
      rw [hm' z, hm z]
      constructor
      · rintro (⟨s, hs, q⟩ | ⟨q1, q2, q3⟩)
        · exact ⟨s, (snoc_mem hr).2 (.inl hs), q⟩
        · exact ⟨r', (snoc_mem hr).2 (.inr rfl), ⟨q1, q2⟩, q3⟩
      · rintro ⟨s, hs, ⟨q1, q2⟩, q3⟩
        rcases (snoc_mem hr).1 hs with hs | rfl
        · exact .inl ⟨s, hs, ⟨q1, q2⟩, q3⟩
        · exact .inr ⟨q1, q2, q3⟩
  · have : a = d.l := by omega
    subst this
    rw [List.take_of_length_le (by omega)] at hm
    refine rising_c own12.cells own12.len (by omega) fun B n' c' ys w24 e24 own24 hr24 hm24 => ⟨_, _, _, rfl, ?_⟩
    have z11 := (x5.trans e12).size
    exact k B n' c' ys w24 ((x5.trans e12).trans e24) (own24.weaken z11) hr24 fun z => (hm24 z).trans (hm z)
/-- The place of the first text that isn't below x. -/
structure PlaceS (out : List ByteArray) (x : ByteArray) (i : Nat) : Prop where
  le : i ≤ out.length
  lo : ∀ (j : Nat) (y : ByteArray), j < i → out[j]? = some y → bs y < bs x
  hi : ∀ y, out[i]? = some y → ¬ bs y < bs x
theorem above_of {a b : List UInt8} (h : ¬ a < b) (hne : a ≠ b) : b < a := by
  have h : b ≤ a := List.not_lt.1 h
  rcases List.le_iff_lt_or_eq.1 h with h | h
  · exact h
  · exact absurd h.symm hne
theorem strict_ins {out : List ByteArray} (hr : Strict out) {x : ByteArray} {i : Nat} (h : PlaceS out x i) (hne : ∀ y, out[i]? = some y → y ≠ x) : Strict (shifted out i x) := by
  have e := List.take_append_drop i out
  have hp : Strict (out.take i ++ out.drop i) := by rw [e]; exact hr
  obtain ⟨h1, h2, h3⟩ := List.pairwise_append.1 hp
  have hlo : ∀ a ∈ out.take i, bs a < bs x := fun a ha => by
    obtain ⟨j, hj⟩ := List.mem_iff_getElem?.1 ha
    rw [List.getElem?_take] at hj
    split at hj
    · exact h.lo j a (by assumption) hj
    · cases hj
  have hhi : ∀ a ∈ out.drop i, bs x < bs a := fun a ha => by
    obtain ⟨j, hj⟩ := List.mem_iff_getElem?.1 ha
    rw [List.getElem?_drop] at hj
    have hil := (List.getElem?_eq_some_iff.1 hj).1
    have hy : out[i]? = some (out[i]'(by omega)) := List.getElem?_eq_getElem (by omega)
    have g1 := h.hi _ hy
    have g2 := hne _ hy
    have g3 := above_of g1 (fun e => g2 (bs_inj e))
    rcases Nat.eq_zero_or_pos j with h0 | h0
    · subst h0
      rw [Nat.add_zero, hy] at hj
      have := Option.some.inj hj
      rw [← this]; exact g3
    · obtain ⟨h5, e5⟩ := List.getElem?_eq_some_iff.1 hj
      have := List.pairwise_iff_getElem.1 hr i (i + j) (by omega) h5 (by omega)
      rw [e5] at this
      exact List.lt_trans g3 this
  unfold shifted
  refine List.pairwise_append.2 ⟨h1, List.pairwise_cons.2 ⟨hhi, h2⟩, fun a ha b hb => ?_⟩
  rcases List.mem_cons.1 hb with rfl | hb
  · exact hlo a ha
  · exact h3 a ha b hb
theorem i9s' : (Tryz.prog.info? 9).map (·.size) = some 1 := by kernel_rfl
set_option maxRecDepth 4000 in
theorem DocKeys_c {w : World} {d : Doc} (h : DocR w d) (hb : d.l ≤ 4000000000000) {R : Ending → World → Prop}
    (k : ∀ B n c ys w', Ext [] w w' → OwnL SL w' w.heap.size 9 B n c ys → Strict ys → (∀ z, z ∈ ys ↔ ∃ r ∈ d.rows, r.key = z) → R (.returned (.slice B n c)) w') :
    Calls Tryz.prog 7 #[.agg #[.int .i64 d.N, .slice d.A d.l d.c]] w R := by
  apply berthref08_Index_Keys_nf
  intro w3 h3 w4 h4
  obtain ⟨b3, x3, z3⟩ := doc_box (d := d) h3
  obtain ⟨b4, x4, z4⟩ := box_new (cs := []) h4
  have hl := h.len
  have own4 : OwnL SL w4 w.heap.size 9 (some ⟨w3.heap.size, 0, none⟩) 0 0 [] := own_of b4 (by omega) (Nat.le_refl _) (by simp only [maxLen]; omega) (by simp) (by simp [Lay.flat])
  refine ⟨fun B n c t w' => ∃ (a : Nat) (ys : List ByteArray), t = a ∧ a ≤ d.l ∧ Ext [] w3 w' ∧ OwnL SL w' w.heap.size 9 B n c ys ∧ Strict ys ∧ (∀ z, z ∈ ys ↔ ∃ r ∈ d.rows.take a, r.key = z) ∧ n ≤ a ∧ (∀ b ∈ ownF B, w3.heap.size ≤ b), fun _ _ _ t _ => d.l - t.toNat, ⟨0, [], rfl, by omega, x4, own4, List.Pairwise.nil, by simp, by omega, by simp [ownF]⟩, ?_⟩
  rintro B n c _ _ w10 ⟨a, ys, rfl, ha, e10, own10, hr, hm, hna, hfr⟩
  have p10 := b3.ext0 e10
  refine ⟨_, _, _, cadd p10 rfl, sel_dec (fun hlt => ⟨_, _, _, cadd p10 rfl, when_dec ⟨by omega, by omega⟩ ?_⟩) (fun hge => ?_)⟩
  · have hlt : a < d.l := by omega
    obtain ⟨r, ad, hra, hA, rd⟩ := doc_row ((h.ext0 x3).ext0 e10) hlt
    rw [hA]
    have hyl := own10.len
    refine ptr_in ⟨_, rd 0 _ rfl, fun t w' => ∃ i : Nat, t = i ∧ PlaceS ys r.key i ∧ Ext [] w10 w', ?_, ?_⟩
    · refine ⟨fun t w' => ∃ i : Nat, t = i ∧ i ≤ n ∧ (∀ (j : Nat) (y : ByteArray), j < i → ys[j]? = some y → bs y < bs r.key) ∧ Ext [] w10 w', fun t _ => n - t.toNat, ⟨0, rfl, by omega, fun j y hj => by omega, Ext.refl _ _⟩, ?_⟩
      rintro _ _ w20 ⟨i, rfl, hi, hlo, e20⟩
      refine sel_dec (fun hlt' => ?_) (fun hge' => ⟨i, rfl, ⟨by omega, hlo, fun y hy => by have := (List.getElem?_eq_some_iff.1 hy).1; omega⟩, e20⟩)
      have hlt' : i < n := by omega
      obtain ⟨y, hy⟩ : ∃ y, ys[i]? = some y := ⟨ys[i]'(by omega), List.getElem?_eq_getElem (by omega)⟩
      obtain ⟨bd, hB, hc1⟩ := sl_cell (own10.cells.ext0 e20) hy
      rw [hB]
      refine when_dec ⟨by omega, by omega⟩ (ptr_in ⟨_, hc1, ?_⟩)
      rw [less_eq]
      refine sel_dec (fun hyx => ?_) (fun hyx => ?_)
      · rw [up64 i (by omega)]
        refine ⟨⟨i + 1, rfl, by omega, fun j y' hj hy' => ?_, e20⟩, by simp only [Int.toNat_natCast]; omega⟩
        by_cases hji : j = i
        · subst hji; rw [hy] at hy'; cases hy'; exact hyx
        · exact hlo j y' (by omega) hy'
      · refine ⟨i, rfl, ⟨by omega, hlo, fun y' hy' => ?_⟩, e20⟩
        rw [hy] at hy'; cases hy'; exact hyx
    · rintro _ _ w25 ⟨i, rfl, pl, e25⟩
      have hil := pl.le
      have own25 := own10.ext0 e25
      have E25 := e10.trans e25
      refine ⟨fun w' => Ext [] w10 w' ∧ ∀ y, ys[i]? = some y → y ≠ r.key, ?_, ?_⟩
      · refine sel_dec (fun hlt' => ?_) (fun hge' => ⟨e25, fun y hy => by have := (List.getElem?_eq_some_iff.1 hy).1; omega⟩)
        have hlt' : i < n := by omega
        obtain ⟨y, hy⟩ : ∃ y, ys[i]? = some y := ⟨ys[i]'(by omega), List.getElem?_eq_getElem (by omega)⟩
        obtain ⟨bd, hB, hc1⟩ := sl_cell own25.cells hy
        rw [hB]
        refine when_dec ⟨by omega, by omega⟩ (ptr_in ⟨_, hc1, ?_⟩)
        rw [beqBytes]
        refine sel_dec (fun heq => ?_) (fun hne => ⟨e25, fun y' hy' e => ?_⟩)
        · rw [up64 a (by omega)]
          refine ⟨⟨a + 1, ys, rfl, by omega, E25, by rw [hB] at own25; exact own25, hr, fun z => ?_, by omega, by rw [← hB]; exact hfr⟩, by simp only [Int.toNat_natCast]; omega⟩
          rw [hm z]
          constructor
          · rintro ⟨s, hs, q⟩
            exact ⟨s, (snoc_mem hra).2 (.inl hs), q⟩
          · rintro ⟨s, hs, q⟩
            rcases (snoc_mem hra).1 hs with hs | rfl
            · exact ⟨s, hs, q⟩
            · rw [← hm, ← q, ← heq]; exact List.mem_of_getElem? hy
        · rw [hy] at hy'; cases hy'
          exact hne e
      · rintro _ w30 ⟨e30, hne⟩ w31 h31
        obtain ⟨b31, x31, z31⟩ := box_new (cs := [.string ByteArray.empty]) h31
        have E30 := e10.trans e30
        have own30 := own10.ext0 e30
        have z30 := E30.size
        obtain ⟨B', d', w33, hr33, own33, e33, hF⟩ := (own30.ext0 x31).more (P := Tryz.prog) (ty := 33) (x := ByteArray.empty) u43 i9 rfl (by omega) b31 (by omega) (by omega)
        have gb := own30.base
        have E33 : Ext [] w3 w33 := (E30.trans x31).trans' e33 (fun b hb => .inr (hfr b hb))
        have hfr' : ∀ b ∈ ownF B', w3.heap.size ≤ b := fun b hb => by
          rcases hF with e | e
          · rw [e] at hb; exact hfr b hb
          · rw [e] at hb; simp at hb; omega
        refine ⟨_, _, _, w33, hr33, ?_⟩
        have ew : IntKind.wrap .i64 (((n + 1 : Nat) : Int) - 1) = (n : Int) := by rw [w64 (by omega) (by omega)]; omega
        show V.lt _ fun x32 => _
        unfold V.lt
        rw [ew]
        have hinit : ys ++ [ByteArray.empty] = shifted ys n ByteArray.empty := by
          unfold shifted
          rw [List.take_of_length_le (by omega), List.drop_eq_nil_of_le (by omega)]
        rw [hinit] at own33
        refine ⟨fun t w' => ∃ (j : Nat) (v : ByteArray), t = j ∧ i ≤ j ∧ j ≤ n ∧ Ext [] w3 w' ∧ OwnL SL w' w.heap.size 9 B' (n + 1) d' (shifted ys j v), fun t _ => t.toNat, ⟨n, ByteArray.empty, rfl, by omega, by omega, E33, own33⟩, ?_⟩
        rintro _ _ w39 ⟨j, v, rfl, hij, hjn, E39, own39⟩
        refine sel_dec (fun hgt => ?_) (fun hle => ?_)
        · have hgt : i < j := by omega
          have ej : IntKind.wrap .i64 ((j : Int) - 1) = ((j - 1 : Nat) : Int) := by rw [w64 (by omega) (by omega)]; omega
          rw [ej]
          obtain ⟨y, hy⟩ : ∃ y, ys[j - 1]? = some y := ⟨ys[j - 1]'(by omega), List.getElem?_eq_getElem (by omega)⟩
          obtain ⟨bd, hB, hc1⟩ := sl_cell own39.cells (a := j - 1) (s := y) (by rw [shifted_lo _ _ (by omega) (by omega)]; exact hy)
          rw [hB]
          refine when_dec ⟨by omega, by omega⟩ (ptr_in ⟨_, hc1, when_dec ⟨by omega, by omega⟩ ?_⟩)
          rw [hB] at own39 hfr'
          obtain ⟨g, w43, hg, hr43, own43, e43⟩ := own39.set1 (P := Tryz.prog) (i := j) (y := y) (v := .string y) (by omega) rfl rfl i9s' rfl
          cases hg
          refine ptr_in ⟨w43, by rw [Int.toNat_natCast]; exact hr43, ⟨j - 1, y, rfl, by omega, by omega, E39.trans' e43 (fun b hb => .inr (hfr' b hb)), ?_⟩, by simp only [Int.toNat_natCast]; omega⟩
          rw [shifted_set _ _ _ (by omega)] at own43
          have := shifted_down ys y hy
          rw [show j - 1 + 1 = j by omega] at this
          rw [this] at own43; exact own43
        · have : j = i := by omega
          subst this
          refine when_dec ⟨by omega, by omega⟩ ?_
          obtain ⟨g, w45, hg, hr45, own45, e45⟩ := own39.set1 (P := Tryz.prog) (i := j) (y := r.key) (v := .string r.key) (by omega) rfl rfl i9s' rfl
          rw [hg]
          refine ptr_in ⟨w45, by rw [Int.toNat_natCast]; exact hr45, ?_⟩
          rw [up64 a (by omega)]
          rw [hg] at own45 e45 hfr'
          rw [shifted_set _ _ _ (by omega)] at own45
          refine ⟨⟨a + 1, shifted ys j r.key, rfl, by omega, E39.trans' e45 (fun b hb => .inr (hfr' b hb)), own45, strict_ins hr pl hne, fun z => ?_, by omega, hfr'⟩, by simp only [Int.toNat_natCast]; omega⟩
          rw [mem_shifted, hm z]
          constructor
          · rintro (rfl | ⟨s, hs, q⟩)
            · exact ⟨r, (snoc_mem hra).2 (.inr rfl), rfl⟩
            · exact ⟨s, (snoc_mem hra).2 (.inl hs), q⟩
          · rintro ⟨s, hs, q⟩
            rcases (snoc_mem hra).1 hs with hs | rfl
            · exact .inr ⟨s, hs, q⟩
            · exact .inl q.symm
  · have : a = d.l := by omega
    subst this
    rw [List.take_of_length_le (by omega)] at hm
    exact k B n c ys w10 (x3.trans e10) own10 hr hm
/-- No two rows of one key and slot. -/
def UniqD (rows : List DR) : Prop := rows.Pairwise fun r s => ¬ (r.key = s.key ∧ r.slot = s.slot)
theorem UniqD.eq {rows : List DR} (h : UniqD rows) {r s : DR} (hr : r ∈ rows) (hs : s ∈ rows) (h1 : r.key = s.key) (h2 : r.slot = s.slot) : r = s := by
  obtain ⟨i, hi⟩ := List.mem_iff_getElem?.1 hr
  obtain ⟨j, hj⟩ := List.mem_iff_getElem?.1 hs
  obtain ⟨li, ei⟩ := List.getElem?_eq_some_iff.1 hi
  obtain ⟨lj, ej⟩ := List.getElem?_eq_some_iff.1 hj
  rcases Nat.lt_trichotomy i j with hl | hl | hl
  · have := List.pairwise_iff_getElem.1 h i j li lj hl
    rw [ei, ej] at this; exact absurd ⟨h1, h2⟩ this
  · subst hl; rw [hi] at hj; exact Option.some.inj hj
  · have := List.pairwise_iff_getElem.1 h j i lj li hl
    rw [ei, ej] at this; exact absurd ⟨h1.symm, h2.symm⟩ this
theorem doc_row' {w : World} {d : Doc} (h : DocR w d) {a : Nat} (ha : a < d.l) : ∃ r ad, d.rows[a]? = some r ∧ d.A = some ad ∧ ∀ w', Ext [] w w' → cellsC (fun a v => w'.cell? a = some v) (ad.add (Int.toNat (a : Int) * 3)) r.cells := by
  obtain ⟨r, ad, hr, hA, _⟩ := doc_row h ha
  refine ⟨r, ad, hr, hA, fun w' e => ?_⟩
  obtain ⟨r', ad', hr', hA', rd⟩ := doc_row (h.ext0 e) ha
  rw [hr] at hr'; rw [hA] at hA'
  cases hr'; cases hA'
  exact rd
set_option maxRecDepth 4000 in
theorem DocSame_c {w : World} {d e : Doc} (h : DocR w d) (h' : DocR w e) (hb : d.l ≤ 4000000000000) (hb' : e.l ≤ 4000000000000) (hu : UniqD e.rows) {R : Ending → World → Prop}
    (k : ∀ t w', Ext [] w w' → (t = true ↔ d.rows.length = e.rows.length ∧ ∀ r ∈ d.rows, ∃ s ∈ e.rows, s.key = r.key ∧ s.slot = r.slot ∧ s.n = r.n) → R (.returned (.bool t)) w') :
    Calls Tryz.prog 52 #[.agg #[.int .i64 d.N, .slice d.A d.l d.c], .agg #[.int .i64 e.N, .slice e.A e.l e.c]] w R := by
  apply berthref08_Same_nf
  intro w5 h5 w6 h6
  obtain ⟨b5, x5, z5⟩ := doc_box (d := d) h5
  obtain ⟨b6, x6, z6⟩ := doc_box (d := e) h6
  have p6 := b5.ext0 x6
  have hl := h.len
  have hl' := h'.len
  have x56 := x5.trans x6
  refine ⟨_, _, _, cadd p6 rfl, _, _, _, cadd b6 rfl, sel_intro (fun hne => k false w6 x56 ⟨fun h => (by cases h), fun ⟨h1, _⟩ => ?_⟩) (fun heq => ?_)⟩
  · rw [hl, hl'] at h1
    rw [h1] at hne; simp at hne
  have heq : d.l = e.l := by
    have heq : (d.l : Int) = (e.l : Int) := by simpa using heq
    omega
  refine ⟨fun t w' => ∃ a : Nat, t = a ∧ a ≤ d.l ∧ Ext [] w6 w' ∧ ∀ r ∈ d.rows.take a, ∃ s ∈ e.rows, s.key = r.key ∧ s.slot = r.slot ∧ s.n = r.n, fun t _ => d.l - t.toNat, ⟨0, rfl, by omega, Ext.refl _ _, by simp⟩, ?_⟩
  rintro _ _ w13 ⟨a, rfl, ha, e13, hall⟩
  refine ⟨_, _, _, cadd (p6.ext0 e13) rfl, sel_dec (fun hlt => ?_) (fun hge => ?_)⟩
  · have hlt : a < d.l := by omega
    obtain ⟨r, ad, hr, hA, rd⟩ := doc_row' (h.ext0 x56) hlt
    refine ⟨fun w' => Ext [] w6 w', e13.drew, _, _, _, _, cellsC_S (fun w' hw => cadd0 (b6.ext0 hw)), _, _, _, fun w' hw => cadd (p6.ext0 hw) rfl, when_dec ⟨by omega, by omega⟩ ?_⟩
    rw [hA]
    refine ptr_in ⟨_, fun w' hw => rd w' hw 0 _ rfl, _, _, _, fun w' hw => cadd (p6.ext0 hw) rfl, when_dec ⟨by omega, by omega⟩ ?_⟩
    rw [hA]
    refine ptr_in ⟨_, fun w' hw => rd w' hw 1 _ rfl, DocAt_c (d := e) (h'.ext0 (x56.trans e13.drew)) (by omega) r.key r.slot fun at_ w27 e27 hat => ⟨_, rfl, e13.drew.trans e27, sel_dec (fun hneg => ?_) (fun hpos => ?_)⟩⟩
    · refine k false _ ((x56.trans (e13.drew.trans e27)).drew) ⟨fun h => (by cases h), fun ⟨_, h2⟩ => ?_⟩
      obtain ⟨s, hs, q1, q2, _⟩ := h2 r (List.mem_of_getElem? hr)
      rcases hat with ⟨_, hno⟩ | ⟨i, s', rfl, _⟩
      · exact absurd ⟨q1, q2⟩ (hno s hs)
      · omega
    · rcases hat with ⟨rfl, _⟩ | ⟨i, s, rfl, hs, q1, q2⟩
      · omega
      have E27 := e13.drew.trans e27
      have hi : i < e.l := by have := (List.getElem?_eq_some_iff.1 hs).1; omega
      obtain ⟨s', bd, hs', hB, rd'⟩ := doc_row (h'.ext0 (x56.trans E27)) hi
      rw [hs] at hs'; cases hs'
      refine ⟨_, _, _, cadd (b6.ext0 E27) rfl, when_dec ⟨by omega, by omega⟩ ?_⟩
      rw [hB]
      refine ptr_in ⟨_, rd' 2 _ rfl, _, _, _, cadd (p6.ext0 E27) rfl, when_dec ⟨by omega, by omega⟩ ?_⟩
      rw [hA]
      refine ptr_in ⟨_, rd w27 E27 2 _ rfl, sel_intro (fun hn => ?_) (fun hn => ?_)⟩
      · refine k false _ ((x56.trans E27).drew) ⟨fun h => (by cases h), fun ⟨_, h2⟩ => ?_⟩
        obtain ⟨s', hs', g1, g2, g3⟩ := h2 r (List.mem_of_getElem? hr)
        have := hu.eq hs' (List.mem_of_getElem? hs) (g1.trans q1.symm) (g2.trans q2.symm)
        subst this
        rw [g3] at hn; simp at hn
      · have hn : s.n = r.n := by simpa using hn
        rw [up64 a (by omega)]
        refine ⟨⟨a + 1, rfl, by omega, E27.drew, fun r' hr' => ?_⟩, by simp only [Int.toNat_natCast]; omega⟩
        rcases (snoc_mem hr).1 hr' with hr' | rfl
        · exact hall r' hr'
        · exact ⟨s, List.mem_of_getElem? hs, q1, q2, hn⟩
  · have : a = d.l := by omega
    subst this
    rw [List.take_of_length_le (by omega)] at hall
    exact k true w13 (x56.trans e13) ⟨fun _ => ⟨by omega, hall⟩, fun _ => rfl⟩
end Go.Proofs.YtjlkdadafddodaaGreatDoor
