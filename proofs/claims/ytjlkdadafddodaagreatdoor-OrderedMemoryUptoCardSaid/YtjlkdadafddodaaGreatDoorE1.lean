/- The document's index: numbers in their order, each once. -/
import Derived.Test.YtjlkdadafddodaaGreatDoorE0
set_option linter.unusedVariables false
set_option linter.unusedSimpArgs false
namespace Go.Proofs.YtjlkdadafddodaaGreatDoor
open Go Go.V Go.B

def IL : Lay Int := ⟨fun i => [.int .i64 i], 1, fun _ => rfl, fun x v hv => by
  simp only [List.mem_cons, List.not_mem_nil, or_false] at hv
  subst hv; rfl, by omega⟩
theorem IL_flat (l : List Int) : IL.flat l = ints .i64 l := by
  induction l with
  | nil => rfl
  | cons x l ih => rw [Lay.flat_cons, ih]; rfl
theorem i3 : (Tryz.prog.info? 3).map (fun i => (i.zero, i.size, i.bytes)) = some (some (.int .i64 0), 1, 8) := by kernel_rfl
theorem i3s' : (Tryz.prog.info? 3).map (·.size) = some 1 := by kernel_rfl
theorem u37 : Tryz.prog.underlying 23 = some (.slice 3) := by kernel_rfl
theorem il_cell {w : World} {A : Option Addr} {xs : List Int} (h : Cells w A (IL.flat xs)) {a : Nat} {s : Int} (hs : xs[a]? = some s) : ∃ ad, A = some ad ∧ w.cell? (Addr.add ad (Int.toNat (a : Int) * 1)) = some (.int .i64 s) := by
  obtain ⟨ad, hA, hc⟩ := IL.read h hs
  refine ⟨ad, hA, ?_⟩
  have := hc 0 (.int .i64 s) rfl
  rw [Int.toNat_natCast]
  rwa [Addr.add_zero'] at this
theorem il_ints {w : World} {A : Option Addr} {xs : List Int} {n : Nat} (h : Cells w A (IL.flat xs)) (hn : xs.length = n) : Ints w .i64 A n xs := ⟨hn, fun j hj => by
  obtain ⟨ad, hA, hc⟩ := il_cell h (a := j) (s := xs.getD j 0) (by rw [List.getD_eq_getElem?_getD, List.getElem?_eq_getElem (by omega)]; rfl)
  exact ⟨ad, hA, by rw [Int.toNat_natCast, Nat.mul_one] at hc; exact hc⟩⟩
/-- Of a list that has been made longer by one: what stands while its tail is moved up: the first j, something, the others. -/
def shifted {α : Type} (out : List α) (j : Nat) (v : α) : List α := out.take j ++ v :: out.drop j
theorem shifted_len {α : Type} (out : List α) {j : Nat} (v : α) (h : j ≤ out.length) : (shifted out j v).length = out.length + 1 := by
  unfold shifted; simp; omega
theorem shifted_at {α : Type} (out : List α) {j : Nat} (v : α) (h : j ≤ out.length) : (shifted out j v)[j]? = some v := by
  unfold shifted
  rw [List.getElem?_append_right (by simp; omega)]
  have : j - (out.take j).length = 0 := by simp; omega
  rw [this]; rfl
theorem shifted_lo {α : Type} (out : List α) {j i : Nat} (v : α) (h : j ≤ out.length) (hi : i < j) : (shifted out j v)[i]? = out[i]? := by
  unfold shifted
  rw [List.getElem?_append_left (by simp; omega), List.getElem?_take, if_pos hi]
theorem shifted_set {α : Type} (out : List α) {j : Nat} (v x : α) (h : j ≤ out.length) : (shifted out j v).set j x = shifted out j x := by
  unfold shifted
  rw [List.set_append_right _ _ (by simp; omega)]
  have : j - (out.take j).length = 0 := by simp; omega
  rw [this]; rfl
theorem shifted_down {α : Type} (out : List α) {j : Nat} (x : α) (hx : out[j]? = some x) : shifted out (j + 1) x = shifted out j x := by
  obtain ⟨hl, e⟩ := List.getElem?_eq_some_iff.1 hx
  unfold shifted
  rw [snoc_at hx, List.append_assoc, ← e, List.drop_eq_getElem_cons hl]
  rfl
/-- The place of the first that isn't below x. -/
structure PlaceL (out : List Int) (x : Int) (i : Nat) : Prop where
  le : i ≤ out.length
  lo : ∀ (j : Nat) (y : Int), j < i → out[j]? = some y → y < x
  hi : ∀ y, out[i]? = some y → x ≤ y
def RiseL (l : List Int) : Prop := l.Pairwise (· < ·)
theorem rise_ins {out : List Int} (hr : RiseL out) {x : Int} {i : Nat} (h : PlaceL out x i) (hne : ∀ y, out[i]? = some y → y ≠ x) : RiseL (shifted out i x) := by
  have e := List.take_append_drop i out
  have hp : RiseL (out.take i ++ out.drop i) := by rw [e]; exact hr
  obtain ⟨h1, h2, h3⟩ := List.pairwise_append.1 hp
  have hlo : ∀ a ∈ out.take i, a < x := fun a ha => by
    obtain ⟨j, hj⟩ := List.mem_iff_getElem?.1 ha
    rw [List.getElem?_take] at hj
    split at hj
    · exact h.lo j a (by assumption) hj
    · cases hj
  have hhi : ∀ a ∈ out.drop i, x < a := fun a ha => by
    obtain ⟨j, hj⟩ := List.mem_iff_getElem?.1 ha
    rw [List.getElem?_drop] at hj
    have hil := (List.getElem?_eq_some_iff.1 hj).1
    have hy : out[i]? = some (out[i]'(by omega)) := List.getElem?_eq_getElem (by omega)
    have g1 := h.hi _ hy
    have g2 := hne _ hy
    rcases Nat.eq_zero_or_pos j with h0 | h0
    · subst h0
      rw [Nat.add_zero, hy] at hj
      have := Option.some.inj hj
      omega
    · obtain ⟨h5, e5⟩ := List.getElem?_eq_some_iff.1 hj
      have := List.pairwise_iff_getElem.1 hr i (i + j) (by omega) h5 (by omega)
      rw [e5] at this
      omega
  unfold shifted
  refine List.pairwise_append.2 ⟨h1, List.pairwise_cons.2 ⟨hhi, h2⟩, fun a ha b hb => ?_⟩
  rcases List.mem_cons.1 hb with rfl | hb
  · exact hlo a ha
  · exact h3 a ha b hb
theorem mem_shifted {α : Type} {out : List α} {i : Nat} {x a : α} : a ∈ shifted out i x ↔ a = x ∨ a ∈ out := by
  unfold shifted
  have e : a ∈ out ↔ a ∈ out.take i ∨ a ∈ out.drop i := by rw [← List.mem_append, List.take_append_drop]
  rw [e, List.mem_append, List.mem_cons]
  constructor
  · rintro (h | h | h)
    · exact .inr (.inl h)
    · exact .inl h
    · exact .inr (.inr h)
  · rintro (h | h | h)
    · exact .inr (.inl h)
    · exact .inl h
    · exact .inr (.inr h)
set_option maxRecDepth 4000 in
theorem rising_c {w : World} {A : Option Addr} {l c : Nat} {xs : List Int} (hx : Cells w A (IL.flat xs)) (hl : xs.length = l) (hb : l ≤ 8000000000000) {R : Ending → World → Prop}
    (k : ∀ B n d ys w', Ext [] w w' → OwnL IL w' w.heap.size 3 B n d ys → RiseL ys → (∀ z, z ∈ ys ↔ z ∈ xs) → R (.returned (.slice B n d)) w') :
    Calls Tryz.prog 31 #[.slice A l c] w R := by
  apply berthref08_rising_nf
  intro w2 h2
  obtain ⟨b2, x2, z2⟩ := box_new (cs := []) h2
  have own2 : OwnL IL w2 w.heap.size 3 (some ⟨w.heap.size, 0, none⟩) 0 0 [] := own_of b2 (Nat.le_refl _) (Nat.le_refl _) (by simp only [maxLen]; omega) (by simp) (by simp [Lay.flat])
  refine ⟨fun B n d t w' => ∃ (a : Nat) (ys : List Int), t = a ∧ a ≤ l ∧ Ext [] w w' ∧ OwnL IL w' w.heap.size 3 B n d ys ∧ RiseL ys ∧ (∀ z, z ∈ ys ↔ z ∈ xs.take a) ∧ n ≤ a, fun _ _ _ t _ => l - t.toNat, ⟨0, [], rfl, by omega, x2, own2, List.Pairwise.nil, by simp, by omega⟩, ?_⟩
  rintro B n d _ _ w8 ⟨a, ys, rfl, ha, e8, own8, hr, hm, hna⟩
  refine sel_dec (fun hlt => ?_) (fun hge => ?_)
  · have hlt : a < l := by omega
    obtain ⟨x, hxa⟩ : ∃ x, xs[a]? = some x := ⟨xs[a]'(by omega), List.getElem?_eq_getElem (by omega)⟩
    have hyl := own8.len
    have rx : ∀ w', Ext [] w w' → ∃ ad, A = some ad ∧ w'.cell? (Addr.add ad (Int.toNat (a : Int) * 1)) = some (.int .i64 x) := fun w' e => il_cell (hx.ext0 e) hxa
    refine ⟨fun t w' => ∃ i : Nat, t = i ∧ PlaceL ys x i ∧ Ext [] w8 w', ?_, ?_⟩
    · refine ⟨fun t w' => ∃ i : Nat, t = i ∧ i ≤ n ∧ (∀ (j : Nat) (y : Int), j < i → ys[j]? = some y → y < x) ∧ Ext [] w8 w', fun t _ => n - t.toNat, ⟨0, rfl, by omega, fun j y hj => by omega, Ext.refl _ _⟩, ?_⟩
      rintro _ _ w14 ⟨i, rfl, hi, hlo, e14⟩
      refine sel_dec (fun hlt' => ?_) (fun hge' => ⟨i, rfl, ⟨by omega, hlo, fun y hy => by have := (List.getElem?_eq_some_iff.1 hy).1; omega⟩, e14.drew⟩)
      have hlt' : i < n := by omega
      obtain ⟨y, hy⟩ : ∃ y, ys[i]? = some y := ⟨ys[i]'(by omega), List.getElem?_eq_getElem (by omega)⟩
      obtain ⟨bd, hB, hc1⟩ := il_cell (own8.cells.ext0 e14) hy
      obtain ⟨ad, hA, hc2⟩ := rx w14 (e8.trans e14)
      rw [hB, hA]
      refine when_dec ⟨by omega, by omega⟩ (ptr_in ⟨_, hc1, when_dec ⟨by omega, by omega⟩ (ptr_in ⟨_, hc2, sel_dec (fun hyx => ?_) (fun hyx => ?_)⟩)⟩)
      · rw [up64 i (by omega)]
        refine ⟨⟨i + 1, rfl, by omega, fun j y' hj hy' => ?_, e14.drew⟩, by simp only [Int.toNat_natCast]; omega⟩
        by_cases hji : j = i
        · subst hji; rw [hy] at hy'; cases hy'; exact hyx
        · exact hlo j y' (by omega) hy'
      · refine ⟨i, rfl, ⟨by omega, hlo, fun y' hy' => ?_⟩, e14.drew⟩
        rw [hy] at hy'; cases hy'; omega
    · rintro _ _ w21 ⟨i, rfl, pl, e21⟩
      have hil := pl.le
      have own21 := own8.ext0 e21
      have E21 := e8.trans e21
      refine ⟨fun w' => Ext [] w8 w' ∧ ∀ y, ys[i]? = some y → y ≠ x, ?_, ?_⟩
      · refine sel_dec (fun hlt' => ?_) (fun hge' => ⟨e21.drew, fun y hy => by have := (List.getElem?_eq_some_iff.1 hy).1; omega⟩)
        have hlt' : i < n := by omega
        obtain ⟨y, hy⟩ : ∃ y, ys[i]? = some y := ⟨ys[i]'(by omega), List.getElem?_eq_getElem (by omega)⟩
        obtain ⟨bd, hB, hc1⟩ := il_cell own21.cells hy
        obtain ⟨ad, hA, hc2⟩ := rx w21 E21
        rw [hB, hA]
        refine when_dec ⟨by omega, by omega⟩ (ptr_in ⟨_, hc1, when_dec ⟨by omega, by omega⟩ (ptr_in ⟨_, hc2, sel_intro (fun heq => ?_) (fun hne => ⟨e21.drew, fun y' hy' e => ?_⟩)⟩)⟩)
        · have heq : y = x := eq_of_beq heq
          rw [up64 a (by omega)]
          refine ⟨⟨a + 1, ys, rfl, by omega, E21.drew, by rw [hB] at own21; exact own21.ext0 (Ext.refl [] w21).drew, hr, fun z => ?_, by omega⟩, by simp only [Int.toNat_natCast]; omega⟩
          rw [hm z, snoc_at hxa, List.mem_append]
          constructor
          · intro h; exact .inl h
          · rintro (h | h)
            · exact h
            · simp at h; subst h
              rw [← hm, ← heq]; exact List.mem_of_getElem? hy
        · rw [hy] at hy'; cases hy'
          rw [e] at hne; simp at hne
      · rintro _ w28 ⟨e28, hne⟩ w29 h29
        obtain ⟨b29, x29, z29⟩ := box_new (cs := [.int .i64 0]) h29
        have E28 := e8.trans e28
        have own28 := own8.ext0 e28
        obtain ⟨B', d', w31, hr31, own31, e31, hF⟩ := (own28.ext0 x29).more (P := Tryz.prog) (ty := 23) (x := 0) u37 i3 rfl (by omega) b29 (by have := E28.size; omega) (by omega)
        have gb := own28.base
        have E31 : Ext [] w w31 := (E28.trans x29).trans' e31 (fun b hb => .inr (gb b hb).1)
        refine ⟨_, _, _, w31, hr31, ?_⟩
        have ew : IntKind.wrap .i64 (((n + 1 : Nat) : Int) - 1) = (n : Int) := by rw [w64 (by omega) (by omega)]; omega
        show V.lt _ fun x32 => _
        unfold V.lt
        rw [ew]
        have hinit : ys ++ [0] = shifted ys n 0 := by
          unfold shifted
          rw [List.take_of_length_le (by omega), List.drop_eq_nil_of_le (by omega)]
        rw [hinit] at own31
        refine ⟨fun t w' => ∃ (j : Nat) (v : Int), t = j ∧ i ≤ j ∧ j ≤ n ∧ Ext [] w w' ∧ OwnL IL w' w.heap.size 3 B' (n + 1) d' (shifted ys j v), fun t _ => t.toNat, ⟨n, 0, rfl, by omega, by omega, E31, own31⟩, ?_⟩
        rintro _ _ w37 ⟨j, v, rfl, hij, hjn, E37, own37⟩
        have gb37 := own37.base
        refine sel_dec (fun hgt => ?_) (fun hle => ?_)
        · have hgt : i < j := by omega
          have ej : IntKind.wrap .i64 ((j : Int) - 1) = ((j - 1 : Nat) : Int) := by rw [w64 (by omega) (by omega)]; omega
          rw [ej]
          obtain ⟨y, hy⟩ : ∃ y, ys[j - 1]? = some y := ⟨ys[j - 1]'(by omega), List.getElem?_eq_getElem (by omega)⟩
          obtain ⟨bd, hB, hc1⟩ := il_cell own37.cells (a := j - 1) (s := y) (by rw [shifted_lo _ _ (by omega) (by omega)]; exact hy)
          rw [hB]
          refine when_dec ⟨by omega, by omega⟩ (ptr_in ⟨_, hc1, when_dec ⟨by omega, by omega⟩ ?_⟩)
          rw [hB] at own37 gb37
          obtain ⟨g, w41, hg, hr41, own41, e41⟩ := own37.set1 (P := Tryz.prog) (i := j) (y := y) (v := .int .i64 y) (by omega) rfl rfl i3s' rfl
          cases hg
          refine ptr_in ⟨w41, by rw [Int.toNat_natCast]; exact hr41, ⟨j - 1, y, rfl, by omega, by omega, E37.trans' e41 (fun b hb => .inr (gb37 b hb).1), ?_⟩, by simp only [Int.toNat_natCast]; omega⟩
          rw [shifted_set _ _ _ (by omega)] at own41
          have := shifted_down ys y hy
          rw [show j - 1 + 1 = j by omega] at this
          rw [this] at own41; exact own41
        · have : j = i := by omega
          subst this
          obtain ⟨ad, hA, hc2⟩ := rx w37 E37
          rw [hA]
          refine when_dec ⟨by omega, by omega⟩ (ptr_in ⟨_, hc2, when_dec ⟨by omega, by omega⟩ ?_⟩)
          obtain ⟨g, w45, hg, hr45, own45, e45⟩ := own37.set1 (P := Tryz.prog) (i := j) (y := x) (v := .int .i64 x) (by omega) rfl rfl i3s' rfl
          rw [hg]
          refine ptr_in ⟨w45, by rw [Int.toNat_natCast]; exact hr45, ?_⟩
          rw [up64 a (by omega)]
          rw [hg] at own45
          rw [shifted_set _ _ _ (by omega)] at own45
          refine ⟨⟨a + 1, shifted ys j x, rfl, by omega, E37.trans' e45 (fun b hb => .inr (gb37 b hb).1), own45, rise_ins hr pl hne, fun z => ?_, by omega⟩, by simp only [Int.toNat_natCast]; omega⟩
          rw [mem_shifted, hm z, snoc_at hxa, List.mem_append]
          constructor
          · rintro (h | h)
            · exact .inr (by simp [h])
            · exact .inl h
          · rintro (h | h)
            · exact .inr h
            · simp at h; exact .inl h
  · have : a = l := by omega
    subst this
    rw [List.take_of_length_le (by omega)] at hm
    exact k B n d ys w8 e8 own8 hr hm
end Go.Proofs.YtjlkdadafddodaaGreatDoor
