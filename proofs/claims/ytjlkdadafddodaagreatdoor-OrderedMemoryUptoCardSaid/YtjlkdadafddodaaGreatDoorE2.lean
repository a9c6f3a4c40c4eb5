/- The document's index: Has, Numbers, Between, Find. -/
import Derived.Test.YtjlkdadafddodaaGreatDoorE1
set_option linter.unusedVariables false
set_option linter.unusedSimpArgs false
namespace Go.Proofs.YtjlkdadafddodaaGreatDoor
open Go Go.V Go.B

theorem Stands_c {w : World} (a cmp n : Int) {R : Ending → World → Prop} (k : ∀ b, (b = true ↔ standsP cmp a n) → R (.returned (.bool b)) w) : Calls Tryz.prog 73 #[.int .i64 a, .int .i64 cmp, .int .i64 n] w R := by
  apply berthref08_Stands_nf
  unfold standsP at k
  refine sel_intro (fun c => ?_) (fun c1 => sel_intro (fun c => ?_) (fun c2 => sel_intro (fun c => ?_) (fun c3 => sel_intro (fun c => ?_) (fun c4 => sel_intro (fun c => ?_) (fun c5 => sel_intro (fun c => ?_) (fun c6 => ?_))))))
  · have c := eq_of_beq c; subst c; exact k _ (by simp)
  · have c := eq_of_beq c; subst c; exact k _ (by simp)
  · have c := eq_of_beq c; subst c; exact k _ (by simp)
  · have c := eq_of_beq c; subst c; exact k _ (by simp)
  · have c := eq_of_beq c; subst c; exact k _ (by simp)
  · have c := eq_of_beq c; subst c; exact k _ (by simp)
  · refine k false ⟨fun h => (by cases h), fun h => ?_⟩
    rcases h with ⟨rfl, _⟩ | ⟨rfl, _⟩ | ⟨rfl, _⟩ | ⟨rfl, _⟩ | ⟨rfl, _⟩ | ⟨rfl, _⟩
    · cases c1
    · cases c2
    · cases c3
    · cases c4
    · cases c5
    · cases c6
theorem DocHas_c {w : World} {d : Doc} (h : DocR w d) (hb : d.l ≤ 4000000000000) (key : ByteArray) {R : Ending → World → Prop}
    (k : ∀ B n c ys w', Ext [] w w' → OwnL IL w' w.heap.size 3 B n c ys → RiseL ys → (∀ z, z ∈ ys ↔ ∃ r ∈ d.rows, (r.key = key ∧ True) ∧ r.slot = z) → R (.returned (.slice B n c)) w') :
    Calls Tryz.prog 35 #[.agg #[.int .i64 d.N, .slice d.A d.l d.c], .string key] w R := by
  apply berthref08_Index_Has_nf
  intro w4 h4 w5 h5
  obtain ⟨b4, x4, z4⟩ := doc_box (d := d) h4
  obtain ⟨b5, x5, z5⟩ := box_new (cs := []) h5
  have hl := h.len
  have own5 : OwnL IL w5 w.heap.size 3 (some ⟨w4.heap.size, 0, none⟩) 0 0 [] := own_of b5 (by omega) (Nat.le_refl _) (by simp only [maxLen]; omega) (by simp) (by simp [Lay.flat])
  refine ⟨fun A n c t w' => ∃ (a : Nat) (all : List Int), t = a ∧ a ≤ d.l ∧ Ext [] w4 w' ∧ OwnL IL w' w.heap.size 3 A n c all ∧ (∀ z, z ∈ all ↔ ∃ r ∈ d.rows.take a, (r.key = key ∧ True) ∧ r.slot = z) ∧ n ≤ a ∧ (∀ b ∈ ownF A, w4.heap.size ≤ b), fun _ _ _ t _ => d.l - t.toNat, ⟨0, [], rfl, by omega, x5, own5, by simp, by omega, by simp [ownF]⟩, ?_⟩
  rintro A n c _ _ w11 ⟨a, all, rfl, ha, e11, own11, hm, hna, hfr⟩
  have p11 := b4.ext0 e11
  refine ⟨_, _, _, cadd p11 rfl, sel_dec (fun hlt => ?_) (fun hge => ?_)⟩
  · have hlt : a < d.l := by omega
    obtain ⟨r, ad, hr, hA, rd⟩ := doc_row ((h.ext0 x4).ext0 e11) hlt
    have skip : ¬ (r.key = key ∧ True) → (∃ (a' : Nat) (all : List Int), IntKind.wrap .i64 ((a : Int) + 1) = a' ∧ a' ≤ d.l ∧ Ext [] w4 w11 ∧ OwnL IL w11 w.heap.size 3 A n c all ∧ (∀ z, z ∈ all ↔ ∃ r ∈ d.rows.take a', (r.key = key ∧ True) ∧ r.slot = z) ∧ n ≤ a' ∧ (∀ b ∈ ownF A, w4.heap.size ≤ b)) ∧ d.l - (IntKind.wrap .i64 ((a : Int) + 1)).toNat < d.l - (a : Int).toNat := fun hP => by
      rw [up64 a (by omega)]
      refine ⟨⟨a + 1, all, rfl, by omega, e11, own11, fun z => ?_, by omega, hfr⟩, by simp only [Int.toNat_natCast]; omega⟩
      rw [hm z, snoc_at hr]
      constructor
      · rintro ⟨s, hs, q⟩
        exact ⟨s, by simp [hs], q⟩
      · rintro ⟨s, hs, q1, q2⟩
        rcases List.mem_append.1 hs with hs | hs
        · exact ⟨s, hs, q1, q2⟩
        · simp at hs; subst hs; exact absurd q1 hP
    have take : (r.key = key ∧ True) → ∀ (w19 : World), w19 = w11.alloc (.cells #[.int .i64 (r.slot)] 3) → ∃ A', ∃ n', ∃ c', ∃ w21, Sem.run Tryz.prog (Builtin.append_ #[23, 23] 23 #[.slice A n c, .slice (some ⟨w11.heap.size, 0, none⟩) 1 1]) w19 = .ok (.slice A' n' c') w21 ∧ (∃ (a' : Nat) (all : List Int), IntKind.wrap .i64 ((a : Int) + 1) = a' ∧ a' ≤ d.l ∧ Ext [] w4 w21 ∧ OwnL IL w21 w.heap.size 3 A' n' c' all ∧ (∀ z, z ∈ all ↔ ∃ r ∈ d.rows.take a', (r.key = key ∧ True) ∧ r.slot = z) ∧ n' ≤ a' ∧ (∀ b ∈ ownF A', w4.heap.size ≤ b)) ∧ d.l - (IntKind.wrap .i64 ((a : Int) + 1)).toNat < d.l - (a : Int).toNat := fun hP w19 h19 => by
      obtain ⟨b19, x19, z19⟩ := box_new (cs := [.int .i64 (r.slot)]) h19
      have z11 := e11.size
      obtain ⟨A', c', w21, hr21, own21, e21, hF⟩ := (own11.ext0 x19).more (P := Tryz.prog) (ty := 23) (x := r.slot) u37 i3 rfl (by omega) b19 (by omega) (by omega)
      refine ⟨A', n + 1, c', w21, hr21, ?_⟩
      rw [up64 a (by omega)]
      refine ⟨⟨a + 1, _, rfl, by omega, (e11.trans x19).trans' e21 (fun b hb => .inr (hfr b hb)), own21, fun z => ?_, by omega, fun b hb => ?_⟩, by simp only [Int.toNat_natCast]; omega⟩
      · rw [List.mem_append, hm z, snoc_at hr]
        constructor
        · rintro (⟨s, hs, q⟩ | hz)
          · exact ⟨s, by simp [hs], q⟩
          · exact ⟨r, by simp, hP, by simp at hz; exact hz.symm⟩
        · rintro ⟨s, hs, q1, q2⟩
          rcases List.mem_append.1 hs with hs | hs
          · exact .inl ⟨s, hs, q1, q2⟩
          · simp at hs; subst hs; exact .inr (by simp [q2])
      · rcases hF with e | e
        · rw [e] at hb; exact hfr b hb
        · rw [e] at hb; simp at hb; omega
    refine ⟨_, _, _, cadd p11 rfl, when_dec ⟨by omega, by omega⟩ ?_⟩
    rw [hA]
    refine ptr_in ⟨_, rd 0 _ rfl, ?_⟩
    rw [beqBytes]
    refine sel_dec (fun hk => ⟨_, _, _, cadd p11 rfl, when_dec ⟨by omega, by omega⟩ ?_⟩) (fun hk => skip fun q => hk q.1)
    rw [hA]
    exact ptr_in ⟨_, rd 1 _ rfl, fun w19 h19 => take ⟨hk, trivial⟩ w19 h19⟩
  · have : a = d.l := by omega
    subst this
    rw [List.take_of_length_le (by omega)] at hm
    refine rising_c own11.cells own11.len (by omega) fun B n' c' ys w24 e24 own24 hr24 hm24 => ⟨_, _, _, rfl, ?_⟩
    have z11 := (x4.trans e11).size
    exact k B n' c' ys w24 ((x4.trans e11).trans e24) (own24.weaken z11) hr24 fun z => (hm24 z).trans (hm z)
theorem DocNumbers_c {w : World} {d : Doc} (h : DocR w d) (hb : d.l ≤ 4000000000000) (key : ByteArray) {R : Ending → World → Prop}
    (k : ∀ B n c ys w', Ext [] w w' → OwnL IL w' w.heap.size 3 B n c ys → RiseL ys → (∀ z, z ∈ ys ↔ ∃ r ∈ d.rows, (r.key = key ∧ True) ∧ r.n = z) → R (.returned (.slice B n c)) w') :
    Calls Tryz.prog 25 #[.agg #[.int .i64 d.N, .slice d.A d.l d.c], .string key] w R := by
  apply berthref08_Index_Numbers_nf
  intro w4 h4 w5 h5
  obtain ⟨b4, x4, z4⟩ := doc_box (d := d) h4
  obtain ⟨b5, x5, z5⟩ := box_new (cs := []) h5
  have hl := h.len
  have own5 : OwnL IL w5 w.heap.size 3 (some ⟨w4.heap.size, 0, none⟩) 0 0 [] := own_of b5 (by omega) (Nat.le_refl _) (by simp only [maxLen]; omega) (by simp) (by simp [Lay.flat])
  refine ⟨fun A n c t w' => ∃ (a : Nat) (all : List Int), t = a ∧ a ≤ d.l ∧ Ext [] w4 w' ∧ OwnL IL w' w.heap.size 3 A n c all ∧ (∀ z, z ∈ all ↔ ∃ r ∈ d.rows.take a, (r.key = key ∧ True) ∧ r.n = z) ∧ n ≤ a ∧ (∀ b ∈ ownF A, w4.heap.size ≤ b), fun _ _ _ t _ => d.l - t.toNat, ⟨0, [], rfl, by omega, x5, own5, by simp, by omega, by simp [ownF]⟩, ?_⟩
  rintro A n c _ _ w11 ⟨a, all, rfl, ha, e11, own11, hm, hna, hfr⟩
  have p11 := b4.ext0 e11
  refine ⟨_, _, _, cadd p11 rfl, sel_dec (fun hlt => ?_) (fun hge => ?_)⟩
  · have hlt : a < d.l := by omega
    obtain ⟨r, ad, hr, hA, rd⟩ := doc_row ((h.ext0 x4).ext0 e11) hlt
    have skip : ¬ (r.key = key ∧ True) → (∃ (a' : Nat) (all : List Int), IntKind.wrap .i64 ((a : Int) + 1) = a' ∧ a' ≤ d.l ∧ Ext [] w4 w11 ∧ OwnL IL w11 w.heap.size 3 A n c all ∧ (∀ z, z ∈ all ↔ ∃ r ∈ d.rows.take a', (r.key = key ∧ True) ∧ r.n = z) ∧ n ≤ a' ∧ (∀ b ∈ ownF A, w4.heap.size ≤ b)) ∧ d.l - (IntKind.wrap .i64 ((a : Int) + 1)).toNat < d.l - (a : Int).toNat := fun hP => by
      rw [up64 a (by omega)]
      refine ⟨⟨a + 1, all, rfl, by omega, e11, own11, fun z => ?_, by omega, hfr⟩, by simp only [Int.toNat_natCast]; omega⟩
      rw [hm z, snoc_at hr]
      constructor
      · rintro ⟨s, hs, q⟩
        exact ⟨s, by simp [hs], q⟩
      · rintro ⟨s, hs, q1, q2⟩
        rcases List.mem_append.1 hs with hs | hs
        · exact ⟨s, hs, q1, q2⟩
        · simp at hs; subst hs; exact absurd q1 hP
    have take : (r.key = key ∧ True) → ∀ (w19 : World), w19 = w11.alloc (.cells #[.int .i64 (r.n)] 3) → ∃ A', ∃ n', ∃ c', ∃ w21, Sem.run Tryz.prog (Builtin.append_ #[23, 23] 23 #[.slice A n c, .slice (some ⟨w11.heap.size, 0, none⟩) 1 1]) w19 = .ok (.slice A' n' c') w21 ∧ (∃ (a' : Nat) (all : List Int), IntKind.wrap .i64 ((a : Int) + 1) = a' ∧ a' ≤ d.l ∧ Ext [] w4 w21 ∧ OwnL IL w21 w.heap.size 3 A' n' c' all ∧ (∀ z, z ∈ all ↔ ∃ r ∈ d.rows.take a', (r.key = key ∧ True) ∧ r.n = z) ∧ n' ≤ a' ∧ (∀ b ∈ ownF A', w4.heap.size ≤ b)) ∧ d.l - (IntKind.wrap .i64 ((a : Int) + 1)).toNat < d.l - (a : Int).toNat := fun hP w19 h19 => by
      obtain ⟨b19, x19, z19⟩ := box_new (cs := [.int .i64 (r.n)]) h19
      have z11 := e11.size
      obtain ⟨A', c', w21, hr21, own21, e21, hF⟩ := (own11.ext0 x19).more (P := Tryz.prog) (ty := 23) (x := r.n) u37 i3 rfl (by omega) b19 (by omega) (by omega)
      refine ⟨A', n + 1, c', w21, hr21, ?_⟩
      rw [up64 a (by omega)]
      refine ⟨⟨a + 1, _, rfl, by omega, (e11.trans x19).trans' e21 (fun b hb => .inr (hfr b hb)), own21, fun z => ?_, by omega, fun b hb => ?_⟩, by simp only [Int.toNat_natCast]; omega⟩
      · rw [List.mem_append, hm z, snoc_at hr]
        constructor
        · rintro (⟨s, hs, q⟩ | hz)
          · exact ⟨s, by simp [hs], q⟩
          · exact ⟨r, by simp, hP, by simp at hz; exact hz.symm⟩
        · rintro ⟨s, hs, q1, q2⟩
          rcases List.mem_append.1 hs with hs | hs
          · exact .inl ⟨s, hs, q1, q2⟩
          · simp at hs; subst hs; exact .inr (by simp [q2])
      · rcases hF with e | e
        · rw [e] at hb; exact hfr b hb
        · rw [e] at hb; simp at hb; omega
    refine ⟨_, _, _, cadd p11 rfl, when_dec ⟨by omega, by omega⟩ ?_⟩
    rw [hA]
    refine ptr_in ⟨_, rd 0 _ rfl, ?_⟩
    rw [beqBytes]
    refine sel_dec (fun hk => ⟨_, _, _, cadd p11 rfl, when_dec ⟨by omega, by omega⟩ ?_⟩) (fun hk => skip fun q => hk q.1)
    rw [hA]
    exact ptr_in ⟨_, rd 2 _ rfl, fun w19 h19 => take ⟨hk, trivial⟩ w19 h19⟩
  · have : a = d.l := by omega
    subst this
    rw [List.take_of_length_le (by omega)] at hm
    refine rising_c own11.cells own11.len (by omega) fun B n' c' ys w24 e24 own24 hr24 hm24 => ⟨_, _, _, rfl, ?_⟩
    have z11 := (x4.trans e11).size
    exact k B n' c' ys w24 ((x4.trans e11).trans e24) (own24.weaken z11) hr24 fun z => (hm24 z).trans (hm z)
theorem DocBetween_c {w : World} {d : Doc} (h : DocR w d) (hb : d.l ≤ 4000000000000) (key : ByteArray) (lo hi : Int) {R : Ending → World → Prop}
    (k : ∀ B n c ys w', Ext [] w w' → OwnL IL w' w.heap.size 3 B n c ys → RiseL ys → (∀ z, z ∈ ys ↔ ∃ r ∈ d.rows, (r.key = key ∧ lo ≤ r.n ∧ r.n ≤ hi) ∧ r.slot = z) → R (.returned (.slice B n c)) w') :
    Calls Tryz.prog 50 #[.agg #[.int .i64 d.N, .slice d.A d.l d.c], .string key, .int .i64 lo, .int .i64 hi] w R := by
  apply berthref08_Index_Between_nf
  intro w4 h4 w5 h5
  obtain ⟨b4, x4, z4⟩ := doc_box (d := d) h4
  obtain ⟨b5, x5, z5⟩ := box_new (cs := []) h5
  have hl := h.len
  have own5 : OwnL IL w5 w.heap.size 3 (some ⟨w4.heap.size, 0, none⟩) 0 0 [] := own_of b5 (by omega) (Nat.le_refl _) (by simp only [maxLen]; omega) (by simp) (by simp [Lay.flat])
  refine ⟨fun A n c t w' => ∃ (a : Nat) (all : List Int), t = a ∧ a ≤ d.l ∧ Ext [] w4 w' ∧ OwnL IL w' w.heap.size 3 A n c all ∧ (∀ z, z ∈ all ↔ ∃ r ∈ d.rows.take a, (r.key = key ∧ lo ≤ r.n ∧ r.n ≤ hi) ∧ r.slot = z) ∧ n ≤ a ∧ (∀ b ∈ ownF A, w4.heap.size ≤ b), fun _ _ _ t _ => d.l - t.toNat, ⟨0, [], rfl, by omega, x5, own5, by simp, by omega, by simp [ownF]⟩, ?_⟩
  rintro A n c _ _ w11 ⟨a, all, rfl, ha, e11, own11, hm, hna, hfr⟩
  have p11 := b4.ext0 e11
  refine ⟨_, _, _, cadd p11 rfl, sel_dec (fun hlt => ?_) (fun hge => ?_)⟩
  · have hlt : a < d.l := by omega
    obtain ⟨r, ad, hr, hA, rd⟩ := doc_row ((h.ext0 x4).ext0 e11) hlt
    have skip : ¬ (r.key = key ∧ lo ≤ r.n ∧ r.n ≤ hi) → (∃ (a' : Nat) (all : List Int), IntKind.wrap .i64 ((a : Int) + 1) = a' ∧ a' ≤ d.l ∧ Ext [] w4 w11 ∧ OwnL IL w11 w.heap.size 3 A n c all ∧ (∀ z, z ∈ all ↔ ∃ r ∈ d.rows.take a', (r.key = key ∧ lo ≤ r.n ∧ r.n ≤ hi) ∧ r.slot = z) ∧ n ≤ a' ∧ (∀ b ∈ ownF A, w4.heap.size ≤ b)) ∧ d.l - (IntKind.wrap .i64 ((a : Int) + 1)).toNat < d.l - (a : Int).toNat := fun hP => by
      rw [up64 a (by omega)]
      refine ⟨⟨a + 1, all, rfl, by omega, e11, own11, fun z => ?_, by omega, hfr⟩, by simp only [Int.toNat_natCast]; omega⟩
      rw [hm z, snoc_at hr]
      constructor
      · rintro ⟨s, hs, q⟩
        exact ⟨s, by simp [hs], q⟩
      · rintro ⟨s, hs, q1, q2⟩
        rcases List.mem_append.1 hs with hs | hs
        · exact ⟨s, hs, q1, q2⟩
        · simp at hs; subst hs; exact absurd q1 hP
    have take : (r.key = key ∧ lo ≤ r.n ∧ r.n ≤ hi) → ∀ (w19 : World), w19 = w11.alloc (.cells #[.int .i64 (r.slot)] 3) → ∃ A', ∃ n', ∃ c', ∃ w21, Sem.run Tryz.prog (Builtin.append_ #[23, 23] 23 #[.slice A n c, .slice (some ⟨w11.heap.size, 0, none⟩) 1 1]) w19 = .ok (.slice A' n' c') w21 ∧ (∃ (a' : Nat) (all : List Int), IntKind.wrap .i64 ((a : Int) + 1) = a' ∧ a' ≤ d.l ∧ Ext [] w4 w21 ∧ OwnL IL w21 w.heap.size 3 A' n' c' all ∧ (∀ z, z ∈ all ↔ ∃ r ∈ d.rows.take a', (r.key = key ∧ lo ≤ r.n ∧ r.n ≤ hi) ∧ r.slot = z) ∧ n' ≤ a' ∧ (∀ b ∈ ownF A', w4.heap.size ≤ b)) ∧ d.l - (IntKind.wrap .i64 ((a : Int) + 1)).toNat < d.l - (a : Int).toNat := fun hP w19 h19 => by
      obtain ⟨b19, x19, z19⟩ := box_new (cs := [.int .i64 (r.slot)]) h19
      have z11 := e11.size
      obtain ⟨A', c', w21, hr21, own21, e21, hF⟩ := (own11.ext0 x19).more (P := Tryz.prog) (ty := 23) (x := r.slot) u37 i3 rfl (by omega) b19 (by omega) (by omega)
      refine ⟨A', n + 1, c', w21, hr21, ?_⟩
      rw [up64 a (by omega)]
      refine ⟨⟨a + 1, _, rfl, by omega, (e11.trans x19).trans' e21 (fun b hb => .inr (hfr b hb)), own21, fun z => ?_, by omega, fun b hb => ?_⟩, by simp only [Int.toNat_natCast]; omega⟩
      · rw [List.mem_append, hm z, snoc_at hr]
        constructor
        · rintro (⟨s, hs, q⟩ | hz)
          · exact ⟨s, by simp [hs], q⟩
          · exact ⟨r, by simp, hP, by simp at hz; exact hz.symm⟩
        · rintro ⟨s, hs, q1, q2⟩
          rcases List.mem_append.1 hs with hs | hs
          · exact .inl ⟨s, hs, q1, q2⟩
          · simp at hs; subst hs; exact .inr (by simp [q2])
      · rcases hF with e | e
        · rw [e] at hb; exact hfr b hb
        · rw [e] at hb; simp at hb; omega
    refine ⟨_, _, _, cadd p11 rfl, when_dec ⟨by omega, by omega⟩ ?_⟩
    rw [hA]
    refine ptr_in ⟨_, rd 0 _ rfl, ?_⟩
    rw [beqBytes]
    refine sel_dec (fun hk => ⟨_, _, _, cadd p11 rfl, when_dec ⟨by omega, by omega⟩ ?_⟩) (fun hk => skip fun q => hk q.1)
    rw [hA]
    refine ptr_in ⟨_, rd 2 _ rfl, sel_dec (fun h1 => ⟨_, _, _, cadd p11 rfl, when_dec ⟨by omega, by omega⟩ ?_⟩) (fun h1 => skip fun q => by omega)⟩
    rw [hA]
    refine ptr_in ⟨_, rd 2 _ rfl, sel_dec (fun h2 => ⟨_, _, _, cadd p11 rfl, when_dec ⟨by omega, by omega⟩ ?_⟩) (fun h2 => skip fun q => by omega)⟩
    rw [hA]
    exact ptr_in ⟨_, rd 1 _ rfl, fun w19 h19 => take ⟨hk, h1, h2⟩ w19 h19⟩
  · have : a = d.l := by omega
    subst this
    rw [List.take_of_length_le (by omega)] at hm
    refine rising_c own11.cells own11.len (by omega) fun B n' c' ys w24 e24 own24 hr24 hm24 => ⟨_, _, _, rfl, ?_⟩
    have z11 := (x4.trans e11).size
    exact k B n' c' ys w24 ((x4.trans e11).trans e24) (own24.weaken z11) hr24 fun z => (hm24 z).trans (hm z)
theorem DocFind_c {w : World} {d : Doc} (h : DocR w d) (hb : d.l ≤ 4000000000000) (key : ByteArray) (cmp n0 : Int) {R : Ending → World → Prop}
    (k : ∀ B n c ys w', Ext [] w w' → OwnL IL w' w.heap.size 3 B n c ys → RiseL ys → (∀ z, z ∈ ys ↔ ∃ r ∈ d.rows, (r.key = key ∧ standsP cmp r.n n0) ∧ r.slot = z) → R (.returned (.slice B n c)) w') :
    Calls Tryz.prog 49 #[.agg #[.int .i64 d.N, .slice d.A d.l d.c], .string key, .int .i64 cmp, .int .i64 n0] w R := by
  apply berthref08_Index_Find_nf
  intro w4 h4 w5 h5
  obtain ⟨b4, x4, z4⟩ := doc_box (d := d) h4
  obtain ⟨b5, x5, z5⟩ := box_new (cs := []) h5
  have hl := h.len
  have own5 : OwnL IL w5 w.heap.size 3 (some ⟨w4.heap.size, 0, none⟩) 0 0 [] := own_of b5 (by omega) (Nat.le_refl _) (by simp only [maxLen]; omega) (by simp) (by simp [Lay.flat])
  refine ⟨fun A n c t w' => ∃ (a : Nat) (all : List Int), t = a ∧ a ≤ d.l ∧ Ext [] w4 w' ∧ OwnL IL w' w.heap.size 3 A n c all ∧ (∀ z, z ∈ all ↔ ∃ r ∈ d.rows.take a, (r.key = key ∧ standsP cmp r.n n0) ∧ r.slot = z) ∧ n ≤ a ∧ (∀ b ∈ ownF A, w4.heap.size ≤ b), fun _ _ _ t _ => d.l - t.toNat, ⟨0, [], rfl, by omega, x5, own5, by simp, by omega, by simp [ownF]⟩, ?_⟩
  rintro A n c _ _ w11 ⟨a, all, rfl, ha, e11, own11, hm, hna, hfr⟩
  have p11 := b4.ext0 e11
  refine ⟨_, _, _, cadd p11 rfl, sel_dec (fun hlt => ?_) (fun hge => ?_)⟩
  · have hlt : a < d.l := by omega
    obtain ⟨r, ad, hr, hA, rd⟩ := doc_row ((h.ext0 x4).ext0 e11) hlt
    have skip : ¬ (r.key = key ∧ standsP cmp r.n n0) → (∃ (a' : Nat) (all : List Int), IntKind.wrap .i64 ((a : Int) + 1) = a' ∧ a' ≤ d.l ∧ Ext [] w4 w11 ∧ OwnL IL w11 w.heap.size 3 A n c all ∧ (∀ z, z ∈ all ↔ ∃ r ∈ d.rows.take a', (r.key = key ∧ standsP cmp r.n n0) ∧ r.slot = z) ∧ n ≤ a' ∧ (∀ b ∈ ownF A, w4.heap.size ≤ b)) ∧ d.l - (IntKind.wrap .i64 ((a : Int) + 1)).toNat < d.l - (a : Int).toNat := fun hP => by
      rw [up64 a (by omega)]
      refine ⟨⟨a + 1, all, rfl, by omega, e11, own11, fun z => ?_, by omega, hfr⟩, by simp only [Int.toNat_natCast]; omega⟩
      rw [hm z, snoc_at hr]
      constructor
      · rintro ⟨s, hs, q⟩
        exact ⟨s, by simp [hs], q⟩
      · rintro ⟨s, hs, q1, q2⟩
        rcases List.mem_append.1 hs with hs | hs
        · exact ⟨s, hs, q1, q2⟩
        · simp at hs; subst hs; exact absurd q1 hP
    have take : (r.key = key ∧ standsP cmp r.n n0) → ∀ (w19 : World), w19 = w11.alloc (.cells #[.int .i64 (r.slot)] 3) → ∃ A', ∃ n', ∃ c', ∃ w21, Sem.run Tryz.prog (Builtin.append_ #[23, 23] 23 #[.slice A n c, .slice (some ⟨w11.heap.size, 0, none⟩) 1 1]) w19 = .ok (.slice A' n' c') w21 ∧ (∃ (a' : Nat) (all : List Int), IntKind.wrap .i64 ((a : Int) + 1) = a' ∧ a' ≤ d.l ∧ Ext [] w4 w21 ∧ OwnL IL w21 w.heap.size 3 A' n' c' all ∧ (∀ z, z ∈ all ↔ ∃ r ∈ d.rows.take a', (r.key = key ∧ standsP cmp r.n n0) ∧ r.slot = z) ∧ n' ≤ a' ∧ (∀ b ∈ ownF A', w4.heap.size ≤ b)) ∧ d.l - (IntKind.wrap .i64 ((a : Int) + 1)).toNat < d.l - (a : Int).toNat := fun hP w19 h19 => by
      obtain ⟨b19, x19, z19⟩ := box_new (cs := [.int .i64 (r.slot)]) h19
      have z11 := e11.size
      obtain ⟨A', c', w21, hr21, own21, e21, hF⟩ := (own11.ext0 x19).more (P := Tryz.prog) (ty := 23) (x := r.slot) u37 i3 rfl (by omega) b19 (by omega) (by omega)
      refine ⟨A', n + 1, c', w21, hr21, ?_⟩
      rw [up64 a (by omega)]
      refine ⟨⟨a + 1, _, rfl, by omega, (e11.trans x19).trans' e21 (fun b hb => .inr (hfr b hb)), own21, fun z => ?_, by omega, fun b hb => ?_⟩, by simp only [Int.toNat_natCast]; omega⟩
      · rw [List.mem_append, hm z, snoc_at hr]
        constructor
        · rintro (⟨s, hs, q⟩ | hz)
          · exact ⟨s, by simp [hs], q⟩
          · exact ⟨r, by simp, hP, by simp at hz; exact hz.symm⟩
        · rintro ⟨s, hs, q1, q2⟩
          rcases List.mem_append.1 hs with hs | hs
          · exact .inl ⟨s, hs, q1, q2⟩
          · simp at hs; subst hs; exact .inr (by simp [q2])
      · rcases hF with e | e
        · rw [e] at hb; exact hfr b hb
        · rw [e] at hb; simp at hb; omega
    refine ⟨_, _, _, cadd p11 rfl, when_dec ⟨by omega, by omega⟩ ?_⟩
    rw [hA]
    refine ptr_in ⟨_, rd 0 _ rfl, ?_⟩
    rw [beqBytes]
    refine sel_dec (fun hk => ⟨_, _, _, cadd p11 rfl, when_dec ⟨by omega, by omega⟩ ?_⟩) (fun hk => skip fun q => hk q.1)
    rw [hA]
    refine ptr_in ⟨_, rd 2 _ rfl, Stands_c r.n cmp n0 fun b hst => ⟨_, rfl, sel_intro (fun hbt => ⟨_, _, _, cadd p11 rfl, when_dec ⟨by omega, by omega⟩ ?_⟩) (fun hbf => skip fun q => by rw [hst.2 q.2] at hbf; cases hbf)⟩⟩
    rw [hA]
    exact ptr_in ⟨_, rd 1 _ rfl, fun w19 h19 => take ⟨hk, hst.1 hbt⟩ w19 h19⟩
  · have : a = d.l := by omega
    subst this
    rw [List.take_of_length_le (by omega)] at hm
    refine rising_c own11.cells own11.len (by omega) fun B n' c' ys w24 e24 own24 hr24 hm24 => ⟨_, _, _, rfl, ?_⟩
    have z11 := (x4.trans e11).size
    exact k B n' c' ys w24 ((x4.trans e11).trans e24) (own24.weaken z11) hr24 fun z => (hm24 z).trans (hm z)
end Go.Proofs.YtjlkdadafddodaaGreatDoor
