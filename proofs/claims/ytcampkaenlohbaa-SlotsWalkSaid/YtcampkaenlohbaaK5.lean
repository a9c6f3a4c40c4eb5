/- The table of names and slots: Span, At, All. -/
import Derived.Test.YtcampkaenlohbaaK4
set_option linter.unusedVariables false
set_option linter.unusedSimpArgs false
namespace Go.Proofs.Ytcampkaenlohbaa
open Go Go.V Go.B

theorem Span_c {w : World} {B p : Nat} {f : List Nat} {s : TS} (h : At w B p f s) {R : Ending → World → Prop} (k : R (.returned (.int .i64 (s.rows.length : Int))) w) : Calls Try.prog 32 #[.pointer (some ⟨p, 0, none⟩)] w R := by
  obtain ⟨r, A, n, c, q, i, rfl⟩ := h
  apply slots_Table_int__Span_nf
  rw [q.own.len] at k
  exact sel_false rfl (ptr_in ⟨_, _, _, cadd q.hdr rfl, k⟩)
/-- What At tells. -/
def atV (s : TS) (slot : Int) : Rw := if slot < 0 then Rw.zero else s.rows.getD slot.toNat Rw.zero
theorem At_c {w : World} {B p : Nat} {f : List Nat} {s : TS} (h : At w B p f s) (slot : Int) {R : Ending → World → Prop}
    (k : ∀ w', Ext [] w w' → R (.returned (.tuple #[.string (atV s slot).name, .int .i64 (atV s slot).v, .bool (atV s slot).held])) w') : Calls Try.prog 18 #[.pointer (some ⟨p, 0, none⟩), .int .i64 slot] w R := by
  apply slots_Table_int__At_nf
  have k0 : atV s slot = Rw.zero → R (.returned (.tuple #[.string ByteArray.empty, .int .i64 0, .bool false])) w := fun e => by
    have := k w (Ext.refl _ _)
    rw [e] at this; exact this
  refine sel_dec (fun h0 => k0 (by unfold atV; rw [if_pos h0])) (fun h0 => Span_c h ⟨_, rfl, sel_dec (fun h1 => k0 ?_) (fun h1 => ?_)⟩)
  · unfold atV
    rw [if_neg h0, List.getD_eq_getElem?_getD, List.getElem?_eq_none (by omega)]
    rfl
  · obtain ⟨r, A, n, c, q, i, rfl⟩ := h
    have hl := q.own.len
    obtain ⟨a, rfl⟩ : ∃ a : Nat, slot = a := ⟨slot.toNat, by omega⟩
    obtain ⟨x, ad, hx, rfl, rd⟩ := q.own.row (a := a) (by omega)
    refine ptr_in ⟨_, _, _, cadd q.hdr rfl, when_dec ⟨by omega, by omega⟩ (ptr_in ⟨_, _, _, rd, fun w1 h1 => ?_⟩)⟩
    obtain ⟨b1, x1, z1⟩ := box_new (cs := Rw.zero.cells) h1
    obtain ⟨w2, hr2, b2, x2⟩ := storeW (P := Try.prog) (t := 81) (n := 3) (vs := x.cells) i81s b1 rfl rfl (RL.one x)
    have e2 : Ext [] w w2 := x1.trans' x2 (fun b hb => .inr (by simp at hb; omega))
    have hat : atV s (a : Int) = x := by
      unfold atV
      rw [if_neg (by omega), Int.toNat_natCast, List.getD_eq_getElem?_getD, hx]
      rfl
    have := k w2.drew e2.drew
    rw [hat] at this
    exact ⟨w2, hr2, _, cadd b2 rfl, _, cadd b2 rfl, _, cadd b2 rfl, this⟩
theorem Clone_c {w : World} {A : Option Addr} {n c : Nat} {xs : List Rw} (hx : Cells w A (RL.flat xs)) (hn : xs.length = n) (h0 : A = none → n = 0) (hb : n ≤ 65536) {R : Ending → World → Prop}
    (k : ∀ A' c' w', Ext [] w w' → OwnL RL w' w.heap.size 81 A' n c' xs → R (.returned (.slice A' n c')) w') : Calls Try.prog 40 #[.slice A n c] w R := by
  apply slices_Clone___slots_row_int__slots_row_int___nf
  refine sel_intro (fun hA => ?_) (fun hA => fun w1 h1 => ?_)
  · have hA : A = none := by cases A <;> simp at hA ⊢
    have := h0 hA
    subst this
    have hxs := List.eq_nil_of_length_eq_zero hn
    subst hxs
    exact k none 0 w (Ext.refl _ _) (OwnL.nil _ _ _)
  · obtain ⟨A', c', w2, hr, own, e⟩ := copyL (P := Try.prog) (ty := 77) u77 i81 rfl (by omega) hx hn h1 (by omega) c
    exact ⟨_, _, _, _, hr, k A' c' w2 e own⟩
/-- What All answers: a closure over a block that holds the rows. -/
theorem All_c {w : World} {B p : Nat} {f : List Nat} {s : TS} (h : At w B p f s) {R : Ending → World → Prop}
    (k : ∀ b A' c' w', Ext [] w w' → w.heap.size ≤ b → BlkT w' b [.slice A' s.rows.length c'] 77 → OwnL RL w' w.heap.size 81 A' s.rows.length c' s.rows → b ∉ ownF A' → R (.returned (.func (.func 41) #[] #[.pointer (some ⟨b, 0, none⟩)])) w') :
    Calls Try.prog 22 #[.pointer (some ⟨p, 0, none⟩)] w R := by
  obtain ⟨r, A, n, c, q, i, rfl⟩ := h
  apply slots_Table_int__All_nf
  intro w1 h1
  obtain ⟨b1, x1, z1⟩ := box_new (cs := [.slice none 0 0]) h1
  have q1 := q.ext x1 (by simp)
  have hl := q.own.len
  have hlen := i.len
  have htop := i.top
  refine sel_true rfl (ptr_in ⟨_, _, _, cadd q1.hdr rfl, ?_⟩)
  refine Clone_c q1.own.cells hl (fun e => by
    subst e
    rcases q.own.2 with ⟨_, h⟩ | ⟨g, cap, cur, hv, _⟩
    · exact h
    · cases hv) (by omega) fun A' c' w2 e2 own2 => ⟨_, _, _, rfl, ?_⟩
  obtain ⟨w3, hr3, b3, e3⟩ := store1 (P := Try.prog) (v := .slice A' n c') i77s (b1.ext e2 (by simp)) (i := 0) (by simp) rfl rfl
  have hb2 := own2.base
  refine ⟨w3, hr3, ?_⟩
  rw [hl] at k
  exact k w.heap.size A' c' w3 ((x1.trans e2).trans' e3 (fun b hb => .inr (by simp at hb; omega))) (Nat.le_refl _) b3 ((own2.ext e3 (fun b hb => by simp; have := (hb2 b hb).1; omega)).weaken (by omega)) (fun hm => by have := (hb2 _ hm).1; omega)
/-- The walk over what All answered: J a: a rows lie behind; Q: it was left. -/
theorem walk_c {w : World} {b n c : Nat} {A : Option Addr} {xs : List Rw} {yl : Nat} (hn : xs.length = n) (hb : n ≤ 65536) {J : Nat → World → Prop} {Q : World → Prop} {R : Ending → World → Prop} (blk : BlkT w b [.slice A n c] 77)
    (j0 : J 0 w) (stable : ∀ a w1 w2, Ext [] w1 w2 → J a w1 → J a w2) (rows : ∀ a w1, J a w1 → Cells w1 A (RL.flat xs))
    (skip : ∀ a x w1, xs[a]? = some x → x.held = false → J a w1 → J (a + 1) w1)
    (yields : ∀ a x w1, xs[a]? = some x → x.held = true → J a w1 → ∀ R' : Ending → World → Prop, (∀ w2, J (a + 1) w2 → R' (.returned (.bool true)) w2) → (∀ w2, Q w2 → R' (.returned (.bool false)) w2) → V.Yield Try.prog yl [.int .i64 (a : Int), .string x.name] w1 R')
    (kj : ∀ w1, J n w1 → R (.returned undef) w1) (kq : ∀ w1, Q w1 → R (.returned undef) w1) :
    Calls Try.prog 41 #[.func (.yield yl) #[] #[], .pointer (some ⟨b, 0, none⟩)] w R := by
  apply slots_Table_int__All_l1_nf
  refine ptr_in ⟨_, _, _, blk.cell (i := 0) rfl, fun t w' => ∃ a : Nat, t = a ∧ a ≤ n ∧ J a w', fun t _ => n - t.toNat, ⟨0, rfl, by omega, j0⟩, ?_⟩
  rintro _ _ w1 ⟨a, rfl, ha, j1⟩
  have fin : ∀ w2, J (a + 1) w2 → a < n → (∃ a' : Nat, IntKind.wrap .i64 ((a : Int) + 1) = a' ∧ a' ≤ n ∧ J a' w2) ∧ n - (IntKind.wrap .i64 ((a : Int) + 1)).toNat < n - (a : Int).toNat := fun w2 j2 hlt => by
    rw [up64 a (by omega)]
    exact ⟨⟨a + 1, rfl, by omega, j2⟩, by simp only [Int.toNat_natCast]; omega⟩
  refine sel_dec (fun hlt => ?_) (fun hge => ?_)
  · have hlt : a < n := by omega
    obtain ⟨x, ad, hx, rfl, rd⟩ := (rows a w1 j1).row hn hlt
    refine when_dec ⟨by omega, by omega⟩ (ptr_in ⟨_, _, _, rd, fun w2 h2 => ?_⟩)
    obtain ⟨b2, x2, z2⟩ := box_new (cs := Rw.zero.cells) h2
    obtain ⟨w3, hr3, b3, x3⟩ := storeW (P := Try.prog) (t := 81) (n := 3) (vs := x.cells) i81s b2 rfl rfl (RL.one x)
    have e3 : Ext [] w1 w3 := x2.trans' x3 (fun b hb => .inr (by simp at hb; omega))
    have j3 := stable a w1 w3 e3 j1
    refine ⟨w3, hr3, _, cadd b3 rfl, sel_intro (fun hh => ?_) (fun hh => fin w3 (skip a x w3 hx hh j3) hlt)⟩
    exact ⟨_, cadd b3 rfl, yields a x w3 hx hh j3 _ (fun w4 j4 => ⟨_, rfl, sel_false rfl (fin w4 j4 hlt)⟩) (fun w4 q4 => ⟨_, rfl, sel_true rfl (kq w4 q4)⟩)⟩
  · have : a = n := by omega
    subst this
    exact kj w1 j1
end Go.Proofs.Ytcampkaenlohbaa
