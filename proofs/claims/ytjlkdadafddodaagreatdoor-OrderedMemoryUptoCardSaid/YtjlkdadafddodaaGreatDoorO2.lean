/- Ordered: reading calls. -/
import Derived.Test.YtjlkdadafddodaaGreatDoorO1
set_option linter.unusedVariables false
set_option linter.unusedSimpArgs false
namespace Go.Proofs.YtjlkdadafddodaaGreatDoor
open Go Go.V Go.B

theorem um_si : Tryz.prog.underlying 80 = some (.map 9 69) := by kernel_rfl
theorem um_ii : Tryz.prog.underlying 84 = some (.map 3 3) := by kernel_rfl
theorem kS : KeyT Tryz.prog 9 Value.string := keyString (by kernel_rfl)
theorem kI : KeyT Tryz.prog 3 (Value.int .i64) := keyInt (by kernel_rfl)
theorem zI : ∀ w, (zeroValue 3).run Tryz.prog w = .ok (.int .i64 0) w := fun w => by kernel_rfl
theorem zP : ∀ w, (zeroValue 69).run Tryz.prog w = .ok (.pointer none) w := fun w => by kernel_rfl

theorem empty_c {w : World} {q : Option Addr} {x : Ix} (h : IxR w q x) {R : Ending → World → Prop}
    (k : ∀ p bw w', Ext [] w w' → w.heap.size ≤ p → w.heap.size ≤ bw → SetAt w' p bw ⟨x.N, List.replicate ((x.N + 63) / 64) 0⟩ → R (.returned (.pointer (some ⟨p, 0, none⟩))) w') :
    Calls Tryz.prog 27 #[.pointer q] w R := by
  apply ordered_Index_empty_nf
  rcases h with ⟨rfl, h0, _⟩ | ⟨F, cnt, rfl, h⟩
  · rw [h0] at k
    exact sel_false rfl (New_ok (n := 0) (by omega) fun p bw w' e h1 h2 hs => ⟨_, _, rfl, k p bw w' e h1 h2 hs⟩)
  · exact sel_true rfl (ptr_in ⟨_, cadd h.hdr rfl, New_ok h.small fun p bw w' e h1 h2 hs => ⟨_, _, rfl, k p bw w' e h1 h2 hs⟩⟩)
theorem empty_mem (N i : Nat) : (⟨N, List.replicate ((N + 63) / 64) 0⟩ : SetV).mem i = false := by
  unfold SetV.mem
  simp only [List.getD_eq_getElem?_getD, List.getElem?_replicate]
  split <;> simp
theorem column_c {w0 w : World} {q : Option Addr} {x : Ix} (h0 : IxR w0 q x) (e0 : Ext [] w0 w) (key : ByteArray) {R : Ending → World → Prop}
    (k : ∀ c f w', Ext [] w w' → ColV w' c f (x.colOf key) → (∀ b ∈ f, b < w0.heap.size) → (c < w0.heap.size ∨ w.heap.size ≤ c) → R (.returned (.pointer (some ⟨c, 0, none⟩))) w') :
    Calls Tryz.prog 28 #[.pointer q, .string key] w R := by
  apply ordered_Index_column_nf
  have fresh : ∀ w1 w2 : World, Ext [] w w1 → w2 = World.alloc w1 (.cells #[(Value.slice none 0 0), (Value.map none)] 87) → x.cols key = none → R (.returned (.pointer (some ⟨w1.heap.size, 0, none⟩))) w2 := by
    intro w1 w2 e1 h2 hk
    obtain ⟨b2, x2, z2⟩ := box_new (cs := [.slice none 0 0, .map none]) h2
    have : x.colOf key = C0 := by unfold Ix.colOf; rw [hk]; rfl
    refine k w1.heap.size [] w2 (e1.trans x2) ?_ (by simp) (.inr e1.size)
    rw [this]
    exact ⟨⟨none, b2, .inl ⟨rfl, rfl⟩⟩, Cells.nil _ _, Nat.le_refl _, fun r hr => (by cases hr), fun b hb => (by cases hb), fun r hr => (by cases hr)⟩
  rcases h0 with ⟨rfl, hN, hc⟩ | ⟨F, cnt, rfl, h0⟩
  · exact sel_false rfl fun w8 h8 => fresh w w8 (Ext.refl _ _) h8 (hc key)
  · have h := h0.ext0 e0
    obtain ⟨m, h1, h2, h3⟩ := h.mp
    refine sel_true rfl (ptr_in ⟨_, cadd h.hdr rfl, ?_⟩)
    cases hk : x.cols key with
    | none =>
      have hg : mget m key = none := by rw [h3, hk]; rfl
      exact ⟨_, w, (look_no kS um_si zP h1 hg).1, sel_false rfl fun w7 h7 => fresh w w7 (Ext.refl _ _) h7 hk⟩
    | some C =>
      have hg : mget m key = some C.c := by rw [h3, hk]; rfl
      refine ⟨_, w, (look_yes kS um_si zP h1 hg).1, sel_true rfl ?_⟩
      have hC : x.colOf key = C := by unfold Ix.colOf; rw [hk]; rfl
      have hlt := (h0.col key C hk).lt
      refine k C.c (subC C) w (Ext.refl _ _) ?_ (fun b hb => hlt b (sub_fpC hb)) (.inl (h0.col key C hk).hdr.lt)
      rw [hC]
      exact (h.col key C hk).view
theorem Get_c {w : World} {q : Option Addr} {x : Ix} (h : IxR w q x) (key : ByteArray) (slot : Int) {R : Ending → World → Prop}
    (k : ∀ w', Ext [] w w' → R (.returned (.tuple #[.int .i64 ((x.val key slot).getD 0), .bool (x.val key slot).isSome])) w') :
    Calls Tryz.prog 16 #[.pointer q, .string key, .int .i64 slot] w R := by
  apply ordered_Index_Get_nf
  refine column_c h (Ext.refl _ _) key fun c f w1 e1 v _ _ => ⟨_, rfl, ?_⟩
  obtain ⟨mo, hb, hm⟩ := v.hdr
  refine ptr_in ⟨_, cadd hb rfl, ?_⟩
  have k1 := k w1 e1
  rw [Ix.val_col] at k1
  rcases hm with ⟨rfl, h0⟩ | ⟨m, rfl, hm, _⟩
  · rw [h0] at k1
    exact ⟨_, _, w1, (look_nil kI um_ii zI slot).2, k1⟩
  · cases hg : mget (x.colOf key).of slot with
    | none =>
      rw [hg] at k1
      exact ⟨_, _, w1, (look_no kI um_ii zI hm hg).2, k1⟩
    | some n =>
      rw [hg] at k1
      exact ⟨_, _, w1, (look_yes kI um_ii zI hm hg).2, k1⟩
theorem bars_nil {w : World} (key : ByteArray) (slot : Int) {R : Ending → World → Prop} (k : R (.returned (.int .i64 1)) w) : Calls Tryz.prog 37 #[.pointer none, .string key, .int .i64 slot] w R := by
  apply ordered_Index_bars_nf
  exact sel_true rfl k
/-- What is wrong with a key or a slot. -/
def barV (N : Nat) (key : ByteArray) (slot : Int) : Int := if key = ByteArray.empty then 80 else if slot < 0 ∨ (N : Int) ≤ slot then 81 else 0
theorem bars_c {w : World} {F : List Nat} {cnt : Nat} {x : Ix} (h : IxAt w F cnt x) (key : ByteArray) (slot : Int) {R : Ending → World → Prop} (k : R (.returned (.int .i64 (barV x.N key slot))) w) :
    Calls Tryz.prog 37 #[.pointer (some ⟨x.q, 0, none⟩), .string key, .int .i64 slot] w R := by
  apply ordered_Index_bars_nf
  refine sel_false rfl ?_
  rw [beqBytes]
  unfold barV at k
  refine sel_dec (fun h1 => ?_) (fun h1 => ?_)
  · rw [if_pos h1] at k; exact k
  rw [if_neg h1] at k
  refine sel_dec (fun h2 => ?_) (fun h2 => ptr_in ⟨_, cadd h.hdr rfl, sel_dec (fun h3 => ?_) (fun h3 => ?_)⟩)
  · rw [if_pos (.inl h2)] at k; exact k
  · rw [if_pos (.inr h3)] at k; exact k
  · rw [if_neg (by omega)] at k; exact k
theorem row_cells {w : World} {A : Option Addr} {rows : List Rw} (h : Cells w A (RL.flat rows)) {a : Nat} {r : Rw} (hr : rows[a]? = some r) : ∃ ad, A = some ad ∧ w.cell? (Addr.add (Addr.add ad (Int.toNat (a : Int) * 2)) 0) = some (.int .i64 r.n) ∧ w.cell? (Addr.add (Addr.add ad (Int.toNat (a : Int) * 2)) 1) = some (ptrTo r.p) := by
  obtain ⟨ad, hA, hc⟩ := RL.read h hr
  refine ⟨ad, hA, ?_, ?_⟩
  · rw [Int.toNat_natCast]; exact hc 0 _ rfl
  · rw [Int.toNat_natCast]; exact hc 1 _ rfl
theorem at_c {w : World} {c : Nat} {f : List Nat} {C : Cl} (h : ColV w c f C) (hr : Rising C.rows) (hl : C.rows.length ≤ 8000000000000) (n : Int) {R : Ending → World → Prop}
    (k : ∀ i w', Ext [] w w' → Place C.rows n i → R (.returned (.int .i64 (i : Int))) w') :
    Calls Tryz.prog 38 #[.pointer (some ⟨c, 0, none⟩), .int .i64 n] w R := by
  apply ordered_column_at_nf
  have h1 := h.ext0 (Ext.refl [] w).drew
  obtain ⟨mo, hb, _⟩ := h.hdr
  have hb1 : BlkT w.drew c [.slice C.A C.rows.length C.cp, .map mo] 87 := hb
  refine ptr_in ⟨_, _, _, cadd hb rfl, fun lo hi w' => w' = w.drew ∧ ∃ a b : Nat, lo = a ∧ hi = b ∧ a ≤ b ∧ b ≤ C.rows.length ∧ (∀ r ∈ C.rows.take a, r.n < n) ∧ (∀ r ∈ C.rows.drop b, n ≤ r.n), fun lo hi _ => (hi - lo).toNat, ⟨rfl, 0, C.rows.length, rfl, rfl, by omega, by omega, by simp, by simp⟩, ?_⟩
  rintro _ _ _ _ ⟨rfl, a, b, rfl, rfl, hab, hbl, ha, hbb⟩
  refine sel_dec (fun hlt => ?_) (fun hge => ?_)
  · have e1 : IntKind.wrap .i64 ((a : Int) + IntKind.wrap .i64 (Int.tdiv (IntKind.wrap .i64 ((b : Int) - (a : Int))) 2)) = ((a + (b - a) / 2 : Nat) : Int) := by
      have q1 : IntKind.wrap .i64 ((b : Int) - (a : Int)) = ((b - a : Nat) : Int) := by rw [w64 (by omega) (by omega)]; omega
      have q2 : Int.tdiv ((b - a : Nat) : Int) 2 = (((b - a) / 2 : Nat) : Int) := tdiv_nat (b - a) 2
      have q3 : IntKind.wrap .i64 (((b - a) / 2 : Nat) : Int) = (((b - a) / 2 : Nat) : Int) := w64 (by omega) (by omega)
      rw [q1, q2, q3, w64 (by omega) (by omega)]; omega
    show (V.lt _ fun x11 => _)
    unfold V.lt
    rw [e1]
    obtain ⟨m, hm0⟩ : ∃ m, m = a + (b - a) / 2 := ⟨_, rfl⟩
    rw [← hm0]
    have hm : m < b := by omega
    have hma : a ≤ m := by omega
    have hrow : C.rows[m]? = some (C.rows[m]'(by omega)) := List.getElem?_eq_getElem (by omega)
    generalize C.rows[m]'(by omega) = r at hrow
    obtain ⟨ad, hA, hc0, _⟩ := row_cells h1.arr hrow
    refine ptr_in ⟨_, _, _, cadd hb1 rfl, when_dec ⟨by omega, by omega⟩ ?_⟩
    rw [hA]
    refine ptr_in ⟨_, hc0, sel_dec (fun hn => ?_) (fun hn => ?_)⟩
    · rw [up64 m (by omega)]
      refine ⟨⟨rfl, m + 1, b, rfl, rfl, by omega, hbl, fun s hs => ?_, hbb⟩, by dsimp only; omega⟩
      rw [snoc_at hrow] at hs
      rcases List.mem_append.1 hs with hs | hs
      · obtain ⟨j, hj⟩ := List.mem_iff_getElem?.1 hs
        rw [List.getElem?_take] at hj
        split at hj
        · rename_i hjm
          have := hr.at_ hj hrow hjm; omega
        · cases hj
      · simp at hs; subst hs; exact hn
    · refine ⟨⟨rfl, a, m, rfl, rfl, hma, by omega, ha, fun s hs => ?_⟩, by dsimp only; omega⟩
      obtain ⟨j, hj, hjs⟩ := drop_head hs
      rcases Nat.eq_or_lt_of_le hj with he | hl
      · subst he; rw [hrow] at hjs; cases hjs; omega
      · have := hr.at_ hrow hjs hl; omega
  · have : a = b := by omega
    subst this
    exact k a w.drew (Ext.refl [] w).drew ⟨hbl, ha, hbb⟩
end Go.Proofs.YtjlkdadafddodaaGreatDoor
