/- Lists of any layout whose block may be longer than their capacity; generic, no program. -/
import Derived.Test.YtpipenkaaodlgaaGreatDoorG1
set_option linter.unusedVariables false
set_option linter.unusedSimpArgs false
namespace Go.B
open Go.V Go.RowKit

section
variable {α : Type} (L : Lay α)
/-- A list in a block not older than B. -/
structure LstL (w : World) (B : Nat) (e : TypeId) (A : Option Addr) (n c : Nat) (xs : List α) : Prop where
  len : xs.length = n
  cap : n ≤ c
  max : c ≤ maxLen
  blk : (A = none ∧ c = 0) ∨ ∃ g bs, A = some ⟨g, 0, none⟩ ∧ B ≤ g ∧ BlkT w g bs e ∧ c * L.sz ≤ bs.length ∧ bs.take (n * L.sz) = L.flat xs
variable {L} {w w' : World} {B n c : Nat} {e : TypeId} {A : Option Addr} {xs : List α}
theorem LstL.nil (w : World) (B : Nat) (e : TypeId) : LstL L w B e none 0 0 [] := ⟨rfl, Nat.le_refl _, by omega, .inl ⟨rfl, rfl⟩⟩
theorem OwnL.lst (h : OwnL L w B e A n c xs) : LstL L w B e A n c xs := by
  refine ⟨h.len, h.cap, ?_, ?_⟩
  · rcases h.2 with ⟨hv, _⟩ | ⟨g, cap, cur, hv, hB, hh, _, hm, hs, ht⟩
    · injection hv with _ _ hc; omega
    · injection hv with _ _ hc; omega
  · rcases h.2 with ⟨hv, h0⟩ | ⟨g, cap, cur, hv, hB, hh, _, hm, hs, ht⟩
    · injection hv with hA _ hc
      exact .inl ⟨hA, hc⟩
    · injection hv with hA _ hc
      subst hA; subst hc
      exact .inr ⟨g, cur.toList, rfl, hB, hh, by simp [hs], ht⟩
theorem LstL.cells (h : LstL L w B e A n c xs) : Cells w A (L.flat xs) := by
  rcases h.blk with ⟨rfl, h0⟩ | ⟨g, bs, rfl, hB, hb, hl, ht⟩
  · have : xs = [] := List.length_eq_zero_iff.1 (by have := h.len; have := h.cap; omega)
    subst this
    exact Cells.nil _ _
  · rw [← ht]
    exact (Cells.of_blk hb.blk).take _
theorem LstL.fresh (h : LstL L w B e A n c xs) : ∀ b ∈ ownF A, B ≤ b ∧ b < w.heap.size := by
  intro b hb
  rcases h.blk with ⟨rfl, h0⟩ | ⟨g, bs, rfl, hB, hbk, hl, ht⟩
  · simp [ownF] at hb
  · simp [ownF] at hb
    subst hb
    exact ⟨hB, hbk.lt⟩
theorem LstL.ext {F : List Nat} (h : LstL L w B e A n c xs) (x : Ext F w w') (hF : ∀ b ∈ ownF A, b ∉ F) : LstL L w' B e A n c xs := by
  refine ⟨h.len, h.cap, h.max, ?_⟩
  rcases h.blk with h1 | ⟨g, bs, rfl, hB, hbk, hl, ht⟩
  · exact .inl h1
  · exact .inr ⟨g, bs, rfl, hB, hbk.ext x (hF g (by simp [ownF])), hl, ht⟩
theorem LstL.ext0 (h : LstL L w B e A n c xs) (x : Ext [] w w') : LstL L w' B e A n c xs := h.ext x (by simp)
theorem LstL.drew1 (h : LstL L w B e A n c xs) : LstL L w.drew B e A n c xs := h.ext0 (Ext.refl [] w).drew
theorem LstL.drew2 (h : LstL L w B e A n c xs) : LstL L w.drew.drew B e A n c xs := h.drew1.drew1
theorem LstL.drew3 (h : LstL L w B e A n c xs) : LstL L w.drew.drew.drew B e A n c xs := h.drew2.drew1
theorem LstL.drew4 (h : LstL L w B e A n c xs) : LstL L w.drew.drew.drew.drew B e A n c xs := h.drew3.drew1
theorem LstL.weaken {B' : Nat} (h : LstL L w B e A n c xs) (hB : B' ≤ B) : LstL L w B' e A n c xs := by
  refine ⟨h.len, h.cap, h.max, ?_⟩
  rcases h.blk with h1 | ⟨g, bs, rfl, hg, rest⟩
  · exact .inl h1
  · exact .inr ⟨g, bs, rfl, by omega, rest⟩
theorem LstL.none (h : LstL L w B e A n c xs) (hA : A = Option.none) : n = 0 ∧ c = 0 := by
  have h1 := h.cap
  rcases h.blk with ⟨_, h0⟩ | ⟨g, bs, h2, _⟩
  · omega
  · rw [hA] at h2; cases h2
theorem addr0 (A : Option Addr) (c : Nat) (sz : Nat) : V.cut A c 0 sz = A := by
  unfold V.cut
  split
  · rfl
  · cases A with
    | none => rfl
    | some a =>
      simp only [Option.map_some, Nat.zero_mul, Option.some.injEq]
      obtain ⟨b, o, v⟩ := a
      unfold Addr.add
      cases v <;> simp
/-- slices.Clip. -/
theorem LstL.clip (h : LstL L w B e A n c xs) (hsz : 0 < L.sz) : LstL L w B e A n n xs := by
  have h1 := h.cap
  refine ⟨h.len, Nat.le_refl _, by have := h.max; omega, ?_⟩
  rcases h.blk with ⟨h2, h0⟩ | ⟨g, bs, rfl, hB, hbk, hl, ht⟩
  · exact .inl ⟨h2, by omega⟩
  · exact .inr ⟨g, bs, rfl, hB, hbk, Nat.le_trans (Nat.mul_le_mul_right _ h1) hl, ht⟩
/-- append(l, x). -/
theorem LstL.more {P : Program} {t ty : TypeId} {z : Value} {bytes : Nat} (ht : P.underlying t = some (.slice e)) (hi : (P.info? e).map (fun i => (i.zero, i.size, i.bytes)) = some (some z, L.sz, bytes)) (hz : z.cells.size = L.sz) (hb0 : 0 < bytes) {x : α} {q : Nat} {T : TypeId}
    (own : LstL L w B e A n c xs) (h1 : BlkT w q (L.enc x) T) (hB : B ≤ w.heap.size) (hn : (n + 1) * bytes ≤ 140737488355328) :
    ∃ A' c' w2, (Builtin.append_ #[t, t] ty #[.slice A n c, .slice (some ⟨q, 0, Option.none⟩) 1 1]).run P w = .ok (.slice A' (n + 1) c') w2 ∧ LstL L w2 B e A' (n + 1) c' (xs ++ [x]) ∧ Ext (ownF A) w w2 ∧ (ownF A' = ownF A ∨ ownF A' = [w.heap.size]) := by
  obtain ⟨i, hi1, hz0, hz1, hz2⟩ := info_parts hi
  have hlen := own.len
  have hcap := own.cap
  have hfl : L.flat (xs ++ [x]) = L.flat xs ++ L.enc x := by rw [L.flat_app]; exact congrArg _ (List.append_nil _)
  have hxl : (L.flat xs).length = n * L.sz := by rw [L.flat_len, hlen]
  have hyl : (L.enc x).length = L.sz := L.len x
  have hnb : n + 1 ≤ 140737488355328 := Nat.le_trans (Nat.le_mul_of_pos_right _ hb0) hn
  rcases own.blk with ⟨rfl, h0⟩ | ⟨g, bs, rfl, hBg, hbk, hbl, htk⟩
  · have hn0 : n = 0 := by omega
    subst hn0; subst h0
    have hxs : xs = [] := List.length_eq_zero_iff.1 hlen
    subst hxs
    have hnews : ∀ j v, (L.enc x)[j]? = some v → w.cell? ((⟨q, 0, Option.none⟩ : Addr).add j) = some v := fun j v hj => by
      obtain ⟨ad, e1, e2⟩ := Cells.of_blk h1.blk j v hj
      cases e1; exact e2
    have hr := run_append_nil (P := P) (w := w) t ty e i z ht hi1 hz0 ⟨q, 0, Option.none⟩ 1 1 (L.enc x) (by rw [hyl, hz1, Nat.one_mul]) hnews (by omega) (by omega) (by rw [hz2]; omega)
    have hge := grownCap_ge w 1 0 e
    refine ⟨_, _, _, hr, ⟨by simp, hge, grownCap_le_maxLen w 1 0 e (by simp only [maxLen]; omega), .inr ⟨_, ((L.enc x).toArray ++ Builtin.zeroCells z.cells (grownCap w 1 0 e - 1)).toList, rfl, hB, BlkT.new w.drew _ _, ?_, ?_⟩⟩, ((Ext.refl _ w).drew).alloc _, .inr rfl⟩
    · simp only [Array.length_toList, Array.size_append, List.size_toArray, size_zeroCells, hz, hyl]
      obtain ⟨k, hk⟩ : ∃ k, grownCap w 1 0 e = k + 1 := ⟨grownCap w 1 0 e - 1, by omega⟩
      rw [hk, Nat.succ_mul, Nat.add_sub_cancel]
      omega
    · rw [List.nil_append, Array.toList_append, Nat.zero_add, Nat.one_mul, ← hyl, List.take_left' (by simp)]
      exact (List.append_nil _).symm
  · rcases Nat.lt_or_ge n c with hlt | hge
    · have hfit : (n + 1) * L.sz ≤ bs.length := Nat.le_trans (Nat.mul_le_mul_right _ hlt) hbl
      rw [Nat.succ_mul] at hfit
      obtain ⟨w2, hr, hb2, ex⟩ := appRoom (P := P) (t := t) (ty := ty) (e := e) (sz := L.sz) (n := n) (c := c) (m := 1) (cy := 1) (Y := some ⟨q, 0, Option.none⟩) ht (by rw [hi1]; exact congrArg some hz1) hbk (by rw [hyl, Nat.one_mul]) (Cells.of_blk h1.blk) (L.one x) L.pos hlt (by rw [hyl]; exact hfit)
      refine ⟨some ⟨g, 0, Option.none⟩, c, w2, hr, ⟨by simp [hlen], hlt, own.max, .inr ⟨g, _, rfl, hBg, hb2, ?_, ?_⟩⟩, ex, .inl rfl⟩
      · simp only [List.length_append, List.length_take, List.length_drop, hyl]
        omega
      · rw [hfl, ← htk, List.append_assoc, Nat.succ_mul, List.take_append, List.take_append]
        have h2 : (bs.take (n * L.sz)).length = n * L.sz := by rw [List.length_take]; omega
        rw [h2, List.take_take, hyl, Nat.min_eq_right (by omega), List.take_of_length_le (l := L.enc x) (by omega)]
        have : n * L.sz + L.sz - n * L.sz - L.sz = 0 := by omega
        rw [this]
        simp
    · have hcn : c = n := by omega
      subst hcn
      have holds : ∀ j v, (L.flat xs)[j]? = some v → w.cell? ((⟨g, 0, Option.none⟩ : Addr).add j) = some v := fun j v hj => by
        obtain ⟨ad, e1, e2⟩ := own.cells j v hj
        cases e1; exact e2
      have hnews : ∀ j v, (L.enc x)[j]? = some v → w.cell? ((⟨q, 0, Option.none⟩ : Addr).add j) = some v := fun j v hj => by
        obtain ⟨ad, e1, e2⟩ := Cells.of_blk h1.blk j v hj
        cases e1; exact e2
      have hfit := growslice_fits (need := c + 1) (old := c) (bytes := i.bytes) (by omega) (by rw [hz2]; exact hn)
      have hr := run_append_grow (P := P) (w := w) t ty e i z ht hi1 hz0 ⟨g, 0, Option.none⟩ c c (L.flat xs) (by rw [hxl, hz1]) holds ⟨q, 0, Option.none⟩ 1 1 (L.enc x) (by rw [hyl, hz1, Nat.one_mul]) hnews (by omega) (by omega) hfit
      have hge2 := grownCap_ge w (c + 1) c e
      refine ⟨_, _, _, hr, ⟨by simp [hlen], hge2, grownCap_le_maxLen w (c + 1) c e (by simp only [maxLen]; omega), .inr ⟨_, ((L.flat xs).toArray ++ (L.enc x).toArray ++ Builtin.zeroCells z.cells (grownCap w (c + 1) c e - (c + 1))).toList, rfl, hB, BlkT.new w.drew _ _, ?_, ?_⟩⟩, ((Ext.refl _ w).drew).alloc _, .inr rfl⟩
      · simp only [Array.length_toList, Array.size_append, List.size_toArray, size_zeroCells, hz, hyl, hxl]
        rw [← Nat.succ_mul, ← Nat.add_mul]
        exact Nat.mul_le_mul_right _ (by omega)
      · rw [hfl, Array.toList_append, Array.toList_append, Nat.succ_mul, ← hxl]
        rw [List.take_left' (by simp [hyl])]
end

end Go.B
