/- Lists of any layout whose block may be longer than their capacity; a list sorted in place; generic, no program. -/
import Derived.Test.YtcohengppaighaaGreatDoorG1
import Derived.Shelf.SlSortFuncK.WholeK
set_option linter.unusedVariables false
set_option linter.unusedSimpArgs false
namespace Go.B
open Go.V Go.RowKit Go.Sort Go.Proofs

section
variable {α : Type} (L : Lay α)
/-- A list in a block not older than B. -/
structure LstL (w : World) (B : Nat) (e : TypeId) (A : Option Addr) (n c : Nat) (xs : List α) : Prop where
  len : xs.length = n
  cap : n ≤ c
  max : c ≤ maxLen
  blk : (A = none ∧ c = 0) ∨ ∃ g bs, A = some ⟨g, 0, none⟩ ∧ B ≤ g ∧ BlkT w g bs e ∧ c * L.sz ≤ bs.length ∧ bs.take (n * L.sz) = L.flat xs
variable {L} {w w' : World} {B n c : Nat} {e : TypeId} {A : Option Addr} {xs : List α}
theorem LstL.nil (w : World) (B : Nat) (e : TypeId) : LstL L w B e none 0 0 [] := ⟨rfl, Nat.le_refl _, by omega, .inl ⟨rfl, rfl⟩⟩
theorem OwnL.lst (h : OwnL L w B e A n c xs) : LstL L w B e A n c xs := by
  refine ⟨h.len, h.cap, ?_, ?_⟩
  · rcases h.2 with ⟨hv, _⟩ | ⟨g, cap, cur, hv, hB, hh, _, hm, hs, ht⟩
    · injection hv with _ _ hc; omega
    · injection hv with _ _ hc; omega
  · rcases h.2 with ⟨hv, h0⟩ | ⟨g, cap, cur, hv, hB, hh, _, hm, hs, ht⟩
    · injection hv with hA _ hc
      exact .inl ⟨hA, hc⟩
    · injection hv with hA _ hc
      subst hA; subst hc
      exact .inr ⟨g, cur.toList, rfl, hB, hh, by simp [hs], ht⟩
theorem LstL.cells (h : LstL L w B e A n c xs) : Cells w A (L.flat xs) := by
  rcases h.blk with ⟨rfl, h0⟩ | ⟨g, bs, rfl, hB, hb, hl, ht⟩
  · have : xs = [] := List.length_eq_zero_iff.1 (by have := h.len; have := h.cap; omega)
    subst this
    exact Cells.nil _ _
  · rw [← ht]
    exact (Cells.of_blk hb.blk).take _
theorem LstL.fresh (h : LstL L w B e A n c xs) : ∀ b ∈ ownF A, B ≤ b ∧ b < w.heap.size := by
  intro b hb
  rcases h.blk with ⟨rfl, h0⟩ | ⟨g, bs, rfl, hB, hbk, hl, ht⟩
  · simp [ownF] at hb
  · simp [ownF] at hb
    subst hb
    exact ⟨hB, hbk.lt⟩
theorem LstL.ext {F : List Nat} (h : LstL L w B e A n c xs) (x : Ext F w w') (hF : ∀ b ∈ ownF A, b ∉ F) : LstL L w' B e A n c xs := by
  refine ⟨h.len, h.cap, h.max, ?_⟩
  rcases h.blk with h1 | ⟨g, bs, rfl, hB, hbk, hl, ht⟩
  · exact .inl h1
  · exact .inr ⟨g, bs, rfl, hB, hbk.ext x (hF g (by simp [ownF])), hl, ht⟩
theorem LstL.ext0 (h : LstL L w B e A n c xs) (x : Ext [] w w') : LstL L w' B e A n c xs := h.ext x (by simp)
theorem LstL.drew1 (h : LstL L w B e A n c xs) : LstL L w.drew B e A n c xs := h.ext0 (Ext.refl [] w).drew
theorem LstL.drew2 (h : LstL L w B e A n c xs) : LstL L w.drew.drew B e A n c xs := h.drew1.drew1
theorem LstL.drew3 (h : LstL L w B e A n c xs) : LstL L w.drew.drew.drew B e A n c xs := h.drew2.drew1
theorem LstL.drew4 (h : LstL L w B e A n c xs) : LstL L w.drew.drew.drew.drew B e A n c xs := h.drew3.drew1
theorem LstL.weaken {B' : Nat} (h : LstL L w B e A n c xs) (hB : B' ≤ B) : LstL L w B' e A n c xs := by
  refine ⟨h.len, h.cap, h.max, ?_⟩
  rcases h.blk with h1 | ⟨g, bs, rfl, hg, rest⟩
  · exact .inl h1
  · exact .inr ⟨g, bs, rfl, by omega, rest⟩
theorem LstL.none (h : LstL L w B e A n c xs) (hA : A = Option.none) : n = 0 ∧ c = 0 := by
  have h1 := h.cap
  rcases h.blk with ⟨_, h0⟩ | ⟨g, bs, h2, _⟩
  · omega
  · rw [hA] at h2; cases h2
theorem addr0 (A : Option Addr) (c : Nat) (sz : Nat) : V.cut A c 0 sz = A := by
  unfold V.cut
  split
  · rfl
  · cases A with
    | none => rfl
    | some a =>
      simp only [Option.map_some, Nat.zero_mul, Option.some.injEq]
      obtain ⟨b, o, v⟩ := a
      unfold Addr.add
      cases v <;> simp
/-- slices.Clip. -/
theorem LstL.clip (h : LstL L w B e A n c xs) (hsz : 0 < L.sz) : LstL L w B e A n n xs := by
  have h1 := h.cap
  refine ⟨h.len, Nat.le_refl _, by have := h.max; omega, ?_⟩
  rcases h.blk with ⟨h2, h0⟩ | ⟨g, bs, rfl, hB, hbk, hl, ht⟩
  · exact .inl ⟨h2, by omega⟩
  · exact .inr ⟨g, bs, rfl, hB, hbk, Nat.le_trans (Nat.mul_le_mul_right _ h1) hl, ht⟩
/-- append(l, x). -/
theorem LstL.more {P : Program} {t ty : TypeId} {z : Value} {bytes : Nat} (ht : P.underlying t = some (.slice e)) (hi : (P.info? e).map (fun i => (i.zero, i.size, i.bytes)) = some (some z, L.sz, bytes)) (hz : z.cells.size = L.sz) (hb0 : 0 < bytes) {x : α} {q : Nat} {T : TypeId}
    (own : LstL L w B e A n c xs) (h1 : BlkT w q (L.enc x) T) (hB : B ≤ w.heap.size) (hn : (n + 1) * bytes ≤ 140737488355328) :
    ∃ A' c' w2, (Builtin.append_ #[t, t] ty #[.slice A n c, .slice (some ⟨q, 0, Option.none⟩) 1 1]).run P w = .ok (.slice A' (n + 1) c') w2 ∧ LstL L w2 B e A' (n + 1) c' (xs ++ [x]) ∧ Ext (ownF A) w w2 ∧ (ownF A' = ownF A ∨ ownF A' = [w.heap.size]) := by
  obtain ⟨i, hi1, hz0, hz1, hz2⟩ := info_parts hi
  have hlen := own.len
  have hcap := own.cap
  have hfl : L.flat (xs ++ [x]) = L.flat xs ++ L.enc x := by rw [L.flat_app]; exact congrArg _ (List.append_nil _)
  have hxl : (L.flat xs).length = n * L.sz := by rw [L.flat_len, hlen]
  have hyl : (L.enc x).length = L.sz := L.len x
  have hnb : n + 1 ≤ 140737488355328 := Nat.le_trans (Nat.le_mul_of_pos_right _ hb0) hn
  rcases own.blk with ⟨rfl, h0⟩ | ⟨g, bs, rfl, hBg, hbk, hbl, htk⟩
  · have hn0 : n = 0 := by omega
    subst hn0; subst h0
    have hxs : xs = [] := List.length_eq_zero_iff.1 hlen
    subst hxs
    have hnews : ∀ j v, (L.enc x)[j]? = some v → w.cell? ((⟨q, 0, Option.none⟩ : Addr).add j) = some v := fun j v hj => by
      obtain ⟨ad, e1, e2⟩ := Cells.of_blk h1.blk j v hj
      cases e1; exact e2
    have hr := run_append_nil (P := P) (w := w) t ty e i z ht hi1 hz0 ⟨q, 0, Option.none⟩ 1 1 (L.enc x) (by rw [hyl, hz1, Nat.one_mul]) hnews (by omega) (by omega) (by rw [hz2]; omega)
    have hge := grownCap_ge w 1 0 e
    refine ⟨_, _, _, hr, ⟨by simp, hge, grownCap_le_maxLen w 1 0 e (by simp only [maxLen]; omega), .inr ⟨_, ((L.enc x).toArray ++ Builtin.zeroCells z.cells (grownCap w 1 0 e - 1)).toList, rfl, hB, BlkT.new w.drew _ _, ?_, ?_⟩⟩, ((Ext.refl _ w).drew).alloc _, .inr rfl⟩
    · simp only [Array.length_toList, Array.size_append, List.size_toArray, size_zeroCells, hz, hyl]
      obtain ⟨k, hk⟩ : ∃ k, grownCap w 1 0 e = k + 1 := ⟨grownCap w 1 0 e - 1, by omega⟩
      rw [hk, Nat.succ_mul, Nat.add_sub_cancel]
      omega
    · rw [List.nil_append, Array.toList_append, Nat.zero_add, Nat.one_mul, ← hyl, List.take_left' (by simp)]
      exact (List.append_nil _).symm
  · rcases Nat.lt_or_ge n c with hlt | hge
    · have hfit : (n + 1) * L.sz ≤ bs.length := Nat.le_trans (Nat.mul_le_mul_right _ hlt) hbl
      rw [Nat.succ_mul] at hfit
      obtain ⟨w2, hr, hb2, ex⟩ := appRoom (P := P) (t := t) (ty := ty) (e := e) (sz := L.sz) (n := n) (c := c) (m := 1) (cy := 1) (Y := some ⟨q, 0, Option.none⟩) ht (by rw [hi1]; exact congrArg some hz1) hbk (by rw [hyl, Nat.one_mul]) (Cells.of_blk h1.blk) (L.one x) L.pos hlt (by rw [hyl]; exact hfit)
      refine ⟨some ⟨g, 0, Option.none⟩, c, w2, hr, ⟨by simp [hlen], hlt, own.max, .inr ⟨g, _, rfl, hBg, hb2, ?_, ?_⟩⟩, ex, .inl rfl⟩
      · simp only [List.length_append, List.length_take, List.length_drop, hyl]
        omega
      · rw [hfl, ← htk, List.append_assoc, Nat.succ_mul, List.take_append, List.take_append]
        have h2 : (bs.take (n * L.sz)).length = n * L.sz := by rw [List.length_take]; omega
        rw [h2, List.take_take, hyl, Nat.min_eq_right (by omega), List.take_of_length_le (l := L.enc x) (by omega)]
        have : n * L.sz + L.sz - n * L.sz - L.sz = 0 := by omega
        rw [this]
        simp
    · have hcn : c = n := by omega
      subst hcn
      have holds : ∀ j v, (L.flat xs)[j]? = some v → w.cell? ((⟨g, 0, Option.none⟩ : Addr).add j) = some v := fun j v hj => by
        obtain ⟨ad, e1, e2⟩ := own.cells j v hj
        cases e1; exact e2
      have hnews : ∀ j v, (L.enc x)[j]? = some v → w.cell? ((⟨q, 0, Option.none⟩ : Addr).add j) = some v := fun j v hj => by
        obtain ⟨ad, e1, e2⟩ := Cells.of_blk h1.blk j v hj
        cases e1; exact e2
      have hfit := growslice_fits (need := c + 1) (old := c) (bytes := i.bytes) (by omega) (by rw [hz2]; exact hn)
      have hr := run_append_grow (P := P) (w := w) t ty e i z ht hi1 hz0 ⟨g, 0, Option.none⟩ c c (L.flat xs) (by rw [hxl, hz1]) holds ⟨q, 0, Option.none⟩ 1 1 (L.enc x) (by rw [hyl, hz1, Nat.one_mul]) hnews (by omega) (by omega) hfit
      have hge2 := grownCap_ge w (c + 1) c e
      refine ⟨_, _, _, hr, ⟨by simp [hlen], hge2, grownCap_le_maxLen w (c + 1) c e (by simp only [maxLen]; omega), .inr ⟨_, ((L.flat xs).toArray ++ (L.enc x).toArray ++ Builtin.zeroCells z.cells (grownCap w (c + 1) c e - (c + 1))).toList, rfl, hB, BlkT.new w.drew _ _, ?_, ?_⟩⟩, ((Ext.refl _ w).drew).alloc _, .inr rfl⟩
      · simp only [Array.length_toList, Array.size_append, List.size_toArray, size_zeroCells, hz, hyl, hxl]
        rw [← Nat.succ_mul, ← Nat.add_mul]
        exact Nat.mul_le_mul_right _ (by omega)
      · rw [hfl, Array.toList_append, Array.toList_append, Nat.succ_mul, ← hxl]
        rw [List.take_left' (by simp [hyl])]
end

/-! ### a row sorted in place -/
section
variable {α : Type} [Inhabited α] (L : Lay α)
theorem flatK_eq (d : Array α) : (flatK L.enc L.sz d).toList = L.flat d.toList := by
  have hp := L.pos
  refine List.ext_getElem? fun t => ?_
  by_cases ht : t < d.size * L.sz
  · have hi : t / L.sz < d.size := Nat.div_lt_of_lt_mul (by rwa [Nat.mul_comm] at ht)
    have hk : t % L.sz < L.sz := Nat.mod_lt _ hp
    have e1 : (flatK L.enc L.sz d).toList[t]? = some ((flatK L.enc L.sz d)[t]!) := by
      rw [Array.getElem?_toList, getElem!_pos (flatK L.enc L.sz d) t (by simpa using ht), Array.getElem?_eq_getElem (by simpa using ht)]
    rw [e1, get_flatK _ _ _ _ ht]
    have hx : d.toList[t / L.sz]? = some d[t / L.sz]! := by
      rw [Array.getElem?_toList, getElem!_pos d (t / L.sz) hi, Array.getElem?_eq_getElem hi]
    have hv : (L.enc d[t / L.sz]!)[t % L.sz]? = some ((L.enc d[t / L.sz]!)[t % L.sz]!) := by
      have : t % L.sz < (L.enc d[t / L.sz]!).length := by rw [L.len]; exact hk
      rw [getElem!_pos (L.enc d[t / L.sz]!) (t % L.sz) this, List.getElem?_eq_getElem this]
    have := L.flat_at hx hv
    have e2 : t / L.sz * L.sz + t % L.sz = t := by rw [Nat.mul_comm]; exact Nat.div_add_mod t L.sz
    rw [e2] at this
    exact this.symm
  · rw [List.getElem?_eq_none (by simpa using Nat.le_of_not_lt ht), List.getElem?_eq_none (by rw [L.flat_len, Array.length_toList]; omega)]
theorem putCells_list (F c : Array Value) (h : F.size ≤ c.size) : (putCells id 0 F c).toList = F.toList ++ c.toList.drop F.size := by
  refine List.ext_getElem? fun t => ?_
  rw [Array.getElem?_toList, List.getElem?_append]
  unfold putCells
  rw [Array.getElem?_mapIdx]
  by_cases ht : t < F.size
  · have htc : t < c.size := by omega
    rw [if_pos (by simpa using ht), Array.getElem?_eq_getElem htc, Option.map_some, if_pos ⟨Nat.zero_le _, by omega⟩, Array.getElem?_toList, Array.getElem?_eq_getElem ht, Nat.sub_zero, getElem!_pos F t ht]; rfl
  · rw [if_neg (by simpa using ht), List.getElem?_drop, Array.length_toList]
    have e1 : F.size + (t - F.size) = t := by omega
    rw [e1, Array.getElem?_toList]
    cases hq : c[t]? with
    | none => rfl
    | some v => rw [Option.map_some, if_neg (by omega)]
theorem holds_blk {w : World} {g : Nat} {bs : List Value} {e : TypeId} (hb : BlkT w g bs e) {d : Array α} (ht : bs.take (d.size * L.sz) = L.flat d.toList) : HoldsK L.enc L.sz w g 0 d := by
  have hb' := hb
  unfold BlkT at hb'
  intro j hj
  have hj' : j < d.size * L.sz := by simpa using hj
  have e1 : (flatK L.enc L.sz d).toList[j]? = some ((flatK L.enc L.sz d)[j]!) := by
    rw [Array.getElem?_toList, getElem!_pos (flatK L.enc L.sz d) j (by simpa using hj'), Array.getElem?_eq_getElem (by simpa using hj')]
  rw [flatK_eq, ← ht, List.getElem?_take, if_pos hj'] at e1
  refine ⟨?_, ?_⟩
  · rw [Nat.zero_add]; exact hb.blk.cell e1
  · simp [World.frozen?, hb']
theorem put_blk {w : World} {g : Nat} {bs : List Value} {e : TypeId} (hb : BlkT w g bs e) {d : Array α} (hl : d.size * L.sz ≤ bs.length) (n : Nat) (os : Array Obj) :
    BlkT (grow (putRowK L.enc L.sz (Sort.ahead w n) g 0 d) os) g (L.flat d.toList ++ bs.drop (d.size * L.sz)) e ∧ Ext [g] w (grow (putRowK L.enc L.sz (Sort.ahead w n) g 0 d) os) := by
  have hlt := hb.lt
  have hsz : (putRowK L.enc L.sz (Sort.ahead w n) g 0 d).heap.size = w.heap.size := by rw [size_putRowK]; rfl
  refine ⟨?_, rfl, rfl, rfl, ?_, fun x hx hF => ?_⟩
  · unfold BlkT at hb ⊢
    show ((putRowK L.enc L.sz (Sort.ahead w n) g 0 d).heap ++ os)[g]? = _
    rw [Array.getElem?_append_left (by rw [hsz]; exact hlt)]
    show ((w.heap.modify g (onCells (putCells id 0 (flatK L.enc L.sz d)))))[g]? = _
    rw [Array.getElem?_modify, if_pos rfl, hb, Option.map_some]
    simp only [onCells]
    have := putCells_list (flatK L.enc L.sz d) ⟨bs⟩ (by simpa using hl)
    rw [flatK_eq] at this
    simp only [size_flatK] at this
    rw [← this]
  · show w.heap.size ≤ ((putRowK L.enc L.sz (Sort.ahead w n) g 0 d).heap ++ os).size
    rw [Array.size_append, hsz]; omega
  · show ((putRowK L.enc L.sz (Sort.ahead w n) g 0 d).heap ++ os)[x]? = _
    rw [Array.getElem?_append_left (by rw [hsz]; exact hx)]
    show ((w.heap.modify g (onCells (putCells id 0 (flatK L.enc L.sz d)))))[x]? = _
    rw [Array.getElem?_modify, if_neg (fun e => hF (by simp [e]))]
theorem grow_ext (w : World) (os : Array Obj) : Ext [] w (grow w os) := by
  refine ⟨rfl, rfl, rfl, ?_, fun x hx hF => ?_⟩
  · show w.heap.size ≤ (w.heap ++ os).size
    rw [Array.size_append]; omega
  · show (w.heap ++ os)[x]? = _
    rw [Array.getElem?_append_left hx]
end
end Go.B
