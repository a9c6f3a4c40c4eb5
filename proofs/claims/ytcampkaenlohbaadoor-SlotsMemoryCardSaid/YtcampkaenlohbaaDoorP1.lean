/- Rows of a layout: one element more, in place or in a new block with the old one left as it was; lists of texts held in a list. -/
import Derived.Test.YtcampkaenlohbaaDoorF1
import Derived.Test.YtcampkaenlohbaaDoorK20
import Derived.ArgAppend
set_option linter.unusedVariables false
set_option linter.unusedSimpArgs false
namespace Go.Proofs.YtcampkaenlohbaaDoor
open Go Go.V Go.B

theorem OwnL_step {α : Type} {L : Lay α} {P : Program} {t ty e : TypeId} {z : Value} {bytes : Nat} (ht : P.underlying t = some (.slice e)) (hi : (P.info? e).map (fun i => (i.zero, i.size, i.bytes)) = some (some z, L.sz, bytes)) (hz : z.cells.size = L.sz) (hb0 : 0 < bytes)
    {w : World} {B n c : Nat} {A : Option Addr} {xs : List α} (own : OwnL L w B e A n c xs) {x : α} {q : Nat} {T : TypeId} (h1 : BlkT w q (L.enc x) T) (hB : B ≤ w.heap.size) (hn : (n + 1) * bytes ≤ 140737488355328) :
    ∃ A' c' w2, (Builtin.append_ #[t, t] ty #[.slice A n c, .slice (some ⟨q, 0, none⟩) 1 1]).run P w = .ok (.slice A' (n + 1) c') w2 ∧ OwnL L w2 B e A' (n + 1) c' (xs ++ [x]) ∧
      ((A' = A ∧ c' = c ∧ Ext (ownF A) w w2 ∧ OwnL L w2 B e A n c xs) ∨ ((∀ b ∈ ownF A', w.heap.size ≤ b) ∧ Ext [] w w2)) := by
  have hlen := own.len
  have hflat : (L.flat xs).length = n * L.sz := by rw [L.flat_len, hlen]
  have own' := own
  rcases own'.2 with ⟨hv, h0⟩ | ⟨g, cap, cur, hv, hb, hh, hcap, hm, hsz, htk⟩
  · injection hv with hA hn' hc
    subst hA hc
    subst h0
    obtain rfl : xs = [] := List.eq_nil_of_length_eq_zero hlen
    obtain ⟨A2, c2, w2, hr, ho, he, hat⟩ := (OwnL.nil (L := L) w w.heap.size e).more ht hi hz hb0 h1 (Nat.le_refl _) hn
    exact ⟨A2, c2, w2, hr, ho.weaken hB, .inr ⟨fun b hb => (ho.base b hb).1, he⟩⟩
  · injection hv with hA hn' hc
    subst hA hc
    have hblk : BlkT w g cur.toList e := hh
    have hcl : cur.toList.length = c * L.sz := by simpa using hsz
    by_cases hfit : n + 1 ≤ c
    · have hlt : (n + 1) * L.sz ≤ c * L.sz := Nat.mul_le_mul_right _ hfit
      have hs1 : (n + 1) * L.sz = n * L.sz + L.sz := by rw [Nat.succ_mul]
      obtain ⟨w2, hr, b2, x2⟩ := appRoom (P := P) (t := t) (ty := ty) (e := e) (sz := L.sz) (n := n) (c := c) (m := 1) (cy := 1) (Y := some ⟨q, 0, none⟩) (ys := L.enc x) ht (by
        cases hq : P.info? e with
        | none => rw [hq] at hi; simp at hi
        | some inf => rw [hq] at hi; simp at hi ⊢; exact hi.2.1) hblk (by rw [L.len, Nat.one_mul]) (Cells.of_blk h1.blk) (L.one x) L.pos hfit (by rw [L.len]; omega)
      have ow : OwnL L w2 B e (some ⟨g, 0, none⟩) (n + 1) c (xs ++ [x]) := by
        refine own_of b2 hb hfit hm (by simp [L.len]; omega) ?_
        rw [L.flat_app]
        have e1 : (cur.toList.take (n * L.sz)) = L.flat xs := htk
        rw [e1, List.append_assoc, List.take_append, hflat, List.take_of_length_le (by rw [hflat]; omega), List.take_append, L.len]
        have e2 : (n + 1) * L.sz - n * L.sz = L.sz := by omega
        rw [e2, List.take_of_length_le (by rw [L.len]; exact Nat.le_refl _), Nat.sub_self, List.take_zero, List.append_nil, L.flat_cons, L.flat_nil, List.append_nil]
      have hpre := ow.take (n := n) (by omega) (by omega)
      rw [List.take_append, List.take_of_length_le (by omega), show n - xs.length = 0 by omega, List.take_zero, List.append_nil] at hpre
      exact ⟨_, c, w2, hr, ow, .inl ⟨rfl, rfl, x2, hpre⟩⟩
    · obtain ⟨i, hi1, hz0, hz1, hz2⟩ := info_parts hi
      have hnm : n + 1 ≤ 140737488355328 := Nat.le_trans (Nat.le_mul_of_pos_right _ hb0) hn
      obtain ⟨v', w2, hr2, ho2, hg2⟩ := run_append_arg_grows (P := P) (w := w) t ty e i z L.sz bytes ht hi1 hz0 hz1 hz2 hz L.pos ⟨g, 0, none⟩ n c (L.flat xs) hflat
        (fun j u hj => by
          obtain ⟨ad, ha, hc⟩ := own.cells j u hj
          cases ha; exact hc)
        ⟨q, 0, none⟩ 1 1 (L.enc x) (by rw [L.len, Nat.one_mul]) (fun j u hj => by
          obtain ⟨ad, ha, hc⟩ := (Cells.of_blk h1.blk) j u hj
          cases ha; exact hc) (by omega) (by simp only [maxLen]; omega) hn
      obtain ⟨A2, c2, rfl⟩ : ∃ A2 c2, v' = .slice A2 (n + 1) c2 := by
        rcases ho2.2 with ⟨rfl, h0⟩ | ⟨g, cap, cur, rfl, _⟩
        · omega
        · exact ⟨_, _, rfl⟩
      have ow : OwnL L w2 w.heap.size e A2 (n + 1) c2 (xs ++ [x]) := by
        unfold OwnL
        rw [L.flat_app, show L.flat [x] = L.enc x from by rw [L.flat_cons, L.flat_nil, List.append_nil]]
        exact ho2
      exact ⟨A2, c2, w2, hr2, ow.weaken hB, .inr ⟨fun b hb => (ow.base b hb).1, Ext.of_grown (A := none) (n := 0) (c := 0) hg2⟩⟩
abbrev Ent := Option Addr × Nat × Nat
def EL : Lay Ent := ⟨fun e => [.slice e.1 e.2.1 e.2.2], 1, fun _ => rfl, fun x v hv => by simp at hv; subst hv; rfl, by omega⟩
theorem u79 : Tryd.prog.underlying 79 = some (.slice 68) := by kernel_rfl
theorem i68 : (Tryd.prog.info? 68).map (fun i => (i.zero, i.size, i.bytes)) = some (some (.slice none 0 0), 1, 24) := by kernel_rfl
/-- Lists of texts es, held in a list; the list want beside them. N: all their blocks are new. -/
structure LS (N : Nat) (w : World) (Al : Option Addr) (nl cl : Nat) (es : List Ent) (Aw : Option Addr) (nw cw : Nat) (ws : List ByteArray) (Q : Nat → List ByteArray → Prop) : Prop where
  rows : OwnL EL w N 68 Al nl cl es
  fam : ∀ (k : Nat) (e : Ent), es[k]? = some e → ∃ ys, OwnL SL w N 9 e.1 e.2.1 e.2.2 ys ∧ Q k ys
  want : OwnL SL w N 9 Aw nw cw ws
  d1 : ∀ (k k' : Nat) (e e' : Ent), k ≠ k' → es[k]? = some e → es[k']? = some e' → ∀ b ∈ ownF e.1, b ∉ ownF e'.1
  d2 : ∀ (k : Nat) (e : Ent), es[k]? = some e → ∀ b ∈ ownF e.1, b ∉ ownF Al ∧ b ∉ ownF Aw
  d3 : ∀ b ∈ ownF Al, b ∉ ownF Aw
section
variable {N nl cl nw cw : Nat} {w w' : World} {Al Aw : Option Addr} {es : List Ent} {ws : List ByteArray} {Q Q' : Nat → List ByteArray → Prop}
theorem LS.ext0 (h : LS N w Al nl cl es Aw nw cw ws Q) (e : Ext [] w w') : LS N w' Al nl cl es Aw nw cw ws Q :=
  ⟨h.rows.ext0 e, fun k x hk => by obtain ⟨ys, a, b⟩ := h.fam k x hk; exact ⟨ys, a.ext0 e, b⟩, h.want.ext0 e, h.d1, h.d2, h.d3⟩
theorem LS.weak (h : LS N w Al nl cl es Aw nw cw ws Q) (hq : ∀ k ys, Q k ys → Q' k ys) : LS N w Al nl cl es Aw nw cw ws Q' :=
  ⟨h.rows, fun k x hk => by obtain ⟨ys, a, b⟩ := h.fam k x hk; exact ⟨ys, a, hq k ys b⟩, h.want, h.d1, h.d2, h.d3⟩
/-- The list a alone is turned; what else is turned is new since M. -/
theorem LS.touch (h : LS N w Al nl cl es Aw nw cw ws Q) {a : Nat} {ea : Ent} (ha : es[a]? = some ea) {F : List Nat} (e : Ext F w w') (hF : ∀ b ∈ F, b ∈ ownF ea.1 ∨ w.heap.size ≤ b) {ys : List ByteArray} (ho : OwnL SL w' N 9 ea.1 ea.2.1 ea.2.2 ys) (hy : Q' a ys) (hq : ∀ k ys, k ≠ a → Q k ys → Q' k ys) : LS N w' Al nl cl es Aw nw cw ws Q' := by
  have hr := h.rows.base
  have hw := h.want.base
  refine ⟨h.rows.ext e fun b hb hm => ?_, fun k x hk => ?_, h.want.ext e fun b hb hm => ?_, h.d1, h.d2, h.d3⟩
  · rcases hF b hm with h1 | h1
    · exact (h.d2 a ea ha b h1).1 hb
    · have := hr b hb; omega
  · by_cases hka : k = a
    · subst hka
      rw [ha] at hk; cases hk
      exact ⟨ys, ho, hy⟩
    · obtain ⟨zs, o, q⟩ := h.fam k x hk
      have ob := o.base
      refine ⟨zs, o.ext e fun b hb hm => ?_, hq k zs hka q⟩
      rcases hF b hm with h1 | h1
      · exact h.d1 k a x ea hka hk ha b hb h1
      · have := ob b hb; omega
  · rcases hF b hm with h1 | h1
    · exact (h.d2 a ea ha b h1).2 hb
    · have := hw b hb; omega
/-- One list more. -/
theorem LS.more (h : LS N w Al nl cl es Aw nw cw ws Q) {w1 : World} {A : Option Addr} {n c : Nat} {ys : List ByteArray} (e1 : Ext [] w w1) (ho : OwnL SL w1 w.heap.size 9 A n c ys) (hy : Q es.length ys) (hN : N ≤ w.heap.size) (hsmall : nl < 65536) {w2 : World} (h2 : w2 = w1.alloc (.cells #[.slice A n c] 68)) :
    ∃ A' c' w3, Sem.run Tryd.prog (Builtin.append_ #[79, 79] 79 #[.slice Al nl cl, .slice (some ⟨w1.heap.size, 0, none⟩) 1 1]) w2 = .ok (.slice A' (nl + 1) c') w3 ∧ Ext (ownF Al) w w3 ∧ LS N w3 A' (nl + 1) c' (es ++ [(A, n, c)]) Aw nw cw ws Q := by
  have hr := h.rows.base
  have hlen := h.rows.len
  obtain ⟨b2, x2, z2⟩ := box_new (cs := EL.enc (A, n, c)) h2
  have s1 := e1.size
  have e2 := e1.trans x2
  have hob := ho.base
  obtain ⟨A', c', w3, hr3, own3, x3, hat⟩ := (h.rows.ext0 e2).more (P := Tryd.prog) (t := 79) (ty := 79) (x := (A, n, c)) u79 i68 rfl (by omega) b2 (by have := x2.size; omega) (by omega)
  have hA' : ∀ b ∈ ownF A', b ∈ ownF Al ∨ w2.heap.size ≤ b := fun b hb => by
    rcases hat with h1 | h1
    · rw [h1] at hb; exact .inl hb
    · rw [h1] at hb; simp at hb; exact .inr (by omega)
  have s2 := x2.size
  refine ⟨A', c', w3, hr3, e2.up.trans x3, own3, fun k x hk => ?_, (h.want.ext0 e2).ext x3 fun b hb hm => h.d3 b hm hb, fun k k' x x' hne hk hk' b hb hm => ?_, fun k x hk b hb => ?_, fun b hb hm => ?_⟩
  · rcases Nat.lt_or_ge k es.length with h1 | h1
    · rw [List.getElem?_append_left h1] at hk
      obtain ⟨zs, o, q⟩ := h.fam k x hk
      exact ⟨zs, (o.ext0 e2).ext x3 fun b hb hm => (h.d2 k x hk b hb).1 hm, q⟩
    · rw [List.getElem?_append_right h1] at hk
      have hk0 : k = es.length := by
        have := (List.getElem?_eq_some_iff.1 hk).1
        simp at this; omega
      subst hk0
      simp at hk; subst hk
      exact ⟨ys, ((ho.weaken hN).ext0 x2).ext x3 fun b hb hm => by have := hr b hm; have := hob b hb; omega, hy⟩
  · have new : ∀ (i : Nat) (y : Ent), (es ++ [(A, n, c)])[i]? = some y → (i < es.length ∧ es[i]? = some y) ∨ (i = es.length ∧ y = (A, n, c)) := fun i y hi => by
      rcases Nat.lt_or_ge i es.length with h1 | h1
      · rw [List.getElem?_append_left h1] at hi; exact .inl ⟨h1, hi⟩
      · rw [List.getElem?_append_right h1] at hi
        have := (List.getElem?_eq_some_iff.1 hi).1
        simp at this
        have hi0 : i = es.length := by omega
        subst hi0
        simp at hi
        exact .inr ⟨rfl, hi.symm⟩
    rcases new k x hk with ⟨a1, a2⟩ | ⟨a1, a2⟩ <;> rcases new k' x' hk' with ⟨b1, b2⟩ | ⟨b1, b2⟩
    · exact h.d1 k k' x x' hne a2 b2 b hb hm
    · obtain ⟨zs, o, _⟩ := h.fam k x a2
      have := (o.base b hb).2
      rw [b2] at hm
      have := (hob b hm).1
      omega
    · obtain ⟨zs, o, _⟩ := h.fam k' x' b2
      have := (o.base b hm).2
      rw [a2] at hb
      have := (hob b hb).1
      omega
    · omega
  · rcases Nat.lt_or_ge k es.length with h1 | h1
    · rw [List.getElem?_append_left h1] at hk
      obtain ⟨zs, o, _⟩ := h.fam k x hk
      have hlt := (o.base b hb).2
      exact ⟨fun hm => by
        rcases hA' b hm with h3 | h3
        · exact (h.d2 k x hk b hb).1 h3
        · omega, (h.d2 k x hk b hb).2⟩
    · rw [List.getElem?_append_right h1] at hk
      have hk0 := (List.getElem?_eq_some_iff.1 hk).1
      simp at hk0
      have hk1 : k - es.length = 0 := by omega
      rw [hk1] at hk
      simp at hk; subst hk
      have h4 := hob b hb
      exact ⟨fun hm => by
        rcases hA' b hm with h3 | h3
        · have := hr b h3; omega
        · omega, fun hm => by have := h.want.base b hm; omega⟩
  · rcases hA' b hb with h3 | h3
    · exact h.d3 b h3 hm
    · have := h.want.base b hm; omega
end
end Go.Proofs.YtcampkaenlohbaaDoor
