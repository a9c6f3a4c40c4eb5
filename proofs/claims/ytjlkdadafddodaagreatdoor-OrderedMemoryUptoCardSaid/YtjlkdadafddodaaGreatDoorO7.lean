/- Ordered: what is done to a column, in memory. -/
import Derived.Test.YtjlkdadafddodaaGreatDoorO6
set_option linter.unusedVariables false
set_option linter.unusedSimpArgs false
namespace Go.Proofs.YtjlkdadafddodaaGreatDoor
open Go Go.V Go.B

theorem ClAt.setS {w w' : World} {C : Cl} (h : ClAt w C) (hr : Rising C.rows) {i : Nat} {r : Rw} (hi : C.rows[i]? = some r) (e : Ext [r.b] w w') {S : SetV} (hs : SetAt w' r.p r.b S) : ClAt w' { C with rows := C.rows.set i { r with S := S } } := by
  have hm := List.mem_of_getElem? hi
  have nt : ∀ b ∈ topC C, b ∉ [r.b] := fun b hb hx => by
    have : b = r.b := by simpa using hx
    subst this
    exact (h.cr r hm).2 hb
  have ms := fun s => mem_set_iff (s := s) (x := { r with S := S }) hr hi
  refine ⟨?_, ?_, h.mp.ext e (nt _ (mem_top.2 (.inr (.inl rfl)))), fun s hs' => ?_, h.cm, h.cA, h.mA, fun s hs' => ?_, fun s hs' t ht' => ?_⟩
  · have := h.hdr.ext e (nt _ (mem_top.2 (.inl rfl)))
    show BlkT w' C.c [.slice C.A (C.rows.set i { r with S := S }).length C.cp, .map (some C.m)] _
    rw [List.length_set]; exact this
  · have := h.arr.ext e (fun b hb => nt b (mem_top.2 (.inr (.inr hb))))
    show OwnL RL w' 0 _ C.A (C.rows.set i { r with S := S }).length C.cp (C.rows.set i { r with S := S })
    unfold OwnL at this ⊢
    rw [List.length_set, flat_set_same (x := { r with S := S }) hi rfl rfl]; exact this
  · rcases (ms s).1 hs' with rfl | ⟨h1, h2⟩
    · exact hs
    · have := h.rr s h1 r hm h2
      exact (h.set s h1).ext e (by simp; exact this.2.1) (by simp; exact this.2.2.2)
  · rcases (ms s).1 hs' with rfl | ⟨h1, h2⟩
    · exact h.cr r hm
    · exact h.cr s h1
  · intro hne
    rcases (ms s).1 hs' with rfl | ⟨h1, h2⟩
    · rcases (ms t).1 ht' with rfl | ⟨h3, h4⟩
      · exact absurd rfl hne
      · exact h.rr r hm t h3 hne
    · rcases (ms t).1 ht' with rfl | ⟨h3, h4⟩
      · exact h.rr s h1 r hm hne
      · exact h.rr s h1 t h3 hne
theorem setS_fp {C : Cl} (hr : Rising C.rows) {i : Nat} {r : Rw} (hi : C.rows[i]? = some r) (S : SetV) {b : Nat} (hb : b ∈ fpC { C with rows := C.rows.set i { r with S := S } }) : b ∈ fpC C := by
  rcases mem_fpC.1 hb with hb | ⟨s, hs, hb⟩
  · exact mem_fpC.2 (.inl hb)
  · rcases (mem_set_iff hr hi).1 hs with rfl | ⟨h1, _⟩
    · exact mem_fpC.2 (.inr ⟨r, List.mem_of_getElem? hi, hb⟩)
    · exact mem_fpC.2 (.inr ⟨s, h1, hb⟩)
theorem ClAt.setOf {w w' : World} {C : Cl} (h : ClAt w C) (e : Ext [C.m] w w') {of : List (Int × Int)} (hm : MapAt w' C.m (Value.int .i64) (Value.int .i64) of) : ClAt w' { C with of := of } :=
  ⟨h.hdr.ext e (by simp; exact h.cm), h.arr.ext e (fun b hb => by simp; intro e; subst e; exact h.mA hb), hm, fun r hr => (h.set r hr).ext e (by simp; intro e; exact (h.cr r hr).1 (mem_top.2 (.inr (.inl e)))) (by simp; intro e; exact (h.cr r hr).2 (mem_top.2 (.inr (.inl e)))), h.cm, h.cA, h.mA, h.cr, h.rr⟩
theorem ClAt.ins {w w' : World} {C : Cl} (h : ClAt w C) {i : Nat} {x : Rw} {A' : Option Addr} {c' : Nat} (hi : i ≤ C.rows.length) (own : OwnL RL w' 0 90 A' (C.rows.length + 1) c' (insAt C.rows i x)) (hdr : BlkT w' C.c [.slice A' (C.rows.length + 1) c', .map (some C.m)] 87)
    (e : Ext (C.c :: ownF C.A) w w') (hA : ownF A' = ownF C.A ∨ ∃ g, ownF A' = [g] ∧ w.heap.size ≤ g ∧ g ≠ x.p ∧ g ≠ x.b) (hp : w.heap.size ≤ x.p) (hb : w.heap.size ≤ x.b) (hs : SetAt w' x.p x.b x.S) : ClAt w' { C with rows := insAt C.rows i x, A := A', cp := c' } := by
  have lt := h.lt
  have lc := lt C.c (mem_fpC.2 (.inl (mem_top.2 (.inl rfl))))
  have lm := lt C.m (mem_fpC.2 (.inl (mem_top.2 (.inr (.inl rfl)))))
  have lA : ∀ b ∈ ownF C.A, b < w.heap.size := fun b hb => lt b (mem_fpC.2 (.inl (mem_top.2 (.inr (.inr hb)))))
  have lr : ∀ r ∈ C.rows, r.p < w.heap.size ∧ r.b < w.heap.size := fun r hr => ⟨lt _ (mem_fpC.2 (.inr ⟨r, hr, .inl rfl⟩)), lt _ (mem_fpC.2 (.inr ⟨r, hr, .inr rfl⟩))⟩
  have oA : ∀ b ∈ ownF A', b ∈ ownF C.A ∨ (w.heap.size ≤ b ∧ b ≠ x.p ∧ b ≠ x.b) := fun b hb => by
    rcases hA with hA | ⟨g, hA, h1, h2, h3⟩
    · rw [hA] at hb; exact .inl hb
    · rw [hA] at hb; simp at hb; subst hb; exact .inr ⟨h1, h2, h3⟩
  have tp : ∀ b, b ∈ topC { C with rows := insAt C.rows i x, A := A', cp := c' } → b ∈ topC C ∨ (w.heap.size ≤ b ∧ b ≠ x.p ∧ b ≠ x.b) := fun b hb => by
    rcases mem_top.1 hb with hb | hb | hb
    · exact .inl (mem_top.2 (.inl hb))
    · exact .inl (mem_top.2 (.inr (.inl hb)))
    · rcases oA b hb with hb | hb
      · exact .inl (mem_top.2 (.inr (.inr hb)))
      · exact .inr hb
  have ltop : ∀ b ∈ topC C, b < w.heap.size := fun b hb => lt b (mem_fpC.2 (.inl hb))
  have nF : ∀ r ∈ C.rows, r.p ∉ C.c :: ownF C.A ∧ r.b ∉ C.c :: ownF C.A := fun r hr => by
    have := h.cr r hr
    exact ⟨fun hm => this.1 (by rcases List.mem_cons.1 hm with hm | hm <;> simp [topC, hm]), fun hm => this.2 (by rcases List.mem_cons.1 hm with hm | hm <;> simp [topC, hm])⟩
  have hlen : (insAt C.rows i x).length = C.rows.length + 1 := ins_len hi
  refine ⟨?_, ?_, h.mp.ext e ?_, fun r hr => ?_, h.cm, fun hm => ?_, fun hm => ?_, fun r hr => ?_, fun r hr s hs' hne => ?_⟩
  · show BlkT w' C.c [.slice A' (insAt C.rows i x).length c', .map (some C.m)] _
    rw [hlen]; exact hdr
  · show OwnL RL w' 0 _ A' (insAt C.rows i x).length c' (insAt C.rows i x)
    rw [hlen]; exact own
  · intro hm
    rcases List.mem_cons.1 hm with hm | hm
    · exact h.cm hm.symm
    · exact h.mA hm
  · rcases mem_ins_iff.1 hr with rfl | hr
    · exact hs
    · exact (h.set r hr).ext e (nF r hr).1 (nF r hr).2
  · rcases oA _ hm with hm | hm
    · exact h.cA hm
    · exact absurd hm.1 (Nat.not_le.2 lc)
  · rcases oA _ hm with hm | hm
    · exact h.mA hm
    · exact absurd hm.1 (Nat.not_le.2 lm)
  · rcases mem_ins_iff.1 hr with rfl | hr
    · refine ⟨fun hm => ?_, fun hm => ?_⟩
      · rcases tp _ hm with hm | hm
        · have := ltop _ hm; omega
        · exact hm.2.1 rfl
      · rcases tp _ hm with hm | hm
        · have := ltop _ hm; omega
        · exact hm.2.2 rfl
    · have h1 := lr r hr
      refine ⟨fun hm => ?_, fun hm => ?_⟩
      · rcases tp _ hm with hm | hm
        · exact (h.cr r hr).1 hm
        · have := hm.1; omega
      · rcases tp _ hm with hm | hm
        · exact (h.cr r hr).2 hm
        · have := hm.1; omega
  · rcases mem_ins_iff.1 hr with hr1 | hr1
    · rcases mem_ins_iff.1 hs' with hs1 | hs1
      · rw [hr1, hs1] at hne; exact absurd rfl hne
      · rw [hr1]; have := lr s hs1; omega
    · rcases mem_ins_iff.1 hs' with hs1 | hs1
      · rw [hs1]; have := lr r hr1; omega
      · exact h.rr r hr1 s hs1 hne
theorem ins_fp {w : World} {C : Cl} {i : Nat} {x : Rw} {A' : Option Addr} {c' : Nat} (hA : ownF A' = ownF C.A ∨ ∃ g, ownF A' = [g] ∧ w.heap.size ≤ g ∧ g ≠ x.p ∧ g ≠ x.b) (hp : w.heap.size ≤ x.p) (hb : w.heap.size ≤ x.b) : Grow w (fpC C) (fpC { C with rows := insAt C.rows i x, A := A', cp := c' }) := by
  intro b hb0
  rcases mem_fpC.1 hb0 with hb1 | ⟨s, hs, hb1⟩
  · rcases mem_top.1 hb1 with hb2 | hb2 | hb2
    · exact .inl (mem_fpC.2 (.inl (mem_top.2 (.inl hb2))))
    · exact .inl (mem_fpC.2 (.inl (mem_top.2 (.inr (.inl hb2)))))
    · have hb3 : b ∈ ownF A' := hb2
      rcases hA with hA | ⟨g, hA, h1, _⟩
      · exact .inl (mem_fpC.2 (.inl (mem_top.2 (.inr (.inr (hA ▸ hb3))))))
      · rw [hA] at hb3
        have : b = g := by simpa using hb3
        exact .inr (this ▸ h1)
  · rcases mem_ins_iff.1 hs with hs1 | hs1
    · rw [hs1] at hb1
      right; rcases hb1 with hb1 | hb1 <;> rw [hb1] <;> assumption
    · exact .inl (mem_fpC.2 (.inr ⟨s, hs1, hb1⟩))
theorem ClAt.del {w w' : World} {C : Cl} (h : ClAt w C) (hr : Rising C.rows) {i : Nat} {r0 : Rw} (hi : C.rows[i]? = some r0) (own : OwnL RL w' 0 90 C.A (C.rows.length - 1) C.cp (C.rows.eraseIdx i)) (hdr : BlkT w' C.c [.slice C.A (C.rows.length - 1) C.cp, .map (some C.m)] 87)
    (e : Ext (C.c :: ownF C.A) w w') : ClAt w' { C with rows := C.rows.eraseIdx i } := by
  have hil := (List.getElem?_eq_some_iff.1 hi).1
  have nF : ∀ r ∈ C.rows, r.p ∉ C.c :: ownF C.A ∧ r.b ∉ C.c :: ownF C.A := fun r hr => by
    have := h.cr r hr
    exact ⟨fun hm => this.1 (by rcases List.mem_cons.1 hm with hm | hm <;> simp [topC, hm]), fun hm => this.2 (by rcases List.mem_cons.1 hm with hm | hm <;> simp [topC, hm])⟩
  have hlen : (C.rows.eraseIdx i).length = C.rows.length - 1 := List.length_eraseIdx_of_lt hil
  have me := fun s => mem_erase_iff (s := s) hr hi
  refine ⟨?_, ?_, h.mp.ext e ?_, fun r hr => (h.set r ((me r).1 hr).1).ext e (nF r ((me r).1 hr).1).1 (nF r ((me r).1 hr).1).2, h.cm, h.cA, h.mA, fun r hr => h.cr r ((me r).1 hr).1, fun r hr s hs => h.rr r ((me r).1 hr).1 s ((me s).1 hs).1⟩
  · show BlkT w' C.c [.slice C.A (C.rows.eraseIdx i).length C.cp, .map (some C.m)] _
    rw [hlen]; exact hdr
  · show OwnL RL w' 0 _ C.A (C.rows.eraseIdx i).length C.cp (C.rows.eraseIdx i)
    rw [hlen]; exact own
  · intro hm
    rcases List.mem_cons.1 hm with hm | hm
    · exact h.cm hm.symm
    · exact h.mA hm
theorem del_fp {C : Cl} (hr : Rising C.rows) {i : Nat} {r : Rw} (hi : C.rows[i]? = some r) {b : Nat} (hb : b ∈ fpC { C with rows := C.rows.eraseIdx i }) : b ∈ fpC C := by
  rcases mem_fpC.1 hb with hb | ⟨s, hs, hb⟩
  · exact mem_fpC.2 (.inl hb)
  · exact mem_fpC.2 (.inr ⟨s, ((mem_erase_iff hr hi).1 hs).1, hb⟩)
end Go.Proofs.YtjlkdadafddodaaGreatDoor
