/- Slots: the four tables beside the document's, and how they go on. -/
import Derived.Test.YtcampkaenlohbaaK15
set_option linter.unusedVariables false
set_option linter.unusedSimpArgs false
namespace Go.Proofs.Ytcampkaenlohbaa
open Go Go.V Go.B

/-- A table, the blocks that are its own, and the document's. -/
structure Reg where
  p : Option Nat
  f : List Nat
  s : TS
  A : Option Addr
  n : Nat
  c : Nat
  ds : List DR
def Reg.none : Reg := ⟨.none, [], TS.nil, .none, 0, 0, []⟩
def wcells (rs : List Reg) : List Value := (rs.map fun r => pv r.p) ++ rs.flatMap fun r => dt (r.s.most : Int) r.A r.n r.c
theorem wc_p {rs : List Reg} (h : rs.length = 4) {i : Nat} {r : Reg} (hr : rs[i]? = some r) : (wcells rs)[i]? = some (pv r.p) := by
  match rs, h with
  | [a, b, c, d], _ =>
    match i, hr with
    | 0, hr => cases hr; rfl
    | 1, hr => cases hr; rfl
    | 2, hr => cases hr; rfl
    | 3, hr => cases hr; rfl
    | n + 4, hr => simp at hr
theorem wc_d {rs : List Reg} (h : rs.length = 4) {i : Nat} {r : Reg} (hr : rs[i]? = some r) : ∀ j v, (dt (r.s.most : Int) r.A r.n r.c)[j]? = some v → (wcells rs)[4 + i * 2 + j]? = some v := by
  intro j v hv
  match rs, h with
  | [a, b, c, d], _ =>
    match i, hr with
    | 0, hr =>
      cases hr
      match j, hv with
      | 0, hv => exact hv
      | 1, hv => exact hv
    | 1, hr =>
      cases hr
      match j, hv with
      | 0, hv => exact hv
      | 1, hv => exact hv
    | 2, hr =>
      cases hr
      match j, hv with
      | 0, hv => exact hv
      | 1, hv => exact hv
    | 3, hr =>
      cases hr
      match j, hv with
      | 0, hv => exact hv
      | 1, hv => exact hv
    | n + 4, hr => simp at hr
theorem wc_set {rs : List Reg} (h : rs.length = 4) {i : Nat} (hi : i < 4) (r : Reg) : ((wcells rs).set i (pv r.p)).take (4 + i * 2) ++ dt (r.s.most : Int) r.A r.n r.c ++ ((wcells rs).set i (pv r.p)).drop (4 + i * 2 + 2) = wcells (rs.set i r) := by
  match rs, h with
  | [a, b, c, d], _ =>
    match i, hi with
    | 0, _ => rfl
    | 1, _ => rfl
    | 2, _ => rfl
    | 3, _ => rfl
theorem wc_len {rs : List Reg} (h : rs.length = 4) : (wcells rs).length = 12 := by
  match rs, h with
  | [a, b, c, d], _ => rfl
def newtag (tag : Nat → Nat) (N k : Nat) : Nat → Nat := fun b => if b < N then tag b else k
theorem newtag_old {tag : Nat → Nat} {N k b : Nat} (h : b < N) : newtag tag N k b = tag b := by simp [newtag, h]
theorem newtag_new {tag : Nat → Nat} {N k b : Nat} (h : N ≤ b) : newtag tag N k b = k := by simp [newtag]; omega
structure RegAt (w : World) (tag : Nat → Nat) (i : Nat) (r : Reg) : Prop where
  t : Tb w r.p r.f r.s
  tt : ∀ b ∈ r.f, tag b = i
  d : Dc w r.A r.n r.s r.ds
  dd : r.n ≠ 0 → ∀ b ∈ ownF r.A, tag b = 6
theorem Dc.blk_lt {w : World} {A : Option Addr} {n : Nat} {s : TS} {ds : List DR} (h : Dc w A n s ds) (hn : n ≠ 0) : ∀ b ∈ ownF A, b < w.heap.size := by
  intro b hb
  obtain ⟨x, ad, _, hA, rd⟩ := h.cells.row h.len (a := 0) (by omega)
  subst hA
  simp [ownF] at hb
  subst hb
  have := World.block_lt_of_cell? w _ (rd 0 _ rfl)
  rw [add_block, add_block] at this
  exact this
/-- Blocks that are of no table's and none of the document's may turn. -/
theorem Dc.extT {F : List Nat} {w w' : World} {A : Option Addr} {n : Nat} {s : TS} {ds : List DR} (h : Dc w A n s ds) (e : Ext F w w') (hF : n ≠ 0 → ∀ b ∈ ownF A, b ∉ F) : Dc w' A n s ds := by
  by_cases hn : n = 0
  · subst hn
    have : ds = [] := List.eq_nil_of_length_eq_zero h.len
    subst this
    exact ⟨Cells.nil _ _, rfl, h.dm⟩
  · exact h.ext e (hF hn)
/-- The tables' world: all but the table x stand; what is old is as it was. -/
structure St (w0 : World) (X Y : List Nat) (w : World) (wb : Nat) (tag : Nat → Nat) (rs : List Reg) (x : Nat) : Prop where
  e : Ext X w0 w
  len : rs.length = 4
  blk : BlkT w wb (wcells rs) 57
  hwb : tag wb = 5
  old : ∀ b, b < w0.heap.size → b ∉ X → tag b = 9 ∨ (tag b = 6 ∧ b ∈ Y)
  regs : ∀ i r, i ≠ x → rs[i]? = some r → RegAt w tag i r
theorem RegAt.ext {w w' : World} {tag : Nat → Nat} {i k : Nat} {r : Reg} {F : List Nat} (h : RegAt w tag i r) (e : Ext F w w') (hF : ∀ b ∈ F, w.heap.size ≤ b ∨ (tag b ≠ i ∧ tag b ≠ 6)) : RegAt w' (newtag tag w.heap.size k) i r := by
  have hlt := h.t.lt
  refine ⟨h.t.ext e fun b hb hm => ?_, fun b hb => ?_, h.d.extT e fun hn b hb hm => ?_, fun hn b hb => ?_⟩
  · have h1 := hlt b hb
    have h2 := h.tt b hb
    rcases hF b hm with h3 | h3
    · omega
    · exact h3.1 h2
  · rw [newtag_old (hlt b hb)]; exact h.tt b hb
  · have h1 := h.d.blk_lt hn b hb
    have h2 := h.dd hn b hb
    rcases hF b hm with h3 | h3
    · omega
    · exact h3.2 h2
  · rw [newtag_old (h.d.blk_lt hn b hb)]; exact h.dd hn b hb
theorem St.own {w0 w : World} {X Y : List Nat} {wb x : Nat} {tag : Nat → Nat} {rs : List Reg} (h : St w0 X Y w wb tag rs x) {b : Nat} (ht : tag b ≠ 9 ∧ tag b ≠ 6) : b ∈ X ∨ w0.heap.size ≤ b := by
  by_cases hx : b ∈ X
  · exact .inl hx
  · rcases Nat.lt_or_ge b w0.heap.size with h3 | h3
    · have := h.old b h3 hx; omega
    · exact .inr h3
theorem St.ext {w0 w w' : World} {X Y : List Nat} {wb x k : Nat} {tag : Nat → Nat} {rs : List Reg} {F : List Nat} (h : St w0 X Y w wb tag rs x) (e : Ext F w w') (hF : ∀ b ∈ F, w.heap.size ≤ b ∨ (tag b = x ∧ x < 4) ∨ tag b = 7) : St w0 X Y w' wb (newtag tag w.heap.size k) rs x := by
  have hw := h.blk.lt
  have h0 := h.e.size
  refine ⟨h.e.trans' e fun b hb => ?_, h.len, h.blk.ext e fun hm => ?_, by rw [newtag_old hw]; exact h.hwb, fun b hb => by rw [newtag_old (by omega)]; exact h.old b hb, fun i r hi hr => (h.regs i r hi hr).ext e fun b hb => ?_⟩
  · rcases hF b hb with h1 | h1
    · exact .inr (by omega)
    · exact h.own (by omega)
  · have := h.hwb
    rcases hF wb hm with h1 | ⟨h1, h2⟩ | h1 <;> omega
  · rcases hF b hb with h1 | ⟨h1, h2⟩ | h1
    · exact .inl h1
    · exact .inr ⟨by omega, by omega⟩
    · have : i < 4 := by have := (List.getElem?_eq_some_iff.1 hr).1; have := h.len; omega
      exact .inr ⟨by omega, by omega⟩
/-- Nothing old has turned. -/
theorem St.ext0 {w0 w w' : World} {X Y : List Nat} {wb x : Nat} (k : Nat) {tag : Nat → Nat} {rs : List Reg} (h : St w0 X Y w wb tag rs x) (e : Ext [] w w') : St w0 X Y w' wb (newtag tag w.heap.size k) rs x := h.ext e (by simp)
/-- All tables but x, out of all. -/
theorem St.but {w0 w : World} {X Y : List Nat} {wb : Nat} {tag : Nat → Nat} {rs : List Reg} (h : St w0 X Y w wb tag rs 4) (x : Nat) : St w0 X Y w wb tag rs x :=
  ⟨h.e, h.len, h.blk, h.hwb, h.old, fun i r _ hr => h.regs i r (by have := (List.getElem?_eq_some_iff.1 hr).1; have := h.len; omega) hr⟩
theorem St.at {w0 w : World} {X Y : List Nat} {wb x : Nat} {tag : Nat → Nat} {rs : List Reg} (h : St w0 X Y w wb tag rs x) {i : Nat} (hi : i < 4) : ∃ r, rs[i]? = some r := ⟨_, List.getElem?_eq_getElem (by have := h.len; omega)⟩
theorem St.read_p {w0 w : World} {X Y : List Nat} {wb x : Nat} {tag : Nat → Nat} {rs : List Reg} (h : St w0 X Y w wb tag rs x) {i : Nat} {r : Reg} (hr : rs[i]? = some r) : w.cell? (Addr.add (Addr.add ⟨wb, 0, none⟩ 0) (Int.toNat (i : Int) * 1)) = some (pv r.p) := by
  rw [Addr.add_zero', Int.toNat_natCast, Nat.mul_one]
  exact cadd h.blk (wc_p h.len hr)
theorem St.read_d {w0 w : World} {X Y : List Nat} {wb x : Nat} {tag : Nat → Nat} {rs : List Reg} (h : St w0 X Y w wb tag rs x) {i : Nat} {r : Reg} (hr : rs[i]? = some r) : cellsC (fun a v => w.cell? a = some v) (Addr.add (Addr.add ⟨wb, 0, none⟩ 4) (Int.toNat (i : Int) * 2)) (dt (r.s.most : Int) r.A r.n r.c) := by
  intro j v hv
  rw [Int.toNat_natCast, Addr.add_add, Addr.add_add]
  exact cadd h.blk (by rw [← Nat.add_assoc]; exact wc_d h.len hr j v hv)
theorem i24s : (Try.prog.info? 24).map (·.size) = some 1 := by kernel_rfl
theorem put_p {w : World} {wb : Nat} {cs : List Value} {T : TypeId} (b : BlkT w wb cs T) (hl : cs.length = 12) {i : Nat} (hi : i < 4) (p : Option Nat) :
    ∃ w', Sem.run Try.prog (Instr.storeAt 24 (.pointer (some (Addr.add (Addr.add ⟨wb, 0, none⟩ 0) (Int.toNat (i : Int) * 1)))) (pv p)) w = .ok () w' ∧ BlkT w' wb (cs.set i (pv p)) T ∧ Ext [wb] w w' := by
  rw [Addr.add_zero', Int.toNat_natCast, Nat.mul_one]
  exact store1a (P := Try.prog) i24s b (by omega) rfl rfl
theorem put_d {w : World} {wb : Nat} {cs : List Value} {T : TypeId} (b : BlkT w wb cs T) (hl : cs.length = 12) {i : Nat} (hi : i < 4) (most : Int) (A : Option Addr) (n c : Nat) :
    ∃ w', Sem.run Try.prog (Instr.storeAt 54 (.pointer (some (Addr.add (Addr.add ⟨wb, 0, none⟩ 4) (Int.toNat (i : Int) * 2)))) (.agg ⟨dt most A n c⟩)) w = .ok () w' ∧ BlkT w' wb (cs.take (4 + i * 2) ++ dt most A n c ++ cs.drop (4 + i * 2 + 2)) T ∧ Ext [wb] w w' := by
  rw [Int.toNat_natCast, Addr.add_add, Addr.add_lit, Nat.zero_add]
  exact storeN (P := Try.prog) i54s b rfl (by omega) (dt_one most A n c)
/-- The table x stands anew. -/
theorem St.put {w0 w w' : World} {X Y : List Nat} {wb x : Nat} {tag : Nat → Nat} {rs : List Reg} (h : St w0 X Y w wb tag rs x) (hx : x < 4) (r : Reg) (bb : BlkT w' wb (wcells (rs.set x r)) 57) (e : Ext [wb] w w') (hr : RegAt w tag x r) : St w0 X Y w' wb (newtag tag w.heap.size 7) (rs.set x r) 4 := by
  have hw := h.blk.lt
  have h0 := h.e.size
  have hF : ∀ i, i < 4 → ∀ b ∈ [wb], w.heap.size ≤ b ∨ (tag b ≠ i ∧ tag b ≠ 6) := fun i hi b hb => by
    have := h.hwb
    simp at hb
    subst hb
    omega
  refine ⟨h.e.trans' e fun b hb => ?_, by simpa using h.len, bb, by rw [newtag_old hw]; exact h.hwb, fun b hb => by rw [newtag_old (by omega)]; exact h.old b hb, fun i q hi hq => ?_⟩
  · rw [show b = wb by simpa using hb]
    exact h.own (by have := h.hwb; omega)
  · have hi4 : i < 4 := by have := (List.getElem?_eq_some_iff.1 hq).1; have := h.len; simp at *; omega
    by_cases hix : i = x
    · subst hix
      rw [List.getElem?_set, if_pos rfl, if_pos (by have := h.len; omega)] at hq
      cases hq
      exact hr.ext e (hF i hi4)
    · rw [List.getElem?_set, if_neg (fun h => hix h.symm)] at hq
      exact (h.regs i q hix hq).ext e (hF i hi4)
end Go.Proofs.Ytcampkaenlohbaa
