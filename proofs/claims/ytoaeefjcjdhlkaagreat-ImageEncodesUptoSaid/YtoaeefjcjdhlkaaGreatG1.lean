/- Boxes, rows and frames, for any layout; generic, no program. -/
import Derived.Test.YtoaeefjcjdhlkaaGreatFl
import Derived.Test.YtoaeefjcjdhlkaaGreatMp
import Derived.WideShapes
import Derived.Lib.Strings
set_option linter.unusedVariables false
set_option linter.unusedSimpArgs false
namespace Go.B
open Go.V

theorem cadd {w : World} {g : Nat} {cs : List Value} {T : TypeId} (h : BlkT w g cs T) {i : Nat} {v : Value} (hv : cs[i]? = some v) : w.cell? (Addr.add ⟨g, 0, none⟩ i) = some v := by
  rw [Addr.add0]; exact h.cell hv
theorem cadd2 {w : World} {g : Nat} {cs : List Value} {T : TypeId} (h : BlkT w g cs T) {i j : Nat} {v : Value} (hv : cs[i + j]? = some v) : w.cell? (Addr.add (Addr.add ⟨g, 0, none⟩ i) j) = some v := by
  rw [Addr.add_add]; exact cadd h hv
theorem cadd0 {w : World} {g : Nat} {cs : List Value} {T : TypeId} (h : BlkT w g cs T) : cellsC (fun a v => w.cell? a = some v) ⟨g, 0, none⟩ cs := blk_cellsC0 h.blk
theorem cellsC_S {S : World → Prop} {a : Addr} {vs : List Value} (h : ∀ w, S w → cellsC (fun a v => w.cell? a = some v) a vs) : cellsC (fun a v => ∀ w, S w → w.cell? a = some v) a vs := fun j v hj w hS => h w hS j v hj
theorem box_new {w w' : World} {cs : List Value} {T : TypeId} (h : w' = w.alloc (.cells ⟨cs⟩ T)) : BlkT w' w.heap.size cs T ∧ Ext [] w w' ∧ w'.heap.size = w.heap.size + 1 := by
  subst h
  exact ⟨BlkT.new _ _ _, (Ext.refl _ _).alloc _, World.size_alloc _ _⟩
theorem map_new {κ β : Type} [DecidableEq κ] {w w' : World} (ke : κ → Value) (ve : β → Value) (h : w' = w.alloc (.map #[] 0)) : MapAt w' w.heap.size ke ve [] ∧ Ext [] w w' ∧ w'.heap.size = w.heap.size + 1 := by
  subst h
  exact ⟨MapAt.new _ _ _, (Ext.refl _ _).alloc _, World.size_alloc _ _⟩
theorem Ext.up {F : List Nat} {w w' : World} (e : Ext [] w w') : Ext F w w' := e.weaken (fun _ h => by cases h)
theorem Ext.old {f : List Nat} {W w w' : World} (e0 : Ext [] W w) (hf : ∀ b ∈ f, W.heap.size ≤ b) (e : Ext f w w') : Ext [] W w' := e0.trans' e (fun b hb => .inr (hf b hb))
/-- How the blocks of a thing go on. -/
def Grow (w : World) (f f' : List Nat) : Prop := ∀ b ∈ f', b ∈ f ∨ w.heap.size ≤ b
theorem Grow.refl (w : World) (f : List Nat) : Grow w f f := fun b hb => .inl hb
theorem Grow.trans {w w' : World} {f g h : List Nat} (a : Grow w f g) (b : Grow w' g h) (e : w.heap.size ≤ w'.heap.size) : Grow w f h := fun x hx => by
  rcases b x hx with h1 | h1
  · exact a x h1
  · exact .inr (by omega)
theorem Grow.apart {w : World} {f f' g : List Nat} (a : Grow w f f') (hg : ∀ b ∈ g, b < w.heap.size) (h : ∀ b ∈ f, b ∉ g) : ∀ b ∈ f', b ∉ g := fun x hx hm => by
  rcases a x hx with h1 | h1
  · exact h x h1 hm
  · have := hg x hm; omega
theorem Grow.old {f f' : List Nat} {W w : World} (e0 : Ext [] W w) (hf : ∀ b ∈ f, W.heap.size ≤ b) (g : Grow w f f') : ∀ b ∈ f', W.heap.size ≤ b := fun b hb => by
  have := e0.size
  rcases g b hb with h | h
  · exact hf b h
  · omega
theorem Ext.grow {f f' : List Nat} {w w1 w2 : World} (e1 : Ext f w w1) (g : Grow w f f') (e2 : Ext f' w1 w2) : Ext f w w2 := e1.trans' e2 (fun b hb => g b hb)
theorem fresh_ne {n : Nat} {f : List Nat} (h : ∀ b ∈ f, b < n) : ∀ b ∈ f, b ≠ n := fun b hb e => by have := h b hb; omega
theorem snoc_at {α : Type} {xs : List α} {a : Nat} {x : α} (h : xs[a]? = some x) : xs.take (a + 1) = xs.take a ++ [x] := by
  obtain ⟨ha, e⟩ := List.getElem?_eq_some_iff.1 h
  rw [List.take_succ_eq_append_getElem ha, e]
theorem beqBytes (a b : ByteArray) : (ByteArray.toList a == ByteArray.toList b) = decide (a = b) := by
  rw [ByteArray.toList_eq, ByteArray.toList_eq, Bool.eq_iff_iff, beq_iff_eq, decide_eq_true_eq]
  exact ⟨fun h => Go.WideShapes.bytes_inj h, fun h => by rw [h]⟩
theorem nodup_uniq {α β : Type} {f : α → β} {l : List α} (h : (l.map f).Nodup) {a b : α} (ha : a ∈ l) (hb : b ∈ l) (e : f a = f b) : a = b := by
  obtain ⟨i, hi⟩ := List.mem_iff_getElem?.1 ha
  obtain ⟨j, hj⟩ := List.mem_iff_getElem?.1 hb
  obtain ⟨hil, ei⟩ := List.getElem?_eq_some_iff.1 hi
  obtain ⟨hjl, ej⟩ := List.getElem?_eq_some_iff.1 hj
  have hp := List.pairwise_iff_getElem.1 h
  rcases Nat.lt_trichotomy i j with hlt | heq | hlt
  · have := hp i j (by simp; omega) (by simp; omega) hlt
    simp only [List.getElem_map, ei, ej] at this
    exact absurd e this
  · subst heq; rw [hi] at hj; exact Option.some.inj hj
  · have := hp j i (by simp; omega) (by simp; omega) hlt
    simp only [List.getElem_map, ei, ej] at this
    exact absurd e.symm this
/-- Two maps that tell the same are as long. -/
theorem same_len {κ β : Type} [DecidableEq κ] {m m' : List (κ × β)} (h : (mkeys m).Nodup) (h' : (mkeys m').Nodup) (e : ∀ k, mget m k = mget m' k) : m.length = m'.length := by
  have hp : (mkeys m).Perm (mkeys m') := (List.perm_ext_iff_of_nodup h h').2 fun k => by
    have h1 := mget_none (m := m) (k := k)
    have h2 := mget_none (m := m') (k := k)
    rw [e k] at h1
    constructor
    · intro hm
      by_cases hc : k ∈ mkeys m'
      · exact hc
      · exact absurd hm (h1.1 (h2.2 hc))
    · intro hm
      by_cases hc : k ∈ mkeys m
      · exact hc
      · exact absurd hm (h2.1 (h1.2 hc))
  have := hp.length_eq
  simpa [mkeys] using this

section
variable {α : Type} (L : Lay α)
/-- A row of the call's own. -/
def OwnL (w : World) (B : Nat) (e : TypeId) (A : Option Addr) (n c : Nat) (xs : List α) : Prop := w.ownsRow B e L.sz (.slice A n c) n (L.flat xs)
theorem flat_setRow {xs : List α} {i : Nat} {x : α} (h : i < xs.length) : (L.flat xs).take (i * L.sz) ++ L.enc x ++ (L.flat xs).drop (i * L.sz + L.sz) = L.flat (xs.set i x) := by
  have e1 : i * L.sz + L.sz = (i + 1) * L.sz := by rw [Nat.succ_mul]
  rw [e1, L.flat_take, L.flat_drop, List.set_eq_take_append_cons_drop, if_pos h, L.flat_app, L.flat_cons, List.append_assoc]
variable {L} {w w' : World} {B n c : Nat} {e : TypeId} {A : Option Addr} {xs : List α}
theorem OwnL.len (h : OwnL L w B e A n c xs) : xs.length = n := by
  have := h.1
  rw [L.flat_len] at this
  exact Nat.eq_of_mul_eq_mul_right L.pos this
theorem OwnL.cells (h : OwnL L w B e A n c xs) : Cells w A (L.flat xs) := own_cells h
theorem OwnL.ext {F : List Nat} (h : OwnL L w B e A n c xs) (x : Ext F w w') (hF : ∀ b ∈ ownF A, b ∉ F) : OwnL L w' B e A n c xs := own_ext h x hF
theorem OwnL.ext0 (h : OwnL L w B e A n c xs) (x : Ext [] w w') : OwnL L w' B e A n c xs := h.ext x (by simp)
theorem OwnL.base (h : OwnL L w B e A n c xs) : ∀ b ∈ ownF A, B ≤ b ∧ b < w.heap.size := own_base h
theorem OwnL.weaken {B' : Nat} (h : OwnL L w B e A n c xs) (hB : B' ≤ B) : OwnL L w B' e A n c xs := own_weaken h hB
theorem OwnL.cap (h : OwnL L w B e A n c xs) : n ≤ c := own_cap h
theorem OwnL.nil (w : World) (B : Nat) (e : TypeId) : OwnL L w B e none 0 0 [] := World.ownsRow_nil _ _ _ _
/-- Of a row, the place a. -/
theorem Cells.row (hc : Cells w A (L.flat xs)) (hl : xs.length = n) {a : Nat} (ha : a < n) : ∃ x ad, xs[a]? = some x ∧ A = some ad ∧ cellsC (fun a v => w.cell? a = some v) (ad.add (Int.toNat (a : Int) * L.sz)) (L.enc x) := by
  obtain ⟨x, hx⟩ : ∃ x, xs[a]? = some x := ⟨xs[a]'(by omega), List.getElem?_eq_getElem (by omega)⟩
  obtain ⟨ad, rfl, rd⟩ := L.read hc hx
  exact ⟨x, ad, hx, rfl, by rw [Int.toNat_natCast]; exact rd⟩
theorem OwnL.row (h : OwnL L w B e A n c xs) {a : Nat} (ha : a < n) : ∃ x ad, xs[a]? = some x ∧ A = some ad ∧ cellsC (fun a v => w.cell? a = some v) (ad.add (Int.toNat (a : Int) * L.sz)) (L.enc x) := h.cells.row h.len ha
/-- One of them is written over. -/
theorem OwnL.set {P : Program} (hi0 : (P.info? e).map (·.size) = some L.sz) (own : OwnL L w B e A n c xs) {i : Nat} (hi : i < n) (x : α) :
    ∃ g w', A = some ⟨g, 0, none⟩ ∧ (Instr.storeAt e (.pointer (some (Addr.add ⟨g, 0, none⟩ (i * L.sz)))) (.agg ⟨L.enc x⟩)).run P w = .ok () w' ∧ OwnL L w' B e A n c (xs.set i x) ∧ Ext (ownF A) w w' := by
  have hxl := own.len
  obtain ⟨g, bs, rfl, hBg, hbk, hbl, hcm, htk⟩ := own_blk own (by omega)
  have hnc := own_cap own
  have hic : (i + 1) * L.sz ≤ c * L.sz := Nat.mul_le_mul_right _ (by omega)
  have hin : (i + 1) * L.sz ≤ n * L.sz := Nat.mul_le_mul_right _ (by omega)
  rw [Nat.succ_mul] at hic hin
  obtain ⟨w', hr, hb', ex⟩ := storeN (P := P) (t := e) (n := L.sz) (vs := L.enc x) (o := i * L.sz) hi0 hbk (L.len x) (by omega) (L.one x)
  refine ⟨g, w', rfl, ?_, own_of hb' hBg hnc hcm ?_ ?_, ex⟩
  · rw [Addr.add_lit]
    have : 0 + i * L.sz = i * L.sz := by omega
    rw [this]; exact hr
  · simp only [List.length_append, List.length_take, List.length_drop, hbl, L.len]
    omega
  · have h1 := flat_setRow L (x := x) (show i < xs.length by omega)
    rw [← h1, ← htk, List.append_assoc, List.append_assoc, List.take_append, List.take_append]
    have hl1 : (bs.take (i * L.sz)).length = i * L.sz := by rw [List.length_take, hbl]; omega
    rw [hl1, L.len, List.take_take, List.take_take, List.take_of_length_le (l := L.enc x) (by rw [L.len]; omega), List.drop_take]
    rw [Nat.min_comm]
    congr 3
    try omega
/-- One cell of one of them is written. -/
theorem OwnL.setCell {P : Program} (own : OwnL L w B e A n c xs) {i k : Nat} {x y : α} {v : Value} (hi : xs[i]? = some x) (hk : k < L.sz) (hy : L.enc y = (L.enc x).set k v) {t : TypeId} (ht : (P.info? t).map (·.size) = some 1) (hv : v.oneCell' = true) (hc : v.cells = #[v]) :
    ∃ g w', A = some ⟨g, 0, none⟩ ∧ (Instr.storeAt t (.pointer (some (Addr.add (Addr.add ⟨g, 0, none⟩ (i * L.sz)) k))) v).run P w = .ok () w' ∧ OwnL L w' B e A n c (xs.set i y) ∧ Ext (ownF A) w w' := by
  have hxl := own.len
  have hil := (List.getElem?_eq_some_iff.1 hi).1
  obtain ⟨g, bs, rfl, hBg, hbk, hbl, hcm, htk⟩ := own_blk own (by omega)
  have hnc := own_cap own
  have hic : (i + 1) * L.sz ≤ c * L.sz := Nat.mul_le_mul_right _ (by omega)
  rw [Nat.succ_mul] at hic
  obtain ⟨w', hr, hb', ex⟩ := store1 (P := P) (v := v) ht hbk (i := i * L.sz + k) (by omega) hv hc
  refine ⟨g, w', rfl, ?_, own_of hb' hBg hnc hcm (by simpa using hbl) ?_, ex⟩
  · rw [Addr.add_lit, Addr.add_lit]
    have : 0 + i * L.sz + k = i * L.sz + k := by omega
    rw [this]; exact hr
  · rw [List.take_set, htk]
    exact L.flat_set hi hy hk
/-- append(l, x). -/
theorem OwnL.more {P : Program} {t ty : TypeId} {z : Value} {bytes : Nat} (ht : P.underlying t = some (.slice e)) (hi : (P.info? e).map (fun i => (i.zero, i.size, i.bytes)) = some (some z, L.sz, bytes)) (hz : z.cells.size = L.sz) (hb0 : 0 < bytes) {x : α} {q : Nat} {T : TypeId}
    (own : OwnL L w B e A n c xs) (h1 : BlkT w q (L.enc x) T) (hB : B ≤ w.heap.size) (hn : (n + 1) * bytes ≤ 140737488355328) :
    ∃ A' c' w2, (Builtin.append_ #[t, t] ty #[.slice A n c, .slice (some ⟨q, 0, none⟩) 1 1]).run P w = .ok (.slice A' (n + 1) c') w2 ∧ OwnL L w2 B e A' (n + 1) c' (xs ++ [x]) ∧ Ext (ownF A) w w2 ∧ (ownF A' = ownF A ∨ ownF A' = [w.heap.size]) := by
  obtain ⟨A', c', w2, hr, ho, he, hat⟩ := appR (P := P) (ty := ty) (m := 1) (cy := 1) (Y := some ⟨q, 0, none⟩) ht hi hz L.pos hb0 own (ys := L.enc x) (by rw [L.len, Nat.one_mul]) (Cells.of_blk h1.blk) (L.one x) hB hn
  refine ⟨A', c', w2, hr, ?_, he, hat⟩
  unfold OwnL
  rw [L.flat_app]
  exact (show L.flat [x] = L.enc x from List.append_nil _) ▸ ho
/-- The first of them alone. -/
theorem OwnL.take {m : Nat} (h : OwnL L w B e A m c xs) (hn : n ≤ m) (hm : 0 < m) : OwnL L w B e A n c (xs.take n) := by
  obtain ⟨g, bs, rfl, hBg, hbk, hbl, hcm, htk⟩ := own_blk h hm
  have hc := own_cap h
  refine own_of hbk hBg (by omega) hcm hbl ?_
  rw [← L.flat_take, ← htk, List.take_take, Nat.min_eq_left (Nat.mul_le_mul_right _ hn)]
/-- append(T{}, l...). -/
theorem copyL {P : Program} {t ty : TypeId} {z : Value} {bytes m : Nat} (ht : P.underlying t = some (.slice e)) (hi : (P.info? e).map (fun i => (i.zero, i.size, i.bytes)) = some (some z, L.sz, bytes)) (hz : z.cells.size = L.sz) (hb0 : 0 < bytes)
    {w1 : World} (hx : Cells w A (L.flat xs)) (hn : xs.length = m) (h1 : w1 = w.alloc (.cells #[] e)) (hb : m * bytes ≤ 140737488355328) (cy : Nat) :
    ∃ A' c' w2, (Builtin.append_ #[t, t] ty #[.slice (some ⟨w.heap.size, 0, none⟩) 0 0, .slice A m cy]).run P w1 = .ok (.slice A' m c') w2 ∧ OwnL L w2 w.heap.size e A' m c' xs ∧ Ext [] w w2 := by
  obtain ⟨b1, x1, z1⟩ := box_new (cs := []) h1
  have o1 : w1.ownsRow w.heap.size e L.sz (.slice (some ⟨w.heap.size, 0, none⟩) 0 0) 0 [] := own_of b1 (Nat.le_refl _) (Nat.le_refl _) (by simp only [maxLen]; omega) (by simp) (by simp)
  obtain ⟨A', c', w2, hr, ho, he, hat⟩ := appR (P := P) (ty := ty) (m := m) (cy := cy) (Y := A) ht hi hz L.pos hb0 o1 (ys := L.flat xs) (by rw [L.flat_len, hn]) (hx.ext0 x1) (L.flat_one _) (by omega) (by rw [Nat.zero_add]; exact hb)
  rw [Nat.zero_add] at hr ho
  exact ⟨A', c', w2, hr, by unfold OwnL; simpa using ho, x1.trans' he (fun b hb => .inr (by simp [ownF] at hb; omega))⟩
end
end Go.B
